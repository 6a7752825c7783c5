/- A part of the proof. -/
import Derived.Test.YtnbjfoeapbncjaaGreatDoorA4
set_option maxHeartbeats 4000000
set_option linter.unusedVariables false
set_option linter.unusedSimpArgs false
namespace Go.Proofs.YtnbjfoeapbncjaaGreatDoor
open Go.Ab
set_option maxRecDepth 100000
deriving instance DecidableEq for bf,gB,bX
def fE (n lo hi:Int):Bool:=decide (lo≤n)&&decide (n≤hi)
def DJ (lo hi:Int):List Int→List Int→Bool
 | _,[]=>true
 | pre,n::r=>bif !(fE n lo hi)||pre.contains n then false else DJ lo hi (pre++[n]) r
theorem adO {lo hi n:Int} {pre r:List Int} (h:(!(fE n lo hi)||pre.contains n)=true):DJ lo hi pre (n::r)=false:=by rw [DJ,h]; rfl
theorem adP {lo hi n:Int} {pre r:List Int} (h:(!(fE n lo hi)||pre.contains n)=false):DJ lo hi pre (n::r)=DJ lo hi (pre++[n]) r:=by rw [DJ,h]; rfl
def Wt (a b:Int):Int:=(Nat.gcd a.toNat b.toNat:Nat)
def UA (r:gB):Bool:=decide (0≤r.U0)&&decide (r.U0≤144115188075855872)&&decide (1≤r.UZ)&&decide (r.UZ≤16777216)&&(Wt r.U0 r.UZ==1)
def newR (num den:Int):gB×Int:=bif decide (num<0)||decide (den<1) then (⟨0,0⟩,2) else
 bif !UA ⟨num.tdiv (Wt num den),den.tdiv (Wt num den)⟩ then (⟨0,0⟩,2) else (⟨num.tdiv (Wt num den),den.tdiv (Wt num den)⟩,0)
def YZ (k:Int):Bool:=decide (1≤k)&&decide (k≤64)
def afH (r:gB) (k:Int):gB×Int:=bif !UA r then (⟨0,0⟩,1) else bif !YZ k then (⟨0,0⟩,2) else
 bif decide ((144115188075855872:Int).tdiv (k.tdiv (Wt k r.UZ))<r.U0) then (⟨0,0⟩,2) else newR (r.U0*(k.tdiv (Wt k r.UZ))) (r.UZ.tdiv (Wt k r.UZ))
def ahd (r:gB) (k:Int):gB×Int:=bif !UA r then (⟨0,0⟩,1) else bif !YZ k then (⟨0,0⟩,2) else newR r.U0 (r.UZ*k)
def Y0 (r:gB) (lo hi:Int):Bool:=UA r&&(decide (lo≤r.U0.tdiv r.UZ)&&(decide (r.U0.tdiv r.UZ<hi)||(r.U0.tdiv r.UZ==hi&&r.U0.tmod r.UZ==0)))
def Wu (c:bf):Bool:=decide (8<(c.bH.length:Int))||decide (8<(c.bS.length:Int))
def aiO (n:Int) (x:bX):Bool:=!fE x.Eh 0 (n - 1)||!fE x.kZ 0 4000000000||!fE x.Low 0 x.kZ
def lM (c:bf):Bool:=
 bif c.gN==1 then ((c.bH.length:Int)==0)&&((c.bS.length:Int)==1)&&fE (c.bS.getD 0 0) 1 4000000000
 else bif c.gN==2||c.gN==3 then ((c.bH.length:Int)==1)&&decide (0<(c.bS.length:Int))&&DJ 1 64 [] c.bS
 else bif c.gN==4 then decide (0<(c.bS.length:Int))&&DJ 0 ((c.bH.length:Int) - 1) [] c.bS
 else bif c.gN==5 then ((c.bH.length:Int)==1)&&(c.bS==[0,1])
 else false
def pK (c:bf) (k:Int):Bool:=bif c.bH.any (λ y=>!fE y 0 (k - 1))||!fE c.kZ 0 4000000000||!fE c.Low 0 c.kZ then false else lM c
def Wv (a b:Int):Int:=if b > a then b else a
def adQ (c:bf):Bool:=c.gN==2||c.gN==3
def kG (acc:List Int) (l:List Int):Int:=l.foldl (λ n p=>Wv n (acc.getD p.toNat 0)) 0
def Gs (acc:List Int) (c:bf):Int:=bif adQ c then kG acc c.bH+1 else kG acc c.bH
def iq (l:List bf):List Int:=l.foldl (λ acc c=>acc++[Gs acc c]) []
theorem K4 (l:List bf) (c:bf):iq (l++[c])=iq l++[Gs (iq l) c]:=by
 unfold iq;rw [List.foldl_append];rfl
def ahe (l:List bf):Prop:=∀i,i<l.length→(l.getD i bK).bH.length≤2000000∧∀p∈(l.getD i bK).bH,0≤p∧p<i
theorem Jg (acc:List Int) (b:Int) (hb0:0≤b) (hb:∀j:Nat,0≤acc.getD j 0∧acc.getD j 0≤b) (l:List Int):0≤kG acc l∧kG acc l≤b:=by
 have:∀(l:List Int) (n:Int),0≤n∧n≤b→0≤l.foldl (λ n p=>Wv n (acc.getD p.toNat 0)) n∧l.foldl (λ n p=>Wv n (acc.getD p.toNat 0)) n≤b:=by
  intro l;induction l with
  | nil=>exact λ n h=>h
  | cons p r ih=>
   intro n hn;refine ih _ ?_;show 0≤Wv n (acc.getD p.toNat 0)∧Wv n (acc.getD p.toNat 0)≤b;unfold Wv;have:=hb p.toNat;split<;>omega
 exact this l 0 om
theorem qM (l:List bf):(iq l).length=l.length∧∀j:Nat,0≤(iq l).getD j 0∧(iq l).getD j 0≤l.length:=by
 induction l using Ew with
 | nil=>exact ⟨rfl,λ j=>by rw [PL]; simp; exact Nat.zero_le _⟩
 | append_singleton l c ih=>
  obtain ⟨h1,h2⟩:=ih;rw [K4];have hb:=Jg (iq l) l.length om h2 c.bH;have hf:0≤Gs (iq l) c∧Gs (iq l) c≤l.length+1:=by
   unfold Gs;cases adQ c<;>simp only [cond_true,cond_false]<;>omega
  refine ⟨by rw [List.length_append,List.length_append,h1]; rfl,λ j=>?_⟩;have hlen:((l++[c]).length:Int)=l.length+1:=by rw [List.length_append]; rfl
  rw [hlen];by_cases hj:j<l.length
  ·rw [mF 0 om];have:=h2 j;omega
  ·by_cases hj2:j=l.length
   ·rw [kS 0 om]; exact hf
   ·rw [PL 0 (by rw [List.length_append,h1]; simp; omega)];omega
def UC (a b:Int):Int:=if b<a then b else a
def lN (l:List bf):Int:=l.foldl (λ p c=>UC (p*c.bS.length) 1099511627776) 1
def X5 (l:List bf):Bool:=(List.range l.length).all λ i=>pK (l.getD i bK) i
def jG (l:List bf):Int:=bif decide (16<(l.length:Int))||l.any Wu then 3 else bif !X5 l then 1 else bif decide (4096<lN l)||(iq l).any (λ n=>decide (4<n)) then 3 else 0
variable {l:List bf}
theorem Z4 (h:∀i:Nat,i<l.length→pK (l.getD i bK) i=true):X5 l=true:=by
 unfold X5;rw [List.all_eq_true];intro i hi;exact h i (List.mem_range.1 hi)
theorem ab4 (h:X5 l=true) (i:Nat) (hi:i<l.length):pK (l.getD i bK) i=true:=by
 unfold X5 at h;rw [List.all_eq_true] at h;exact h i (List.mem_range.2 hi)
theorem X6 {i:Nat} (hi:i<l.length) (h:pK (l.getD i bK) i=false):X5 l=false:=by
 cases hv:X5 l with
 | false=>rfl
 | true=>rw [ab4 hv i hi] at h; cases h
variable {α:Type}
theorem yN {l:List α} {p:α→Bool} (d:α) (h:l.any p=false) (i:Nat) (hi:i<l.length):p (l.getD i d)=false:=by
 rw [List.any_eq_false] at h;simpa using h _ (zn d hi)
theorem UD {l:List α} {p:α→Bool} (d:α) {i:Nat} (hi:i<l.length) (h:p (l.getD i d)=true):l.any p=true:=List.any_eq_true.2 ⟨_,zn d hi,h⟩
theorem any_none {l:List α} {p:α→Bool} (d:α) (h:∀i,i<l.length→p (l.getD i d)=false):l.any p=false:=by
 rw [List.any_eq_false];intro x hx;obtain ⟨i,hi,rfl⟩:=List.mem_iff_getElem.1 hx;have:=h i hi;rw [List.getD_eq_getElem?_getD,List.getElem?_eq_getElem hi] at this;simpa using this
variable {c:bf}
theorem QK (h:Wu c=false):c.bH.length≤8∧c.bS.length≤8:=by
 unfold Wu at h;simp at h;omega
theorem MZ (l:List bf):0≤lN l∧lN l≤1099511627776:=by
 unfold lN;induction l using Ew with
 | nil=>simp
 | append_singleton l c ih=>
  rw [List.foldl_append];show 0≤UC (l.foldl _ 1*c.bS.length) 1099511627776∧UC (l.foldl _ 1*c.bS.length) 1099511627776≤1099511627776;have:0≤l.foldl (λ p c=>UC (p*(c:bf).bS.length) 1099511627776) 1*(c.bS.length:Int):=Int.mul_nonneg ih.1 om;generalize l.foldl (λ p c=>UC (p*(c:bf).bS.length) 1099511627776) 1*(c.bS.length:Int)=q at this;unfold UC;split<;>omega
theorem within_iff (n lo hi:Int):fE n lo hi=true↔lo≤n∧n≤hi:=by
 unfold fE;simp
theorem X7 {k:Int} (h:pK c k=true):∀p∈c.bH,0≤p∧p<k:=by
 intro p hp;unfold pK at h;cases ha:c.bH.any (λ y=>!fE y 0 (k - 1)) with
 | true=>rw [ha] at h; cases h
 | false=>
  rw [List.any_eq_false] at ha;have:=ha p hp;simp only [Bool.not_eq_true,Bool.not_eq_false'] at this;have:=(within_iff _ _ _).1 this;omega
theorem ab5 (h:∀i:Nat,i<l.length→pK (l.getD i bK) i=true) (hb:∀i:Nat,i<l.length→Wu (l.getD i bK)=false):ahe l:=λ i hi=>⟨by have:=QK (hb i hi); omega,X7 (h i hi)⟩
theorem Z5 (l:List bf) (k:Nat):∀j,j<k→j<l.length→(iq l).getD j 0=(iq (l.take k)).getD j 0:=by
 induction l using Ew with
 | nil=>intro j _ hj; cases hj
 | append_singleton l c ih=>
  intro j hjk hj;have hlen:=(qM l).1;by_cases hk:k≤l.length
  ·rw [List.take_append_of_le_length hk,K4,mF 0 om];exact ih j hjk om
  ·rw [List.take_of_length_le (l:=l++[c]) (by rw [List.length_append]; simp; omega)]
theorem Ww (h:lM c=true):1≤c.bS.length:=by
 cases hc:c.bS with
 | nil=>
  unfold lM at h;rw [hc] at h;cases h1:c.gN==1<;>cases h2:(c.gN==2||c.gN==3)<;>cases h3:c.gN==4<;>cases h4:c.gN==5<;>rw [h1,h2,h3,h4] at h<;>simp at h
 | cons x r=>simp
theorem QL {k:Int} (h:pK c k=true):lM c=true:=by
 unfold pK at h;cases hb:(c.bH.any (λ y=>!fE y 0 (k - 1))||!fE c.kZ 0 4000000000||!fE c.Low 0 c.kZ) with
 | true=>rw [hb] at h; cases h
 | false=>rw [hb] at h; exact h
theorem QM (l:List bf) (c:bf):lN (l++[c])=UC (lN l*c.bS.length) 1099511627776:=by
 unfold lN;rw [List.foldl_append];rfl
theorem X8 (l:List bf):(∀c∈l,1≤c.bS.length)→∀k,lN (l.take k)≤lN l:=by
 induction l using Ew with
 | nil=>intro _ k; rw [List.take_nil]; exact Int.le_refl _
 | append_singleton l c ih=>
  intro h k;by_cases hk:k≤l.length
  ·rw [List.take_append_of_le_length hk,QM];have h1:=ih (λ d hd=>h d (List.mem_append_left _ hd)) k;have hb:=MZ l;have hc:=h c (List.mem_append_right _ (List.mem_singleton.2 rfl));have:lN l*1≤lN l*c.bS.length:=Int.mul_le_mul_of_nonneg_left om hb.1;rw [Int.mul_one] at this;generalize lN l*(c.bS.length:Int)=q at *;unfold UC;split<;>omega
  ·rw [List.take_of_length_le (l:=l++[c]) (by rw [List.length_append]; simp; omega)];exact Int.le_refl _
def ael (l:List bf) (s:List Int):Bool:=((s.length:Int)==(l.length:Int))&&(List.range l.length).all λ i=>fE (s.getD i 0) 0 ((l.getD i bK).bS.length - 1)
def aiP (l:List bf):Prop:=∀i:Nat,i<l.length→(l.getD i bK).bS.length≤2000000
def ahf (l:List bf) (m:List bX):Bool:=(jG l==0)&&decide ((m.length:Int)≤32)&&!(m.any (aiO l.length))
def ahg (c:bf) (k:Int):Prop:=(c.gN=1)∨(c.gN=4∧0≤k∧k<c.bS.length∧0≤c.bS.getD k.toNat 0∧c.bS.getD k.toNat 0<c.bH.length)∨(c.gN≠4∧0<c.bH.length)
def R3 (c:bf) (k:Int):Int:=bif c.gN==1 then -1 else bif c.gN==4 then c.bH.getD (c.bS.getD k.toNat 0).toNat 0 else c.bH.getD 0 0
def aiQ:gB:=⟨0,1⟩
def ab6 (r:gB):Bool:=(r.U0==0)&&((r.UZ==1)&&true)
def rt1 (acc:List gB) (c:bf) (k:Int):gB:=
 bif decide (R3 c k<0) then ⟨c.bS.getD k.toNat 0,1⟩ else
 bif ab6 (acc.getD (R3 c k).toNat xE)||((c.gN==5)&&(c.bS.getD k.toNat 0==0)) then aiQ else
 bif c.gN==2 then (ahd (acc.getD (R3 c k).toNat xE) (c.bS.getD k.toNat 0)).1 else
 bif c.gN==3 then (afH (acc.getD (R3 c k).toNat xE) (c.bS.getD k.toNat 0)).1 else acc.getD (R3 c k).toNat xE
def X9 (l:List bf) (s:List Int):Nat→List gB
 | 0=>[]
 | i+1=>X9 l s i++[rt1 (X9 l s i) (l.getD i bK) (s.getD i 0)]
def UE (l:List bf) (s:List Int):List gB:=X9 l s l.length
structure Good (l:List bf) (s:List Int):Prop where
 small:l.length≤1000
 len:s.length=l.length
 bS:∀i,i<l.length→0≤s.getD i 0∧s.getD i 0<(l.getD i bK).bS.length
 pch:∀i,i<l.length→ahg (l.getD i bK) (s.getD i 0)
 bH:∀i,i<l.length→R3 (l.getD i bK) (s.getD i 0)<i
structure amb (l:List bf):Prop where
 len:l.length≤16
 big:∀i:Nat,i<l.length→(l.getD i bK).bH.length≤8∧(l.getD i bK).bS.length≤8
 valid:∀i:Nat,i<l.length→pK (l.getD i bK) i=true
 prod:lN l≤4096
 iq:∀i:Nat,i<l.length→(iq l).getD i 0≤4
def aiR (r:List gB) (x:bX):Bool:=ab6 (r.getD x.Eh.toNat xE)||!Y0 (r.getD x.Eh.toNat xE) x.Low x.kZ
def aiS (r:gB) (c:bf):Bool:=((!ab6 r)&&(c.kZ != 0))&&!Y0 r c.Low c.kZ
def ownB (l:List bf) (r:List gB):Bool:=(List.range l.length).all λ i=>!aiS (r.getD i xE) (l.getD i bK)
def sG (l:List bf) (s:List Int) (m:List bX):Bool:=(ahf l m&&ael l s)&&(ownB l (UE l s)&&!m.any (aiR (UE l s)))
structure Made (l:List bf):Prop where
 ok:jG l=0
 pos:1≤l.length
 fix:∀i,i<l.length→(l.getD i bK).gN=1→(l.getD i bK).bS.getD 0 0≤24000000
structure Wx (F a b:Nat) (f:Int):Prop where
 a0:0<a
 b0:0<b
 f0:0≤f
 al:a≤F*64 ^ f.toNat
 bl:b≤64 ^ f.toNat
variable {f:Int}
theorem adR (h:f≤4):64 ^ f.toNat≤16777216:=by
 have:f.toNat≤4:=by omega
 calc 64 ^ f.toNat≤64 ^ 4:=Nat.pow_le_pow_right (by decide) this
  _=16777216:=by decide
theorem Wx.mono {F a b:Nat} {g:Int} (h:Wx F a b f) (hfg:f≤g):Wx F a b g:=by
 have hf:=h.f0;have:64 ^ f.toNat≤64 ^ g.toNat:=Nat.pow_le_pow_right (by decide) om;exact ⟨h.a0,h.b0,om,Nat.le_trans h.al (Nat.mul_le_mul_left _ this),Nat.le_trans h.bl this⟩
theorem Wx.over {F a b:Nat} {g:Int} (h:Wx F a b f) (hfg:f+1≤g) {k:Nat} (hk:1≤k∧k≤64):Wx F a (b*k) g:=by
 have hf:=h.f0;have h1:64 ^ f.toNat*64≤64 ^ g.toNat:=by
  rw [← Nat.pow_succ];exact Nat.pow_le_pow_right (by decide) om
 have h2:64 ^ f.toNat≤64 ^ g.toNat:=Nat.pow_le_pow_right (by decide) om;exact ⟨h.a0,Nat.mul_pos h.b0 om,om,Nat.le_trans h.al (Nat.mul_le_mul_left _ h2),Nat.le_trans (Nat.mul_le_mul h.bl hk.2) h1⟩
theorem Wx.small {F a b:Nat} (h:Wx F a b f) (hf:f≤4) (hF:F≤4294967296):a≤F*16777216∧a≤144115188075855872∧b≤16777216:=by
 have hp:=adR hf;have h1:=Nat.le_trans h.al (Nat.mul_le_mul_left F hp);exact ⟨h1,Nat.le_trans h1 (Nat.le_trans (Nat.mul_le_mul_right 16777216 hF) (by decide)),Nat.le_trans h.bl hp⟩
structure Step (c:bf) (i:Nat) (k:Int):Prop where
 p0:0≤R3 c k
 pi:R3 c k<i
 mem:R3 c k∈c.bH
 n1:c.gN≠1
theorem Jh {l m:List α} (d:α) (h:l.length=m.length) (he:∀i,i<l.length→l.getD i d=m.getD i d):l=m:=by
 apply List.ext_getElem h;intro i h1 h2;have:=he i h1;rw [List.getD_eq_getElem?_getD,List.getD_eq_getElem?_getD,List.getElem?_eq_getElem h1,List.getElem?_eq_getElem h2] at this;simpa using this
structure alh (l:List bf) (s w:List Int):Prop where
 chain:∀i,i+1<w.length→(l.getD (w.getD i 0).toNat bK).gN≠1∧w.getD (i+1) 0=R3 (l.getD (w.getD i 0).toNat bK) (s.getD (w.getD i 0).toNat 0)
 last:∀i,i+1=w.length→(l.getD (w.getD i 0).toNat bK).gN=1
theorem ng (n lo hi:Int):kU n lo hi (fE n lo hi):=rfl
theorem UF (hl:l.length≤2000000):jo l (l.any Wu):=
 YX (ab2 (p:=yG) (P:=Wu) (λ _ _=>rfl) om) (Jd _ _)
theorem NW {p a:Int} (ha : -2000000≤a∧a≤2000000):sZ p a (!fE p 0 (a - 1)):=
 PS (aR (by unfold aG; omega) (dD (H7 (ng _ _ _)) λ v hv=>by subst hv; exact bY rfl))
theorem UG {l:List Int} {a:Int} (ha : -2000000≤a∧a≤2000000) (hl:l.length≤2000000):kC l a (l.any λ y=>!fE y 0 (a - 1)):=
 YX (ab2 (p:=λ x=>sZ x a) (P:=λ y=>!fE y 0 (a - 1)) (λ _ _=>NW ha) om) (Jd _ _)
theorem QN {l:List Int} {v:Int} (hl:l.length≤2000000):slices_Contains_int l v (l.contains v):=by
 refine YX (afG (P:=λ x=>v==x) om) ?_;rw [Jd];exact (List.contains_eq_any_beq).symm
theorem qN {l:List Int} {lo hi:Int} (hl:l.length≤2000000):jQ l lo hi (DJ lo hi [] l):=by
 refine PS (ab3 l.length (λ i=>DJ lo hi (l.take i) (l.drop i)=DJ lo hi [] l) ?_ rfl);intro self i hi1 hi2 ih;refine fO ?_ ?_<;>intro c
 ·have c:=of_decide_eq_true c;have hlt:i<l.length:=by omega
  rw [drop_cons 0 hlt] at hi2;refine aR om ?_;refine dD (H7 (ng _ _ _)) λ v hv=>?_;subst hv;refine aR (λ _=>by omega) ?_;refine dD (sF λ _=>QN (by simp; omega)) λ v hv=>?_;subst hv;refine fO ?_ ?_<;>intro c2
  ·refine bY ?_;rw [← hi2,adO (pre:=l.take i) (n:=l.getD i 0) c2]
  ·refine aR (by unfold aG; omega) (ih hlt ?_);rw [← hi2,adP (pre:=l.take i) (n:=l.getD i 0) c2,Ey 0 hlt]
 ·have c:=of_decide_eq_false c;refine bY ?_;rw [← hi2,List.drop_eq_nil_of_le om];rfl
theorem Gt {a b:List Int} (hl:a.length≤2000000):slices_Equal_int a b (a==b):=by
 refine PS (fO (λ c=>?_) (λ c=>?_))
 ·refine bY ?_;have:a≠b:=λ h=>by subst h; simp at c
  exact (beq_eq_false_iff_ne.2 this).symm
 ·have hlen:a.length=b.length:=by simp at c; omega
  refine ab3 a.length (λ i=>(a==b)=(a.drop i==b.drop i)) ?_ rfl;intro self i hi1 hi2 ih;refine fO ?_ ?_<;>intro c
  ·have c:=of_decide_eq_true c;have hlt:i<a.length:=by omega
   rw [drop_cons 0 hlt,drop_cons 0 (show i<b.length by omega)] at hi2;refine aR om (aR om ?_);refine fO ?_ ?_<;>intro c2
   ·refine bY ?_;rw [hi2];simp at c2;simp [c2]
   ·refine aR (by unfold aG; omega) (ih hlt ?_);rw [hi2];simp at c2;simp [c2]
  ·have c:=of_decide_eq_false c;refine bY ?_;rw [hi2,List.drop_eq_nil_of_le om,List.drop_eq_nil_of_le om];rfl
theorem R4 {k:Int} (hk : -2000000≤k∧k≤2000000) (hp:c.bH.length≤2000000) (hc:c.bS.length≤2000000):CS c k (pK c k):=by
 refine PS ?_;refine dD (H7 (UG hk hp)) λ v1 hv=>?_;subst hv;refine dD (sF λ _=>ng c.kZ 0 4000000000) λ v hv=>?_;subst hv;refine dD (sF λ _=>ng c.Low 0 c.kZ) λ v hv=>?_;subst hv;refine fO ?_ ?_<;>intro h
 ·refine bY ?_;unfold pK;rw [h];rfl
 ·have hv:pK c k=lM c:=by unfold pK; rw [h]; rfl
  rw [hv];refine fO ?_ ?_<;>intro k1
  ·refine aR (λ h=>by simp at h; omega) ?_;refine dD (sF λ _=>ng (c.bS.getD 0 0) 1 4000000000) λ v hv=>?_;subst hv;refine bY ?_;unfold lM;rw [k1];rfl
  ·refine fO ?_ ?_<;>intro k2
   ·rw [k2];refine dD (sF λ _=>qN hc) λ v hv=>?_;subst hv;refine bY ?_;unfold lM;rw [k1,k2];rfl
   ·refine fO ?_ ?_<;>intro k3
    ·refine dD (sF λ _=>qN hc) λ v hv=>?_;subst hv;refine bY ?_;unfold lM;rw [k1,k2,k3];rfl
    ·refine fO ?_ ?_<;>intro k4
     ·refine aR (λ _=>by unfold aG; omega) ?_;refine dD (sF λ _=>qN hc) λ v hv=>?_;subst hv;refine bY ?_;unfold lM;rw [k1,k2,k3,k4];rfl
     ·refine fO ?_ ?_<;>intro k5
      ·refine fO ?_ ?_<;>intro h1
       ·refine dD (sF λ _=>Gt hc) λ v hv=>?_;subst hv;refine bY ?_;unfold lM;rw [k1,k2,k3,k4,k5];rfl
       ·refine bY ?_;unfold lM;rw [k1,k2,k3,k4,k5];simp at h1;simp [h1]
      ·refine bY ?_;unfold lM;rw [k1,k2,k3,k4,k5];rfl
theorem set_mid (a:List α) (x y:α) (z:List α):(a++x::z).set a.length y=a++y::z:=by
 rw [List.set_append_right _ _ (Nat.le_refl _),Nat.sub_self];rfl
theorem R5 (hl:l.length≤2000000):pY l (jG l):=by
 refine PS ?_;refine dD (sF λ _=>UF hl) λ v hv=>?_;subst hv;refine fO ?_ ?_<;>intro h
 ·refine bY ?_;unfold jG;rw [h];rfl
 ·have hb3:(decide (16<(l.length:Int))||l.any Wu)=false:=h;have h16:l.length≤16:=by simp at hb3; omega
  have hbig:∀i:Nat,i<l.length→Wu (l.getD i bK)=false:=yN bK (by simp only [Bool.or_eq_false_iff] at hb3; exact hb3.2);refine ab3 l.length (λ i=>∀j:Nat,j<i→pK (l.getD j bK) j=true) ?_ (λ j hj=>absurd hj (Nat.not_lt_zero j));intro self i hi1 hi2 ih;refine fO ?_ ?_<;>intro h2
  ·have hlt:i<l.length:=by have:=of_decide_eq_true h2; omega
   have hbl:=QK (hbig i hlt);refine aR om ?_;refine dD (H7 (R4 (c:=l.getD i bK) (k:=i) om om om)) λ v hv=>?_;subst hv;refine fO ?_ ?_<;>intro h3
   ·refine bY ?_;unfold jG;rw [hb3,X6 hlt (by simpa using h3)];rfl
   ·refine aR (by unfold aG; omega) (ih hlt λ j hj=>?_);by_cases hji:j=i
    ·subst hji; simpa using h3
    ·exact hi2 j om
  ·have hil:i=l.length:=by have:=of_decide_eq_false h2; omega
   subst hil;have hall:=Z4 hi2;refine aR ⟨om,by show (l.length:Int)*8≤140737488355328; omega⟩ ?_;refine fK (λ g:Int×Int×List Int=>∃i:Nat,g=(lN (l.take i),(i:Int),iq (l.take i)++List.replicate (l.length - i) 0)∧i≤l.length∧lN (l.take i)≤4096∧∀j:Nat,j<i→(λ n=>decide (4<n)) ((iq l).getD j 0)=false) (λ g=>(l.length - g.2.1).toNat) ?_ ⟨0,rfl,om,by rw [List.take_zero]; decide,λ j hj=>absurd hj (Nat.not_lt_zero j)⟩;rintro dL g ⟨i,rfl,hj1,hj2,hj3⟩ ih2;refine fO ?_ ?_<;>intro h3
   ·have hlt:i<l.length:=by have:(i:Int)<(l.length:Int):=of_decide_eq_true h3; omega
    refine aR (by show 0≤(i:Int)∧(i:Int)<(l.length:Int); omega) ?_;obtain ⟨hfl,hb⟩:=qM (l.take i);rw [take_len hj1] at hfl hb;have hpi:=(ab5 hi2 hbig) i hlt;have hsn:iq (l.take (i+1))=iq (l.take i)++[Gs (iq (l.take i)) (l.getD i bK)]:=by rw [Ey bK hlt,K4]
    have hpm:=Jg (iq (l.take i)) i om hb;have hrep:List.replicate (l.length - i) (0:Int)=0::List.replicate (l.length - i - 1) 0:=by
     rw [show l.length - i=(l.length - i - 1)+1 by omega];rfl
    have hcut:W (oQ l (lN (l.take i),(i:Int),iq (l.take i)++List.replicate (l.length - i) 0) dL (iq (l.take i)++Gs (iq (l.take i)) (l.getD i bK)::List.replicate (l.length - i - 1) 0)) (λ r=>r=jG l):=by
     have hbl:=QK (hbig i hlt);have hpb:=MZ (l.take i);have ali:0≤lN (l.take i)*((l.getD i bK).bS.length:Int)∧lN (l.take i)*((l.getD i bK).bS.length:Int)≤4096*8:=⟨Int.mul_nonneg hpb.1 om,Int.mul_le_mul hj2 om om om⟩;have hpe:lN (l.take (i+1))=lN (l.take i)*((l.getD i bK).bS.length:Int):=by
      rw [Ey bK hlt,QM];unfold UC;rw [if_neg om]
     have hfi:(iq l).getD i 0=Gs (iq (l.take i)) (l.getD i bK):=by
      rw [Z5 l (i+1) i om hlt,hsn,kS 0 hfl.symm]
     refine aR (by show aG (lN (l.take i)*((l.getD i bK).bS.length:Int)); unfold aG; omega) ?_;refine aR (λ _=>by simp [hfl]; omega) ?_;refine fO ?_ ?_<;>intro h5
     ·have h5:(decide (4096<lN (l.take i)*((l.getD i bK).bS.length:Int))||decide (4<(iq (l.take i)++Gs (iq (l.take i)) (l.getD i bK)::List.replicate (l.length - i - 1) 0).getD i 0))=true:=h5;rw [kS 0 hfl.symm,← hfi,← hpe] at h5;refine bY ?_;unfold jG;rw [hb3,hall];have:(decide (4096<lN l)||(iq l).any (λ n=>decide (4<n)))=true:=by
       rw [Bool.or_eq_true] at h5 ⊢;rcases h5 with h5 | h5
       ·left;have h5:=of_decide_eq_true h5;have hm:=X8 l (λ c hc=>by
         obtain ⟨k,hk,rfl⟩:=List.mem_iff_getElem.1 hc;have:=Ww (QL (hi2 k hk));rwa [List.getD_eq_getElem?_getD,List.getElem?_eq_getElem hk] at this) (i+1)
        exact decide_eq_true om
       ·right;exact UD (p:=λ n=>decide (4<n)) 0 (by rw [(qM l).1]; exact hlt) h5
      rw [this];rfl
     ·have h5:(decide (4096<lN (l.take i)*((l.getD i bK).bS.length:Int))||decide (4<(iq (l.take i)++Gs (iq (l.take i)) (l.getD i bK)::List.replicate (l.length - i - 1) 0).getD i 0))=false:=h5;rw [kS 0 hfl.symm,← hfi,← hpe] at h5;rw [Bool.or_eq_false_iff] at h5;refine aR (by show aG ((i:Int)+1); unfold aG; omega) ?_;refine ih2 _ ⟨i+1,?_,hlt,by have:=of_decide_eq_false h5.1; omega,λ j hj=>?_⟩ (by show (l.length - ((i:Int)+1)).toNat<(l.length - (i:Int)).toNat; omega)
      ·rw [hsn,List.append_assoc,show l.length - (i+1)=l.length - i - 1 by omega,hpe];rfl
      ·by_cases hji:j=i
       ·subst hji; exact h5.2
       ·exact hj3 j om
    refine fK (λ g:Int×List Int=>∃j:Nat,g=((j:Int),iq (l.take i)++kG (iq (l.take i)) ((l.getD i bK).bH.take j)::List.replicate (l.length - i - 1) 0)∧j≤(l.getD i bK).bH.length) (λ g=>((l.getD i bK).bH.length - g.1).toNat) ?_ ⟨0,by rw [hrep]; rfl,Nat.zero_le _⟩;rintro uU g ⟨j,rfl,hj⟩ ih7;refine fO ?_ ?_<;>intro h4
    ·have hjl:j<(l.getD i bK).bH.length:=by have:(j:Int)<((l.getD i bK).bH.length:Int):=of_decide_eq_true h4; omega
     have hin:=hpi.2 ((l.getD i bK).bH.getD j 0) (zn 0 hjl);refine aR (by show 0≤(j:Int)∧(j:Int)<((l.getD i bK).bH.length:Int); omega) ?_;refine aR (by show 0≤(i:Int)∧(i:Int)<(((iq (l.take i)++kG (iq (l.take i)) ((l.getD i bK).bH.take j)::List.replicate (l.length - i - 1) 0).length:Nat):Int); simp [hfl]; omega) ?_;refine aR (by show 0≤(l.getD i bK).bH.getD j 0∧(l.getD i bK).bH.getD j 0<(((iq (l.take i)++kG (iq (l.take i)) ((l.getD i bK).bH.take j)::List.replicate (l.length - i - 1) 0).length:Nat):Int); rw [List.length_append,hfl,List.length_cons]; omega) ?_;refine aR (by show 0≤(i:Int)∧(i:Int)<(((iq (l.take i)++kG (iq (l.take i)) ((l.getD i bK).bH.take j)::List.replicate (l.length - i - 1) 0).length:Nat):Int); simp [hfl]; omega) ?_;refine aR (by show aG ((j:Int)+1); unfold aG; have:=hpi.1; omega) ?_;refine ih7 _ ⟨j+1,?_,hjl⟩ (by show ((l.getD i bK).bH.length - ((j:Int)+1)).toNat<((l.getD i bK).bH.length - (j:Int)).toNat; omega);have e:kG (iq (l.take i)) ((l.getD i bK).bH.take (j+1))=Wv ((iq (l.take i)++kG (iq (l.take i)) ((l.getD i bK).bH.take j)::List.replicate (l.length - i - 1) 0).getD i 0) ((iq (l.take i)++kG (iq (l.take i)) ((l.getD i bK).bH.take j)::List.replicate (l.length - i - 1) 0).getD ((l.getD i bK).bH.getD j 0).toNat 0):=by
      rw [kS 0 hfl.symm,mF 0 om];unfold kG;rw [F5 _ _ 0 hjl]
     rw [e];have hs:=set_mid (iq (l.take i)) (kG (iq (l.take i)) ((l.getD i bK).bH.take j)) (Wv ((iq (l.take i)++kG (iq (l.take i)) ((l.getD i bK).bH.take j)::List.replicate (l.length - i - 1) 0).getD i 0) ((iq (l.take i)++kG (iq (l.take i)) ((l.getD i bK).bH.take j)::List.replicate (l.length - i - 1) 0).getD ((l.getD i bK).bH.getD j 0).toNat 0)) (List.replicate (l.length - i - 1) 0);rw [hfl] at hs;rw [← hs];rfl
    ·have hje:j=(l.getD i bK).bH.length:=by have:¬ (j:Int)<((l.getD i bK).bH.length:Int):=of_decide_eq_false h4; omega
     subst hje;rw [List.take_length];have hpx:=hpm (l.getD i bK).bH;refine fO ?_ ?_<;>intro h5
     ·have hlen:0≤(i:Int)∧(i:Int)<(((iq (l.take i)++kG (iq (l.take i)) (l.getD i bK).bH::List.replicate (l.length - i - 1) 0).length:Nat):Int):=by simp [hfl]; omega
      refine aR hlen ?_;refine aR (by show aG ((iq (l.take i)++kG (iq (l.take i)) (l.getD i bK).bH::List.replicate (l.length - i - 1) 0).getD i 0+1); rw [kS 0 hfl.symm]; unfold aG; omega) ?_;refine aR hlen ?_;have e:Gs (iq (l.take i)) (l.getD i bK)=(iq (l.take i)++kG (iq (l.take i)) (l.getD i bK).bH::List.replicate (l.length - i - 1) 0).getD i 0+1:=by
       rw [kS 0 hfl.symm];unfold Gs adQ;rw [show ((l.getD i bK).gN==2||(l.getD i bK).gN==3)=true from h5];rfl
      have hs:=set_mid (iq (l.take i)) (kG (iq (l.take i)) (l.getD i bK).bH) (Gs (iq (l.take i)) (l.getD i bK)) (List.replicate (l.length - i - 1) 0);rw [hfl] at hs;rw [← hs,e] at hcut;exact hcut
     ·have e:Gs (iq (l.take i)) (l.getD i bK)=kG (iq (l.take i)) (l.getD i bK).bH:=by
       unfold Gs adQ;rw [show ((l.getD i bK).gN==2||(l.getD i bK).gN==3)=false from h5];rfl
      rw [e] at hcut;exact hcut
   ·have hil:i=l.length:=by have:¬ (i:Int)<(l.length:Int):=of_decide_eq_false h3; omega
    subst hil;refine bY ?_;rw [List.take_length] at hj2;unfold jG;rw [hb3,hall,decide_eq_false (show ¬ 4096<lN l by omega),any_none (p:=λ n=>decide (4<n)) 0 (by rw [(qM l).1]; exact hj3)];rfl
end Go.Proofs.YtnbjfoeapbncjaaGreatDoor
namespace Go.Proofs.YtnbjfoeapbncjaaGreatDoor.Sp
open Go.Ab
set_option maxRecDepth 100000
deriving instance DecidableEq for aL,bU,dO
structure Chn where
 over:Bool
 ame:List Int
 first:Int
 last:Int
deriving DecidableEq
structure Dem where
 Z6:Int
 draw:Int
 child:Int
deriving DecidableEq
def adS:Dem:=⟨0,0,0⟩
def fE (n lo hi:Int):Bool:=decide (lo≤n)&&decide (n≤hi)
def Z7 (s:aL):Bool:=decide (16<(s.dY.length:Int))
def Y1 (s:aL) (k:Int):Bool:=((((!fE s.dx (-1) (k - 1))||((s.dY.length:Int)==0))||!fE s.iI 0 5000)||(decide (s.dx<0)&&(s.iI != 0)))||!fE s.jT 0 10000
def Wy:Int→List Int→Bool
 | _,[]=>true
 | p,v::t=>!(!fE v 1 5000||decide (v≤p))&&Wy v t
def Gu (s:aL) (k:Int):Bool:=!Y1 s k&&Wy 0 s.dY
theorem ab7 {lev:List Int} {i:Nat} (hi:i<lev.length) {c:Bool} (hc:c=(!fE (lev.getD i 0) 1 5000||(decide (0<(i:Int))&&decide (lev.getD i 0≤lev.getD (i - 1) 0)))):
  Wy (if i=0 then 0 else lev.getD (i - 1) 0) (lev.drop i)=(!c&&Wy (lev.getD i 0) (lev.drop (i+1))):=by
 rw [drop_cons 0 hi,Wy,hc];congr 2;cases h:fE (lev.getD i 0) 1 5000 with
 | false=>rfl
 | true=>
  have h1:1≤lev.getD i 0:=by unfold fE at h; simp at h; simpa using h.1
  by_cases h0:i=0
  ·subst h0;simp;have h1:1≤lev.getD 0 0:=h1;have:¬ lev.getD 0 0≤0:=by omega
   simpa using this
  ·have:decide (0<(i:Int))=true:=by simp; omega
   rw [this,if_neg h0];simp
def aiT (n:Int) (x:bU):Bool:=((!fE x.fG 0 (n - 1)||!fE x.kZ 0 5000)||!fE x.Low 0 x.kZ)||!fE x.Load 0 10000
def ab8:Nat→List aL→Bool
 | _,[]=>true
 | i,s::t=>Gu s i&&ab8 (i+1) t
def jG (l:List aL):Int:=bif decide (16<(l.length:Int))||l.any Z7 then 3 else bif ab8 0 l then 0 else 1
variable {α:Type}
theorem yN (d:α) {p:α→Bool} {l:List α} (h:l.any p=false) (i:Nat) (hi:i<l.length):p (l.getD i d)=false:=by
 have:=zn d hi;rw [List.any_eq_false] at h;simpa using h _ this
def ab9 (l:List aL) (d:List bU):Bool:=((jG l==0)&&decide ((d.length:Int)≤32))&&!(d.any (aiT l.length))
def rlN:List aL→List Int→Bool
 | s::l,k::t=>fE k 0 (s.dY.length - 1)&&rlN l t
 | _,_=>true
def afI (l:List aL) (r:dO):Bool:=bif ((jG l != 0)||((r.On.length:Int) != l.length))||((r.dX.length:Int) != l.length) then false else rlN l r.dX
def acd (l:List aL) (d:List bU):Int:=bif jG l != 0 then jG l else bif !ab9 l d then 1 else 0
theorem Hy (d:α) (l:List α) (i:Nat) (v:α) (k:Nat):(l.set i v).getD k d=if k=i∧i<l.length then v else l.getD k d:=by
 rw [List.getD_eq_getElem?_getD,List.getD_eq_getElem?_getD,List.getElem?_set];by_cases h:i=k
 ·subst h;by_cases h2:i<l.length
  ·simp [h2]
  ·simp [h2]
 ·have:¬ (k=i∧i<l.length):=λ h'=>h h'.1.symm;simp [h,this]
def Ji {α:Type} (f:Nat→α→α):Nat→α→α
 | 0,a=>a
 | k+1,a=>Ji f k (f k a)
def Wz (n:Nat) (d:List bU):List Bool:=d.foldl (λ a x=>a.set x.fG.toNat true) (List.replicate n false)
def DK (l:List aL) (i:Nat) (a:List Bool):List Bool:=
 bif (a.getD i false||(l.getD i aZ).nk)&&decide (0≤(l.getD i aZ).dx) then (a.set i (a.getD i false||(l.getD i aZ).nk)).set (l.getD i aZ).dx.toNat true else a.set i (a.getD i false||(l.getD i aZ).nk)
def BA (l:List aL) (d:List bU):List Bool:=Ji (DK l) l.length (Wz l.length d)
structure Vld (l:List aL) (d:List bU):Prop where
 len:l.length≤16
 aiU:d.length≤32
 fG:∀i,i<l.length → -1≤(l.getD i aZ).dx∧(l.getD i aZ).dx<i∧1≤(l.getD i aZ).dY.length∧(l.getD i aZ).dY.length≤16∧0≤(l.getD i aZ).iI∧(l.getD i aZ).iI≤5000∧0≤(l.getD i aZ).jT∧(l.getD i aZ).jT≤10000
 dY:∀i,i<l.length→Wy 0 (l.getD i aZ).dY=true
 drw:∀x∈d,0≤x.fG∧x.fG<l.length∧0≤x.Low∧x.Low≤x.kZ∧x.kZ≤5000∧0≤x.Load∧x.Load≤10000
theorem Tg {β:Type} (f:List α→β→List α) (hf:∀a x,(f a x).length=a.length) (d:List β) (a:List α):(d.foldl f a).length=a.length:=by
 induction d generalizing a with
 | nil=>rfl
 | cons x d ih=>rw [List.foldl_cons,ih,hf]
theorem Z8 (n:Nat) (d:List bU):(Wz n d).length=n:=by
 unfold Wz;rw [Tg _ (λ a x=>List.length_set ..),List.length_replicate]
theorem UH (l:List aL) (i:Nat) (a:List Bool):(DK l i a).length=a.length:=by
 unfold DK;cases (a.getD i false||(l.getD i aZ).nk)&&decide (0≤(l.getD i aZ).dx)<;>simp
theorem Ti {f:Nat→List α→List α} (hf:∀i a,(f i a).length=a.length) (k:Nat) (a:List α):(Ji f k a).length=a.length:=by
 induction k generalizing a with
 | zero=>rfl
 | succ k ih=>rw [Ji,ih,hf]
theorem Z9 (l:List aL) (d:List bU):(BA l d).length=l.length:=by
 unfold BA;rw [Ti (UH l),Z8]
def upN {α:Type} (f:Nat→α→α) (n:Nat):Nat→α→α
 | 0,a=>a
 | k+1,a=>f (n - 1 - k) (upN f n k a)
theorem aac (f:Nat→α→α) (n k:Nat) (hk:k≤n) (a:α):Ji f n a=Ji f (n - k) (upN f n k a):=by
 induction k with
 | zero=>rfl
 | succ k ih=>
  rw [ih om,show n - k=n - (k+1)+1 by omega,Ji,upN,show n - 1 - k=n - (k+1) by omega]
theorem Y2 (f:Nat→α→α) (n:Nat) (a:α):upN f n n a=Ji f n a:=by
 rw [aac f n n (Nat.le_refl _),Nat.sub_self];rfl
theorem Jj (n k:Nat) (v:α):(List.replicate n v).getD k v=v:=by
 rw [List.getD_eq_getElem?_getD,List.getElem?_replicate];split<;>rfl
def QO (n:Nat) (d:List bU):List Int:=d.foldl (λ a x=>a.set x.fG.toNat (a.getD x.fG.toNat 0+x.Load)) (List.replicate n 0)
def qO (l:List aL) (i:Nat) (a:List Int):List Int:=
 bif decide (0≤(l.getD i aZ).dx) then a.set (l.getD i aZ).dx.toNat (a.getD (l.getD i aZ).dx.toNat 0+a.getD i 0) else a
def QS (l:List aL) (d:List bU):List Int:=Ji (qO l) l.length (QO l.length d)
theorem ace (n:Nat) (d:List bU):(QO n d).length=n:=by
 unfold QO;rw [Tg _ (λ a x=>List.length_set ..),List.length_replicate]
theorem UJ (l:List aL) (i:Nat) (a:List Int):(qO l i a).length=a.length:=by
 unfold qO;cases decide (0≤(l.getD i aZ).dx)<;>simp
theorem Ya (l:List aL) (d:List bU):(QS l d).length=l.length:=by
 unfold QS;rw [Ti (UJ l),ace]
def Bnd (a:List Int) (M:Int):Prop:=∀j,0≤a.getD j 0∧a.getD j 0≤M
theorem Bnd.set {a:List Int} {M N:Int} (h:Bnd a M) (hM:M≤N) (i:Nat) (v:Int) (hv:0≤v∧v≤N):Bnd (a.set i v) N:=λ j=>by
 rw [Hy];have:=h j;split
 ·exact hv
 ·omega
theorem acf (n:Nat) (d:List bU) (hd:∀x∈d,0≤x.Load∧x.Load≤10000) (i:Nat) (hi:i≤d.length):Bnd (QO n (d.take i)) (10000*i):=by
 induction i with
 | zero=>intro j; rw [List.take_zero]; have:(QO n []).getD j 0=0:=Jj n j 0; omega
 | succ i ih=>
  have hsn:QO n (d.take (i+1))=(QO n (d.take i)).set (d.getD i fI).fG.toNat ((QO n (d.take i)).getD (d.getD i fI).fG.toNat 0+(d.getD i fI).Load):=F5 _ _ fI hi;rw [hsn];have h1:=ih om;have h2:=hd _ (zn fI hi);have h3:=h1 (d.getD i fI).fG.toNat;exact h1.set om _ _ om
theorem Yb (l:List aL) (a:List Int) (M:Int) (h:Bnd a M) (k:Nat):Bnd (upN (qO l) l.length k a) (M*2 ^ k):=by
 induction k with
 | zero=>show Bnd a (M*2 ^ 0); rw [Int.pow_zero,Int.mul_one]; exact h
 | succ k ih=>
  rw [upN];have e:M*2 ^ (k+1)=M*2 ^ k+M*2 ^ k:=by rw [Int.pow_succ,← Int.mul_assoc]; omega
  rw [e];generalize upN (qO l) l.length k a=A at ih;generalize M*2 ^ k=X at ih;have hp:0≤X:=by have:=ih 0; omega
  unfold qO;cases decide (0≤(l.getD (l.length - 1 - k) aZ).dx) with
  | true=>
   have h1:=ih (l.getD (l.length - 1 - k) aZ).dx.toNat;have h2:=ih (l.length - 1 - k);exact ih.set om _ _ om
  | false=>
   intro j;have:=ih j;simp only [cond_false];omega
variable {l:List aL} {d:List bU}
theorem UK (hv:Vld l d) (k:Nat) (hk:k≤l.length):Bnd (upN (qO l) l.length k (QO l.length d)) 100000000000:=by
 have h1:=acf l.length d (λ x hx=>by have:=hv.drw x hx; omega) d.length (Nat.le_refl _);rw [List.take_length] at h1;have h2:=Yb l _ _ h1 k;have hvl:=hv.len;have hvd:=hv.aiU;have h3:(2:Int) ^ k≤2 ^ 16:=by exact_mod_cast Nat.pow_le_pow_right (n:=2) (by decide) (show k≤16 by omega)
 have h4:10000*(d.length:Int)*2 ^ k≤320000*2 ^ 16:=Int.mul_le_mul om h3 (Int.pow_nonneg (by decide)) (by decide);intro j;have:=h2 j;omega
def QT (l:List aL) (r:dO) (k:Nat):Int:=(l.getD k aZ).dY.getD (r.dX.getD k 0).toNat 0
def aiW (l:List aL) (r:dO) (u:List Bool) (ld:List Int) (i:Nat):Bool:=
 bif !r.On.getD i false then u.getD i false
 else (decide (0≤(l.getD i aZ).dx)&&(!r.On.getD (l.getD i aZ).dx.toNat false||decide (QT l r (l.getD i aZ).dx.toNat<QT l r i+(l.getD i aZ).iI)))||decide ((l.getD i aZ).jT<ld.getD i 0)
def aiX (l:List aL) (r:dO) (x:bU):Bool:=!fE (QT l r x.fG.toNat) x.Low x.kZ
def afJ (l:List aL) (r:dO) (d:List bU):Bool:=(List.range l.length).all (λ i=>!aiW l r (BA l d) (QS l d) i)&&!(d.any (aiX l r))
def sG (l:List aL) (r:dO) (d:List bU):Bool:=bif !afI l r||!ab9 l d then false else afJ l r d
structure Rok (l:List aL) (r:dO):Prop where
 On:r.On.length=l.length
 len:r.dX.length=l.length
 dY:∀i,i<l.length→0≤r.dX.getD i 0∧(r.dX.getD i 0).toNat<(l.getD i aZ).dY.length∧r.dX.getD i 0<(l.getD i aZ).dY.length
theorem Jh (d:α) {a b:List α} (h1:a.length=b.length) (h2:∀j,j<a.length→a.getD j d=b.getD j d):a=b:=by
 apply List.ext_getElem h1;intro j hj hj';have:=h2 j hj;rw [List.getD_eq_getElem?_getD,List.getD_eq_getElem?_getD,List.getElem?_eq_getElem hj,List.getElem?_eq_getElem hj'] at this;exact this
def atD (d:List bU) (i:Nat):Bool:=d.any (λ x=>x.fG==(i:Int))
structure aen (l:List aL) (d:List bU) (k:Nat) (b:List Bool):Prop where
 len:b.length=l.length
 hi:∀j,j<l.length→l.length - k≤j→b.getD j false=(upN (DK l) l.length k (Wz l.length d)).getD j false
 lo:∀j,j<l.length - k→(upN (DK l) l.length k (Wz l.length d)).getD j false=(b.getD j false||atD d j)
theorem aen.done {b:List Bool} (h:aen l d l.length b):b=BA l d:=by
 refine Jh false (by rw [h.len,Z9]) λ j hj=>?_;rw [h.hi j (by rw [← h.len]; exact hj) om,Y2];rfl
def aad (d:List bU) (i:Nat):Int:=d.foldl (λ s x=>bif x.fG==(i:Int) then s+x.Load else s) 0
theorem aae {j i:Nat} (h:j<d.length):aad (d.take (j+1)) i=bif (d.getD j fI).fG==(i:Int) then aad (d.take j) i+(d.getD j fI).Load else aad (d.take j) i:=F5 _ _ fI h
theorem acg (hd:∀x∈d,0≤x.Load∧x.Load≤10000) (i j:Nat) (hj:j≤d.length):0≤aad (d.take j) i∧aad (d.take j) i≤10000*j:=by
 induction j with
 | zero=>rw [List.take_zero]; exact ⟨Int.le_refl _,Int.le_refl _⟩
 | succ j ih=>
  have:=ih om;have h2:=hd _ (zn fI hj);rw [aae hj];cases (d.getD j fI).fG==(i:Int) with
  | true=>simp only [cond_true]; omega
  | false=>simp only [cond_false]; omega
structure Y3 (l:List aL) (d:List bU) (k:Nat) (b:List Int):Prop where
 len:b.length=l.length
 pos:∀j,0≤b.getD j 0
 hi:∀j,j<l.length→l.length - k≤j→b.getD j 0=(upN (qO l) l.length k (QO l.length d)).getD j 0
 lo:∀j,j<l.length - k→(upN (qO l) l.length k (QO l.length d)).getD j 0=b.getD j 0+aad d j
theorem Y3.done {b:List Int} (h:Y3 l d l.length b):b=QS l d:=by
 refine Jh 0 (by rw [h.len,Ya]) λ j hj=>?_;rw [h.hi j (by rw [← h.len]; exact hj) om,Y2];rfl
theorem Y3.small (hv:Vld l d) {k:Nat} {b:List Int} (h:Y3 l d k b) (hk:k≤l.length) (j:Nat):0≤b.getD j 0∧b.getD j 0≤100000000000:=by
 have h1:=UK hv k hk j;refine ⟨h.pos j,?_⟩;have hd:=(acg (d:=d) (λ x hx=>by have:=hv.drw x hx; omega) j d.length (Nat.le_refl _)).1;rw [List.take_length] at hd;by_cases h2:j<l.length - k
 ·have:=h.lo j h2; omega
 ·by_cases h3:j<l.length
  ·have:=h.hi j h3 om; omega
  ·rw [PL 0 (by rw [h.len]; omega)]; omega
def lvN:List Int→Int→Nat
 | [],_=>0
 | x::t,v=>bif decide (v≤x) then 0 else lvN t v+1
structure DS where
 a:List Dem
 lv:List Int
def Y4 (n:Nat) (d:List bU):Nat→List Dem
 | 0=>List.replicate n ⟨0,-1,-1⟩
 | i+1=>bif decide (((Y4 n d i).getD (d.getD i fI).fG.toNat adS).Z6<(d.getD i fI).Low) then (Y4 n d i).set (d.getD i fI).fG.toNat ⟨(d.getD i fI).Low,i,-1⟩ else Y4 n d i
def aaf (l:List aL) (i:Nat) (s:DS):Nat:=lvN (l.getD i aZ).dY (s.a.getD i adS).Z6
def UL (l:List aL) (i:Nat) (s:DS):Int:=(l.getD i aZ).dY.getD (aaf l i s) 0+(l.getD i aZ).iI
def aiZ (l:List aL) (u:List Bool) (i:Nat) (s:DS):DS:=
 bif !u.getD i false then s
 else ⟨bif decide (0≤(l.getD i aZ).dx)&&decide ((s.a.getD (l.getD i aZ).dx.toNat adS).Z6<UL l i s) then s.a.set (l.getD i aZ).dx.toNat ⟨UL l i s,-1,i⟩ else s.a,s.lv.set i (aaf l i s)⟩
def ahh (l:List aL) (u:List Bool) (i:Nat) (s:DS):Bool:=u.getD i false&&!decide ((aaf l i s:Int)<(l.getD i aZ).dY.length)
def ahi (l:List aL) (u:List Bool):Nat→DS→DS×Int
 | 0,s=>(s,-1)
 | k+1,s=>bif ahh l u k s then (s,k) else ahi l u k (aiZ l u k s)
def ds0 (l:List aL) (d:List bU):DS:=⟨Y4 l.length d d.length,List.replicate l.length 0⟩
def afK (l:List aL) (d:List bU):DS×Int:=ahi l (BA l d) l.length (ds0 l d)
structure DOk (l:List aL) (s:DS):Prop where
 al:s.a.length=l.length
 ll:s.lv.length=l.length
def QU (l:List aL) (d:List bU):dO×Int:=
 bif acd l d != 0 then (Uq,acd l d)
 else bif decide (0≤(afK l d).2)||!sG l ⟨BA l d,(afK l d).1.lv⟩ d then (Uq,9) else (⟨BA l d,(afK l d).1.lv⟩,0)
def lvK (l:List aL) (k v:Int):Nat:=lvN (l.getD k.toNat aZ).dY v
def okK (l:List aL) (k v:Int):Bool:=decide (lvK l k v<(l.getD k.toNat aZ).dY.length)
def voK (l:List aL) (k v:Int):Int:=(l.getD k.toNat aZ).dY.getD (lvK l k v) 0
def rwN (l:List aL) (d:List bU) (last:Int):List Int→Int→Bool
 | [],_=>false
 | k::t,v=>bif !t.isEmpty then (bif !okK l k v then false else rwN l d last t (voK l k v+(l.getD k.toNat aZ).iI))
  else bif !okK l k v||decide (last<0) then !okK l k v&&decide (last<0)
  else ((d.getD last.toNat fI).fG==k)&&decide ((d.getD last.toNat fI).kZ<voK l k v)
abbrev sAt (l:List aL) (i:Nat):aL:=l.getD i aZ
abbrev bAt (a:List Bool) (i:Nat):Bool:=a.getD i false
abbrev nAt (a:List Int) (i:Nat):Int:=a.getD i 0
abbrev dAt (a:List Dem) (i:Nat):Dem:=a.getD i adS
abbrev xAt (d:List bU) (i:Nat):bU:=d.getD i fI
structure DI (n:Nat) (d:List bU) (i:Nat) (a:List Dem):Prop where
 len:a.length=n
 just:∀j,j<n→dAt a j=⟨0,-1,-1⟩∨∃q,q<i∧(xAt d q).fG=j∧dAt a j=⟨(xAt d q).Low,q,-1⟩
 Low:∀q,q<i→(xAt d q).Low≤(dAt a (xAt d q).fG.toNat).Z6
structure Dm (l:List aL) (d:List bU) (u:List Bool) (k:Nat) (s:DS):Prop where
 al:s.a.length=l.length
 ll:s.lv.length=l.length
 just:∀j,j<l.length→dAt s.a j=⟨0,-1,-1⟩∨(∃q,q<d.length∧(xAt d q).fG=j∧dAt s.a j=⟨(xAt d q).Low,q,-1⟩)∨
  ∃c:Nat,k≤c∧c<l.length∧bAt u c=true∧(sAt l c).dx=j∧aaf l c s<(sAt l c).dY.length∧dAt s.a j=⟨UL l c s,-1,c⟩
 Low:∀q,q<d.length→(xAt d q).Low≤(dAt s.a (xAt d q).fG.toNat).Z6
 up:∀c,k≤c→c<l.length→bAt u c=true→0≤(sAt l c).dx→UL l c s≤(dAt s.a (sAt l c).dx.toNat).Z6
 ok:∀c,k≤c→c<l.length→bAt u c=true→aaf l c s<(sAt l c).dY.length∧nAt s.lv c=aaf l c s
 zero:∀c,c<l.length→c<k∨bAt u c=false→nAt s.lv c=0
structure Mt (l:List aL) (r:dO) (d:List bU):Prop where
 used:∀i,bAt (BA l d) i=true→bAt r.On i=true
 dx:∀i,i<l.length→bAt r.On i=true→0≤(sAt l i).dx→bAt r.On (sAt l i).dx.toNat=true∧QT l r i+(sAt l i).iI≤QT l r (sAt l i).dx.toNat
 jT:∀i,i<l.length→bAt r.On i=true→nAt (QS l d) i≤(sAt l i).jT
 drw:∀x∈d,x.Low≤QT l r x.fG.toNat∧QT l r x.fG.toNat≤x.kZ
structure Best (l:List aL) (d:List bU) (r:dO):Prop where
 ok:sG l r d=true
 On:r.On=BA l d
 zero:∀i,bAt (BA l d) i=false→nAt r.dX i=0
 least:∀q,sG l q d=true→∀i,bAt (BA l d) i=true→bAt q.On i=true∧nAt r.dX i≤nAt q.dX i
def jnL (l:List aL) (u:List Bool):List Int→Prop
 | []=>True
 | k::t=>(0≤k∧k<l.length∧bAt u k.toNat=true∧(∀k',t.head? = some k'→(sAt l k.toNat).dx=k'))∧jnL l u t
structure Good (l:List aL) (d:List bU) (last:Int) (c:List Int) (fst:Int):Prop where
 ne:c≠[]
 jn:jnL l (BA l d) c
 lo : -1≤fst
 hi:fst<d.length
 yes:0≤fst→(xAt d fst.toNat).fG=nAt c 0∧rwN l d last c (xAt d fst.toNat).Low=true
 no:fst<0→rwN l d last c 0=true
structure ai2 (l:List aL) (d:List bU) (r:dO) (ok:Bool):Prop where
 is:ok=((QU l d).2==0)
 yes:ok=true→sG l r d=true
 no:ok=false→r=(QU l d).1
theorem oW {n_:Int} {A9:Int} {CP:Int}:W (jY n_ A9 CP) (λ r=>r=fE n_ A9 CP):=by
 unfold jY;refine bY ?_;rfl
theorem K5 {s_:aL}:W (mH s_) (λ r=>r=Z7 s_):=by
 unfold mH;refine bY ?_;rfl
theorem sH {s_:List aL} (h1:s_.length≤2000000):W (jq s_) (λ r=>r=s_.any (Z7)):=
 H7 (YX (ab2 (p:=λ x=>mH x) (P:=Z7) (λ x hx=>PS (K5)) om) (Jd _ _))
theorem QV {s_:aL} {at_:Int} (h1:0≤at_) (h2:at_≤2000000) (h3:s_.dY.length≤2000000):W (vF s_ at_) (λ r=>r=Gu s_ at_):=by
 unfold vF;refine wn<|dD (oW) λ v1 hv1=>?_;subst v1;refine dD (sF λ hc=>PS (oW)) λ v2 hv2=>?_;subst v2;refine dD (sF λ hc=>PS (oW)) λ v3 hv3=>?_;subst v3;refine fO ?_ ?_<;>intro c1
 ·have Yc:=c1;have c1:=vP c1;refine bY ?_;(unfold Gu; rw [show Y1 s_ at_=true from Yc]; rfl)
 ·have Yc:=c1;have c1:=vP c1;refine fK (λ (g1:Int)=>0≤g1∧g1≤s_.dY.length∧Wy (if g1.toNat=0 then 0 else s_.dY.getD (g1.toNat - 1) 0) (s_.dY.drop g1.toNat)=Wy 0 s_.dY) (λ (g1:Int)=>(s_.dY.length - g1).toNat) ?_ ?_
  ·intro av g1 uH j5;obtain ⟨oG,gW,rJ⟩:=uH;unfold Ba;obtain ⟨i,rfl⟩:=Int.eq_ofNat_of_zero_le oG;refine wi ?_ ?_<;>intro c2
   ·have hlt:i<s_.dY.length:=om;have hst:=ab7 hlt rfl;rw [show ((i:Int).toNat)=i from rfl] at rJ;rw [hst] at rJ;have e1:(((i:Int) - 1).toNat)=i - 1:=om;simp only [e1,Int.toNat_natCast] at *;refine wn<|dD (oW) λ v6 hv6=>?_;subst v6;refine wm<|fO ?_ ?_<;>intro c3
    ·have c3o:=c3;have c3:=vP c3;refine bY ?_;(unfold Gu; rw [show Y1 s_ at_=false from Yc,← rJ]; rw [c3o]; rfl)
    ·have c3o:=c3;have c3:=vP c3;refine wn<|j5 _ ?_ ?_
     ·(refine ⟨ob,ob,?_⟩; rw [← rJ,c3o]; rw [show ((i:Int)+1).toNat=i+1 by omega,if_neg om]; rfl)
     ·exact ob
   ·refine bY ?_;have e:i=s_.dY.length:=om;unfold Gu; rw [show Y1 s_ at_=false from Yc,← rJ,show (i:Int).toNat=i from rfl,e,List.drop_length]; rfl
  ·(refine ⟨ob,ob,rfl⟩)
theorem QW {l_:List aL} (h1:l_.length≤2000000):W (kV l_) (λ r=>r=jG l_):=by
 unfold kV;refine dD (sF λ hc=>PS (sH ob)) λ v1 hv1=>?_;subst v1;refine fO ?_ ?_<;>intro c1
 ·have Yc:=c1;have c1:=vP c1;refine bY ?_;(unfold jG; rw [Yc]; rfl)
 ·have Yc:=c1;have c1:=vP c1;have hbig:∀i:Nat,i<l_.length→Z7 (l_.getD i aZ)=false:=yN aZ (by have:=Yc; simp only [Bool.or_eq_false_iff] at this; exact this.2);refine fK (λ (g1:Int)=>0≤g1∧g1≤l_.length∧ab8 g1.toNat (l_.drop g1.toNat)=ab8 0 l_) (λ (g1:Int)=>(l_.length - g1).toNat) ?_ ?_
  ·intro av g1 uH j5;obtain ⟨oG,gW,rJ⟩:=uH;unfold Bb;obtain ⟨i,rfl⟩:=Int.eq_ofNat_of_zero_le oG;refine wi ?_ ?_<;>intro c2
   ·have hlt:i<l_.length:=om;have hb:=hbig i hlt;have hbl:(l_.getD i aZ).dY.length≤16:=(by unfold Z7 at hb; have:=of_decide_eq_false hb; omega);rw [show ((i:Int).toNat)=i from rfl,drop_cons aZ hlt,ab8] at rJ;simp only [Int.toNat_natCast] at *;refine wn<|dD (QV om om om) λ v4 hv4=>?_;subst v4;refine fO ?_ ?_<;>intro c3
    ·have c3o:=c3;have c3:=vP c3;refine bY ?_;(unfold jG; rw [Yc,← rJ,show Gu (l_.getD i aZ) i=false by simpa using c3o]; rfl)
    ·have c3o:=c3;have c3:=vP c3;refine wn<|j5 _ ?_ ?_
     ·(refine ⟨ob,ob,?_⟩; rw [← rJ,show Gu (l_.getD i aZ) i=true by simpa using c3o,show ((i:Int)+1).toNat=i+1 by omega]; rfl)
     ·exact ob
   ·refine bY ?_;have e:i=l_.length:=om;unfold jG; rw [Yc,← rJ,show (i:Int).toNat=i from rfl,e,List.drop_length]; rfl
  ·(refine ⟨ob,ob,rfl⟩)
end Go.Proofs.YtnbjfoeapbncjaaGreatDoor.Sp
namespace Go.Proofs.YtnbjfoeapbncjaaGreatDoor
open Go.Ab
set_option maxRecDepth 100000
structure afN (l:List fF):Prop where
 len:l.length≤32
 af:∀i,i<l.length→∀x∈(l.getD i gF).iF,0≤x∧x<(i:Int)
structure afO (l:List eF):Prop where
 len:l.length≤16
 par:∀i,i<l.length → -1≤(l.getD i jI).dx∧(l.getD i jI).dx<(i:Int)
structure ahj (n:Int) (g:fA):Prop where
 pl:0<g.bT.length
 fl:0<g.aC.length∧g.aC.length≤8
 pn:∀x∈g.bT,0≤x∧x<n
structure aep (p:bI) (u:qm):Prop where
 g0:0≤u.fD
 gl:u.fD<p.aF.length
 f0:0≤u.iw
 fl:u.iw<(p.aF.getD u.fD.toNat aM).aC.length
theorem jm {P:Nat→Prop} {i:Int} (h:∀j:Nat,(j:Int)<i→P j) (h0:0≤i) (hp:P i.toNat):∀j:Nat,(j:Int)<i+1→P j:=λ j hj=>by
 by_cases q:(j:Int)<i
 ·exact h j q
 ·have e:j=i.toNat:=by omega
  rw [e]; exact hp
structure aer (p:bI):Prop where
 pn:0≤p.bT∧p.bT≤64
 gl:p.aF.length≤24
 gr:∀g∈p.aF,ahj p.bT g
variable {α:Type}
theorem DL {P:α→Prop} {l:List α} (d:α) (h:∀j,j<l.length→P (l.getD j d)):∀x∈l,P x:=λ x hx=>by
 obtain ⟨i,hi,rfl⟩:=List.mem_iff_getElem.1 hx;have:=h i hi;rwa [List.getD_eq_getElem?_getD,List.getElem?_eq_getElem hi] at this
variable {s:ByteArray}
theorem QX {c:Bool} (h:((s.toList==({ data:=#[] }:ByteArray).toList)||c)=false):0<s.size:=by
 simp only [Bool.or_eq_false_iff] at h;rcases Nat.eq_zero_or_pos s.size with e | e
 ·exfalso;have e2:s=({ data:=#[] }:ByteArray):=by
   cases s with
   | mk d=>cases d with
    | mk l=>cases l with
     | nil=>rfl
     | cons a t=>simp [ByteArray.size] at e
  rw [e2] at h;simp at h
 ·exact e
theorem aah {c d:Bool} (h:((((s.toList==({ data:=#[] }:ByteArray).toList)||(decide ((16:Int)<((s.size:Nat):Int))))||c)||d)=false):0<s.size∧s.size≤16:=by
 simp only [Bool.or_eq_false_iff] at h;refine ⟨QX (c:=false) (by simp only [Bool.or_eq_false_iff]; exact ⟨h.1.1.1,trivial⟩),?_⟩;have:=of_decide_eq_false h.1.1.2;omega
theorem Gv {s_:List Int} (h1:s_.length≤2000000):W (slices_Clone_int s_) (λ r=>r=s_):=by
 unfold slices_Clone_int;refine wn<|bY ?_;rfl
structure aci (b:aW):Prop where
 cl:b.bM.length≤2000000
 ch:aiP b.bM
 su:b.aT.length≤2000000
 gr:∀g∈b.aU.aF,g.bT.length≤2000000
 re:b.bg.length≤2000000
 ra:∀g∈b.bg,g.iF.length≤2000000
 dm:b.bF.length≤2000000
structure ahk (b:aW):Prop where
 cl:jG b.bM=0
 su:Sp.jG b.aT=0
 pn:aer b.aU
 rs:afN b.bg
 dm:afO b.bF
structure aai (n:Nat) (x:bX):Prop where
 k0:0≤x.Eh
 kl:x.Eh<n
 l0:0≤x.Low
 lh:x.Low≤x.kZ
 hi:x.kZ≤4000000000
structure aaj (n:Nat) (x:bU):Prop where
 k0:0≤x.fG
 kl:x.fG<n
 l0:0≤x.Low
 lh:x.Low≤x.kZ
 hi:x.kZ≤5000
 ld:0≤x.Load∧x.Load≤10000
structure ahl (b:aW) (n:ay):Prop where
 ll:n.eH.length≤32
 dl:n.fU.length≤32
 fl:n.aC.length≤10
 lm:∀x∈n.eH,aai b.bM.length x
 dw:∀x∈n.fU,aaj b.aT.length x
 rs:∀x∈n.bg,0≤x∧x<b.bg.length
 dm : -1≤n.gy∧n.gy<b.bF.length
structure afP (l:List ay):Prop where
 len:l.length≤2000000
 nd:∀n∈l,n.bg.length≤2000000∧n.aO.length≤2000000
structure ai3 (g:cZ):Prop where
 st:g.dB.length≤2000000
 on:g.dF.On.length≤2000000
 lv:g.dF.dX.length≤2000000
 us:g.dR.length≤2000000
 re:g.dh.length≤2000000
 po:g.dJ.length≤2000000
structure ai4 (s:dZ):Prop where
 sz:aci s.aK
 val:ahk s.aK
 nl:s.dS.length≤12
 nd:∀n∈s.dS,ahl s.aK n
 nsz:afP s.dS
 ml:s.bB.length≤10000
 gs:ai3 s.aH
structure ai5 (s:dZ):Prop where
 mem:∀m∈s.bB,0≤m∧m<s.dS.length
 st:s.aH.dB.length=s.aK.bM.length
 on:s.aH.dF.On.length=s.aK.aT.length
 lv:s.aH.dF.dX.length=s.aK.aT.length
 re:s.aH.dh.length=s.aK.bg.length
 po:s.aH.dJ.length=s.aK.bF.length
theorem jJ {s_:List Int} {v_:Int} (h1:s_.length≤2000000):slices_Contains_int s_ v_ (s_.contains v_):=QN h1
theorem sI {x_:Int} {XY:Int} {Qv:Int}:W (mI x_ XY Qv) (λ r=>r=(decide (XY≤x_)&&decide (x_≤Qv))):=by
 unfold mI;refine bY ?_;rfl
theorem aak (f:kM→Option Int) (k k':kM) (n:Int):vS (FR f k n) k'=if k'=k then n else vS f k':=by
 unfold vS FR;split<;>rfl
theorem Tj (d:α) (l:List α) (n j:Nat) (h:j<n):(l.take n).getD j d=l.getD j d:=by
 rw [List.getD_eq_getElem?_getD,List.getD_eq_getElem?_getD,List.getElem?_take_of_lt h]
def VS (l:List bf) (s:List Int):Prop:=s.length=l.length∧∀i,i<l.length→0≤s.getD i 0∧s.getD i 0<(l.getD i bK).bS.length
def aes:List bf→Nat
 | []=>1
 | c::l=>c.bS.length*aes l
def afQ:List bf→List Int→Nat
 | c::l,x::t=>x.toNat*aes l+afQ l t
 | _,_=>0
def ahm (g:fA) (f:ByteArray):Int:=Ux g.aC λ x=>f.toList==x.toList
def ai6 (p:bI) (f:ByteArray) (n:Nat):List Int:=((List.range n).filter λ i=>decide (0≤ahm (p.aF.getD i aM) f)).map λ i=>((i:Nat):Int)
structure Jk (s:ByteArray):Prop where
 sz:0<s.size∧s.size≤16
 b0:97≤eX s 0∧eX s 0≤122
 bs:∀j:Nat,(j:Int)<s.size→eX s j=45∨(48≤eX s j∧eX s j≤57)∨(97≤eX s j∧eX s j≤122)
structure GpV (n:Int) (g:fA):Prop where
 ok:ahj n g
 nw:Jk g.uo
 so:∀k:Nat,1≤k→(k:Int)<g.bT.length→g.bT.getD (k - 1) 0<g.bT.getD k 0
 fw:∀j:Nat,(j:Int)<g.aC.length→Jk (g.aC.getD j ByteArray.empty)
 fd:∀k j:Nat,j<k→(k:Int)<g.aC.length→(g.aC.getD j ByteArray.empty).toList≠(g.aC.getD k ByteArray.empty).toList
structure ahn (p:bI):Prop where
 ok:aer p
 gr:∀i:Nat,(i:Int)<p.aF.length→GpV p.bT (p.aF.getD i aM)
 nm:∀i k:Nat,k<i→(i:Int)<p.aF.length→(p.aF.getD k aM).uo.toList≠(p.aF.getD i aM).uo.toList
structure RsV (l:List fF):Prop where
 ok:afN l
 so:∀i:Nat,(i:Int)<l.length→∀k:Nat,1≤k→(k:Int)<((l.getD i gF).iF).length→((l.getD i gF).iF).getD (k - 1) 0<((l.getD i gF).iF).getD k 0
structure BdV (b:aW):Prop where
 cl:jG b.bM=0
 su:Sp.jG b.aT=0
 pn:ahn b.aU
 rs:RsV b.bg
 dm:afO b.bF
def UM (l:List Int):Prop:=∀i j:Nat,i<j→(j:Int)<l.length→l.getD i 0<l.getD j 0
def aho (p:bI) (x y:Int):Prop:=∀i j:Nat,(i:Int)<(p.aF.getD x.toNat aM).bT.length→(j:Int)<(p.aF.getD y.toNat aM).bT.length→(p.aF.getD x.toNat aM).bT.getD i 0≠(p.aF.getD y.toNat aM).bT.getD j 0
def ai7 (p:bI) (x:Int) (f:ByteArray):Prop:=∃k:Nat,(k:Int)<(p.aF.getD x.toNat aM).aC.length∧((p.aF.getD x.toNat aM).aC.getD k ByteArray.empty).toList=f.toList
structure ami (p:bI) (l:List ByteArray) (gs:List Int):Prop where
 ir:∀x∈gs,0≤x∧x<p.aF.length
 off:∀k:Nat,(k:Int)<gs.length→ai7 p (gs.getD k 0) (l.getD k ByteArray.empty)
 dj:∀k j:Nat,j<k→(k:Int)<gs.length→aho p (gs.getD j 0) (gs.getD k 0)
def ahp (l:List fF) (s:List Bool):Prop:=∀i:Nat,(i:Int)<l.length→s.getD i false=true→∀x∈(l.getD i gF).iF,s.getD x.toNat false=true
structure ahq (l:List eF) (s:List Bool):Prop where
 al:∀i:Nat,(i:Int)<l.length→(l.getD i jI).nk=true→s.getD i false=true
 pa:∀i:Nat,(i:Int)<l.length→s.getD i false=true→0≤(l.getD i jI).dx→s.getD (l.getD i jI).dx.toNat false=true
theorem adT (bs:ByteArray):∀(n i:Nat) (r:List UInt8),bs.size - i=n→ByteArray.toList.loop bs i r=r.reverse++bs.data.toList.drop i:=by
 intro n;induction n with
 | zero=>
  intro i r h;unfold ByteArray.toList.loop;rw [if_neg om,List.drop_eq_nil_of_le (by show bs.data.toList.length≤i; rw [Array.length_toList]; show bs.size≤i; omega),List.append_nil]
 | succ n ih=>
  intro i r h;unfold ByteArray.toList.loop;rw [if_pos om,ih (i+1) _ om,List.reverse_cons,List.append_assoc];have hi:i<bs.data.toList.length:=by rw [Array.length_toList]; show i<bs.size; omega
  rw [List.drop_eq_getElem_cons hi];congr 1;show bs.get! i::_=_;congr 1;unfold ByteArray.get!;rw [Array.getElem_toList];exact getElem!_pos bs.data i _
theorem Y5 (b:ByteArray):b.toList=b.data.toList:=by
 unfold ByteArray.toList;rw [adT b _ 0 [] rfl]; rfl
theorem Yd {a b:ByteArray} (h:a.toList=b.toList):a=b:=by
 rw [Y5,Y5] at h;cases a; cases b;congr;exact Array.toList_inj.1 h
theorem ahr (h:0<s.size):(s.toList==({ data:=#[] }:ByteArray).toList)=false:=by
 rw [beq_eq_false_iff_ne];intro e;have:=Yd e;rw [this] at h;exact absurd h (by decide)
def UsV (p:bI) (l:List qm):Prop:=(∀u∈l,aep p u)∧∀k j:Nat,j<k→(k:Int)<l.length→aho p (l.getD j jD).fD (l.getD k jD).fD
def BD (p:Prop) (c:Int) (A:Int→Prop) (r:Int):Prop:=(p∧r=c)∨(¬p∧A r)
variable {p:Prop} {c:Int} {A:Int→Prop}
theorem iA (h:p):BD p c A c:=.inl ⟨h,rfl⟩
variable {r:Int}
theorem cB (h:¬p) (a:A r):BD p c A r:=.inr ⟨h,a⟩
def Thn (A B:Int→Prop) (r:Int):Prop:=(A r∧r≠0)∨(A 0∧B r)
def Fst (n:Nat) (E:Nat→Int→Prop) (r:Int):Prop:=(∃i:Nat,i<n∧(∀k:Nat,k<i→E k 0)∧E i r∧r≠0)∨((∀k:Nat,k<n→E k 0)∧r=0)
def wZ (A:Int→Prop):Prop:=∀a b,A a→A b→a=b
theorem wZ.zero:wZ (λ r=>r=0):=λ _ _ h k=>h.trans k.symm
theorem wZ.zS (h:wZ A):wZ (BD p c A):=by
 rintro a b (⟨h1,h2⟩ | ⟨h1,h2⟩) (⟨h3,h4⟩ | ⟨h3,h4⟩)
 ·rw [h2,h4]
 ·exact absurd h1 h3
 ·exact absurd h3 h1
 ·exact h _ _ h2 h4
variable {B:Int→Prop}
theorem wZ.thn (h:wZ A) (k:wZ B):wZ (Thn A B):=by
 rintro a b (⟨h1,h2⟩ | ⟨h1,h2⟩) (⟨h3,h4⟩ | ⟨h3,h4⟩)
 ·exact h _ _ h1 h3
 ·exact absurd (h _ _ h1 h3) h2
 ·exact absurd (h _ _ h3 h1) h4
 ·exact k _ _ h2 h4
variable {n:Nat} {E:Nat→Int→Prop}
theorem wZ.fst (h:∀i,wZ (E i)):wZ (Fst n E):=by
 rintro a b (⟨i,h1,h2,h3,h4⟩ | ⟨h1,h2⟩) (⟨j,k1,k2,k3,k4⟩ | ⟨k1,k2⟩)
 ·rcases Nat.lt_trichotomy i j with q | q | q
  ·exact absurd (h _ _ _ h3 (k2 i q)) h4
  ·subst q; exact h _ _ _ h3 k3
  ·exact absurd (h _ _ _ k3 (h2 j q)) k4
 ·exact absurd (h _ _ _ h3 (k1 i h1)) h4
 ·exact absurd (h _ _ _ k3 (h1 j k1)) k4
 ·rw [h2,k2]
theorem QY (h:A r) (hr:r≠0):Thn A B r:=.inl ⟨h,hr⟩
theorem lW (h:A 0) (k:B r):Thn A B r:=.inr ⟨h,k⟩
variable {i:Nat}
theorem K6 (hi:i<n) (h:∀k:Nat,(k:Int)<i→E k 0) (he:E i r) (hr:r≠0):Fst n E r:=.inl ⟨i,hi,λ k hk=>h k om,he,hr⟩
theorem EH (h:∀k:Nat,k<n→E k 0):Fst n E 0:=.inr ⟨h,rfl⟩
def acj (n:Int) (g:fA):Int→Prop:=
 BD ((g.bT.length:Int)=0∨(g.aC.length:Int)=0) 9<|
 BD (8<(g.aC.length:Int)) 3<|
 BD (∃j:Nat,(j:Int)<g.bT.length∧¬(0≤g.bT.getD j 0∧g.bT.getD j 0<n)) 2<|
 BD (∃j:Nat,1≤j∧(j:Int)<g.bT.length∧g.bT.getD j 0≤g.bT.getD (j - 1) 0) 12<|
 BD (∃j:Nat,(j:Int)<g.aC.length∧¬Jk (g.aC.getD j ByteArray.empty)) 1<|
 BD (∃k j:Nat,j<k∧(k:Int)<g.aC.length∧(g.aC.getD j ByteArray.empty).toList=(g.aC.getD k ByteArray.empty).toList) 5<|
 λ r=>r=0
theorem acj.fun {n:Int} {g:fA}:wZ (acj n g):=.zS (.zS (.zS (.zS (.zS (.zS .zero)))))
def acn (p:bI) (i:Nat):Int→Prop:=
 BD (¬Jk (p.aF.getD i aM).uo) 1<|
 BD (∃k:Nat,k<i∧(p.aF.getD k aM).uo.toList=(p.aF.getD i aM).uo.toList) 5<|
 acj p.bT (p.aF.getD i aM)
theorem acn.fun {p:bI} :wZ (acn p i):=.zS (.zS acj.fun)
def UN (p:bI):Int→Prop:=
 BD (p.bT<0∨64<p.bT) 2<|
 BD (24<(p.aF.length:Int)) 3<|
 Fst p.aF.length (acn p)
theorem UN.fun {p:bI}:wZ (UN p):=.zS (.zS (.fst λ _=>acn.fun))
theorem QZ {l:List Int} {g:Int} (h:∀j:Nat,(j:Int)<g→1≤j→l.getD (j - 1) 0<l.getD j 0) (hg:(l.length:Int)≤g):¬ ∃j:Nat,1≤j∧(j:Int)<l.length∧l.getD j 0≤l.getD (j - 1) 0:=λ ⟨j,h1,h2,h3⟩=>by
 have:=h j om h1;omega
theorem jv {P:Nat→Prop} {g:Int} (h:∀j:Nat,(j:Int)<g→P j) (hg:(n:Int)≤g):¬ ∃j:Nat,(j:Int)<n∧¬P j:=λ ⟨j,h1,h2⟩=>h2 (h j om)
theorem Ar {s_:ByteArray}:W (r9 s_) (λ r=>r=true↔Jk s_):=by
 unfold r9;refine aR (by (intro hc; have:=QX hc; omega)) ?_;refine aR (by (intro hc; simp only [Bool.or_eq_false_iff] at hc; have:=QX (s:=s_) (by simp only [Bool.or_eq_false_iff]; exact hc.1); omega)) ?_;refine fO ?_ ?_<;>intro c1
 ·have Yc:=c1;have c1:=vP c1;refine bY ?_;(constructor; (intro e; cases e); (rintro ⟨⟨a1,a2⟩,⟨a3,a4⟩,a5⟩; simp only [Bool.or_eq_true,decide_eq_true_eq] at Yc; rcases Yc with ((c | c) | c) | c; (rw [ahr a1] at c; cases c); all_goals omega))
 ·have Yc:=c1;have c1:=vP c1;have hsz:0<s_.size∧s_.size≤16:=aah Yc;refine fK (λ (g1:Int)=>1≤g1∧(∀j:Nat,(j:Int)<g1→1≤j→eX s_ j=45∨(48≤eX s_ j∧eX s_ j≤57)∨(97≤eX s_ j∧eX s_ j≤122))) (λ (g1:Int)=>(s_.size - g1).toNat) ?_ ?_
  ·intro av g1 uH j5;obtain ⟨oG,gW⟩:=uH;unfold Iw;refine wi ?_ ?_<;>intro c2
   ·refine wn<|wi ?_ ?_<;>intro c3
    ·refine bY ?_;(constructor; (intro e; cases e); (rintro ⟨_,_,a5⟩; have:=a5 g1.toNat om; omega))
    ·refine wn<|j5 _ ?_ ?_
     ·(refine ⟨ob,λ j h1 h2=>?_⟩; by_cases q:(j:Int)<g1; (exact gW j q h2); (have e:j=g1.toNat:=by omega); subst e; omega)
     ·exact ob
   ·refine bY ?_;(constructor; (intro _; refine ⟨om,om,λ j hj=>?_⟩; by_cases q:j=0; (subst q; exact .inr (.inr ⟨om,om⟩)); exact gW j om om); (intro _; rfl))
  ·(refine ⟨ob,λ j h1 h2=>by omega⟩)
theorem Au {s_:List ByteArray} {v_:ByteArray} (h1:s_.length≤2000000):W (slices_Index_string s_ v_) (λ r=>(0≤r↔∃j:Nat,(j:Int)<s_.length∧(s_.getD j ByteArray.empty).toList=v_.toList)):=by
 unfold slices_Index_string;refine fK (λ (g1:Int)=>0≤g1∧(∀j:Nat,(j:Int)<g1→(s_.getD j ByteArray.empty).toList≠v_.toList)) (λ (g1:Int)=>(s_.length - g1).toNat) ?_ ?_
 ·intro av g1 uH j5;obtain ⟨oG,gW⟩:=uH;unfold qG;refine wi ?_ ?_<;>intro c1
  ·refine wn<|wi ?_ ?_<;>intro c2
   ·refine bY ?_;(constructor; (intro _; exact ⟨g1.toNat,om,c2.symm⟩); (intro _; omega))
   ·refine wn<|j5 _ ?_ ?_
    ·(refine ⟨ob,jm gW oG (λ e=>c2 e.symm)⟩)
    ·exact ob
  ·refine bY ?_;(constructor; (intro e; omega); (rintro ⟨j,h1,h2⟩; exact absurd h2 (gW j om)))
 ·(refine ⟨ob,λ j hj=>by (try dsimp only at hj); omega⟩)
theorem w9 {s_:List ByteArray} {v_:ByteArray} (h1:s_.length≤2000000):W (slices_Contains_string s_ v_) (λ r=>r=true↔∃j:Nat,(j:Int)<s_.length∧(s_.getD j ByteArray.empty).toList=v_.toList):=by
 unfold slices_Contains_string;refine dD (Au ob) λ v1 hv1=>?_;refine bY ?_;(rw [← hv1]; simp)
theorem R6 {CX:Int} {g_:fA} (h1:g_.bT.length≤2000000) (h2:g_.aC.length≤2000000):W (Aj CX g_) (λ r=>acj CX g_ r):=by
 unfold Aj;refine wi ?_ ?_<;>intro c1
 ·exact bY<|iA c1
 ·refine wi ?_ ?_<;>intro c2
  ·exact bY<|cB om (iA c2)
  ·refine fK (λ (g1:Int)=>0≤g1∧(∀j:Nat,(j:Int)<g1→0≤g_.bT.getD j 0∧g_.bT.getD j 0<CX)) (λ (g1:Int)=>(g_.bT.length - g1).toNat) ?_ ?_
   ·intro av g1 uH j5;obtain ⟨oG,gW⟩:=uH;unfold Fw;refine wi ?_ ?_<;>intro c3
    ·refine wn<|wi ?_ ?_<;>intro c4
     ·exact bY<|cB om (cB om (iA ⟨g1.toNat,om,om⟩))
     ·refine wn<|j5 _ ?_ ?_
      ·(refine ⟨ob,jm gW oG om⟩)
      ·exact ob
    ·refine fK (λ (g2:Int)=>1≤g2∧(∀j:Nat,(j:Int)<g2→1≤j→g_.bT.getD (j - 1) 0<g_.bT.getD j 0)) (λ (g2:Int)=>(g_.bT.length - g2).toNat) ?_ ?_
     ·intro dL g2 afS afT;obtain ⟨aev,BF⟩:=afS;unfold CW;refine wi ?_ ?_<;>intro c5
      ·refine wm<|wn ?_;refine wi ?_ ?_<;>intro c6
       ·exact bY<|cB om (cB om (cB (jv gW om) (iA ⟨g2.toNat,om,om,by rw [show g2.toNat - 1=(g2 - 1).toNat by omega]; omega⟩)))
       ·refine wn<|afT _ ?_ ?_
        ·(refine ⟨ob,λ j h1 h2=>?_⟩; by_cases q:(j:Int)<g2; (exact BF j q h2); (have e:j=g2.toNat:=by omega); subst e; rw [show g2.toNat - 1=(g2 - 1).toNat by omega]; omega)
        ·exact ob
      ·refine fK (λ (g3:Int)=>0≤g3∧(∀j:Nat,(j:Int)<g3→Jk (g_.aC.getD j ByteArray.empty))) (λ (g3:Int)=>(g_.aC.length - g3).toNat) ?_ ?_
       ·intro iZ g3 afU afV;obtain ⟨aco,FJ⟩:=afU;unfold CV;refine wi ?_ ?_<;>intro c7
        ·refine wn<|dD (Ar) λ v3 hv3=>?_;refine fO ?_ ?_<;>intro c8
         ·have c8o:=c8;have c8:=vP c8;exact bY<|cB om (cB om (cB (jv gW om) (cB (QZ BF om) (iA ⟨g3.toNat,om,λ h=>by simp [hv3.2 h] at c8o⟩))))
         ·have c8o:=c8;have c8:=vP c8;refine wn<|afV _ ?_ ?_
          ·(refine ⟨ob,jm FJ aco (hv3.1 (by simpa using c8o))⟩)
          ·exact ob
        ·refine fK (λ (g4:Int)=>0≤g4∧(∀k:Nat,(k:Int)<g4→∀j:Nat,j<k→(g_.aC.getD j ByteArray.empty).toList≠(g_.aC.getD k ByteArray.empty).toList)) (λ (g4:Int)=>(g_.aC.length - g4).toNat) ?_ ?_
         ·intro nN g4 afW afX;obtain ⟨aew,M0⟩:=afW;unfold CU;refine wi ?_ ?_<;>intro c9
          ·refine wm<|dD (w9 ob) λ v6 hv6=>?_;refine fO ?_ ?_<;>intro c10
           ·have ahs:=c10;have c10:=vP c10;exact bY (cB om (cB om (cB (jv gW om) (cB (QZ BF om) (cB (jv FJ om) (iA (by obtain ⟨j,h1,h2⟩:=hv6.1 c10; rw [List.length_take] at h1; rw [Tj _ _ _ _ om] at h2; exact ⟨g4.toNat,j,om,om,h2⟩)))))))
           ·have ahs:=c10;have c10:=vP c10;refine wn<|afX _ ?_ ?_
            ·(refine ⟨ob,λ k hk j hj=>?_⟩; by_cases q:(k:Int)<g4; (exact M0 k q j hj); (have e:k=g4.toNat:=by omega); subst e; intro e2; have:=hv6.2 ⟨j,by rw [List.length_take]; omega,by rw [Tj _ _ _ _ om]; exact e2⟩; simp [this] at ahs)
            ·exact ob
          ·exact bY (cB om (cB om (cB (jv gW om) (cB (QZ BF om) (cB (jv FJ om) (cB (λ ⟨k,j,h1,h2,h3⟩=>M0 k om j h1 h3) rfl))))))
         ·(refine ⟨ob,λ j h1 h2=>by omega⟩)
       ·(refine ⟨ob,λ j hj=>by (try dsimp only at hj); omega⟩)
     ·(refine ⟨ob,λ j h1 h2=>by omega⟩)
   ·(refine ⟨ob,λ j hj=>by (try dsimp only at hj); omega⟩)
def RsE (l:List fF) (i:Nat):Int→Prop:=
 BD (∃j:Nat,(j:Int)<((l.getD i gF).iF).length∧¬(0≤((l.getD i gF).iF).getD j 0∧((l.getD i gF).iF).getD j 0<(i:Int))) 2<|
 BD (∃j:Nat,1≤j∧(j:Int)<((l.getD i gF).iF).length∧((l.getD i gF).iF).getD j 0≤((l.getD i gF).iF).getD (j - 1) 0) 12<|
 λ r=>r=0
def RsA (l:List fF):Int→Prop:=BD (32<(l.length:Int)) 3<|Fst l.length (RsE l)
theorem RsA.fun {l:List fF}:wZ (RsA l):=.zS (.fst λ _=>.zS (.zS .zero))
theorem yg (hc:c≠0) (h:BD p c A 0):¬p∧A 0:=by
 rcases h with ⟨_,h⟩ | h
 ·exact absurd h.symm hc
 ·exact h
theorem aey (h:Fst n E 0):∀k,k<n→E k 0:=by
 rcases h with ⟨_,_,_,_,h⟩ | h
 ·exact absurd rfl h
 ·exact h.1
theorem RsA.ok {l:List fF} (h:RsA l 0):afN l:=by
 obtain ⟨h1,h2⟩:=yg (by decide) h;refine ⟨om,λ i hi=>DL 0 λ j hj=>?_⟩;obtain ⟨h3,_⟩:=yg (by decide) (aey h2 i hi);by_cases q:0≤((l.getD i gF).iF).getD j 0∧((l.getD i gF).iF).getD j 0<(i:Int)
 ·exact q
 ·exact absurd ⟨j,om,q⟩ h3
def ai9 (l:List fF) (s:List Bool):Prop:=(s.length:Int)=l.length∧∀i:Nat,(i:Int)<l.length→∀j:Nat,(j:Int)<((l.getD i gF).iF).length→s.getD i false=true→s.getD (((l.getD i gF).iF).getD j 0).toNat false=true
def DmA (l:List eF):Int→Prop:=BD (16<(l.length:Int)) 3<|BD (∃i:Nat,(i:Int)<l.length∧¬(-1≤(l.getD i jI).dx∧(l.getD i jI).dx<(i:Int))) 2<|λ r=>r=0
theorem DmA.fun {l:List eF}:wZ (DmA l):=.zS (.zS .zero)
theorem DmA.ok {l:List eF} (h:DmA l 0):afO l:=by
 obtain ⟨h1,h2⟩:=yg (by decide) h;obtain ⟨h3,_⟩:=yg (by decide) h2;refine ⟨om,λ i hi=>?_⟩;by_cases q : -1≤(l.getD i jI).dx∧(l.getD i jI).dx<(i:Int)
 ·exact q
 ·exact absurd ⟨i,om,q⟩ h3
def DgP (l:List eF) (s:List Bool) (i:Nat):Prop:=((l.getD i jI).nk=true→s.getD i false=true)∧(s.getD i false=true→0≤(l.getD i jI).dx→s.getD (l.getD i jI).dx.toNat false=true)
def RgP (l:List eF) (s:List Bool):Prop:=(s.length:Int)=l.length∧∀i:Nat,(i:Int)<l.length→DgP l s i
def afY (l:List ay) (m:List Int):Prop:=∀i:Nat,(i:Int)<m.length→(0≤m.getD i 0∧m.getD i 0<l.length)∧∀k:Nat,k<i→m.getD k 0≠m.getD i 0
def aja (b:aW) (l:List ay) (g:cZ):Prop:=((g.dB.length:Int)=b.bM.length∧(g.dF.On.length:Int)=b.aT.length∧(g.dF.dX.length:Int)=b.aT.length∧(g.dh.length:Int)=b.bg.length∧(g.dJ.length:Int)=b.bF.length)∧
 (∀i:Nat,(i:Int)<g.dB.length→0≤g.dB.getD i 0∧g.dB.getD i 0<(b.bM.getD i bK).bS.length)∧∀i:Nat,(i:Int)<g.dR.length → -1≤(g.dR.getD i cK).dM∧(g.dR.getD i cK).dM<l.length
theorem R7 {p_:bI} (h1:∀g∈p_.aF,g.bT.length≤2000000∧g.aC.length≤2000000):W (pz p_) (λ r=>UN p_ r):=by
 unfold pz;refine wi ?_ ?_<;>intro c1
 ·exact bY<|iA c1
 ·refine wi ?_ ?_<;>intro c2
  ·exact bY<|cB om (iA c2)
  ·refine fK (λ (g1:(Int×(kM→Option Int)))=>0≤g1.1∧(∀j:Nat,(j:Int)<g1.1→acn p_ j 0)∧(∀s:ByteArray,vS g1.2 (.s s)≠0↔∃k:Nat,(k:Int)<g1.1∧(p_.aF.getD k aM).uo=s)) (λ (g1:(Int×(kM→Option Int)))=>(p_.aF.length - g1.1).toNat) ?_ ?_
   ·intro av g1 uH j5;obtain ⟨oG,gW,rJ⟩:=uH;unfold Fx;refine wi ?_ ?_<;>intro c3
    ·have hgl:=h1 _ (getD_in (i:=g1.1.toNat) aM om);refine wn<|dD (Ar) λ v5 hv5=>?_;refine fO ?_ ?_<;>intro c4
     ·have c4o:=c4;have c4:=vP c4;exact bY (cB om (cB om (K6 (i:=g1.1.toNat) om (λ k hk=>gW k om) (iA (λ h=>by simp [hv5.2 h] at c4o)) (by decide))))
     ·have c4o:=c4;have c4:=vP c4;refine wi ?_ ?_<;>intro c5
      ·exact bY (cB om (cB om (K6 (i:=g1.1.toNat) om (λ k hk=>gW k om) (cB (λ h=>h (hv5.1 (by simpa using c4o))) (iA (by obtain ⟨k,h1,h2⟩:=(rJ _).1 c5; exact ⟨k,om,by rw [h2]⟩))) (by decide))))
      ·refine dD (R6 hgl.1 hgl.2) λ v6 hv6=>?_;refine fO ?_ ?_<;>intro c6
       ·have c6o:=c6;have c6:=vP c6;exact bY (cB om (cB om (K6 (i:=g1.1.toNat) om (λ k hk=>gW k om) (cB (λ h=>h (hv5.1 (by simpa using c4o))) (cB (λ ⟨k,h1,h2⟩=>(rJ _).2 ⟨k,om,Yd h2⟩ c5) hv6)) (c6))))
       ·have c6o:=c6;have c6:=vP c6;refine wn<|j5 _ ?_ ?_
        ·(refine ⟨ob,jm gW oG (cB (λ h=>h (hv5.1 (by simpa using c4o))) (cB (λ ⟨k,h1,h2⟩=>(rJ _).2 ⟨k,om,Yd h2⟩ c5) (by have e:v6=0:=(by simpa using c6o); rw [e] at hv6; exact hv6))),λ s=>?_⟩; dsimp only; rw [aak]; by_cases q:(.s s:kM)=.s (p_.aF.getD g1.1.toNat aM).uo; (rw [if_pos q]; constructor; (intro _; exact ⟨g1.1.toNat,om,(kM.s.inj q).symm⟩); (intro _; decide)); (rw [if_neg q,rJ]; constructor; (rintro ⟨k,h1,h2⟩; exact ⟨k,om,h2⟩); (rintro ⟨k,h1,h2⟩; refine ⟨k,?_,h2⟩; by_cases e:(k:Int)<g1.1; (exact e); exfalso; apply q; rw [← h2,show k=g1.1.toNat by omega])))
        ·exact ob
    ·exact bY (cB om (cB om (EH (λ k hk=>gW k om))))
   ·(refine ⟨ob,λ j hj=>by dsimp only at hj; omega,λ s=>?_⟩; constructor; (intro h; exact absurd rfl h); (rintro ⟨k,h1,_⟩; dsimp only at h1; omega))
theorem Q0 {l_:List fF} (h1:∀g∈l_,g.iF.length≤2000000):W (p8 l_) (λ r=>RsA l_ r):=by
 unfold p8;refine wi ?_ ?_<;>intro c1
 ·exact bY<|iA c1
 ·refine fK (λ (g1:Int)=>0≤g1∧(∀j:Nat,(j:Int)<g1→RsE l_ j 0)) (λ (g1:Int)=>(l_.length - g1).toNat) ?_ ?_
  ·intro av g1 uH j5;obtain ⟨oG,gW⟩:=uH;unfold CZ;refine wi ?_ ?_<;>intro c2
   ·have hgl:=h1 _ (getD_in (i:=g1.toNat) gF om);refine wn<|fK (λ (g6:Int)=>0≤g6∧(∀j:Nat,(j:Int)<g6→0≤((l_.getD g1.toNat gF).iF).getD j 0∧((l_.getD g1.toNat gF).iF).getD j 0<((g1.toNat:Nat):Int))) (λ (g6:Int)=>(((l_.getD g1.toNat gF).iF).length - g6).toNat) ?_ ?_
    ·intro jL g6 afZ af0;obtain ⟨aeA,Tk⟩:=afZ;unfold CY;refine wi ?_ ?_<;>intro c3
     ·refine wn<|wi ?_ ?_<;>intro c4
      ·exact bY<|cB om (K6 (i:=g1.toNat) om (λ k hk=>gW k om) (iA ⟨g6.toNat,om,om⟩) (by decide))
      ·refine wn<|af0 _ ?_ ?_
       ·(refine ⟨ob,jm Tk aeA om⟩)
       ·exact ob
     ·refine fK (λ (g7:Int)=>1≤g7∧(∀j:Nat,(j:Int)<g7→1≤j→((l_.getD g1.toNat gF).iF).getD (j - 1) 0<((l_.getD g1.toNat gF).iF).getD j 0)) (λ (g7:Int)=>(((l_.getD g1.toNat gF).iF).length - g7).toNat) ?_ ?_
      ·intro uU g7 ajb ajc;obtain ⟨als,aeB⟩:=ajb;unfold Bc;refine wi ?_ ?_<;>intro c5
       ·refine wm<|wn ?_;refine wi ?_ ?_<;>intro c6
        ·exact bY<|cB om (K6 (i:=g1.toNat) om (λ k hk=>gW k om) (cB (jv Tk om) (iA ⟨g7.toNat,om,om,by rw [show g7.toNat - 1=(g7 - 1).toNat by omega]; omega⟩)) (by decide))
        ·refine wn<|ajc _ ?_ ?_
         ·(refine ⟨ob,λ j h1 h2=>?_⟩; by_cases q:(j:Int)<g7; (exact aeB j q h2); (have e:j=g7.toNat:=by omega); subst e; rw [show g7.toNat - 1=(g7 - 1).toNat by omega]; omega)
         ·exact ob
       ·refine wn<|j5 _ ?_ ?_
        ·(refine ⟨ob,jm gW oG (cB (jv Tk om) (cB (QZ aeB om) rfl))⟩)
        ·exact ob
      ·(refine ⟨ob,λ j h1 h2=>by omega⟩)
    ·(refine ⟨ob,λ j hj=>by (try dsimp only at hj); omega⟩)
   ·exact bY<|cB om (EH λ k hk=>gW k om)
  ·(refine ⟨ob,λ j hj=>by (try dsimp only at hj); omega⟩)
theorem NY {l_:List eF}:W (nE l_) (λ r=>DmA l_ r):=by
 unfold nE;refine wi ?_ ?_<;>intro c1
 ·exact bY<|iA c1
 ·refine fK (λ (g1:Int)=>0≤g1∧(∀j:Nat,(j:Int)<g1 → -1≤(l_.getD j jI).dx∧(l_.getD j jI).dx<(j:Int))) (λ (g1:Int)=>(l_.length - g1).toNat) ?_ ?_
  ·intro av g1 uH j5;obtain ⟨oG,gW⟩:=uH;unfold Bd;refine wi ?_ ?_<;>intro c2
   ·refine wn<|wi ?_ ?_<;>intro c3
    ·exact bY<|cB om (iA ⟨g1.toNat,om,om⟩)
    ·refine wn<|j5 _ ?_ ?_
     ·(refine ⟨ob,jm gW oG om⟩)
     ·exact ob
   ·exact bY<|cB om (cB (jv gW om) rfl)
  ·(refine ⟨ob,λ j hj=>by (try dsimp only at hj); omega⟩)
def NdE (b:aW) (n:ay) (dv:Int):Int→Prop:=
 BD (32<(n.eH.length:Int)∨32<(n.fU.length:Int)∨10<(n.aC.length:Int)) 3<|
 BD (∃j:Nat,(j:Int)<n.eH.length∧¬aai b.bM.length (n.eH.getD j lU)) 2<|
 BD (∃j:Nat,(j:Int)<n.fU.length∧¬aaj b.aT.length (n.fU.getD j fI)) 2<|
 BD (∃j:Nat,(j:Int)<n.aC.length∧¬Jk (n.aC.getD j ByteArray.empty)) 1<|
 BD (∃j:Nat,(j:Int)<n.bg.length∧¬(0≤n.bg.getD j 0∧n.bg.getD j 0<b.bg.length)) 2<|
 BD (¬(-1≤n.gy∧n.gy<b.bF.length)) 2<|
 BD (∃j:Nat,(j:Int)<n.aO.length∧¬(0≤n.aO.getD j 0∧n.aO.getD j 0<dv)) 2<|
 BD (∃j:Nat,1≤j∧(j:Int)<n.aO.length∧n.aO.getD j 0≤n.aO.getD (j - 1) 0) 12<|
 λ r=>r=0
variable {b:aW}
theorem NdE.fun {n:ay} {dv:Int}:wZ (NdE b n dv):=.zS (.zS (.zS (.zS (.zS (.zS (.zS (.zS .zero)))))))
def Gw (b:aW):Int→Prop:=Thn (λ r=>r=jG b.bM)<|Thn (λ r=>r=Sp.jG b.aT)<|Thn (UN b.aU)<|Thn (RsA b.bg) (DmA b.bF)
theorem Gw.fun:wZ (Gw b):=.thn (λ _ _ h k=>h.trans k.symm) (.thn (λ _ _ h k=>h.trans k.symm) (.thn UN.fun (.thn RsA.fun DmA.fun)))
def Tm (b:aW) (l:List ay):Int→Prop:=Thn (Gw b)<|BD (12<(l.length:Int)) 3<|Fst l.length λ i=>NdE b (l.getD i bE) l.length
variable {l:List ay}
theorem Tm.fun:wZ (Tm b l):=.thn Gw.fun (.zS (.fst λ _=>NdE.fun))
variable {b_:aW}
theorem Q5 (h1:aci b_) (h2:∀g∈b_.aU.aF,g.bT.length≤2000000∧g.aC.length≤2000000):W (xK b_) (λ r=>Gw b_ r):=by
 obtain ⟨z1,z2,z3,z4,z5,z6,z7⟩:=h1;unfold xK;refine dD (H7 (R5 ob)) λ v1 hv1=>?_;subst v1;refine wi ?_ ?_<;>intro c1
 ·exact bY<|QY rfl c1
 ·refine dD (Sp.QW ob) λ v2 hv2=>?_;subst v2;refine wi ?_ ?_<;>intro c2
  ·exact bY<|lW c1.symm (QY rfl c2)
  ·refine dD (R7 h2) λ v3 hv3=>?_;refine wi ?_ ?_<;>intro c3
   ·exact bY<|lW c1.symm (lW c2.symm (QY hv3 c3))
   ·refine dD (Q0 ob) λ v4 hv4=>?_;refine wi ?_ ?_<;>intro c4
    ·exact bY<|lW c1.symm (lW c2.symm (lW (c3 ▸ hv3) (QY hv4 c4)))
    ·refine dD (NY) λ v5 hv5=>?_;exact bY<|lW c1.symm (lW c2.symm (lW (c3 ▸ hv3) (lW (c4 ▸ hv4) hv5)))
theorem R8 {n_:ay} {fZ:Int} (h1:aci b_) (h2:0≤fZ) (h3:fZ≤2000000) (h4:n_.bg.length≤2000000) (h5:n_.aO.length≤2000000):W (Ak b_ n_ fZ) (λ r=>NdE b_ n_ fZ r):=by
 obtain ⟨z1,z2,z3,z4,z5,z6,z7⟩:=h1;unfold Ak;refine wi ?_ ?_<;>intro c1
 ·exact bY<|iA om
 ·refine fK (λ (g1:Int)=>0≤g1∧(∀j:Nat,(j:Int)<g1→aai b_.bM.length (n_.eH.getD j lU))) (λ (g1:Int)=>(n_.eH.length - g1).toNat) ?_ ?_
  ·intro av g1 uH j5;obtain ⟨oG,gW⟩:=uH;unfold Fy;refine wi ?_ ?_<;>intro c2
   ·refine wm<|dD (sI) λ v3 hv3=>?_;subst v3;refine wi ?_ ?_<;>intro c3
    ·exact bY (cB om (iA ⟨g1.toNat,om,λ ⟨_,_,_,_,_⟩=>by omega⟩))
    ·refine wn<|j5 _ ?_ ?_
     ·(refine ⟨ob,jm gW oG ⟨om,om,om,om,om⟩⟩)
     ·exact ob
   ·refine fK (λ (g2:Int)=>0≤g2∧(∀j:Nat,(j:Int)<g2→aaj b_.aT.length (n_.fU.getD j fI))) (λ (g2:Int)=>(n_.fU.length - g2).toNat) ?_ ?_
    ·intro dL g2 afS afT;obtain ⟨aev,BF⟩:=afS;unfold Dc;refine wi ?_ ?_<;>intro c4
     ·refine wm<|dD (sI) λ v8 OB=>?_;subst v8;refine dD (sF λ hc=>PS (sI)) λ v9 UW=>?_;subst v9;refine wi ?_ ?_<;>intro c5
      ·exact bY (cB om (cB (jv gW om) (iA ⟨g2.toNat,om,λ ⟨_,_,_,_,_,_,_⟩=>by omega⟩)))
      ·refine wn<|afT _ ?_ ?_
       ·(refine ⟨ob,jm BF aev ⟨om,om,om,om,om,om,om⟩⟩)
       ·exact ob
     ·refine fK (λ (g3:Int)=>0≤g3∧(∀j:Nat,(j:Int)<g3→Jk (n_.aC.getD j ByteArray.empty))) (λ (g3:Int)=>(n_.aC.length - g3).toNat) ?_ ?_
      ·intro iZ g3 afU afV;obtain ⟨aco,FJ⟩:=afU;unfold Db;refine wi ?_ ?_<;>intro c6
       ·refine wn<|dD (Ar) λ v12 aal=>?_;refine fO ?_ ?_<;>intro c7
        ·have c7o:=c7;have c7:=vP c7;exact bY (cB om (cB (jv gW om) (cB (jv BF om) (iA ⟨g3.toNat,om,λ h=>by simp [aal.2 h] at c7o⟩))))
        ·have c7o:=c7;have c7:=vP c7;refine wn<|afV _ ?_ ?_
         ·(refine ⟨ob,jm FJ aco (aal.1 (by simpa using c7o))⟩)
         ·exact ob
       ·refine fK (λ (g4:Int)=>0≤g4∧(∀j:Nat,(j:Int)<g4→0≤n_.bg.getD j 0∧n_.bg.getD j 0<b_.bg.length)) (λ (g4:Int)=>(n_.bg.length - g4).toNat) ?_ ?_
        ·intro nN g4 afW afX;obtain ⟨aew,M0⟩:=afW;unfold Da;refine wi ?_ ?_<;>intro c8
         ·refine wm<|dD (sI) λ v15 amm=>?_;subst v15;refine wi ?_ ?_<;>intro c9
          ·exact bY (cB om (cB (jv gW om) (cB (jv BF om) (cB (jv FJ om) (iA ⟨g4.toNat,om,om⟩)))))
          ·refine wn<|afX _ ?_ ?_
           ·(refine ⟨ob,jm M0 aew om⟩)
           ·exact ob
         ·refine wn<|dD (sI) λ v16 amn=>?_;subst v16;refine wi ?_ ?_<;>intro c10
          ·exact bY (cB om (cB (jv gW om) (cB (jv BF om) (cB (jv FJ om) (cB (jv M0 om) (iA om))))))
          ·refine fK (λ (g5:Int)=>0≤g5∧(∀j:Nat,(j:Int)<g5→0≤n_.aO.getD j 0∧n_.aO.getD j 0<fZ)) (λ (g5:Int)=>(n_.aO.length - g5).toNat) ?_ ?_
           ·intro uT g5 aje ajf;obtain ⟨ahu,acp⟩:=aje;unfold C9;refine wi ?_ ?_<;>intro c11
            ·refine wm<|dD (sI) λ v19 amo=>?_;subst v19;refine wi ?_ ?_<;>intro c12
             ·exact bY (cB om (cB (jv gW om) (cB (jv BF om) (cB (jv FJ om) (cB (jv M0 om) (cB om (iA ⟨g5.toNat,om,om⟩)))))))
             ·refine wn<|ajf _ ?_ ?_
              ·(refine ⟨ob,jm acp ahu om⟩)
              ·exact ob
            ·refine fK (λ (g6:Int)=>1≤g6∧(∀j:Nat,(j:Int)<g6→1≤j→n_.aO.getD (j - 1) 0<n_.aO.getD j 0)) (λ (g6:Int)=>(n_.aO.length - g6).toNat) ?_ ?_
             ·intro jL g6 afZ af0;obtain ⟨aeA,Tk⟩:=afZ;unfold C8;refine wi ?_ ?_<;>intro c13
              ·refine wm<|wn ?_;refine wi ?_ ?_<;>intro c14
               ·exact bY (cB om (cB (jv gW om) (cB (jv BF om) (cB (jv FJ om) (cB (jv M0 om) (cB om (cB (jv acp om) (iA ⟨g6.toNat,om,om,by rw [show g6.toNat - 1=(g6 - 1).toNat by omega]; omega⟩))))))))
               ·refine wn<|af0 _ ?_ ?_
                ·(refine ⟨ob,λ j h1 h2=>?_⟩; by_cases q:(j:Int)<g6; (exact Tk j q h2); (have e:j=g6.toNat:=by omega); subst e; rw [show g6.toNat - 1=(g6 - 1).toNat by omega]; omega)
                ·exact ob
              ·exact bY (cB om (cB (jv gW om) (cB (jv BF om) (cB (jv FJ om) (cB (jv M0 om) (cB om (cB (jv acp om) (cB (QZ Tk om) (rfl)))))))))
             ·(refine ⟨ob,λ j h1 h2=>by omega⟩)
           ·(refine ⟨ob,λ j hj=>by (try dsimp only at hj); omega⟩)
        ·(refine ⟨ob,λ j hj=>by (try dsimp only at hj); omega⟩)
      ·(refine ⟨ob,λ j hj=>by (try dsimp only at hj); omega⟩)
    ·(refine ⟨ob,λ j hj=>by (try dsimp only at hj); omega⟩)
  ·(refine ⟨ob,λ j hj=>by (try dsimp only at hj); omega⟩)
theorem R9 {l_:List ay} (h1:aci b_) (h2:∀g∈b_.aU.aF,g.bT.length≤2000000∧g.aC.length≤2000000) (h3:afP l_):W (kW b_ l_) (λ r=>Tm b_ l_ r):=by
 obtain ⟨w1,w2⟩:=h3;unfold kW;refine dD (Q5 h1 h2) λ v1 hv1=>?_;refine wi ?_ ?_<;>intro c1
 ·exact bY<|QY hv1 c1
 ·refine wi ?_ ?_<;>intro c2
  ·exact bY<|lW (c1 ▸ hv1) (iA c2)
  ·refine fK (λ (g1:Int)=>0≤g1∧(∀j:Nat,(j:Int)<g1→NdE b_ (l_.getD j bE) l_.length 0)) (λ (g1:Int)=>(l_.length - g1).toNat) ?_ ?_
   ·intro av g1 uH j5;obtain ⟨oG,gW⟩:=uH;unfold Fz;refine wi ?_ ?_<;>intro c3
    ·have hw:=w2 _ (getD_in (i:=g1.toNat) bE om);refine wn<|dD (R8 ob ob ob ob ob) λ v4 hv4=>?_;refine wi ?_ ?_<;>intro c4
     ·exact bY<|lW (c1 ▸ hv1) (cB om (K6 (i:=g1.toNat) om (λ k hk=>gW k om) hv4 c4))
     ·refine wn<|j5 _ ?_ ?_
      ·(refine ⟨ob,jm gW oG (by rw [c4] at hv4; exact hv4)⟩)
      ·exact ob
    ·exact bY<|lW (c1 ▸ hv1) (cB om (EH λ k hk=>gW k om))
   ·(refine ⟨ob,λ j hj=>by (try dsimp only at hj); omega⟩)
theorem UN.v {p:bI} (h:UN p 0):ahn p:=by
 obtain ⟨h1,h2⟩:=yg (by decide) h;obtain ⟨h3,h4⟩:=yg (by decide) h2;have h5:=aey h4;have hg:∀i:Nat,(i:Int)<p.aF.length→GpV p.bT (p.aF.getD i aM)∧∀k:Nat,k<i→(p.aF.getD k aM).uo.toList≠(p.aF.getD i aM).uo.toList:=λ i hi=>by
  obtain ⟨a1,a2⟩:=yg (by decide) (h5 i om);obtain ⟨b1,b2⟩:=yg (by decide) a2;obtain ⟨c1,c2⟩:=yg (by decide) b2;obtain ⟨d1,d2⟩:=yg (by decide) c2;obtain ⟨e1,e2⟩:=yg (by decide) d2;obtain ⟨f1,f2⟩:=yg (by decide) e2;obtain ⟨k1,k2⟩:=yg (by decide) f2;obtain ⟨l1,_⟩:=yg (by decide) k2;refine ⟨⟨⟨om,om,DL 0 λ j hj=>?_⟩,Classical.not_not.1 a1,λ k hk hl=>?_,λ j hj=>?_,λ k j hj hk e=>l1 ⟨k,j,hj,hk,e⟩⟩,λ k hk e=>b1 ⟨k,hk,e⟩⟩
  ·exact Classical.byContradiction λ q=>e1 ⟨j,om,q⟩
  ·exact Classical.byContradiction λ q=>f1 ⟨k,hk,hl,om⟩
  ·exact Classical.byContradiction λ q=>k1 ⟨j,hj,q⟩
 exact ⟨⟨om,om,DL aM λ i hi=>(hg i om).1.ok⟩,λ i hi=>(hg i hi).1,λ i k hk hi=>(hg i hi).2 k hk⟩
def ajg (p:bI) (l:List qm) (i:Nat):Prop:=aep p (l.getD i jD)∧(∀k:Nat,k<i→(l.getD k jD).fD≠(l.getD i jD).fD)∧
 ∀k:Nat,k<i→∀a b:Nat,(a:Int)<(p.aF.getD (l.getD k jD).fD.toNat aM).bT.length→(b:Int)<(p.aF.getD (l.getD i jD).fD.toNat aM).bT.length→(p.aF.getD (l.getD k jD).fD.toNat aM).bT.getD a 0≠(p.aF.getD (l.getD i jD).fD.toNat aM).bT.getD b 0
def ahv (p:bI) (l:List qm):Prop:=∀i:Nat,(i:Int)<l.length→ajg p l i
structure NdV (b:aW) (k:Int) (n:ay):Prop where
 ok:ahl b n
 fw:∀j:Nat,(j:Int)<n.aC.length→Jk (n.aC.getD j ByteArray.empty)
 pr:∀x∈n.aO,0≤x∧x<k
 ps:∀k:Nat,1≤k→(k:Int)<n.aO.length→n.aO.getD (k - 1) 0<n.aO.getD k 0
def ajh (l:List Int):Prop:=∀k j:Nat,j<k→(k:Int)<l.length→l.getD j 0≠l.getD k 0
def nmU (p:bI) (u:qm):ByteArray:=((p.aF.getD u.fD.toNat aM).aC.getD u.iw.toNat ByteArray.empty)
def af2 (p:bI) (us:List bN) (m:Int) (f:ByteArray):Nat:=us.countP λ u=>(u.dM==m)&&decide (nmU p u.wV=f)
def cntF (l:List ByteArray) (f:ByteArray):Nat:=l.countP λ x=>decide (x=f)
def ahw (r:gB) (x:bX):Prop:=r.U0≠0∧r.U0≤x.kZ*r.UZ∧x.Low*r.UZ≤r.U0
structure amr (s:dZ):Prop where
 sc:ai4 s
 sh:ai5 s
 bv:BdV s.aK
 dst:ajh s.bB
 st:∀i:Nat,(i:Int)<s.aK.bM.length→0≤s.aH.dB.getD i 0∧s.aH.dB.getD i 0<(s.aK.bM.getD i bK).bS.length
 us:∀u∈s.aH.dR,-1≤u.dM∧u.dM<s.dS.length
 sb:ael s.aK.bM s.aH.dB=true
 mt:sG s.aK.bM s.aH.dB []=true
 lm:∀m∈s.bB,∀x∈(s.dS.getD m.toNat bE).eH,ahw ((UE s.aK.bM s.aH.dB).getD x.Eh.toNat xE) x
 dr:Sp.sG s.aK.aT s.aH.dF (s.bB.flatMap λ m=>(s.dS.getD m.toNat bE).fU)=true
 pn:UsV s.aK.aU (s.aH.dR.map bN.wV)
 fn:∀m∈s.bB,∀f,cntF (s.dS.getD m.toNat bE).aC f≤af2 s.aK.aU s.aH.dR m f
 rs:ahp s.aK.bg s.aH.dh
 rl:∀m∈s.bB,∀x∈(s.dS.getD m.toNat bE).bg,s.aH.dh.getD x.toNat false=true
 dm:ahq s.aK.bF s.aH.dJ
 dl:∀m∈s.bB,0≤(s.dS.getD m.toNat bE).gy→s.aH.dJ.getD (s.dS.getD m.toNat bE).gy.toNat false=true
theorem yh {l:List α} {j:Nat} {v d:α} (hj:j<l.length):(l.set j v).getD j d=v:=by
 rw [List.getD_eq_getElem?_getD,List.getElem?_set_self hj]; rfl
theorem ko {l:List α} {j:Nat} {v d:α} (h:i≠j):(l.set j v).getD i d=l.getD i d:=by
 rw [List.getD_eq_getElem?_getD,List.getElem?_set_ne (Ne.symm h),← List.getD_eq_getElem?_getD]
def aji (r:gB) (x:bX) (bt:Bool):Prop:=r.U0≠0∧r.U0≤x.kZ*r.UZ∧(bt=false→x.Low*r.UZ≤r.U0)
def ajj (b:aW) (g:cZ) (n:ay) (bt:Bool):Prop:=∀j:Nat,(j:Int)<n.eH.length→aji ((UE b.bM g.dB).getD (n.eH.getD j lU).Eh.toNat xE) (n.eH.getD j lU) bt
def ajk (b:aW) (g:cZ) (n:ay) (d:Int):Prop:=∀f:ByteArray,cntF n.aC f≤af2 b.aU g.dR d f
def ajl (g:cZ) (n:ay):Prop:=∀j:Nat,(j:Int)<n.bg.length→g.dh.getD (n.bg.getD j 0).toNat false=true
def ajm (g:cZ) (n:ay):Prop:=0≤n.gy→g.dJ.getD n.gy.toNat false=true
def drM (l:List ay) (ms:List Int):List bU:=ms.flatMap λ m=>(l.getD m.toNat bE).fU
def ajn (b:aW) (l:List ay) (ms:List Int) (g:cZ) (bt:Bool):Prop:=∀i:Nat,(i:Int)<ms.length→ajj b g (l.getD (ms.getD i 0).toNat bE) bt
def ajo (b:aW) (l:List ay) (ms:List Int) (g:cZ):Prop:=∀i:Nat,(i:Int)<ms.length→ajk b g (l.getD (ms.getD i 0).toNat bE) (ms.getD i 0)
def ajp (b:aW) (l:List ay) (ms:List Int) (g:cZ):Prop:=(RsA b.bg 0∧ai9 b.bg g.dh)∧∀i:Nat,(i:Int)<ms.length→ajl g (l.getD (ms.getD i 0).toNat bE)
def ajq (b:aW) (l:List ay) (ms:List Int) (g:cZ):Prop:=(DmA b.bF 0∧RgP b.bF g.dJ)∧∀i:Nat,(i:Int)<ms.length→ajm g (l.getD (ms.getD i 0).toNat bE)
def adU (b:aW) (l:List ay) (ms:List Int) (g:cZ) (bt:Bool):Int→Prop:=
 BD (¬(afY l ms∧aja b l g)) 1<|
 BD (sG b.bM g.dB []=false) 2<|
 BD (¬ajn b l ms g bt) 3<|
 BD (Sp.sG b.aT g.dF (drM l ms)=false) 4<|
 BD (¬(UN b.aU 0∧ahv b.aU (g.dR.map bN.wV))) 5<|
 BD (¬ajo b l ms g) 6<|
 BD (¬ajp b l ms g) 7<|
 BD (¬ajq b l ms g) 8<|
 λ r=>r=0
theorem adU.fun {ms:List Int} {g:cZ} {bt:Bool}:wZ (adU b l ms g bt):=.zS (.zS (.zS (.zS (.zS (.zS (.zS (.zS .zero)))))))
def ahx (b:aW) (l:List ay) (ms:List Int) (g:cZ) (bt:Bool):Int→Prop:=BD (¬Tm b l 0) 1 (adU b l ms g bt)
theorem ahx.fun {ms:List Int} {g:cZ} {bt:Bool}:wZ (ahx b l ms g bt):=.zS adU.fun
def ajr (ms:List Int) (us:List bN):List bN:=us.filter λ u=>ms.contains u.dM
abbrev GA:=List Int×List Bool×List Int×List Bool×List Bool×Int×Int×List bN
structure amt (r:GA):Prop where
 a:r.1.length≤16
 b:r.2.1.length≤16
 c:r.2.2.1.length≤16
 d:r.2.2.2.1.length≤32
 e:r.2.2.2.2.1.length≤16
structure amu (b:aW) (fns:List ByteArray) (dev:Int) (old:List bN) (new:List bN):Prop where
 pa:UN b.aU 0
 len:new.length=fns.length
 bd:fns.length≤10
 at_:∀i:Nat,i<new.length→(new.getD i cK).dM=dev∧0≤(new.getD i cK).wV.fD∧(new.getD i cK).wV.fD<b.aU.aF.length∧(new.getD i cK).wV.iw=ahm (b.aU.aF.getD (new.getD i cK).wV.fD.toNat aM) (fns.getD i ByteArray.empty)
 lst:fns.length=1→∀k∈ai6 b.aU (fns.getD 0 ByteArray.empty) b.aU.aF.length,k<(new.getD 0 cK).wV.fD→
  ∃u∈old,∃x,x∈(b.aU.aF.getD u.wV.fD.toNat aM).bT∧x∈(b.aU.aF.getD k.toNat aM).bT
structure Ga2 (r:GA):Prop where
 a:r.1.length≤2000000
 b:r.2.1.length≤2000000
 c:r.2.2.1.length≤2000000
 d:r.2.2.2.1.length≤2000000
 e:r.2.2.2.2.1.length≤2000000
def ajs (l:List bf) (m:List bX) (s:List Int):Prop:=VS l s∧sG l s m=true∧∀t,VS l t→sG l t m=true→afQ l s≤afQ l t
theorem any_take_succ (P:α→Bool) (l:List α) (d:α) (h:i<l.length):(l.take (i+1)).any P=((l.take i).any P||P (l.getD i d)):=by
 rw [List.take_add_one,List.any_append,List.getElem?_eq_getElem h,List.getD_eq_getElem?_getD,List.getElem?_eq_getElem h];simp
def Low (C:List Bool→Prop) (ls:List Int) (s:List Bool):Prop:=∀t:List Bool,C t→(∀x∈ls,t.getD x.toNat false=true)→∀i:Nat,s.getD i false=true→t.getD i false=true
structure Lst (n:Nat) (C:List Bool→Prop) (ls:List Int) (s:List Bool):Prop where
 ln:s.length=n
 cl:C s
 mm:∀x∈ls,s.getD x.toNat false=true
 lo:Low C ls s
def jn {α:Type} (f:ay→List α) (l:List ay) (ms:List Int):List α:=ms.flatMap λ m=>f (l.getD m.toNat bE)
def usF (n:ay):List Int:=bif decide (n.gy<0) then [] else [n.gy]
structure AgA (b:aW) (l:List ay) (ms:List Int) (us:List bN) (x:cZ):Prop where
 st:ajs b.bM (jn ay.eH l ms) x.dB
 ra:Sp.QU b.aT (jn ay.fU l ms)=(x.dF,0)
 us:x.dR=ajr ms us
 re:Lst b.bg.length (ahp b.bg) (jn ay.bg l ms) x.dh
 po:Lst b.bF.length (ahq b.bF) (jn usF l ms) x.dJ
structure amw (b:aW) (l:List ay) (ms:List Int):Prop where
 df:afY l ms
 ml:ms.length≤6
 ft:∃t,VS b.bM t∧sG b.bM t (jn ay.eH l ms)=true
 le:(Sp.QU b.aT (jn ay.fU l ms)).2=0
 fc:(jn ay.aC l ms).length≤10
theorem kH (h:¬p) (a:A 0):BD p c A 0:=.inr ⟨h,a⟩
def FL (b:aW) (l:List ay) (ms:List Int):Prop:=(∃t,VS b.bM t∧sG b.bM t (jn ay.eH l ms)=true)∧(Sp.QU b.aT (jn ay.fU l ms)).2=0
theorem OC:UM []:=λ i j _ h=>by simp at h; omega
variable {x:Int}
theorem WA {l:List Int} (h:UM l) (hx:∀y∈l,y<x):UM (l++[x]):=by
 intro i j hij hj;rw [List.length_append,List.length_singleton] at hj;by_cases q:j<l.length
 ·rw [mF (i:=j) 0 q,mF (i:=i) 0 om]; exact h i j hij om
 ·rw [kS (i:=j) 0 om,mF (i:=i) 0 om]; exact hx _ (getD_in 0 om)
def M4 (b:aW) (l:List bX):Prop:=l.length≤1∧∀y∈l,aai b.bM.length y
def Ye (b:aW) (l:List bU):Prop:=l.length≤1∧∀y∈l,aaj b.aT.length y
def acr (l:List ByteArray):Prop:=l.length≤2∧∀y∈l,Jk y
def af3 (b:aW) (l:List Int):Prop:=l.length≤100∧∀y∈l,0≤y∧y<b.bg.length
def adV (k:Int) (l:List Int):Prop:=l.length≤100∧(∀p∈l,0≤p∧p<k)∧UM l
structure UY (b:aW) (k:Int) (x:ay):Prop where
 lm:M4 b x.eH
 dw:Ye b x.fU
 fw:acr x.aC
 rs:af3 b x.bg
 dm : -1≤x.gy∧x.gy<b.bF.length
 pr:adV k x.aO
theorem WB:M4 b []:=⟨Nat.zero_le _,nofun⟩
theorem WC:Ye b []:=⟨Nat.zero_le _,nofun⟩
theorem acs {x:bX} (h:aai b.bM.length x):M4 b [x]:=⟨Nat.le_refl _,λ y hy=>by rw [List.mem_singleton] at hy; rw [hy]; exact h⟩
theorem acu {x:bU} (h:aaj b.aT.length x):Ye b [x]:=⟨Nat.le_refl _,λ y hy=>by rw [List.mem_singleton] at hy; rw [hy]; exact h⟩
theorem WE:acr []:=⟨Nat.zero_le _,nofun⟩
theorem acv {k:Int}:adV k []:=⟨Nat.zero_le _,nofun,OC⟩
theorem Jl {l:List Int} {lo hi:Int} (h:l.all (λ x=>decide (lo≤x)&&decide (x≤hi))=true) (hr:∃i:Nat,i<l.length∧r=l.getD i 0):lo≤r∧r≤hi:=by
 obtain ⟨i,h1,rfl⟩:=hr;have:=List.all_eq_true.1 h _ (getD_in 0 h1);simpa using this
theorem ahy (h:(decide (0<s.size∧s.size≤16)&&(decide (97≤eX s 0∧eX s 0≤122)&&(List.range s.size).all λ j=>decide (eX s j=45∨(48≤eX s j∧eX s j≤57)∨(97≤eX s j∧eX s j≤122))))=true):Jk s:=by
 simp only [Bool.and_eq_true,decide_eq_true_eq,List.all_eq_true,List.mem_range] at h;exact ⟨h.1,h.2.1,λ j hj=>h.2.2 j om⟩
def Yf:List ByteArray:=[({ data:=#[117,97,114,116] }:ByteArray),({ data:=#[115,112,105] }:ByteArray),({ data:=#[105,50,99] }:ByteArray),({ data:=#[112,119,109] }:ByteArray)]
theorem acw:∀s∈Yf,Jk s:=by
 intro s hs;simp only [Yf,List.mem_cons,List.not_mem_nil,or_false] at hs;rcases hs with rfl | rfl | rfl | rfl<;>exact ahy (by decide)
variable {bA:dU}
theorem yj {n_:Int} {k_:Int} (h1:0≤n_) (h2:n_≤1000) (h3:1≤k_) (h4:k_≤100) (h5:0≤bA.At) (h6:bA.L.length≤600):W (mW n_ k_ bA) (λ r=>r.1.length≤n_.toNat∧(∀p∈r.1,0≤p∧p<n_)∧UM r.1∧0≤r.2.At∧r.2.L.length≤600):=by
 unfold mW;refine fK (λ (g1:Int×List Int×Int×List Int)=>0≤g1.1∧g1.1≤n_∧0≤g1.2.2.1∧g1.2.1.length≤600∧(g1.2.2.2.length:Int)≤g1.1∧(∀p∈g1.2.2.2,0≤p∧p<g1.1)∧UM g1.2.2.2) (λ (g1:Int×List Int×Int×List Int)=>(n_ - g1.1).toNat) ?_ ?_
 ·intro av g1 uH j5;obtain ⟨oG,gW,rJ,aeC,Y6,DN,acy⟩:=uH;unfold xX;refine wi ?_ ?_<;>intro c1
  ·refine dD (fT ob ob ob) λ v3 hv3=>?_;obtain ⟨Y7,aeD,aeE,alv,alx⟩:=hv3;refine wn<|wi ?_ ?_<;>intro c2
   ·refine wm<|j5 _ ?_ ?_
    ·(refine ⟨ob,ob,ob,ob,ob,λ p hp=>?_,WA acy λ p hp=>(DN p hp).2⟩; dsimp only; rcases List.mem_append.1 hp with hp | hp; (have:=DN p hp; omega); (rw [List.mem_singleton] at hp; omega))
    ·exact ob
   ·refine wn<|j5 _ ?_ ?_
    ·(refine ⟨ob,ob,ob,ob,ob,λ p hp=>?_,acy⟩; have:=DN p hp; dsimp only; omega)
    ·exact ob
  ·refine bY ?_;(refine ⟨ob,λ p hp=>?_,acy,ob,ob⟩; have:=DN p hp; omega)
 ·(refine ⟨ob,ob,ob,ob,ob,nofun,OC⟩)
theorem DR {nS:Int} (h1:0≤nS) (h2:nS≤50) (h3:0≤bA.At) (h4:bA.L.length≤600):W (l8 nS bA) (λ r=>r.1.length≤nS.toNat∧(∀y∈r.1,Jk y)∧0≤r.2.At∧r.2.L.length≤600):=by
 unfold l8;refine wn<|dD (fT ob ob ob) λ v1 hv1=>?_;obtain ⟨QI,Je,QJ,Te,Tf⟩:=hv1;refine fK (λ (g1:Int×List Int×Int×List ByteArray)=>0≤g1.1∧0≤g1.2.2.1∧g1.2.1.length≤600∧(g1.2.2.2.length:Int)+g1.1≤nS∧(∀y∈g1.2.2.2,Jk y)) (λ (g1:Int×List Int×Int×List ByteArray)=>g1.1.toNat) ?_ ?_
 ·intro av g1 uH j5;obtain ⟨oG,gW,rJ,aeC,Y6⟩:=uH;unfold tZ;refine wi ?_ ?_<;>intro c1
  ·refine dD (RZ) λ v6 hv6=>?_;subst v6;refine dD (K3 ob ob ob ob) λ v7 hv7=>?_;obtain ⟨ahz,aly,alz⟩:=hv7;refine wm<|j5 _ ?_ ?_
   ·(refine ⟨ob,ob,ob,ob,λ p hp=>?_⟩; dsimp only at hp; rcases List.mem_append.1 hp with hp | hp; (exact Y6 p hp); (rw [List.mem_singleton] at hp; rw [hp]; obtain ⟨i,hi,e⟩:=ahz; rw [e]; exact acw _ (getD_in (l:=Yf) _ hi)))
   ·exact ob
  ·refine bY ?_;(refine ⟨ob,Y6,ob,ob⟩)
 ·(refine ⟨ob,ob,ob,ob,nofun⟩)
theorem Gx (h1:b_.bM.length≤100) (h2:0<b_.bM.length) (h3:0≤bA.At) (h4:bA.L.length≤600):W (oV b_ bA) (λ r=>aai b_.bM.length r.1∧0≤r.2.At∧r.2.L.length≤600):=by
 unfold oV;refine dD (fT ob ob ob) λ v1 hv1=>?_;obtain ⟨QI,Je,QJ,Te,Tf⟩:=hv1;refine dD (kF ob ob ob ob) λ v2 hv2=>?_;obtain ⟨acz,ahA,ahB⟩:=hv2;refine dD (kF ob ob ob ob) λ v3 hv3=>?_;obtain ⟨Y7,aeD,aeE⟩:=hv3;refine bY ?_;(have a:=Jl (lo:=0) (hi:=24) (by decide) acz; have b:=Jl (lo:=24) (hi:=300) (by decide) Y7; exact ⟨⟨om,Je om,a.1,Int.le_trans a.2 b.1,Int.le_trans b.2 (by decide)⟩,ob,ob⟩)
theorem Jm (h1:b_.aT.length≤100) (h2:0<b_.aT.length) (h3:0≤bA.At) (h4:bA.L.length≤600):W (qI b_ bA) (λ r=>aaj b_.aT.length r.1∧0≤r.2.At∧r.2.L.length≤600):=by
 unfold qI;refine dD (fT ob ob ob) λ v1 hv1=>?_;obtain ⟨QI,Je,QJ,Te,Tf⟩:=hv1;refine dD (kF ob ob ob ob) λ v2 hv2=>?_;obtain ⟨acz,ahA,ahB⟩:=hv2;refine dD (kF ob ob ob ob) λ v3 hv3=>?_;obtain ⟨Y7,aeD,aeE⟩:=hv3;refine dD (kF ob ob ob ob) λ v4 hv4=>?_;obtain ⟨ahC,alA,alB⟩:=hv4;refine bY ?_;(have a:=Jl (lo:=0) (hi:=1800) (by decide) acz; have b:=Jl (lo:=1800) (hi:=5000) (by decide) Y7; have c:=Jl (lo:=0) (hi:=200) (by decide) ahC; exact ⟨⟨om,Je om,a.1,Int.le_trans a.2 b.1,b.2,c.1,Int.le_trans c.2 (by decide)⟩,ob,ob⟩)
variable {v1:Int×dU} {g1:Int×List Int×Int×List ay} {av:(Int×List Int×Int×List ay)→M (dU×List ay)} {v46:Int×dU} {g14:List Int×Int×List bX} {g15:List Int×Int×List bU} {g16:List Int×Int×List ByteArray} {Q:(dU×List ay)→Prop}
theorem oH {v53:List Int×dU} {g18:List Int×Int×List Int} (j5:∀s':(Int×List Int×Int×List ay),(0≤s'.1∧s'.1≤v1.1∧0≤s'.2.2.1∧s'.2.1.length≤600∧(s'.2.2.2.length:Int)=s'.1∧(∀x∈s'.2.2.2,UY b_ v1.1 x))→(v1.1 - s'.1).toNat<(v1.1 - g1.1).toNat→W (av s') Q) (hc:0≤g18.2.1∧g18.1.length≤600∧adV v1.1 g18.2.2∧M4 b_ g14.2.2∧Ye b_ g15.2.2∧acr g16.2.2∧af3 b_ v53.1∧0≤g1.1∧g1.1<v1.1∧v1.1≤51∧(g1.2.2.2.length:Int)=g1.1∧(∀x∈g1.2.2.2,UY b_ v1.1 x)∧(-1≤v46.1∧v46.1<b_.bF.length)):W (iL g1 av v46 g14 g15 g16 v53 g18) Q:=by
 obtain ⟨adW,adX,K7,K8,Sb,aam,aan,acA,acB,Jo,BG,Tn,aeF⟩:=hc;unfold iL;refine wm<|j5 _ ?_ ?_
 ·(refine ⟨ob,ob,ob,ob,ob,λ x hx=>?_⟩; rcases List.mem_append.1 hx with hx | hx; (exact Tn x hx); (rw [List.mem_singleton] at hx; subst hx; exact ⟨K8,Sb,aam,aan,aeF,K7⟩))
 ·exact ob
theorem oI {v53:List Int×dU} {g19:Int×List Int×Int} (j5:∀s':(Int×List Int×Int×List ay),(0≤s'.1∧s'.1≤v1.1∧0≤s'.2.2.1∧s'.2.1.length≤600∧(s'.2.2.2.length:Int)=s'.1∧(∀x∈s'.2.2.2,UY b_ v1.1 x))→(v1.1 - s'.1).toNat<(v1.1 - g1.1).toNat→W (av s') Q) (hc:0≤g19.2.2∧g19.2.1.length≤600∧0≤g19.1∧g19.1≤51∧g19.1≤v1.1∧M4 b_ g14.2.2∧Ye b_ g15.2.2∧acr g16.2.2∧af3 b_ v53.1∧0≤g1.1∧g1.1<v1.1∧v1.1≤51∧(g1.2.2.2.length:Int)=g1.1∧(∀x∈g1.2.2.2,UY b_ v1.1 x)∧(-1≤v46.1∧v46.1<b_.bF.length)):W (iM g1 av v46 g14 g15 g16 v53 g19) Q:=by
 obtain ⟨adW,adX,K7,K8,Sb,aam,aan,acA,acB,Jo,BG,Tn,aeF,ahD,ahE⟩:=hc;unfold iM;refine dD (yj ob ob ob ob ob ob) λ v60 ajt=>?_;obtain ⟨aju,af4,af5,ajv,ajw⟩:=ajt;exact oH (b_:=b_) (v1:=v1) (λ a b c=>j5 a b c) (by (refine ⟨ob,ob,⟨ob,λ p hp=>(by have:=af4 p hp; omega),af5⟩,aam,aan,acA,acB,ob,ob,ob,ob,ahD,ahE⟩))
theorem oJ (j5:∀s':(Int×List Int×Int×List ay),(0≤s'.1∧s'.1≤v1.1∧0≤s'.2.2.1∧s'.2.1.length≤600∧(s'.2.2.2.length:Int)=s'.1∧(∀x∈s'.2.2.2,UY b_ v1.1 x))→(v1.1 - s'.1).toNat<(v1.1 - g1.1).toNat→W (av s') Q) (hc:0≤g16.2.1∧g16.1.length≤600∧M4 b_ g14.2.2∧Ye b_ g15.2.2∧acr g16.2.2∧b_.bg.length≤4∧0≤g1.1∧g1.1<v1.1∧v1.1≤51∧(g1.2.2.2.length:Int)=g1.1∧(∀x∈g1.2.2.2,UY b_ v1.1 x)∧(-1≤v46.1∧v46.1<b_.bF.length)):W (iN b_ v1 g1 av v46 g14 g15 g16) Q:=by
 obtain ⟨adW,adX,K7,K8,Sb,aam,aan,acA,acB,Jo,BG,Tn⟩:=hc;unfold iN;refine dD (yj ob ob ob ob ob ob) λ v53 ajx=>?_;obtain ⟨ajy,Yg,ajz,ajA,ajB⟩:=ajx;refine dD (fT ob ob ob) λ v58 ajC=>?_;obtain ⟨ajD,ajE,ajF,ajG,ajH⟩:=ajC;refine wi ?_ ?_<;>intro c1
 ·refine dD (fT ob ob ob) λ v61 ajI=>?_;obtain ⟨ajJ,ajK,ajL,ajM,ajN⟩:=ajI;refine wi ?_ ?_<;>intro c2
  ·exact oI (b_:=b_) (v1:=v1) (λ a b c=>j5 a b c) (by (refine ⟨ob,ob,ob,ob,ob,K7,K8,Sb,⟨om,Yg⟩,ob,ob,ob,ob,BG,Tn⟩))
  ·exact oI (b_:=b_) (v1:=v1) (λ a b c=>j5 a b c) (by (refine ⟨ob,ob,ob,ob,ob,K7,K8,Sb,⟨om,Yg⟩,ob,ob,ob,ob,BG,Tn⟩))
 ·exact oH (b_:=b_) (v1:=v1) (λ a b c=>j5 a b c) (by (refine ⟨ob,ob,acv,K7,K8,Sb,⟨om,Yg⟩,ob,ob,ob,ob,BG,Tn⟩))
theorem j6 (j5:∀s':(Int×List Int×Int×List ay),(0≤s'.1∧s'.1≤v1.1∧0≤s'.2.2.1∧s'.2.1.length≤600∧(s'.2.2.2.length:Int)=s'.1∧(∀x∈s'.2.2.2,UY b_ v1.1 x))→(v1.1 - s'.1).toNat<(v1.1 - g1.1).toNat→W (av s') Q) (hc:0≤g15.2.1∧g15.1.length≤600∧M4 b_ g14.2.2∧Ye b_ g15.2.2∧b_.bg.length≤4∧0≤g1.1∧g1.1<v1.1∧v1.1≤51∧(g1.2.2.2.length:Int)=g1.1∧(∀x∈g1.2.2.2,UY b_ v1.1 x)∧(-1≤v46.1∧v46.1<b_.bF.length)):W (gU b_ v1 g1 av v46 g14 g15) Q:=by
 obtain ⟨adW,adX,K7,K8,Sb,aam,aan,acA,acB,Jo,BG⟩:=hc;unfold gU;refine dD (fT ob ob ob) λ v62 ajO=>?_;obtain ⟨ajP,ajQ,ajR,ajS,ajT⟩:=ajO;refine wi ?_ ?_<;>intro c1
 ·refine dD (DR ob ob ob ob) λ v63 ajU=>?_;obtain ⟨ajV,af6,ajW,ajX⟩:=ajU;exact oJ (λ a b c=>j5 a b c) (by (refine ⟨ob,ob,K7,K8,⟨ob,af6⟩,Sb,ob,ob,ob,ob,Jo,BG⟩))
 ·exact oJ (λ a b c=>j5 a b c) (by (refine ⟨ob,ob,K7,K8,WE,Sb,ob,ob,ob,ob,Jo,BG⟩))
theorem kI (j5:∀s':(Int×List Int×Int×List ay),(0≤s'.1∧s'.1≤v1.1∧0≤s'.2.2.1∧s'.2.1.length≤600∧(s'.2.2.2.length:Int)=s'.1∧(∀x∈s'.2.2.2,UY b_ v1.1 x))→(v1.1 - s'.1).toNat<(v1.1 - g1.1).toNat→W (av s') Q) (hc:0≤g14.2.1∧g14.1.length≤600∧M4 b_ g14.2.2∧b_.bg.length≤4∧b_.aT.length≤3∧0≤g1.1∧g1.1<v1.1∧v1.1≤51∧(g1.2.2.2.length:Int)=g1.1∧(∀x∈g1.2.2.2,UY b_ v1.1 x)∧(-1≤v46.1∧v46.1<b_.bF.length)):W (ig b_ v1 g1 av v46 g14) Q:=by
 obtain ⟨adW,adX,K7,K8,Sb,aam,aan,acA,acB,Jo,BG⟩:=hc;unfold ig;refine wi ?_ ?_<;>intro c1
 ·refine dD (fT ob ob ob) λ v64 hv64=>?_;obtain ⟨ajY,ajZ,aj0,aj1,aj2⟩:=hv64;refine wi ?_ ?_<;>intro c2
  ·refine dD (Jm ob ob ob ob) λ v65 aj3=>?_;obtain ⟨af7,aj4,aj5⟩:=aj3;refine wn ?_;exact j6 (λ a b c=>j5 a b c) (by (refine ⟨ob,ob,K7,acu af7,K8,ob,ob,ob,ob,Jo,BG⟩))
  ·exact j6 (λ a b c=>j5 a b c) (by (refine ⟨ob,ob,K7,WC,K8,ob,ob,ob,ob,Jo,BG⟩))
 ·refine wn ?_;exact j6 (λ a b c=>j5 a b c) (by (refine ⟨ob,ob,K7,WC,K8,ob,ob,ob,ob,Jo,BG⟩))
theorem DT {nS:Int} (h1:ahc b_) (h2:0≤nS) (h3:nS≤50) (h4:0≤bA.At) (h5:bA.L.length≤600):W (l9 b_ nS bA) (λ r=>r.2.length≤nS.toNat∧(∀x∈r.2,UY b_ (r.2.length:Int) x)∧0≤r.1.At∧r.1.L.length≤600):=by
 obtain ⟨q1,q2,q3,q4,q5,q6,q7,q8,q9⟩:=h1;unfold l9;refine wn<|dD (fT ob ob ob) λ v1 hv1=>?_;obtain ⟨QI,Je,QJ,Te,Tf⟩:=hv1;refine fK (λ (g1:Int×List Int×Int×List ay)=>0≤g1.1∧g1.1≤v1.1∧0≤g1.2.2.1∧g1.2.1.length≤600∧(g1.2.2.2.length:Int)=g1.1∧(∀x∈g1.2.2.2,UY b_ v1.1 x)) (λ (g1:Int×List Int×Int×List ay)=>(v1.1 - g1.1).toNat) ?_ ?_
 ·intro av g1 uH j5;obtain ⟨oG,gW,rJ,aeC,Y6,DN⟩:=uH;unfold uf;refine wi ?_ ?_<;>intro c1
  ·refine wn<|dD (Jf ob ob ob ob ob ob) λ v46 aj6=>?_;obtain ⟨aj7,aj8,aj9,akb,akc⟩:=aj6;refine wi ?_ ?_<;>intro c2
   ·refine dD (fT ob ob ob) λ v66 akd=>?_;obtain ⟨ake,akf,akg,akh,aki⟩:=akd;refine wi ?_ ?_<;>intro c3
    ·refine dD (Gx ob ob ob ob) λ v67 akj=>?_;obtain ⟨af8,akk,akl⟩:=akj;refine wn ?_;exact kI (λ a b c=>j5 a b c) (by (refine ⟨ob,ob,acs af8,ob,ob,ob,ob,ob,ob,DN,om,om⟩))
    ·exact kI (λ a b c=>j5 a b c) (by (refine ⟨ob,ob,WB,ob,ob,ob,ob,ob,ob,DN,om,om⟩))
   ·refine wn ?_;exact kI (λ a b c=>j5 a b c) (by (refine ⟨ob,ob,WB,ob,ob,ob,ob,ob,ob,DN,om,om⟩))
  ·have hlen:(g1.2.2.2.length:Int)=v1.1:=by omega
   refine wi ?_ ?_<;>intro c4
   ·refine dD (fT ob ob ob) λ v68 akm=>?_;obtain ⟨akn,ako,akp,akq,akr⟩:=akm;refine wi ?_ ?_<;>intro c5
    ·refine wn<|fK (λ (g20:Int×Int×List ay)=>0≤g20.1 ∧ -1≤g20.2.1∧g20.2.1<v1.1∧g20.1≤v1.1∧(g20.2.2.length:Int)=v1.1∧(∀x∈g20.2.2,UY b_ v1.1 x)) (λ (g20:Int×Int×List ay)=>(g20.2.1 - g20.1).toNat) ?_ ?_
     ·intro X4 g20 ahF ahG;obtain ⟨aks,akt,aku,akv,akw,UO⟩:=ahF;unfold rH;refine wi ?_ ?_<;>intro c6
      ·refine wm<|wm ?_;refine wm<|ahG _ ?_ ?_
       ·(refine ⟨ob,ob,ob,ob,ob,Uz (Uz UO (UO _ (getD_in _ om))) (UO _ (getD_in _ om))⟩)
       ·exact ob
      ·refine fK (λ (g21:Int×List ay)=>0≤g21.1∧(g21.2.length:Int)=v1.1∧(∀x∈g21.2,UY b_ v1.1 x)) (λ (g21:Int×List ay)=>(v1.1 - g21.1).toNat) ?_ ?_
       ·intro QH g21 ahH ahI;obtain ⟨akx,af9,Yh⟩:=ahH;unfold rG;refine wi ?_ ?_<;>intro c7
        ·have q:=Yh (g21.2.getD g21.1.toNat bE) (getD_in _ om);have qp:=q.pr.1;refine wm<|fK (λ (g24:Int×List Int) => -1≤g24.1∧g24.1<(g21.2.getD g21.1.toNat bE).aO.length∧(g24.2.length:Int)+g24.1<(g21.2.getD g21.1.toNat bE).aO.length∧(∀p∈g24.2,0≤p∧p<v1.1)∧UM g24.2∧(∀p∈g24.2,∀j:Nat,(j:Int)≤g24.1→p<v1.1 - 1 - (g21.2.getD g21.1.toNat bE).aO.getD j 0)) (λ (g24:Int×List Int)=>(g24.1+1).toNat) ?_ ?_
         ·intro X3 g24 ahJ ahK;obtain ⟨aky,akz,akA,acC,acD,acE⟩:=ahJ;unfold rF;refine wi ?_ ?_<;>intro c8
          ·have q2:=q.pr.2.1 _ (getD_in (i:=g24.1.toNat) 0 om);refine wm<|wm ?_;refine wm<|ahK _ ?_ ?_
           ·(refine ⟨ob,ob,ob,λ p hp=>?_,WA acD (λ p hp=>by have:=acE p hp g24.1.toNat om; omega),λ p hp j hj=>?_⟩; (rcases List.mem_append.1 hp with hp | hp; (exact acC p hp); (rw [List.mem_singleton] at hp; omega)); (dsimp only at hj; rcases List.mem_append.1 hp with hp | hp; (exact acE p hp j om); (rw [List.mem_singleton] at hp; have:=q.pr.2.2 j g24.1.toNat om om; omega)))
           ·exact ob
          ·refine wm<|ahI _ ?_ ?_
           ·(refine ⟨ob,ob,Uz Yh ⟨q.lm,q.dw,q.fw,q.rs,q.dm,ob,acC,acD⟩⟩)
           ·exact ob
         ·(refine ⟨ob,ob,ob,nofun,OC,nofun⟩)
        ·refine bY ?_;(refine ⟨ob,λ x hx=>?_,ob,ob⟩; have q:=Yh x hx; rw [af9]; exact q)
       ·(refine ⟨ob,ob,UO⟩)
     ·(refine ⟨ob,ob,ob,ob,ob,DN⟩)
    ·refine bY ?_;(refine ⟨ob,λ x hx=>?_,ob,ob⟩; have q:=DN x hx; rw [hlen]; exact q)
   ·refine wn<|bY ?_;(refine ⟨ob,λ x hx=>?_,ob,ob⟩; have q:=DN x hx; rw [hlen]; exact q)
 ·(refine ⟨ob,ob,ob,ob,ob,nofun⟩)
def FnU (b:aW) (l:List ay) (ms:List Int) (us:List bN):Prop:=∀i∈ms,∀f:ByteArray,cntF (l.getD i.toNat bE).aC f≤af2 b.aU us i f
structure UsI (b:aW) (l:List ay) (ms:List Int) (us:List bN):Prop where
 dv:∀u∈us,u.dM∈ms
 ow:ahv b.aU (us.map bN.wV)
 fn:FnU b l ms us
 df:afY l ms
 fl:ms≠[]→FL b l ms
theorem acF (hb:Gw b 0) (hl:l.length≤12) (h:∀x∈l,UY b l.length x):Tm b l 0:=by
 refine lW hb (cB om (EH λ k hk=>?_));obtain ⟨l1,d1,f1,r1,q1,p1⟩:=h _ (getD_in (i:=k) bE hk);have hw:∀ {α:Type} (xs:List α) (d:α) (P:α→Prop),(∀x∈xs,P x)→¬ ∃j:Nat,(j:Int)<xs.length∧¬P (xs.getD j d):=λ xs d P hp ⟨j,hj,q⟩=>q (hp _ (getD_in d om));refine kH (by have:=l1.1; have:=d1.1; have:=f1.1; omega) (kH (hw _ _ _ l1.2) (kH (hw _ _ _ d1.2) (kH (hw _ _ _ f1.2) (kH (hw _ _ _ r1.2) (kH (λ q=>q q1) (kH (hw _ _ _ p1.2.1) (kH ?_ rfl)))))));rintro ⟨j,j1,j2,j3⟩;have:=p1.2.2 (j - 1) j om j2;omega
def Ed (L:List (List Int)) (x y:Int):Prop:=0≤x∧x<L.length∧y∈L.getD x.toNat []
inductive Wk (L:List (List Int)) (a:Int):Int→Prop where
 | z:Wk L a a
 | s {x y:Int} (h:Ed L x y) (ha:a≤x) (w:Wk L a y):Wk L a x
variable {L:List (List Int)}
theorem stuck {n:Int}:∀(k:Nat) (a:Int) (U:Int→Prop),a+k=n→(∀x,U x→a≤x∧x<n)→(∀x,U x→∃y,U y∧Ed L x y)→(∃x,U x)→∃b x,Ed L b x∧b≤x∧Wk L b x:=by
 intro k;induction k with
 | zero=>intro a U h h1 _ ⟨x,hx⟩; have:=h1 x hx; omega
 | succ k ih=>
  intro a U h h1 h2 ⟨x0,hx0⟩;by_cases ha:U a
  ·obtain ⟨x,hx,he⟩:=h2 a ha;by_cases hw:Wk L a x
   ·exact ⟨a,x,he,(h1 x hx).1,hw⟩
   ·refine ih (a+1) (λ y=>U y∧¬ Wk L a y) om (λ y hy=>?_) (λ y hy=>?_) ⟨x,hx,hw⟩
    ·have:=h1 y hy.1;have hne:y≠a:=λ e=>hy.2 (e ▸ .z);omega
    ·obtain ⟨z,hz,he'⟩:=h2 y hy.1;exact ⟨z,⟨hz,λ w=>hy.2 (.s he' (h1 y hy.1).1 w)⟩,he'⟩
  ·refine ih (a+1) U om (λ y hy=>?_) h2 ⟨x0,hx0⟩;have:=h1 y hy;have hne:y≠a:=λ e=>ha (e ▸ hy);omega
theorem WG {f:Int→Nat} (hf:∀x y,Ed L x y→f y<f x) {c:List Int} (hne:0<c.length) (hc:∀k,k<c.length→Ed L (c.getD k 0) (c.getD ((k+1) % c.length) 0)):False:=by
 have key:∀k,k<c.length→f (c.getD k 0)+k≤f (c.getD 0 0):=by
  intro k;induction k with
  | zero=>intro _; omega
  | succ k ih=>
   intro hk;have h1:=ih om;have h2:=hf _ _ (hc k om);rw [Nat.mod_eq_of_lt hk] at h2;omega
 have h1:=key (c.length - 1) om;have h2:=hf _ _ (hc (c.length - 1) om);rw [show c.length - 1+1=c.length by omega,Nat.mod_self] at h2;omega
structure Far (L:List (List Int)) (a:Int) (D:Int→Int):Prop where
 zero:D a=0
 at0:∀x:Int,0≤x→x<L.length→D x=0→x=a
 ge:∀x:Int,0≤x→x<L.length→0≤D x→a≤x
 next:∀x:Int,0≤x→x<L.length→0<D x→∃y,Ed L x y∧0≤y∧y<L.length∧D y=D x - 1
 back:∀x y,Ed L x y→a≤x→0≤D y→0≤D x
variable {a:Int}
theorem Far.walk {D:Int→Int} (h:Far L a D) (w:Wk L a x):0≤D x:=by
 induction w with
 | z=>rw [h.zero]; exact Int.le_refl 0
 | s he ha _ ih=>exact h.back _ _ he ha ih
theorem aga {σ R:Type} {F:(σ→M R)→σ→M R} {Q:σ→R→Prop} (inv:σ→Prop) (μ:σ→Nat) (h:∀(self:σ→M R) (s:σ),inv s→(∀s',inv s'→μ s'<μ s→W (self s') (Q s'))→W (F self s) (Q s)) {s:σ} (hs:inv s):W (bJ F s) (Q s):=by
 have key:∀n s,inv s→μ s<n→W (itM F n s) (Q s):=by
  intro n;induction n with
  | zero=>intro s _ h; exact absurd h (Nat.not_lt_zero _)
  | succ n ih=>intro s hs hn; exact h _ s hs λ s' h1 h2=>ih s' h1 om
 obtain ⟨r,h1,h2⟩:=key (μ s+1) s hs (Nat.lt_succ_self _);exact ⟨r,⟨_,h1⟩,h2⟩
structure Gr (L:List (List Int)):Prop where
 n:L.length≤12
 ln:∀i:Nat,i<L.length→(L.getD i []).length≤100
 rg:∀i:Nat,i<L.length→∀x∈L.getD i [],0≤x∧x<L.length
 so:∀i:Nat,i<L.length→UM (L.getD i [])
theorem Sc (h:Gr L):W (xU L) (λ r=>r=0):=by
 have hn:=h.n;unfold xU;refine fO (λ c=>by have c:=vP c; omega) (λ _=>?_);refine fK (λ g:Int=>0≤g) (λ g=>(L.length - g).toNat) ?_ (Int.le_refl _);intro av g1 a1 ih1;unfold Dv;refine fO (λ c1=>?_) (λ _=>bY rfl);have c1:=vP c1;refine aR om ?_;have hl:=h.ln g1.toNat om;have hr:=h.rg g1.toNat om;have hs:=h.so g1.toNat om;refine fK (λ g:Int=>0≤g) (λ g=>((L.getD g1.toNat []).length - g).toNat) ?_ (Int.le_refl _);intro dL g2 a2 ih2;unfold Du;refine fO (λ c2=>?_) (λ _=>?_)
 ·have c2:=vP c2;refine aR om ?_;have hx:=hr _ (getD_in (i:=g2.toNat) 0 om);refine fO (λ c3=>?_) (λ _=>aR (by unfold aG; omega) (ih2 _ om om));have c3:=vP c3; omega
 ·refine fK (λ g:Int=>1≤g) (λ g=>((L.getD g1.toNat []).length - g).toNat) ?_ (Int.le_refl _);intro iZ g3 a3 ih3;unfold Bu;refine fO (λ c3=>?_) (λ _=>aR (by unfold aG; omega) (ih1 _ om om));have c3:=vP c3;refine aR om (aR (by unfold aG; omega) (aR om ?_));refine fO (λ c4=>?_) (λ _=>aR (by unfold aG; omega) (ih3 _ om om));have c4:=vP c4;have:=hs (g3 - 1).toNat g3.toNat om om;omega
theorem Sd (h:Gr L):W (xY L) (λ r=>r=0):=by
 have hn:=h.n;unfold xY;refine fO (λ c=>by have c:=vP c; omega) (λ _=>?_);refine fK (λ g:Int=>0≤g) (λ g=>(L.length - g).toNat) ?_ (Int.le_refl _);intro av g1 a1 ih1;unfold Dx;refine fO (λ c1=>?_) (λ _=>bY rfl);have c1:=vP c1;have hl:=h.ln g1.toNat om;have hr:=h.rg g1.toNat om;have hs:=h.so g1.toNat om;refine fK (λ g:Int=>0≤g) (λ g=>((L.getD g1.toNat []).length - g).toNat) ?_ (Int.le_refl _);intro dL g2 a2 ih2;unfold Dw;refine aR om ?_;refine fO (λ c2=>?_) (λ _=>?_)
 ·have c2:=vP c2;refine aR om (aR om (aR (λ _=>by omega) (aR (λ _=>by omega) ?_)));have hx:=hr _ (getD_in (i:=g2.toNat) 0 om);refine fO (λ c3=>?_) (λ _=>aR (by unfold aG; omega) (ih2 _ om om));have c3:=vP c3; omega
 ·refine fK (λ g:Int=>1≤g) (λ g=>((L.getD g1.toNat []).length - g).toNat) ?_ (Int.le_refl _);intro iZ g3 a3 ih3;unfold Bw;refine aR om ?_;refine fO (λ c3=>?_) (λ _=>aR (by unfold aG; omega) (ih1 _ om om));have c3:=vP c3;refine aR om (aR om (aR om (aR (by unfold aG; omega) (aR om ?_))));refine fO (λ c4=>?_) (λ _=>aR (by unfold aG; omega) (ih3 _ om om));have c4:=vP c4;have:=hs (g3 - 1).toNat g3.toNat om om;omega
theorem mul_one (h:n≤16):oD (IntKind.u64.wrap ((1:Nat):Int)) (IntKind.u64.wrap ((n:Nat):Int)) ((0:Int),(n:Int)):=by
 have key:∀n:Nat,n<17→M.ex 100 (oD (IntKind.u64.wrap ((1:Nat):Int)) (IntKind.u64.wrap ((n:Nat):Int)))=some ((0:Int),(n:Int)):=by decide +kernel
 exact M.abL 100 _ _ (key n om)
theorem Jj {j:Nat} {v d:Int} (h:j<n):(List.replicate n v).getD j d=v:=by
 rw [List.getD_eq_getElem?_getD,List.getElem?_replicate,if_pos h]; rfl
theorem NZ {z:Int} (h:n≤16):W (l7 [z] ((n:Nat):Int)) (λ r=>r=List.replicate n z):=by
 unfold l7;refine aR (by simp) ?_;unfold mU;refine dD (H7 (mul_one h)) λ v1 hv1=>?_;subst hv1;refine aR (by simp; omega) ?_;unfold mR;have hw:IntKind.i64.wrap ((n:Nat):Int)=n:=wrap_i64 ⟨om,om⟩;dsimp only;rw [hw];have hm:Nat.min [z].length ((n:Int).toNat)=min 1 n:=by simp
 refine aR (by unfold big; omega) ?_;refine fK (λ g3:Int×List Int=>0≤g3.1∧g3.1≤n∧g3.2.length=n∧(0<n→0<g3.1)∧∀j:Nat,(j:Int)<g3.1→g3.2.getD j 0=z) (λ g3=>(n - g3.1).toNat) ?_ ⟨by dsimp only; omega,by dsimp only; rw [hm]; omega,by simp [jB],λ hn=>by dsimp only; rw [hm]; omega,λ j hj=>?_⟩
 ·intro iZ g3 ⟨a1,a2,a3,a4,a5⟩ ih;unfold tY;refine wi ?_ ?_<;>intro c
  ·have hmn:Nat.min g3.1.toNat (g3.2.length - g3.1.toNat)=min g3.1.toNat (g3.2.length - g3.1.toNat):=rfl;rw [hmn];refine aR om ?_;refine aR om ?_;refine aR (by unfold aG; omega) ?_;refine ih _ ⟨by dsimp only; omega,by dsimp only; omega,by dsimp only; rw [jB]; exact a3,λ _=>by dsimp only; omega,λ j hj=>?_⟩ (by dsimp only; omega);dsimp only at hj ⊢;rw [KE 0 om];split
   ·rw [List.getD_eq_getElem?_getD,List.getElem?_take];rw [if_pos om,← List.getD_eq_getElem?_getD];exact a5 _ om
   ·exact a5 _ (by rename_i q; rw [List.length_take] at q; omega)
  ·refine bY (List.ext_getElem (by rw [List.length_replicate]; exact a3) λ j h1 h2=>?_);rw [List.getElem_replicate];have:=a5 j om;rw [List.getD_eq_getElem?_getD,List.getElem?_eq_getElem h1] at this;exact this
 ·dsimp only at hj ⊢;rw [hm] at hj ⊢;rw [KE 0 (by rw [List.length_replicate]; omega)];have hn:min 1 n=1:=by omega
  rw [hn] at hj ⊢;have hj0:j=0:=by omega
  subst hj0;rfl
def neg (D:List Int):Nat:=D.countP λ x=>decide (x<0)
variable {D:List Int}
theorem Y8 {v:Int} (hi:i<D.length) (h:D.getD i 0<0) (hv:0≤v):neg (D.set i v)+1=neg D:=by
 have e:D.getD i 0=D[i]:=by rw [List.getD_eq_getElem?_getD,List.getElem?_eq_getElem hi]; rfl
 rw [e] at h;have hp:0<neg D:=List.countP_pos_iff.2 ⟨D[i],List.getElem_mem hi,decide_eq_true h⟩;unfold neg at hp ⊢;rw [List.countP_set hi,decide_eq_true h,decide_eq_false om];simp only [if_true,Bool.false_eq_true,if_false];omega
def qu (off len:Nat) (row:List Int):List Int:=(row.drop off).take len
theorem agb {off len:Nat} {row:List Int} (h:off+len≤row.length):(qu off len row).length=len:=by
 unfold qu; rw [List.length_take,List.length_drop]; omega
theorem Yi {off len:Nat} {row:List Int} {k:Nat} (h:k<len):(qu off len row).getD k 0=row.getD (off+k) 0:=by
 unfold qu;rw [List.getD_eq_getElem?_getD,List.getElem?_take,if_pos h,List.getElem?_drop,← List.getD_eq_getElem?_getD]
structure Bf (L:List (List Int)) (a:Int) (D:List Int) (q:List Int):Prop where
 ln:D.length=L.length
 zero:D.getD a.toNat 0=0
 lo:∀x:Int,0≤x→x<L.length → -1≤D.getD x.toNat 0
 hi:∀x:Int,0≤x→x<L.length→D.getD x.toNat 0+neg D<L.length
 at0:∀x:Int,0≤x→x<L.length→D.getD x.toNat 0=0→x=a
 ge:∀x:Int,0≤x→x<L.length→0≤D.getD x.toNat 0→a≤x
 next:∀x:Int,0≤x→x<L.length→0<D.getD x.toNat 0→∃y,Ed L x y∧0≤y∧y<L.length∧D.getD y.toNat 0=D.getD x.toNat 0 - 1
 qr:∀x∈q,0≤x∧x<L.length∧0≤D.getD x.toNat 0
def Bk (L:List (List Int)) (a:Int) (D:List Int) (P:Int→Prop):Prop:=∀x y,Ed L x y→a≤x→0≤y→y<L.length→0≤D.getD y.toNat 0→P y→0≤D.getD x.toNat 0
variable {y:Int}
theorem Bf.step {q:List Int} (h:Bf L a D q) {i:Int} (a0:0≤a) (hi0:a≤i) (hi1:i<L.length) (hneg:D.getD i.toNat 0<0) (hy0:0≤y) (hy1:y<L.length) (hyD:0≤D.getD y.toNat 0) (he:Ed L i y):
  Bf L a (D.set i.toNat (D.getD y.toNat 0+1)) (q++[i])∧neg (D.set i.toNat (D.getD y.toNat 0+1))+1=neg D:=by
 obtain ⟨ln,zero,lo,hi,at0,ge,next,qr⟩:=h;have hil:i.toNat<D.length:=by omega
 have hn:=Y8 (v:=D.getD y.toNat 0+1) hil hneg om;have hself:(D.set i.toNat (D.getD y.toNat 0+1)).getD i.toNat 0=D.getD y.toNat 0+1:=yh hil;have hne:∀x:Int,0≤x→x≠i→(D.set i.toNat (D.getD y.toNat 0+1)).getD x.toNat 0=D.getD x.toNat 0:=λ x x0 hx=>ko om;have hia:i≠a:=λ e=>by rw [e,zero] at hneg; omega
 have hiy:=hi y hy0 hy1;refine ⟨⟨by rw [List.length_set]; exact ln,by rw [hne a a0 (Ne.symm hia)]; exact zero,λ x x0 x1=>?_,λ x x0 x1=>?_,λ x x0 x1 hx=>?_,λ x x0 x1 hx=>?_,λ x x0 x1 hx=>?_,λ x hx=>?_⟩,hn⟩
 ·by_cases e:x=i
  ·subst e; rw [hself]; omega
  ·rw [hne x x0 e]; exact lo x x0 x1
 ·by_cases e:x=i
  ·subst e; rw [hself]; omega
  ·rw [hne x x0 e]; have:=hi x x0 x1; omega
 ·by_cases e:x=i
  ·subst e; rw [hself] at hx; omega
  ·rw [hne x x0 e] at hx; exact at0 x x0 x1 hx
 ·by_cases e:x=i
  ·omega
  ·rw [hne x x0 e] at hx; exact ge x x0 x1 hx
 ·by_cases e:x=i
  ·subst e;rw [hself];refine ⟨y,he,hy0,hy1,?_⟩;rw [hne y hy0 (λ q=>by rw [← q] at hneg; omega)]; omega
  ·rw [hne x x0 e] at hx ⊢;obtain ⟨z,z1,z2,z3,z4⟩:=next x x0 x1 hx
   refine ⟨z,z1,z2,z3,?_⟩;rw [hne z z2 (λ q=>by rw [← q] at hneg; omega)]; exact z4
 ·rcases List.mem_append.1 hx with hx | hx
  ·obtain ⟨x0,x1,x2⟩:=qr x hx;refine ⟨x0,x1,?_⟩;rw [hne x x0 (λ q=>by rw [← q] at hneg; omega)]; exact x2
  ·rw [List.mem_singleton] at hx; subst hx;exact ⟨om,hi1,by rw [hself]; omega⟩
theorem Bk.mono {P:Int→Prop} {i v:Int} (h:Bk L a D P) (a0:0≤a) (hi0:a≤i) (hi1:i<L.length) (hl:D.length=L.length) (hneg:D.getD i.toNat 0<0) (hv:0≤v) (hP:¬P i):Bk L a (D.set i.toNat v) P:=by
 intro x y he hx y0 y1 hy hp;have hyi:y≠i:=λ e=>hP (e ▸ hp);rw [ko om] at hy;have hr:=h x y he hx y0 y1 hy hp;by_cases e:x=i
 ·subst e; rw [yh om]; exact hv
 ·rw [ko om]; exact hr
theorem nJ {l:List Int} :l.contains x=true↔x∈l:=List.contains_iff_mem
theorem Jp (h:Gr L) (a0:0≤a) (a1:a<L.length):W (wJ L a) (λ r=>r.length=L.length∧Far L a (λ x=>r.getD x.toNat 0)∧∀x:Int,0≤x→x<L.length → -1≤r.getD x.toNat 0∧r.getD x.toNat 0≤12):=by
 have hn:=h.n;unfold wJ;refine dD (NZ om) λ v1 hv1=>?_;subst hv1;rw [List.length_replicate];refine aR om ?_;have hrp:∀x:Int,0≤x→x<L.length→x≠a→((List.replicate L.length (-1:Int)).set a.toNat 0).getD x.toNat 0 = -1:=λ x x0 x1 hx=>by
  rw [ko om,Jj om]
 have hra:((List.replicate L.length (-1:Int)).set a.toNat 0).getD a.toNat 0=0:=yh (by rw [List.length_replicate]; omega);have hneg:neg ((List.replicate L.length (-1:Int)).set a.toNat 0)+1=L.length:=by
  have h1:=Y8 (D:=List.replicate L.length (-1:Int)) (i:=a.toNat) (v:=0) (by rw [List.length_replicate]; omega) (by rw [Jj om]; omega) om;have h2:neg (List.replicate L.length (-1:Int))=L.length:=by
   unfold neg; rw [List.countP_replicate]; simp
  omega
 refine fK (λ g:Nat×Nat×List Int×List Int=>g.1+g.2.1≤g.2.2.2.length∧g.2.1+neg g.2.2.1≤L.length∧Bf L a g.2.2.1 (qu g.1 g.2.1 g.2.2.2)∧Bk L a g.2.2.1 (λ y=>y ∉ qu g.1 g.2.1 g.2.2.2)) (λ g=>2*neg g.2.2.1+g.2.1) ?_ ⟨by simp,by dsimp only; omega,⟨by simp,hra,λ x x0 x1=>?_,λ x x0 x1=>?_,λ x x0 x1 hx=>?_,λ x x0 x1 hx=>?_,λ x x0 x1 hx=>?_,λ x hx=>?_⟩,λ x y _ _ y0 y1 hy hp=>?_⟩;rotate_left
 ·dsimp only;by_cases e:x=a
  ·subst e; rw [hra]; omega
  ·rw [hrp x x0 x1 e]; omega
 ·dsimp only;by_cases e:x=a
  ·subst e; rw [hra]; omega
  ·rw [hrp x x0 x1 e]; omega
 ·dsimp only at hx;exact Classical.byContradiction λ e=>by rw [hrp x x0 x1 e] at hx; omega
 ·dsimp only at hx;by_cases e:x=a
  ·omega
  ·rw [hrp x x0 x1 e] at hx; omega
 ·dsimp only at hx;by_cases e:x=a
  ·subst e; rw [hra] at hx; omega
  ·rw [hrp x x0 x1 e] at hx; omega
 ·have hx:x∈[a]:=hx;rw [List.mem_singleton] at hx;subst hx;exact ⟨a0,a1,by rw [hra]; omega⟩
 ·dsimp only at hy hp;exfalso;have:y=a:=Classical.byContradiction λ e=>by rw [hrp y y0 y1 e] at hy; omega
  exact hp (by rw [this]; exact List.mem_singleton.2 rfl)
 rintro av ⟨off,len,D,row⟩ ⟨b1,b2,b3,b4⟩ ih1;dsimp only at b1 b2 b3 b4;unfold FI;dsimp only;refine aR b1 ?_;refine wi ?_ ?_<;>intro c1
 ·have hlen:0<len:=by omega
  generalize hh:row.getD off 0=hd;have hq0:(qu off len row).getD 0 0=hd:=by rw [Yi hlen,Nat.add_zero,hh]
  refine fK (λ g:Nat×Nat×Int×List Int×List Int=>g.1+g.2.1≤g.2.2.2.2.length∧0<g.2.1∧a≤g.2.2.1∧g.2.2.1≤L.length∧g.2.1+neg g.2.2.2.1≤len+neg D∧neg g.2.2.2.1≤neg D∧(qu g.1 g.2.1 g.2.2.2.2).getD 0 0=hd∧Bf L a g.2.2.2.1 (qu g.1 g.2.1 g.2.2.2.2)∧Bk L a g.2.2.2.1 (λ y=>y ∉ qu g.1 g.2.1 g.2.2.2.2)∧∀x:Int,a≤x→x<g.2.2.1→Ed L x hd→0≤g.2.2.2.1.getD x.toNat 0) (λ g=>(L.length - g.2.2.1).toNat) ?_ ⟨b1,hlen,Int.le_refl _,by dsimp only; omega,Nat.le_refl _,Nat.le_refl _,hq0,b3,b4,λ x x1 x2=>by dsimp only at x2; omega⟩;rintro dL ⟨Y9,ln2,i,D2,rw2⟩ ⟨d1,d2,d3,d4,d5,d6,d7,d8,d9,d10⟩ ih2;dsimp only at d1 d2 d3 d4 d5 d6 d7 d8 d9 d10;have hl2:=d8.ln;have hq2:=agb d1;have hrow:rw2.getD (addN Y9 0) 0=hd:=by
   have e:addN Y9 0=Y9:=by cases Y9<;>rfl
   rw [e,← d7,Yi d2,Nat.add_zero]
  have hhm:hd∈qu Y9 ln2 rw2:=by rw [← d7]; exact getD_in 0 om
  obtain ⟨hd0,hd1,hd2⟩:=d8.qr hd hhm;have hhi:=d8.hi hd hd0 hd1;unfold FH;dsimp only;rw [hrow];refine aR d1 ?_;refine wi ?_ ?_<;>intro c2
  ·refine aR om (aR (λ _=>by omega) (aR (λ _=>by omega) ?_));have hrl:=h.ln i.toNat om;refine dD (SS λ _=>H7 (jJ (s_:=L.getD i.toNat []) (v_:=hd) om)) λ v hv=>?_;by_cases hD:D2.getD i.toNat 0<0
   ·have hv:=hv (decide_eq_true hD);subst hv;rw [decide_eq_true hD,Bool.true_and];refine fO ?_ ?_<;>intro c3
    ·have he:Ed L i hd:=⟨om,c2,nJ.1 c3⟩;refine aR om (aR om (aR (by unfold aG; omega) (aR om (aR (by unfold big; omega) (aR (by unfold aG; omega) ?_)))));obtain ⟨e1,e2⟩:=d8.step a0 d3 c2 hD hd0 hd1 hd2 he;have hqa:qu 0 (ln2+1) ((rw2.drop Y9).take ln2++[i])=qu Y9 ln2 rw2++[i]:=by
      show (((rw2.drop Y9).take ln2++[i]).drop 0).take (ln2+1)=_;rw [List.drop_zero,List.take_of_length_le (by rw [List.length_append,List.length_singleton]; unfold qu at hq2; omega)];rfl
     refine ih2 _ ⟨by dsimp only; rw [List.length_append,List.length_singleton]; unfold qu at hq2; omega,by dsimp only; omega,by dsimp only; omega,by dsimp only; omega,by dsimp only; omega,by dsimp only; omega,?_,?_,?_,?_⟩ (by dsimp only; omega)
     ·dsimp only;rw [hqa,List.getD_eq_getElem?_getD,List.getElem?_append_left om,← List.getD_eq_getElem?_getD];exact d7
     ·dsimp only;rw [hqa]; exact e1
     ·dsimp only;rw [hqa];have hb:Bk L a (D2.set i.toNat (D2.getD hd.toNat 0+1)) (λ y=>y ∉ qu Y9 ln2 rw2∧y≠i):=Bk.mono (λ x y p1 p2 p3 p4 p5 p6=>d9 x y p1 p2 p3 p4 p5 p6.1) a0 d3 c2 hl2 hD om (λ q=>q.2 rfl);exact λ x y p1 p2 p3 p4 p5 p6=>hb x y p1 p2 p3 p4 p5 ⟨λ q=>p6 (List.mem_append_left _ q),λ q=>p6 (List.mem_append_right _ (List.mem_singleton.2 q))⟩
     ·intro x x1 x2 hx;dsimp only at x2 ⊢;by_cases e:x=i
      ·subst e; rw [yh om]; omega
      ·rw [ko om]; exact d10 x x1 om hx
    ·refine aR (by unfold aG; omega) (ih2 _ ⟨d1,d2,by dsimp only; omega,by dsimp only; omega,d5,d6,d7,d8,d9,λ x x1 x2 hx=>?_⟩ (by dsimp only; omega));dsimp only at x2 ⊢;by_cases e:x=i
     ·subst e;exfalso;have:=nJ.2 hx.2.2;rw [this] at c3; cases c3
     ·exact d10 x x1 om hx
   ·rw [decide_eq_false hD,Bool.false_and];refine fO nofun (λ _=>aR (by unfold aG; omega) (ih2 _ ⟨d1,d2,by dsimp only; omega,by dsimp only; omega,d5,d6,d7,d8,d9,λ x x1 x2 hx=>?_⟩ (by dsimp only; omega)));dsimp only at x2 ⊢;by_cases e:x=i
    ·subst e; omega
    ·exact d10 x x1 om hx
  ·refine aR om ?_;have hqc:qu Y9 ln2 rw2=hd::qu (Y9+1) (ln2 - 1) rw2:=by
    have e:rw2.drop Y9=hd::rw2.drop (Y9+1):=by
     rw [← List.getElem_cons_drop (show Y9<rw2.length by omega)];congr 1;have:=d7;rw [Yi d2,Nat.add_zero,List.getD_eq_getElem?_getD,List.getElem?_eq_getElem om] at this;exact this
    unfold qu;rw [e];conv=>lhs; rw [show ln2=(ln2 - 1)+1 by omega,List.take_succ_cons]
   refine ih1 _ ⟨by dsimp only; omega,by dsimp only; omega,⟨d8.ln,d8.zero,d8.lo,d8.hi,d8.at0,d8.ge,d8.next,λ x hx=>d8.qr x (by rw [hqc]; exact List.mem_cons_of_mem _ hx)⟩,λ x y p1 p2 p3 p4 p5 p6=>?_⟩ (by dsimp only; omega);dsimp only at p5 p6 ⊢;by_cases e:y=hd
   ·subst e;exact d10 x p2 (by have:=p1.2.1; omega) p1
   ·refine d9 x y p1 p2 p3 p4 p5 (λ q=>?_);rw [hqc] at q;rcases List.mem_cons.1 q with q | q
    ·exact e q
    ·exact p6 q
 ·have hlen:len=0:=by omega
  subst hlen;refine bY ⟨b3.ln,⟨b3.zero,b3.at0,b3.ge,b3.next,λ x y he hx hy=>?_⟩,λ x x0 x1=>⟨b3.lo x x0 x1,by have:=b3.hi x x0 x1; omega⟩⟩;have Zq:=h.rg x.toNat (by have:=he.1; have:=he.2.1; omega) y he.2.2;exact b4 x y he hx Zq.1 Zq.2 hy (by unfold qu; rw [List.take_zero]; exact List.not_mem_nil)
def Cyc (L:List (List Int)) (c:List Int):Prop:=0<c.length∧c.length≤13∧∀k,k<c.length→Ed L (c.getD k 0) (c.getD ((k+1) % c.length) 0)
def NoC (L:List (List Int)) (a:Int):Prop:=∀x,Ed L a x→a≤x→¬Wk L a x
theorem Za {l:List Int} {k:Nat} (h:k<l.length):(l++[x]).getD k 0=l.getD k 0:=by
 rw [List.getD_eq_getElem?_getD,List.getElem?_append_left h,← List.getD_eq_getElem?_getD]
theorem aeG {l:List Int} :(l++[x]).getD l.length 0=x:=by
 rw [List.getD_eq_getElem?_getD,List.getElem?_append_right (Nat.le_refl _),Nat.sub_self]; rfl
structure Fr (L:List (List Int)) (a:Int) (D:List Int):Prop where
 gr:Gr L
 a0:0≤a
 a1:a<L.length
 ln:D.length=L.length
 fr:Far L a (λ x=>D.getD x.toNat 0)
 bd:∀x:Int,0≤x→x<L.length → -1≤D.getD x.toNat 0∧D.getD x.toNat 0≤12
theorem Fr.ed (h:Fr L a D) (he:Ed L x y):(0≤x∧x<L.length)∧0≤y∧y<L.length:=⟨⟨he.1,he.2.1⟩,h.gr.rg x.toNat (by have:=he.1; have:=he.2.1; omega) y he.2.2⟩
theorem Fr.no (h:Fr L a D) (hn:∀x,Ed L a x→¬(a≤x∧0≤D.getD x.toNat 0)):NoC L a:=λ x he hx w=>hn x he ⟨hx,h.fr.walk w⟩
theorem wM {g1:Bool×(Int×(Int×List Int))} {av:(Bool×(Int×(Int×List Int)))→M (List Int)} {sz k0:Int} {Q:List Int→Prop} (h:Fr L g1.2.1 D) (s0:0<sz) (s1:sz≤13) (hx:∃y,Ed L g1.2.1 y∧g1.2.1≤y∧D.getD y.toNat 0=sz - 1) (hs:∀c,Cyc L c→W (av (false,0,(g1.2.1+1,c))) Q):W (bJ (nG L g1 av D (sz,k0)) (g1.2.1,[g1.2.1])) Q:=by
 have a0:=h.a0;have a1:=h.a1;have hN:=h.gr.n;refine fK (λ g:Int×List Int=>0<g.2.length∧g.2.length≤sz∧g.2.getD 0 0=g1.2.1∧g.2.getD (g.2.length - 1) 0=g.1∧(0≤g.1∧g.1<L.length)∧(∀k,k+1<g.2.length→Ed L (g.2.getD k 0) (g.2.getD (k+1) 0))∧∃y,Ed L g.1 y∧g1.2.1≤y∧D.getD y.toNat 0=sz - g.2.length) (λ g=>(sz - g.2.length).toNat) ?_ ⟨Nat.zero_lt_one,by dsimp only [List.length_singleton]; omega,rfl,rfl,⟨a0,a1⟩,λ k hk=>absurd hk (by simp),hx⟩;rintro dL ⟨at_,best⟩ ⟨b1,b2,b3,b4,b5,b6,y,y1,y2,y3⟩ ih;dsimp only at b1 b2 b3 b4 b5 b6 y1 y3;unfold nG;dsimp only;refine wi ?_ ?_<;>intro c1
 ·have hl:=h.gr.ln at_.toNat om;refine aR b5 ?_;refine fK (λ k:Int=>0≤k∧∀j:Nat,(j:Int)<k→¬(g1.2.1<(L.getD at_.toNat []).getD j 0∧D.getD ((L.getD at_.toNat []).getD j 0).toNat 0=sz - best.length)) (λ k=>((L.getD at_.toNat []).length - k).toNat) ?_ ⟨Int.le_refl _,λ j hj=>by omega⟩;intro iZ k ⟨d1,d2⟩ ih2;unfold zD;dsimp only;refine wi ?_ ?_<;>intro c2
  ·have hr:=h.gr.rg at_.toNat om _ (getD_in (l:=L.getD at_.toNat []) (i:=k.toNat) 0 om);have hln:=h.ln;refine aR om (aR (λ _=>by omega) (aR (λ _=>by unfold aG; omega) ?_));refine fO ?_ ?_<;>intro c3
   ·have c3:=vP c3;obtain ⟨c3,c4⟩:=c3;generalize hxx:(L.getD at_.toNat []).getD k.toNat 0=x at *;have hxe:Ed L at_ x:=⟨b5.1,b5.2,by rw [← hxx]; exact getD_in 0 om⟩;obtain ⟨z,z1,z2,z3,z4⟩:=h.fr.next x hr.1 hr.2 (by (try dsimp only); omega);try dsimp only at z4
    unfold sw;dsimp only;refine aR (by unfold big; omega) ?_;refine ih _ ⟨by dsimp only; rw [List.length_append,List.length_singleton]; omega,by dsimp only; rw [List.length_append,List.length_singleton]; omega,by dsimp only; rw [Za b1]; exact b3,by dsimp only; rw [List.length_append,List.length_singleton,Nat.add_sub_cancel]; exact aeG,hr,λ k hk=>?_,z,z1,h.fr.ge z z2 z3 (by (try dsimp only); omega),by dsimp only; rw [List.length_append,List.length_singleton]; omega⟩ (by dsimp only; rw [List.length_append,List.length_singleton]; omega);dsimp only at hk ⊢;rw [List.length_append,List.length_singleton] at hk;by_cases e:k+1<best.length
    ·rw [Za om,Za e]; exact b6 k e
    ·have e:k+1=best.length:=by omega
     rw [Za om,e,aeG,show k=best.length - 1 by omega,b4];exact hxe
   ·refine aR (by unfold aG; omega) (ih2 _ ⟨om,jm d2 d1 λ q=>?_⟩ om);rw [decide_eq_true q.1,q.2,beq_self_eq_true] at c3;cases c3
  ·exfalso;obtain ⟨j,hj,e⟩:=List.mem_iff_getElem.1 y1.2.2;have e2:(L.getD at_.toNat []).getD j 0=y:=by rw [List.getD_eq_getElem?_getD,List.getElem?_eq_getElem hj,← e]; rfl
   refine d2 j om ⟨?_,by rw [e2]; exact y3⟩;rw [e2];have hne:y≠g1.2.1:=λ q=>by
    have:=h.fr.zero;try dsimp only at this
    rw [q] at y3; omega
   omega
 ·have el:(best.length:Int)=sz:=by omega
  have hye:=(h.ed y1).2;have ey:y=g1.2.1:=h.fr.at0 y hye.1 hye.2 (by (try dsimp only); omega);refine aR (by unfold aG; omega) (hs best ⟨b1,om,λ k hk=>?_⟩);by_cases e:k+1<best.length
  ·rw [Nat.mod_eq_of_lt e]; exact b6 k e
  ·have e:k+1=best.length:=by omega
   rw [e,Nat.mod_self,b3,show k=best.length - 1 by omega,b4,← ey];exact y1
theorem Gy {g1:Bool×(Int×(Int×List Int))} {av:(Bool×(Int×(Int×List Int)))→M (List Int)} {Q:List Int→Prop} (h:Fr L g1.2.1 D) (hn:NoC L g1.2.1→W (av (true,g1.2.1+1,(0,[]))) Q) (hs:∀c,Cyc L c→W (av (false,0,(g1.2.1+1,c))) Q):W (bJ (sD L g1 av D) (0,0)) Q:=by
 have a0:=h.a0;have a1:=h.a1;have hN:=h.gr.n;have hl:=h.gr.ln g1.2.1.toNat om;refine fK (λ g:Int×Int=>0≤g.2∧0≤g.1∧g.1≤13∧(g.1=0→∀j:Nat,(j:Int)<g.2→¬(g1.2.1≤(L.getD g1.2.1.toNat []).getD j 0∧0≤D.getD ((L.getD g1.2.1.toNat []).getD j 0).toNat 0))∧(0<g.1→∃y,Ed L g1.2.1 y∧g1.2.1≤y∧D.getD y.toNat 0=g.1 - 1)) (λ g=>((L.getD g1.2.1.toNat []).length - g.2).toNat) ?_ ⟨Int.le_refl _,Int.le_refl _,by decide,λ _ j hj=>by omega,λ q=>absurd q (by decide)⟩;rintro dL ⟨sz,k⟩ ⟨b1,b2,b3,b4,b5⟩ ih;dsimp only at b1 b2 b3 b4 b5;unfold sD;dsimp only;refine wi ?_ ?_<;>intro c1
 ·have hm:=getD_in (l:=L.getD g1.2.1.toNat []) (i:=k.toNat) 0 om;have hr:=h.gr.rg g1.2.1.toNat om _ hm;have hln:=h.ln;generalize hxx:(L.getD g1.2.1.toNat []).getD k.toNat 0=x at *;have hb:=h.bd x hr.1 hr.2;refine aR om (aR (λ _=>by omega) (aR (λ _ _=>by omega) (aR (λ _ _=>by unfold aG; omega) ?_)));refine fO ?_ ?_<;>intro c2
  ·simp only [Bool.and_eq_true,decide_eq_true_eq] at c2;obtain ⟨⟨c2,c3⟩,_⟩:=c2;refine aR om (aR (by unfold aG; omega) (aR (by unfold aG; omega) ?_));exact ih _ ⟨by dsimp only; omega,by dsimp only; omega,by dsimp only; omega,λ q=>by dsimp only at q; omega,λ _=>⟨x,⟨a0,a1,hm⟩,c2,by dsimp only; omega⟩⟩ (by (try dsimp only); omega)
  ·refine aR (by unfold aG; omega) (ih _ ⟨by dsimp only; omega,b2,b3,λ q=>jm (b4 q) b1 λ p=>?_,b5⟩ (by dsimp only; omega));rw [hxx] at p;dsimp only at q;rw [decide_eq_true p.1,decide_eq_true p.2,q] at c2;cases c2
 ·refine fO ?_ ?_<;>intro c2
  ·have hz:sz=0:=by simpa using c2
   refine aR (by unfold aG; omega) (hn (h.no λ x he hx=>?_));obtain ⟨j,hj,e⟩:=List.mem_iff_getElem.1 he.2.2;have e2:(L.getD g1.2.1.toNat []).getD j 0=x:=by rw [List.getD_eq_getElem?_getD,List.getElem?_eq_getElem hj,← e]; rfl
   exact b4 hz j om (by rw [e2]; exact hx)
  ·have hz:sz≠0:=λ q=>by rw [q] at c2; cases c2
   obtain ⟨y,y1,y2,y3⟩:=b5 om;exact wM h om b3 ⟨y,y1,y2,y3⟩ hs
theorem DU {g1:Bool×(Int×(Int×List Int))} {av:(Bool×(Int×(Int×List Int)))→M (List Int)} {Q:List Int→Prop} (h:Fr L g1.2.2.1 D) (hp:0<g1.2.2.2.length) (hk2:True→W (av (false,0,(g1.2.2.1+1,g1.2.2.2))) Q) (hs:∀c,Cyc L c→W (av (false,0,(g1.2.2.1+1,c))) Q):W (bJ (pG L g1 av D) (0,0)) Q:=by
 have a0:=h.a0;have a1:=h.a1;have hN:=h.gr.n;have hl:=h.gr.ln g1.2.2.1.toNat om;refine fK (λ g:Int×Int=>0≤g.2∧0≤g.1∧g.1≤13∧(g.1=0→∀j:Nat,(j:Int)<g.2→¬(g1.2.2.1≤(L.getD g1.2.2.1.toNat []).getD j 0∧0≤D.getD ((L.getD g1.2.2.1.toNat []).getD j 0).toNat 0))∧(0<g.1→∃y,Ed L g1.2.2.1 y∧g1.2.2.1≤y∧D.getD y.toNat 0=g.1 - 1)) (λ g=>((L.getD g1.2.2.1.toNat []).length - g.2).toNat) ?_ ⟨Int.le_refl _,Int.le_refl _,by decide,λ _ j hj=>by omega,λ q=>absurd q (by decide)⟩;rintro dL ⟨sz,k⟩ ⟨b1,b2,b3,b4,b5⟩ ih;dsimp only at b1 b2 b3 b4 b5;unfold pG;dsimp only;refine wi ?_ ?_<;>intro c1
 ·have hm:=getD_in (l:=L.getD g1.2.2.1.toNat []) (i:=k.toNat) 0 om;have hr:=h.gr.rg g1.2.2.1.toNat om _ hm;have hln:=h.ln;generalize hxx:(L.getD g1.2.2.1.toNat []).getD k.toNat 0=x at *;have hb:=h.bd x hr.1 hr.2;refine aR om (aR (λ _=>by omega) (aR (λ _ _=>by omega) (aR (λ _ _=>by unfold aG; omega) ?_)));refine fO ?_ ?_<;>intro c2
  ·simp only [Bool.and_eq_true,decide_eq_true_eq] at c2;obtain ⟨⟨c2,c3⟩,_⟩:=c2;refine aR om (aR (by unfold aG; omega) (aR (by unfold aG; omega) ?_));exact ih _ ⟨by dsimp only; omega,by dsimp only; omega,by dsimp only; omega,λ q=>by dsimp only at q; omega,λ _=>⟨x,⟨a0,a1,hm⟩,c2,by dsimp only; omega⟩⟩ (by (try dsimp only); omega)
  ·refine aR (by unfold aG; omega) (ih _ ⟨by dsimp only; omega,b2,b3,λ q=>jm (b4 q) b1 λ p=>?_,b5⟩ (by dsimp only; omega));rw [hxx] at p;dsimp only at q;rw [decide_eq_true p.1,decide_eq_true p.2,q] at c2;cases c2
 ·refine aR (λ _=>hp) ?_;refine fO ?_ ?_<;>intro c2
  ·exact aR (by unfold aG; omega) (hk2 trivial)
  ·have hz:sz≠0:=λ q=>by rw [q] at c2; cases c2
   obtain ⟨y,y1,y2,y3⟩:=b5 om;exact (show W (bJ (nG L (true,g1.2.2.1,g1.2.2) av D (sz,k)) (g1.2.2.1,[g1.2.2.1])) Q from wM (g1:=(true,g1.2.2.1,g1.2.2)) h om b3 ⟨y,y1,y2,y3⟩ hs)
theorem Q6 (h:Gr L):W (vH L) (λ c=>(c=[]∧∀a:Int,0≤a→a<L.length→NoC L a)∨Cyc L c):=by
 have hN:=h.n;unfold vH;refine dD (Sc h) λ v1 e1=>?_;subst e1;refine fO nofun (λ _=>?_);refine fK (λ g:Bool×(Int×(Int×List Int))=>match g.1 with
  | true=>0≤g.2.1∧g.2.1≤L.length∧∀a:Int,0≤a→a<g.2.1→NoC L a
  | false=>0≤g.2.2.1∧g.2.2.1≤L.length∧Cyc L g.2.2.2) (λ g=>match g.1 with
  | true=>(L.length - g.2.1).toNat
  | false=>(L.length - g.2.2.1).toNat) ?_ ⟨Int.le_refl _,by dsimp only; omega,λ a a0 a1=>by dsimp only at a1; omega⟩
 rintro av ⟨b,a,a2,c⟩ hi ih;have fr:∀ {a:Int} {D:List Int},0≤a→a<L.length→(D.length=L.length∧Far L a (λ x=>D.getD x.toNat 0)∧∀x:Int,0≤x→x<L.length → -1≤D.getD x.toNat 0∧D.getD x.toNat 0≤12)→Fr L a D:=λ a0 a1 ⟨q1,q2,q3⟩=>⟨h,a0,a1,q1,q2,q3⟩
 unfold Bv;cases b with
 | true=>
  obtain ⟨d1,d2,d3⟩:=hi;dsimp only at d1 d2 d3 ⊢;refine fO (λ _=>?_) nofun;refine fO ?_ ?_<;>intro c1
  ·have c1:=vP c1;refine dD (Jp h d1 c1) λ v hv=>?_;refine aR ⟨d1,c1⟩ ?_;refine Gy (g1:=(true,a,a2,c)) (fr d1 c1 hv) (λ q=>ih (true,a+1,0,[]) ⟨by dsimp only; omega,by dsimp only; omega,λ x x0 x1=>?_⟩ (by dsimp only; omega)) (λ q hq=>ih (false,0,a+1,q) ⟨by dsimp only; omega,by dsimp only; omega,hq⟩ (by dsimp only; omega));dsimp only at x1;by_cases e:x=a
   ·rw [e]; exact q
   ·exact d3 x x0 om
  ·have c1:=vP c1;exact bY (.inl ⟨rfl,λ x x0 x1=>d3 x x0 om⟩)
 | false=>
  obtain ⟨d1,d2,d3⟩:=hi;dsimp only at d1 d2 d3 ⊢;refine fO nofun (λ _=>?_);refine fO (λ c1=>?_) (λ c1=>bY (.inr d3));have c1:=vP c1;refine dD (Jp h d1 c1) λ v hv=>?_;refine aR ⟨d1,c1⟩ ?_;exact DU (g1:=(false,a,a2,c)) (fr d1 c1 hv) d3.1 (λ _=>ih (false,0,a2+1,c) ⟨by dsimp only; omega,by dsimp only; omega,d3⟩ (by dsimp only; omega)) (λ q hq=>ih (false,0,a2+1,q) ⟨by dsimp only; omega,by dsimp only; omega,hq⟩ (by dsimp only; omega))
def cnt (D:List Bool):Nat:=D.countP λ x=>x
theorem acI {D:List Bool} (hi:i<D.length):D.getD i false=D[i]:=by rw [List.getD_eq_getElem?_getD,List.getElem?_eq_getElem hi]; rfl
theorem UQ {D:List Bool} (hi:i<D.length) (h:D.getD i false=false):cnt (D.set i true)=cnt D+1:=by
 rw [acI hi] at h;unfold cnt;rw [List.countP_set hi,h];simp
theorem UR {D:List Bool}:cnt D≤D.length:=List.countP_le_length
theorem adY {D:List Bool} (h:D.length≤cnt D):∀i,i<D.length→D.getD i false=true:=λ i hi=>by
 rw [acI hi];exact List.countP_eq_length.1 (Nat.le_antisymm UR h) _ (List.getElem_mem hi)
theorem cnt_lt {D:List Bool} (h:cnt D<D.length):∃i,i<D.length∧D.getD i false=false:=Classical.byContradiction λ q=>by
 have:cnt D=D.length:=List.countP_eq_length.2 λ x hx=>by
  obtain ⟨i,hi,rfl⟩:=List.mem_iff_getElem.1 hx;cases e:D[i] with
  | true=>rfl
  | false=>exact absurd ⟨i,hi,by rw [acI hi,e]⟩ q
 omega
theorem OD {D:List Bool} {v:Bool} (hi:i<D.length):(D.set i v).getD i false=v:=yh hi
def acJ (L:List (List Int)) (D:List Bool) (i:Int):Prop:=D.getD i.toNat false=false∧∀y∈L.getD i.toNat [],D.getD y.toNat false=true
def ahO (L:List (List Int)) (r:List Int×Bool):Prop:=(r.2=true∧∃f:Int→Nat,∀x y,Ed L x y→f y<f x)∨(r.2=false∧∃U:Int→Prop,(∀x,U x→0≤x∧x<L.length)∧(∀x,U x→∃y,U y∧Ed L x y)∧∃x,U x)
theorem Sg (h:Gr L):W (xZ L) (ahO L):=by
 have hN:=h.n;unfold xZ;refine dD (Sd h) λ v1 e1=>?_;subst e1;refine fO nofun (λ _=>?_);refine aR (by unfold big; omega) ?_;have hrep:∀i:Nat,(List.replicate (L.length:Int).toNat false).getD i false=false:=λ i=>by
  rw [List.getD_eq_getElem?_getD,List.getElem?_replicate]; split<;>rfl
 refine fK (λ g:List Bool×List Int=>g.1.length=L.length∧cnt g.1=g.2.length∧∃f:Int→Nat,(∀x:Int,0≤x→x<L.length→g.1.getD x.toNat false=true→f x<g.2.length)∧∀x y,Ed L x y→g.1.getD x.toNat false=true→g.1.getD y.toNat false=true∧f y<f x) (λ g=>L.length - g.2.length) ?_ ⟨by simp,by unfold cnt; rw [List.countP_replicate]; rfl,λ _=>0,λ x _ _ hx=>(by dsimp only at hx; rw [hrep] at hx; cases hx),λ x y _ hx=>(by dsimp only at hx; rw [hrep] at hx; cases hx)⟩;rintro av ⟨D,out⟩ ⟨d1,d2,f,d3,d4⟩ ih;dsimp only at d1 d2 d3 d4;have hcl:=UR (D:=D);unfold Dz;dsimp only;refine wi ?_ ?_<;>intro c1
 ·refine aR (by unfold aG; omega) ?_;refine fK (λ g:Int×Int => -1≤g.2∧g.2<L.length ∧ -1≤g.1∧(0≤g.1→g.1<L.length∧acJ L D g.1)∧(g.1<0→∀i:Int,g.2<i→i<L.length→¬acJ L D i)) (λ g=>(g.2+1).toNat) ?_ ⟨by dsimp only; omega,by dsimp only; omega,Int.le_refl _,λ q=>by dsimp only at q; omega,λ _ i i1 i2=>by dsimp only at i1; omega⟩;rintro dL ⟨nx,i⟩ ⟨b1,b2,b3,b4,b5⟩ ih2;dsimp only at b1 b2 b3 b4 b5;unfold Dy;dsimp only;refine wi ?_ ?_<;>intro c2
  ·refine aR om ?_;have hl:=h.ln i.toNat om;have hr:=h.rg i.toNat om;refine fK (λ g:Bool×Int=>0≤g.2∧g.2≤(L.getD i.toNat []).length∧(g.1=true↔D.getD i.toNat false=false∧∀j:Nat,(j:Int)<g.2→D.getD ((L.getD i.toNat []).getD j 0).toNat false=true)) (λ g=>((L.getD i.toNat []).length - g.2).toNat) ?_ ⟨Int.le_refl _,by dsimp only; omega,?_⟩
   ·rintro iZ ⟨fr,k⟩ ⟨e1,e2,e3⟩ ih3;dsimp only at e1 e2 e3;unfold Bz;dsimp only;refine aR om ?_;refine fO ?_ ?_<;>intro c3
    ·have c3:=vP c3;have hx:=hr _ (getD_in (i:=k.toNat) 0 om);refine aR (λ _=>by omega) (aR (λ _=>by omega) (aR (λ _=>by omega) (aR (by unfold aG; omega) ?_)));refine ih3 _ ⟨by dsimp only; omega,by dsimp only; omega,?_⟩ (by dsimp only; omega);dsimp only;rw [Bool.and_eq_true,e3];constructor
     ·rintro ⟨⟨q1,q2⟩,q3⟩;exact ⟨q1,jm q2 e1 q3⟩
     ·rintro ⟨q1,q2⟩;exact ⟨⟨q1,λ j hj=>q2 j om⟩,q2 k.toNat om⟩
    ·have c3:=vP c3;have hfr:fr=true↔acJ L D i:=by
      rw [e3];constructor
      ·rintro ⟨q1,q2⟩;exact ⟨q1,DL 0 λ j hj=>q2 j om⟩
      ·rintro ⟨q1,q2⟩;exact ⟨q1,λ j hj=>q2 _ (getD_in 0 om)⟩
     refine fO ?_ ?_<;>intro c4
     ·exact aR (by unfold aG; omega) (ih2 _ ⟨by dsimp only; omega,by dsimp only; omega,by dsimp only; omega,λ _=>⟨b2,hfr.1 c4⟩,λ q=>by dsimp only at q; omega⟩ (by dsimp only; omega))
     ·refine aR (by unfold aG; omega) (ih2 _ ⟨by dsimp only; omega,by dsimp only; omega,b3,b4,λ q x x1 x2=>?_⟩ (by dsimp only; omega));dsimp only at x1;by_cases e:x=i
      ·rw [e]; exact λ p=>by rw [hfr.2 p] at c4; cases c4
      ·exact b5 q x om x2
   ·dsimp only;constructor
    ·intro q; exact ⟨by simpa using q,λ j hj=>by omega⟩
    ·intro q; rw [q.1]; rfl
  ·refine fO ?_ ?_<;>intro c3
   ·have c3:=vP c3;obtain ⟨x0,hx0,hx1⟩:=cnt_lt (D:=D) om;refine bY (.inr ⟨rfl,λ x=>(0≤x∧x<L.length)∧D.getD x.toNat false=false,λ x hx=>hx.1,λ x hx=>?_,⟨x0,⟨om,om⟩,by simpa using hx1⟩⟩);have hnf:=b5 c3 x om hx.1.2;refine Classical.byContradiction λ q=>hnf ⟨hx.2,λ y hy=>?_⟩;have Zq:=h.rg x.toNat om y hy;cases e:D.getD y.toNat false with
    | true=>rfl
    | false=>exact absurd ⟨y,⟨Zq,e⟩,hx.1.1,hx.1.2,hy⟩ q
   ·have c3:=vP c3;obtain ⟨n1,n2,n3⟩:=b4 c3;refine aR om (aR (by unfold big; omega) ?_);refine ih _ ⟨by dsimp only; rw [List.length_set]; exact d1,by dsimp only; rw [UQ om n2,List.length_append,List.length_singleton,d2],λ x=>if x=nx then out.length else f x,λ x x0 x1 hx=>?_,λ x y he hx=>?_⟩ (by dsimp only; rw [List.length_append,List.length_singleton]; omega)
    ·dsimp only at hx ⊢;rw [List.length_append,List.length_singleton];by_cases e:x=nx
     ·rw [if_pos e]; omega
     ·rw [if_neg e];rw [ko om] at hx;have:=d3 x x0 x1 hx;omega
    ·dsimp only at hx ⊢;have hx0:=he.1;have Zq:=h.rg x.toNat (by have:=he.2.1; omega) y he.2.2;have hyn:∀ {z:Int},0≤z→D.getD z.toNat false=true→z≠nx:=λ _ p q=>by rw [q,n2] at p; cases p
     by_cases e:x=nx
     ·have hy:=n3 y (by rw [← e]; exact he.2.2);have hne:=hyn Zq.1 hy;rw [if_pos e,if_neg hne,ko om];exact ⟨hy,d3 y Zq.1 Zq.2 hy⟩
     ·rw [ko om] at hx;obtain ⟨q1,q2⟩:=d4 x y he hx;have hne:=hyn Zq.1 q1;rw [if_neg e,if_neg hne,ko om];exact ⟨q1,q2⟩
 ·refine bY (.inl ⟨rfl,f,λ x y he=>(d4 x y he ?_).2⟩);exact adY om _ (by have:=he.1; have:=he.2.1; omega)
theorem adZ {c:List Int} {r:List Int×Bool} (hc:(c=[]∧∀a:Int,0≤a→a<L.length→NoC L a)∨Cyc L c) (hr:ahO L r):r.2=((c.length:Int)==0):=by
 rcases hc with ⟨rfl,hn⟩ | hc
 ·rcases hr with ⟨e,_⟩ | ⟨_,U,u1,u2,u3⟩
  ·rw [e]; rfl
  ·exfalso;obtain ⟨b,x,q1,q2,q3⟩:=stuck L.length 0 U (by rw [Int.zero_add]) u1 u2 u3;exact hn b q1.1 q1.2.1 x q1 q2 q3
 ·have hne:((c.length:Int)==0)=false:=by have:=hc.1; rw [beq_eq_false_iff_ne]; omega
  rw [hne];rcases hr with ⟨_,f,hf⟩ | ⟨e,_⟩
  ·exact (WG hf hc.1 hc.2.2).elim
  ·exact e
def M5 (l:List ay) (x:Int):Prop:=0≤x∧x<l.length
def Pv (l:List ay) (x:Int):List Int:=(l.getD x.toNat bE).aO
def En (l:List ay) (x y:Int):Prop:=M5 l x∧M5 l y∧y∈Pv l x
inductive Jq (l:List ay):Int→Int→Prop where
 | z {x:Int} (h:M5 l x):Jq l x x
 | s {x y z:Int} (h:En l x y) (w:Jq l y z):Jq l x z
theorem Jq.inr (h:Jq l x y):M5 l x∧M5 l y:=by
 induction h with
 | z h=>exact ⟨h,h⟩
 | s h _ ih=>exact ⟨h.1,ih.2⟩
theorem Jq.trans {z:Int} (h:Jq l x y) (k:Jq l y z):Jq l x z:=by
 induction h with
 | z _=>exact k
 | s h _ ih=>exact .s h (ih k)
def Mk (S:List Bool) (x:Int):Prop:=S.getD x.toNat false=true
structure PvS (l:List ay):Prop where
 n:l.length≤12
 p:∀x:Int,M5 l x→(Pv l x).length≤100
structure Mv (l:List ay) (list:List Int) (S S':List Bool) (b:Bool):Prop where
 ln:S'.length=S.length
 ct:cnt S≤cnt S'
 mo:∀x:Int,M5 l x→Mk S x→Mk S' x
 cl:b=false→∀x:Int,M5 l x→Mk S' x→¬Mk S x→x ∉ list∧∀y,En l x y→Mk S' y
variable {list:List Int} {S:List Bool}
theorem Mv.refl {b:Bool}:Mv l list S S b:=⟨rfl,Nat.le_refl _,λ _ _ h=>h,λ _ _ _ h k=>absurd h k⟩
theorem Mv.trans {T U:List Bool} {b:Bool} (h:Mv l list S T false) (k:Mv l list T U b):Mv l list S U b:=by
 refine ⟨k.ln.trans h.ln,Nat.le_trans h.ct k.ct,λ x hx q=>k.mo x hx (h.mo x hx q),λ e x hx q1 q2=>?_⟩;by_cases q:Mk T x
 ·obtain ⟨p1,p2⟩:=h.cl rfl x hx q q2;exact ⟨p1,λ y hy=>k.mo y hy.2.1 (p2 y hy)⟩
 ·exact k.cl e x hx q1 q
abbrev VSt:=List Int×List ay×List Int×List Bool
abbrev VRs:=Bool×List ay×List Int×List Bool
def VQ (l:List ay) (list:List Int) (S:List Bool) (d:Int) (r:VRs):Prop:=r.2.1=l∧r.2.2.1=list∧Mv l list S r.2.2.2 r.1∧(r.1=true→∃y∈list,Jq l d y)∧(r.1=false→M5 l d→Mk r.2.2.2 d)
def CQ (l:List ay) (list:List Int) (S:List Bool) (s:List Int) (r:VRs):Prop:=r.2.1=l∧r.2.2.1=list∧Mv l list S r.2.2.2 r.1∧(r.1=true→∃d∈s,∃y∈list,Jq l d y)∧(r.1=false→∀d∈s,M5 l d→Mk r.2.2.2 d)
theorem zH {sf:VSt→M VRs} {d:Int} (h:PvS l) (hl:list.length≤100) (hS:S.length=l.length)
  (hsf:∀T:List Bool,T.length=l.length→cnt S<cnt T→M5 l d→W (sf (Pv l d,l,list,T)) (CQ l list T (Pv l d))):W (mX sf d l list S) (VQ l list S d):=by
 unfold mX;refine aR (λ q=>by rw [Bool.or_eq_false_iff,decide_eq_false_iff_not,decide_eq_false_iff_not] at q; omega) ?_;refine fO (λ c=>bY ⟨rfl,rfl,.refl,nofun,λ _ hd=>?_⟩) (λ c=>?_)
 ·simp only [Bool.or_eq_true,decide_eq_true_eq] at c;obtain ⟨d0,d1⟩:=hd;rcases c with (c | c) | c
  ·omega
  ·omega
  ·exact c
 ·simp only [Bool.or_eq_false_iff,decide_eq_false_iff_not] at c;obtain ⟨⟨c1,c2⟩,c3⟩:=c;have hd:M5 l d:=⟨om,om⟩;have hdl:d.toNat<S.length:=by have:=hd.1; have:=hd.2; omega
  refine aR om ?_;unfold qK;have hc:=UQ hdl c3;have hm1:Mk (S.set d.toNat true) d:=OD hdl;have hmo:∀x:Int,M5 l x→Mk S x→Mk (S.set d.toNat true) x:=λ x hx q=>by
   by_cases e:x=d
   ·rw [e]; exact hm1
   ·unfold Mk; rw [ko (by have:=hx.1; have:=hd.1; omega)]; exact q
  refine dD (H7 (jJ (s_:=list) (v_:=d) om)) λ v1 hv1=>?_;refine aR (λ _=>hd) ?_;refine fO ?_ ?_<;>intro c4
  ·have ev:v1=false:=by simpa using c4
   rw [ev] at hv1;have hnl:d ∉ list:=λ q=>by rw [nJ.2 q] at hv1; cases hv1
   refine dD (hsf _ (by rw [List.length_set]; exact hS) om hd) λ v2 ⟨k1,k2,k3,k4,k5⟩=>bY ?_;rw [ev,Bool.false_or];refine ⟨k1,k2,⟨by rw [k3.ln,List.length_set],by have:=k3.ct; dsimp only; omega,λ x hx q=>k3.mo x hx (hmo x hx q),λ e x hx q1 q2=>?_⟩,λ e=>?_,λ e _=>k3.mo d hd hm1⟩
   ·by_cases ex:x=d
    ·subst ex;exact ⟨hnl,λ y hy=>k5 e y hy.2.2 hy.2.1⟩
    ·refine k3.cl e x hx q1 (λ q=>q2 ?_);unfold Mk at q ⊢;rw [ko (by have:=hx.1; have:=hd.1; omega)] at q;exact q
   ·obtain ⟨p,p1,y,y1,y2⟩:=k4 e;exact ⟨y,y1,.s ⟨hd,y2.inr.1,p1⟩ y2⟩
  ·have ev:v1=true:=by simpa using c4
   rw [ev] at hv1;refine aR ev (bY ⟨rfl,rfl,⟨by rw [List.length_set],by dsimp only; omega,hmo,nofun⟩,λ _=>⟨d,nJ.1 hv1.symm,.z hd⟩,nofun⟩)
theorem uI {s:List Int} (h:PvS l) (hl:list.length≤100) (hS:S.length=l.length) (hs:s.length≤100):W (gM s l list S) (CQ l list S s):=by
 unfold gM;refine aga (Q:=λ x:VSt=>CQ l list x.2.2.2 x.1) (λ x:VSt=>x.2.1=l∧x.2.2.1=list∧x.2.2.2.length=l.length∧x.1.length≤100) (λ x=>l.length - cnt x.2.2.2) ?_ ⟨rfl,rfl,hS,hs⟩;rintro sf ⟨s,l',list',S⟩ ⟨e1,e2,hS,hs⟩ ih;dsimp only at e1 e2 hS hs ih;subst e1 e2;unfold fH;dsimp only;refine dD (P:=λ r:Int×List ay×List Int×List Bool=>r.2.1=l'∧r.2.2.1=list'∧Mv l' list' S r.2.2.2 (decide ((0:Int)≤r.1))∧(0≤r.1→∃d∈s,∃y∈list',Jq l' d y)∧(r.1<0→∀d∈s,M5 l' d→Mk r.2.2.2 d)) ?_ λ v ⟨q1,q2,q3,q4,q5⟩=>bY ⟨q1,q2,q3,λ e=>q4 (of_decide_eq_true e),λ e=>q5 (by have:=of_decide_eq_false e; omega)⟩;unfold kE;refine fK (λ g:Int×List ay×List Int×List Bool=>0≤g.1∧g.2.1=l'∧g.2.2.1=list'∧Mv l' list' S g.2.2.2 false∧∀j:Nat,(j:Int)<g.1→M5 l' (s.getD j 0)→Mk g.2.2.2 (s.getD j 0)) (λ g=>(s.length - g.1).toNat) ?_ ⟨Int.le_refl _,rfl,rfl,.refl,λ j hj=>by dsimp only at hj; omega⟩;rintro av ⟨k,l2,ahQ,T⟩ ⟨d1,d2,d3,d4,d5⟩ ih1;dsimp only at d1 d2 d3 d4 d5;subst d2 d3;have hT:T.length=l2.length:=d4.ln.trans hS;unfold mY;dsimp only;refine wi ?_ ?_<;>intro c
 ·refine aR om ?_;have hm:=getD_in (l:=s) (i:=k.toNat) 0 om;refine dD (zH (d:=s.getD k.toNat 0) h hl hT λ U hU hc hd=>?_) λ v ⟨k1,k2,k3,k4,k5⟩=>?_
  ·have hcu:=UR (D:=U);exact ih (Pv l2 (s.getD k.toNat 0),l2,ahQ,U) ⟨rfl,rfl,hU,h.p _ hd⟩ (by dsimp only; have:=d4.ct; omega)
  ·refine fO ?_ ?_<;>intro c2
   ·refine bY ⟨k1,k2,?_,λ _=>⟨_,hm,k4 c2⟩,λ q=>by dsimp only at q; omega⟩;dsimp only;rw [decide_eq_true d1];have:=d4.trans k3;rw [c2] at this;exact this
   ·refine aR (by unfold aG; omega) (ih1 _ ⟨by dsimp only; omega,k1,k2,by rw [c2] at k3; exact d4.trans k3,jm (λ j hj hr=>k3.mo _ hr (d5 j hj hr)) d1 (k5 c2)⟩ (by dsimp only; omega))
 ·refine bY ⟨rfl,rfl,d4,λ q=>by dsimp only at q; omega,λ _=>DL 0 λ j hj=>d5 j om⟩
theorem WH {d:Int} (h:PvS l) (hl:list.length≤100) (hd:M5 l d):W (EG l d list) (λ b=>b=true↔∃y∈list,Jq l d y):=by
 have hn:=h.n;unfold EG;refine aR (by unfold big; omega) ?_;have hrep:∀x:Int,¬Mk (List.replicate (l.length:Int).toNat false) x:=λ x q=>by
  unfold Mk at q;rw [List.getD_eq_getElem?_getD,List.getElem?_replicate] at q;split at q<;>cases q
 have hw:W (DF d l list (List.replicate (l.length:Int).toNat false)) (VQ l list (List.replicate (l.length:Int).toNat false) d):=
  show W (mX (λ s=>gM s.1 s.2.1 s.2.2.1 s.2.2.2) d l list _) _ from zH h hl (by rw [List.length_replicate]; omega) λ T hT _ hd=>uI h hl hT (h.p d hd)
 refine dD hw λ v ⟨k1,k2,k3,k4,k5⟩=>bY ⟨k4,λ ⟨y,y1,y2⟩=>?_⟩;cases e:v.1 with
 | true=>rfl
 | false=>
  exfalso;rw [e] at k3;have hc:∀x z,Jq l x z→Mk v.2.2.2 x→Mk v.2.2.2 z:=by
   intro x z w;induction w with
   | z _=>exact λ q=>q
   | s he _ ih=>exact λ q=>ih ((k3.cl rfl _ he.1 q (hrep _)).2 _ he)
  have:=hc d y y2 (k5 e hd);exact (k3.cl rfl y y2.inr.2 this (hrep _)).1 y1
end Go.Proofs.YtnbjfoeapbncjaaGreatDoor
