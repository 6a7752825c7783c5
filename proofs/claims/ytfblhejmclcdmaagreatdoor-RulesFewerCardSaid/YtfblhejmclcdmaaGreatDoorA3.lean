/- An abstract machine over the model's code, that it is sound; models of the functions and their proofs. -/
import Derived.Test.YtfblhejmclcdmaaGreatDoorA2
import Derived.RangeFuncNested
import Derived.Laws.Cover3
set_option linter.unusedVariables false
set_option linter.unusedSimpArgs false

namespace Go.Ab
section
variable {P:Program} {cfg:qm}
def ZN:ZK→Value→Bool
 | .bool,.bool false=>true
 | .int k,.int k' n=>decide (k=k')&&decide (n=0)
 | .str,.string s=>s.data.isEmpty
 | .slice,.slice none 0 0=>true
 | .ptr,.pointer none=>true
 | .other,x=>x.oneCell'
 | _,_=>false
def Ul:List ZK→List Value→Bool
 | [],[]=>true
 | z::l,v::m=>ZN z v&&Ul l m
 | _,_=>false
def ZO:TD→TypeDesc→Bool
 | .bool,.bool=>true
 | .int k,.int k'=>decide (k=k')
 | .str,.string=>true
 | .slice e,.slice e'=>Nat.beq e e'
 | .pointer e,.pointer e'=>Nat.beq e e'
 | .map k e,.map k' e'=>Nat.beq k k'&&Nat.beq e e'
 | .array n e,.array n' e'=>Nat.beq n n'&&Nat.beq e e'
 | .struct fs,.struct fields=>decide (fields.toList.map (fun f=>(f.offset,f.type))=fs)
 | .other,_=>true
 | _,_=>false
def fieldsB (P:Program):TypeDesc→Bool
 | .struct fields=>fields.toList.all fun f=>(P.info? f.type).isSome
 | _=>true
def Um (P:Program) (t:TypeId) (ti:FM):Bool:=
 match P.info? t,P.underlying t with
 | some i,some d=>match i.zero with
  | some z=>Nat.beq i.size ti.size&&Nat.beq i.bytes ti.bytes&&decide (d.isRow=ti.agg)&&Nat.beq z.cells.size ti.size&&Ul ti.zero z.cells.toList&&ZO ti.desc d&&fieldsB P d&&(ti.agg||z.oneCell')
  | none=>false
 | _,_=>false
def Pn (P:Program):List (Nat×FM)→Bool
 | []=>true
 | (t,ti)::l=>Um P t ti&&Pn P l
theorem Vf {z:ZK} {v:Value} (h:ZN z v=true):Ct z v:=by
 unfold ZN at h;split at h
 ·rfl
 ·simp only [Bool.and_eq_true,decide_eq_true_eq] at h; obtain ⟨rfl,rfl⟩:=h; rfl
 ·rename_i s;show Value.string s=.string ByteArray.empty;have:s.data=#[]:=by simpa using h
  cases s;simp only at this;rw [this];rfl
 ·rfl
 ·rfl
 ·exact h
 ·cases h
theorem S9:∀(zs:List ZK) (vs:List Value),Ul zs vs=true→zs.length=vs.length∧∀j,j<zs.length→Ct (zs.getD j .other) (vs.getD j Go.undef):=by
 intro zs;induction zs with
 | nil=>intro vs h; cases vs with
  | nil=>exact ⟨rfl,fun j hj=>by cases hj⟩
  | cons=>cases h
 | cons z zs ih=>intro vs h; cases vs with
  | nil=>cases h
  | cons v vs=>
   simp only [Ul,Bool.and_eq_true] at h
   obtain ⟨h1,h2⟩:=ih vs h.2
   refine ⟨by simp [h1],fun j hj=>?_⟩
   cases j with
   | zero=>exact Vf h.1
   | succ j=>simpa using h2 j (by simpa using hj)
theorem Vg {t:TD} {d:TypeDesc} (h:ZO t d=true):Wi t d:=by
 unfold ZO at h;split at h
 ·rfl
 ·have:=of_decide_eq_true h; subst this; rfl
 ·rfl
 ·have:=Nat.eq_of_beq_eq_true h; subst this; rfl
 ·have:=Nat.eq_of_beq_eq_true h; subst this; rfl
 ·simp only [Bool.and_eq_true] at h; have h1:=Nat.eq_of_beq_eq_true h.1; have h2:=Nat.eq_of_beq_eq_true h.2; subst h1; subst h2; rfl
 ·simp only [Bool.and_eq_true] at h; have h1:=Nat.eq_of_beq_eq_true h.1; have h2:=Nat.eq_of_beq_eq_true h.2; subst h1; subst h2; rfl
 ·exact ⟨_,rfl,of_decide_eq_true h⟩
 ·trivial
 ·cases h
theorem Vh {z:Value} (h:z.oneCell'=true):z.cells=#[z]:=by cases z<;>first | rfl | cases h
theorem LQ {t:TypeId} {ti:FM} (h:Um P t ti=true):aaq P t ti∧∀d,P.underlying t=some d→JM P d:=by
 unfold Um at h;split at h
 ·rename_i i d hi hd;split at h
  ·rename_i z hz;simp only [Bool.and_eq_true,decide_eq_true_eq] at h;obtain ⟨⟨⟨⟨⟨⟨⟨h1,h2⟩,h3⟩,h4⟩,h5⟩,h6⟩,h7⟩,h10⟩:=h;have e1:=Nat.eq_of_beq_eq_true h1;have e2:=Nat.eq_of_beq_eq_true h2;have e4:=Nat.eq_of_beq_eq_true h4;obtain ⟨h8,h9⟩:=S9 _ _ h5;have hlen:ti.zero.length=ti.size:=by rw [h8,← e4]; simp
   refine ⟨⟨⟨i,d,z,hi,hd,hz,e1,e2,h3,e4,hlen,fun j hj=>?_,Vg h6⟩,fun ha i' z' hi' hz'=>?_⟩,fun d' hd'=>?_⟩
   ·have:=h9 j (by omega);simpa using this
   ·rw [hi] at hi';cases hi';rw [hz] at hz';cases hz';rw [ha] at h10;exact Vh h10
   ·rw [hd] at hd';cases hd';cases d with
    | struct fields=>
     simp only [fieldsB,List.all_eq_true] at h7;exact h7
    | _=>trivial
  ·cases h
 ·cases h
theorem JY:∀(l:List (Nat×FM)),Pn P l=true→∀t ti,look l t=some ti→Um P t ti=true:=by
 intro l;induction l with
 | nil=>intro _ t ti h; cases h
 | cons q l ih=>
  intro h t ti hl;obtain ⟨k,tk⟩:=q;simp only [Pn,Bool.and_eq_true] at h;simp only [look] at hl;cases hb:Nat.beq k t with
  | true=>
   simp only [hb] at hl;cases hl;rw [← Nat.eq_of_beq_eq_true hb];exact h.1
  | false=>simp only [hb] at hl; exact ih h.2 t ti hl
def WY (P:Program) (t:TypeId):Option ZK:=match P.underlying t with
 | some .bool=>some .bool
 | some (.int k)=>some (.int k)
 | some .string=>some .str
 | _=>none
def LU (P:Program) (fl:TypeId→Option (List ZK)):List Field→Nat→Option (List ZK)
 | [],_=>some []
 | f::fs,k=>match decide (f.name ≠ "_")&&Nat.beq f.offset k with
  | true=>match WY P f.type with
   | some z=>match LU P fl fs (k+1) with
    | some l=>some (z::l)
    | none=>none
   | none=>match fl f.type with
    | some z1=>match Nat.beq (P.cellsOf f.type) z1.length,LU P fl fs (k+z1.length) with
     | true,some l=>some (z1++l)
     | _,_=>none
    | none=>none
  | false=>none
def Un (P:Program):Nat→TypeId→Option (List ZK)
 | 0,_=>none
 | n+1,t=>match P.underlying t,P.stoodInHeld t with
  | some (.struct fields),false=>LU P (Un P n) fields.toList 0
  | _,_=>none
def Uo (P:Program) (t:TypeId) (zs:List ZK):Bool:=decide (Un P 4 t=some zs)&&!P.eqGuardType P.depth t
def Po (P:Program):List (Nat×List ZK)→Bool
 | []=>true
 | (t,zs)::l=>Uo P t zs&&Po P l
theorem Ta {t:TypeId} {z:ZK} (h:WY P t=some z):∃d,P.underlying t=some d∧OY z d:=by
 unfold WY at h;split at h
 ·rename_i e; cases h; exact ⟨_,e,rfl⟩
 ·rename_i e; cases h; exact ⟨_,e,rfl⟩
 ·rename_i e; cases h; exact ⟨_,e,rfl⟩
 ·cases h
theorem QO {fl:TypeId→Option (List ZK)} {ok:TypeId→List ZK→Prop} (hfl:∀t zs,fl t=some zs→ok t zs):∀(fs:List Field) (zs:List ZK) (k:Nat),LU P fl fs k=some zs→Yd P ok fs zs k:=by
 intro fs;induction fs with
 | nil=>intro zs k h; cases h; trivial
 | cons f fs ih=>
  intro zs k h;unfold LU at h;split at h
  ·rename_i hb;simp only [Bool.and_eq_true,decide_eq_true_eq] at hb;refine ⟨hb.1,Nat.eq_of_beq_eq_true hb.2,?_⟩;split at h
   ·rename_i z hz;split at h
    ·rename_i l hl;cases h;obtain ⟨d,h1,h2⟩:=Ta hz;exact ⟨[z],l,rfl,.inl ⟨z,d,rfl,h1,h2⟩,ih _ _ hl⟩
    ·cases h
   ·split at h
    ·rename_i z1 hz1;split at h
     ·rename_i l hs hl;cases h;exact ⟨z1,l,rfl,.inr ⟨hfl _ _ hz1,Nat.eq_of_beq_eq_true hs⟩,ih _ _ hl⟩
     ·cases h
    ·cases h
  ·cases h
theorem Tc:∀(n:Nat) (t:TypeId) (zs:List ZK),Un P n t=some zs→EqT P n t zs:=by
 intro n;induction n with
 | zero=>intro t zs h; cases h
 | succ n ih=>
  intro t zs h;unfold Un at h;split at h
  ·rename_i fields hu hh;exact ⟨fields,hu,hh,QO ih _ _ _ h⟩
  ·cases h
theorem Td {t:TypeId} {zs:List ZK} (h:Uo P t zs=true):aar P t zs:=by
 unfold Uo at h;simp only [Bool.and_eq_true,Bool.not_eq_true',decide_eq_true_eq] at h;exact ⟨Tc _ _ _ h.1,h.2⟩
theorem QS:∀(l:List (Nat×List ZK)),Po P l=true→∀t zs,look l t=some zs→Uo P t zs=true:=by
 intro l;induction l with
 | nil=>intro _ t ti h; cases h
 | cons q l ih=>
  intro h t ti hl;obtain ⟨k,tk⟩:=q;simp only [Po,Bool.and_eq_true] at h;simp only [look] at hl;cases hb:Nat.beq k t with
  | true=>
   simp only [hb] at hl;cases hl;rw [← Nat.eq_of_beq_eq_true hb];exact h.1
  | false=>simp only [hb] at hl; exact ih h.2 t ti hl
theorem WZ (h:Pn P cfg.ty=true) (hm:P.follows .mixedOrders=true) (he:Po P cfg.eqs=true):dY P cfg where
 ty:=fun t ti hl=>(LQ (JY _ h t ti hl)).1
 fields:=fun t ti d hl=>(LQ (JY _ h t ti hl)).2 d
 mixed:=hm
 eqs:=fun t zs hl=>Td (QS _ he t zs hl)
end
end Go.Ab

namespace Go.Ab
theorem Iw.Uq {l m:List AV} (h1:l.length=m.length) (h2:∀j,j<l.length→Le (nth l j) (nth m j)):Iw l m:=by
 induction l generalizing m with
 | nil=>cases m with
  | nil=>trivial
  | cons=>simp at h1
 | cons u l ih=>cases m with
  | nil=>simp at h1
  | cons v m=>exact ⟨h2 0 (by simp),ih (by simpa using h1) fun j hj=>h2 (j+1) (by simpa using hj)⟩
theorem Ur {ρ:List (Nat×Option Nat)} {H':iI} {f:Nat} {u v:AV} (h:Le u v) (hp:oU v=true):jv ρ H' (f+1) u v:=by
 cases h with
 | refl=>
  cases u<;>simp only [oU] at hp<;>first
   | (cases hp; done)
   | (unfold jv; exact trivial)
   | (unfold jv; exact rfl)
   | (unfold jv; exact ⟨rfl,rfl⟩)
   | (unfold jv; exact ⟨rfl,fun _=>rfl,fun h=>h,fun i _=>.refl _⟩)
   | (unfold jv; exact Iw.refl _)
 | sl hn he hf h=>unfold jv; exact ⟨hn,he,hf,h⟩
 | ro hl h=>unfold jv; exact Iw.Uq hl h
 | agg=>cases hp
 | jJ=>cases hp
 | fn=>cases hp
theorem YC {ρ:List (Nat×Option Nat)} {H':iI}:∀(l m:List AV) (f:Nat),l.length+1<f→Iw l m→lZ m=true→jv.embL ρ H' f l m:=by
 intro l;induction l with
 | nil=>
  intro m f hf h _;cases m with
  | nil=>cases f with
   | zero=>omega
   | succ f=>unfold jv.embL; trivial
  | cons=>exact h.elim
 | cons u l ih=>
  intro m f hf h hp;cases m with
  | nil=>exact h.elim
  | cons v m=>
   cases f with
   | zero=>omega
   | succ f=>
    cases f with
    | zero=>simp at hf
    | succ f=>
     unfold lZ at hp;split at hp
     ·rename_i hv;unfold jv.embL;exact ⟨Ur h.1 hv,ih m (f+1) (by simp at hf; omega) h.2 hp⟩
     ·cases hp
abbrev iV (n:Int):AV:=.int .i64 n
def bB {α:Type} (f:α→AV) (d:α) (l:List α):Nat→AV:=fun i=>f (l.getD i d)
def W9 (l:List Int):AV:=.sl 1 l.length false (bB iV 0 l)
def I64 (l:List Int):Prop:=∀x∈l,InI64 x
theorem I64.get {l:List Int} (h:I64 l) (i:Nat):InI64 (l.getD i 0):=by
 rw [List.getD_eq_getElem?_getD];cases hi:l[i]? with
 | none=>exact ⟨by decide,by decide⟩
 | some x=>exact h x (List.mem_of_getElem? hi)
structure Tp where
 l:List Int
 pos:Nat
def Tp.ok (t:Tp):Prop:=I64 t.l∧t.l.length≤500∧t.pos≤t.l.length
def Tp.raw (t:Tp):Int×Tp:=if t.l.length≤t.pos then (0,t) else (t.l.getD t.pos 0,⟨t.l,t.pos+1⟩)
def aaU (x n:Int):Int:=if n<1 then 0 else x % n
def Tp.n (t:Tp) (n:Int):Int×Tp:=(aaU t.raw.1 n,t.raw.2)
def Tp.range (t:Tp) (lo hi:Int):Int×Tp:=(lo+(t.n (hi - lo+1)).1,(t.n (hi - lo+1)).2)
def Tp.pick (t:Tp) (l:List Int):Int×Tp:=(l.getD (t.n l.length).1.toNat 0,(t.n l.length).2)
theorem drop_cons {α:Type} {l:List α} {i:Nat} (d:α) (h:i<l.length):l.drop i=l.getD i d::l.drop (i+1):=by
 rw [List.getD_eq_getElem?_getD,List.getElem?_eq_getElem h];exact List.drop_eq_getElem_cons h
theorem getD_take {α:Type} (l:List α) (d:α) {i k:Nat} (h:i<k):(l.take k).getD i d=l.getD i d:=by
 rw [List.getD_eq_getElem?_getD,List.getD_eq_getElem?_getD,List.getElem?_take_of_lt h]
theorem getD_drop {α:Type} (l:List α) (d:α) (k i:Nat):(l.drop k).getD i d=l.getD (k+i) d:=by
 rw [List.getD_eq_getElem?_getD,List.getD_eq_getElem?_getD,List.getElem?_drop]
theorem gJ {α:Type} {l:List α} {i:Nat} (d:α) (h:i<l.length):l.take (i+1)=l.take i++[l.getD i d]:=by
 rw [List.getD_eq_getElem?_getD,List.getElem?_eq_getElem h];exact List.take_succ_eq_append_getElem h
theorem nT {α β:Type} (f:β→α→β) (a:β) {l:List α} {i:Nat} (d:α) (h:i<l.length):(l.take (i+1)).foldl f a=f ((l.take i).foldl f a) (l.getD i d):=by
 rw [gJ d h,List.foldl_append];rfl
theorem eY {α:Type} {l:List α} {i:Nat} (d:α) (h:i<l.length):l.getD i d∈l:=by
 rw [List.getD_eq_getElem?_getD,List.getElem?_eq_getElem h];exact List.getElem_mem _
theorem take_len {α:Type} {l:List α} {i:Nat} (h:i≤l.length):(l.take i).length=i:=by
 rw [List.length_take,Nat.min_eq_left h]
theorem gW {α:Type} {l m:List α} {i:Nat} (d:α) (h:i<l.length):(l++m).getD i d=l.getD i d:=by
 rw [List.getD_eq_getElem?_getD,List.getD_eq_getElem?_getD,List.getElem?_append_left h]
theorem gy {α:Type} {l:List α} {x:α} {m:List α} {i:Nat} (d:α) (h:i=l.length):(l++x::m).getD i d=x:=by
 rw [List.getD_eq_getElem?_getD,List.getElem?_append_right (by omega),h];simp
theorem CG {α:Type} {l:List α} {i:Nat} (d:α) (h:l.length≤i):l.getD i d=d:=by
 rw [List.getD_eq_getElem?_getD,List.getElem?_eq_none h];rfl
end Go.Ab


namespace Go.Ab
section
variable {P:Program} {cfg:qm} {N:Nat} {cx:Ctx}
theorem QT {r:Option Nat} {n n':Nat} {c:Code} {Q:Exit→Act→World→Prop} {a:Act} {w:World} (h:c.wpIn (FW r) n P Q a w):c.wpIn (FW r) n' P Q a w:=
 fun b k cs hro hb _=>h b k cs hro hb (fun _ hd=>by cases hd)
def En (W:World) (I:Nat→Prop) (O:OM) (m:Nat):Ctx:=⟨W,fun b=>∃o p bo sz,O o=some p∧p.pl=some (b,bo,sz),I,O,m,fun k o=>W.heap[k]? = some o∧Ef o=true,true⟩
theorem Rel.enter {H:Nat→Option bJ} {D:Nat→Prop} {W:World} {I:Nat→Prop} {O:OM} (hR:Rel cfg cx H D W I O) (hno:∀o kd z f,H o≠some (.map kd z f)) {m:Nat} (hm:∀o,o<m→D o):Rel cfg (En W I O m) H D W I O where
 maps:=fun o kd z f _ _ _ _ h _ _=>absurd h (hno o kd z f)
 dom:=hR.dom
 used:=hR.used
 objs:=hR.objs
 inj:=hR.inj
 kG:=hR.kG
 lt:=hR.lt
 tu:=hR.tu
 size:=Nat.le_refl _
 frame:=fun _ _ _=>rfl
 new:=fun o p _ bo sz h1 h2=>.inr ⟨o,p,bo,sz,h1,h2⟩
 glob:=hR.glob
 Gv:=fun _ h=>h
 JL:=fun _ h=>.inl h
 Lj:=fun _ _=>.inl rfl
 Dm:=hm
 env:=⟨dX.refl _,fun _ _ h=>h⟩
theorem Rel.back {H H':Nat→Option bJ} {D D':Nat→Prop} {W W':World} {I I':Nat→Prop} {O O':OM} {m:Nat} (h0:Rel cfg cx H D W I O) (h1:Rel cfg (En W I O m) H' D' W' I' O') (hm:∀o,o<cx.m→o<m):Rel cfg cx H' D' W' I' O' where
 dom:=h1.dom
 maps:=fun o kd z f p b bo sz q1 q2 q3=>by
  have h2:=(h1.maps o kd z f p b bo sz q1 q2 q3).1;refine ⟨Nat.le_trans h0.size h2,fun ob hk=>?_⟩;have h3:=(h0.env.kept b ob hk).1;have h2:W.heap.size≤b:=h2;rw [Array.getElem?_eq_none h2] at h3;cases h3
 used:=h1.used
 objs:=h1.objs
 inj:=h1.inj
 kG:=h1.kG
 lt:=h1.lt
 tu:=h1.tu
 size:=Nat.le_trans h0.size h1.size
 frame:=fun b hb hM=>by
  rw [h1.frame b (Nat.lt_of_lt_of_le hb h0.size) (fun ⟨o,p,bo,sz,q1,q2⟩=>by
   rcases h0.new o p b bo sz q1 q2 with h | h
   ·omega
   ·exact hM h)]
  exact h0.frame b hb hM
 new:=fun o p b bo sz q1 q2=>by
  rcases h1.new o p b bo sz q1 q2 with h | ⟨o',p',bo',sz',q3,q4⟩
  ·exact .inl (Nat.le_trans h0.size h)
  ·exact h0.new o' p' b bo' sz' q3 q4
 glob:=h1.glob
 Gv:=fun b h=>h1.Gv b (h0.Gv b h)
 JL:=fun b h=>by
  rcases h1.JL b h with h | h | ⟨o',p',bo',sz',q3,q4⟩
  ·exact h0.JL b h
  ·exact .inr (.inl (Nat.le_trans h0.size h))
  ·exact .inr (h0.new o' p' b bo' sz' q3 q4)
 Lj:=fun o ho=>by
  rcases h1.Lj o (hm o ho) with h | h
  ·rw [h]; exact h0.Lj o ho
  ·exact .inr h
 Dm:=fun o ho=>h1.Dm o (hm o ho)
 env:=h0.env.step h1.env.same
theorem Rel.Te {H H':Nat→Option bJ} {D D':Nat→Prop} {W W':World} {I I':Nat→Prop} {O O':OM} {m:Nat} (h0:Rel cfg cx H D W I O) (h1:Rel cfg (En W I O m) H' D' W' I' O') (b:Nat) (hb:I b):W'.heap[b]? = W.heap[b]? :=
 h1.frame b (h0.tu b hb) (fun ⟨o,p,bo,sz,q1,q2⟩=>h0.kG o p b bo sz q1 q2 hb)
theorem Rep.behind {H H':Nat→Option bJ} {D':Nat→Prop} {W W':World} {I I':Nat→Prop} {O O':OM} {m:Nat} (h0:Rel cfg cx H (fun o=>o<m) W I O) (h1:Rel cfg (En W I O m) H' D' W' I' O') {v:AV} {x:Value} (h:Rep W I O (fun o=>o<m) v x):Rep W' I' O' D' v x:=
 h.mono h1.Gv (h0.Te h1) h1.Lj h1.Dm h0.used
theorem AX (w:World) (o:Obj):l8 (w.alloc o) w:=by
 have hlt:∀a:Addr,(w.cell? a).isSome=true→a.block<w.heap.size:=fun a h=>by
  obtain ⟨v,hv⟩:=Option.isSome_iff_exists.1 h;exact World.block_lt_of_cell? _ _ hv
 have hb:∀a:Addr,a.block<w.heap.size→(w.alloc o).heap[a.block]? = w.heap[a.block]? := fun a h=>by
  show (w.heap.push o)[a.block]? = _;rw [Array.getElem?_push_lt h,Array.getElem?_eq_getElem h]
 refine ⟨fun a v hv=>?_,fun a hv=>?_,by simp,fun b es c hbb=>by
  have hlt2:b<w.heap.size:=by
   rcases Nat.lt_or_ge b w.heap.size with h1 | h1
   ·exact h1
   ·rw [Array.getElem?_eq_none h1] at hbb; cases hbb
  show (w.heap.push o)[b]? = _;rw [Array.getElem?_push_lt hlt2,← hbb,Array.getElem?_eq_getElem hlt2]⟩
 ·rw [← hv,World.cell?_of_block (hb a (hlt a (by rw [hv]; rfl)))]
 ·exact World.frozen?_of_block (hb a (hlt a hv))
def FY:iI→Bool
 | []=>true
 | (_,x)::l=>match x with
  | some (.map ..)=>false
  | _=>FY l
theorem JZ:∀ {H:iI},FY H=true→∀o kd z f,hget H o≠some (.map kd z f):=by
 intro H;induction H with
 | nil=>intro _ o kd z f h; cases h
 | cons u l ih=>
  intro h o kd z f;obtain ⟨q,x⟩:=u;unfold FY at h;unfold hget look;split at h
  ·cases h
  ·rename_i hx;cases hb:Nat.beq q o with
   | true=>
    simp only;cases x with
    | none=>intro h; cases h
    | some x=>
     intro h;cases h;exact hx kd z f rfl
   | false=>simp only; exact ih h o kd z f
def LV (P:Program) (gf:FuncId) (caps:List AV) (len:Nat) (e0 e1:Nat→AV):Prop:=
 (∀args w,(callFunc gf args).run P w=.ok (.enter gf args) w)∧
 ∀(w:World) (I:Nat→Prop) (lb:Array Value),(∀b,I b→b<w.heap.size)→lb.size=caps.length→(∀j,j<caps.length→PRep w I (nth caps j) (lb.getD j Go.undef))→
  ∃v0 v1:Nat→Value,(∀k,k<len→PRep w I (e0 k) (v0 k)∧PRep w I (e1 k) (v1 k))∧
   ∀(l n:Nat) (J:Nat→World→Prop) (Jx:World→Prop) (W:World),(∀b,I b→W.heap[b]? = w.heap[b]?)→
    (∀k W1,k<len→J k W1→YieldAt (FW none) n P l #[v0 k,v1 k] W1 fun e W'=>(e=.returned (.bool true)∧J (k+1) W'∧∀b,I b→W'.heap[b]? = W1.heap[b]?)∨(e=.returned (.bool false)∧Jx W'))→
    J 0 W→CallsIn (FW none) n P gf (#[.func (.yield l) #[] #[]]++lb) W fun e W'=>(∃v,e=.returned v)∧(J len W'∨Jx W')
theorem aaV {α β:Type} (p0 p1:α) (v0 v1:β):(#[p0,p1]:Array α).zip #[v0,v1]=#[(p0,v0),(p1,v1)]:=by
 apply Array.toList_inj.1;simp
theorem Eo (t:Nat):iY (fun _=>true) (some t) true=fun _=>true:=by
 funext k;unfold iY;simp
theorem Vi (hc:dY P cfg) {m:Nat} {ct ct':List Nat} {g:Operand} {p0 p1:Nat} {assign body:Code} {s:St} {K:Exit→St→Prop} (hoka:fJ N assign=true) (hokb:fJ N body=true) (hp0:p0<N) (hp1:p1<N)
  {gf:FuncId} {caps:List AV} {len:Nat} {e0 e1:Nat→AV} (hit:LV P gf caps len e0 e1) (hg:Lb cfg (tget s.tmps) g=.fn gf caps) (hcaps:∀v∈caps,∃cs,v=.ro cs)
  {α:Type} (st:α→St) (st1:Nat→α→St) (hnm:∀k gx,FY (st gx).heap=true∧FY (st1 k gx).heap=true) (x0:α) (ρ0:List (Nat×Option Nat)) (h0:Wh m ρ0 s (st x0)) (inv:Nat→α→Prop) (hi0:inv 0 x0)
  (ha:∀k l gx,k<len→inv k gx→m≤(st gx).nx∧iZ cfg (Spec P cfg) ct (Loops P cfg N (some l) (st gx).nx) assign ⟨(p1,e1 k)::(p0,e0 k)::(st gx).tmps,(st gx).heap,(st gx).nx⟩ (fun e s'=>match e with | .normal=>∃ρ,Wh (st gx).nx ρ s' (st1 k gx) | _=>False))
  (hb:∀k l gx,k<len→inv k gx→iZ cfg (Spec P cfg) ct' (Loops P cfg N (some l) (st1 k gx).nx) body (st1 k gx) (fun e s'=>match e with | .normal=>∃x' ρ,inv (k+1) x'∧Wh m ρ ⟨(st gx).tmps,s'.heap,s'.nx⟩ (st x') | .ret=>K .ret ⟨(st gx).tmps,s'.heap,s'.nx⟩ | _=>False))
  (hK:∀gx,inv len gx→K .normal (st gx)):Loops P cfg N none m (.rangeFunc g #[p0,p1] assign body) s K:=by
 refine ⟨fun n cx0 a w I O hS0 hrd=>QT (n:=3) ?_⟩;obtain ⟨ms,hnd,_,hds,hms⟩:=hS0.marks;obtain ⟨cx,hcx⟩:∃cx,cx=cx0.also ms:=⟨_,rfl⟩;have hcw:cx.w0=cx0.w0:=by rw [hcx]; rfl
 have hcm:cx.m=cx0.m:=by rw [hcx]; rfl
 have hR0:Rel cfg cx (hget s.heap) (fun o=>o<s.nx) w I O:=by rw [hcx]; exact hS0.rel.also (fun D hD=>(hms D hD).2)
 obtain ⟨lb,hgv,hlb,hlr⟩:=(hg ▸ oq hS0.rel hS0.tmps g (fun _ _=>rfl)).Cu;have hcp:∀j,j<caps.length→PRep w I (nth caps j) (lb.getD j Go.undef):=fun j hj=>by
  have hmem:nth caps j∈caps:=by rw [nS]; rw [List.getD_eq_getElem?_getD,List.getElem?_eq_getElem hj]; exact List.getElem_mem _
  obtain ⟨cs,hcs⟩:=hcaps _ hmem;have:=hlr j hj;rw [hcs] at this ⊢;cases this with
  | pure h=>exact h
 obtain ⟨v0,v1,hel,hrun⟩:=hit.2 w I lb hR0.tu hlb hcp;refine wpIn_rangeFunc ?_;intro fn hfn;obtain ⟨rc,hrc⟩:∃rc:LoopState→Option Code→Loop,rc=fun st pe=>{ state:=st,pending:=pe,fn,tmps:=a.tmps,params:=#[p0,p1],assign,body,defers:=w.heap.size }:=⟨_,rfl⟩;obtain ⟨W1,hW1⟩:∃W1,W1=(w.alloc (.deferred (some []))).alloc (.loop (rc .ready none)):=⟨_,rfl⟩;have hsz1:W1.heap.size=w.heap.size+2:=by rw [hW1]; simp
 have hD1:W1.heap[w.heap.size]? = some (.deferred (some [])):=by
  rw [hW1];show ((w.heap.push _).push _)[w.heap.size]? = _;have hp:(w.heap.push (Obj.deferred (some []))).size=w.heap.size+1:=Array.size_push _;rw [Array.getElem?_push,if_neg (by omega),Array.getElem?_push_size]
 have hL1:W1.heap[w.heap.size+1]? = some (.loop (rc .ready none)):=by
  have:=World.alloc_heap_new (w.alloc (.deferred (some []))) (.loop (rc .ready none));rw [World.size_alloc] at this;rw [hW1];exact this
 have hold1:∀b,b<w.heap.size→W1.heap[b]? = w.heap[b]? := fun b hb=>by
  rw [hW1];show ((w.heap.push _).push _)[b]? = _;rw [Array.getElem?_push_lt (by simp; omega),Array.getElem_push_lt hb,Array.getElem?_eq_getElem hb]
 have hcells1:l8 W1 w:=by
  rw [hW1];have q1:=AX w (.deferred (some []));have q2:=AX (w.alloc (.deferred (some []))) (.loop (rc .ready none));exact ⟨fun x v h=>q2.cell x v (q1.cell x v h),fun x h=>by
   rw [q2.frozen x (by obtain ⟨v,hv⟩:=Option.isSome_iff_exists.1 h; rw [q1.cell x v hv]; rfl),q1.frozen x h],Nat.le_trans q1.size q2.size,fun b es c h=>q2.maps b es c (q1.maps b es c h)⟩
 have henv1:yG cx W1:=by
  rw [hW1];exact (hR0.env.step (dX.alloc _ _)).step (dX.alloc _ _)
 have hKlt:∀k o,cx.K k o→k<w.heap.size:=fun k o h=>by
  have:=(hR0.env.kept k o h).1;rcases Nat.lt_or_ge k w.heap.size with h1 | h1
  ·exact h1
  ·rw [Array.getElem?_eq_none h1] at this; cases this
 have hw0:cx.w0.heap.size≤w.heap.size:=hR0.size;have envput:∀(W:World) (k:Nat) (o:Obj),w.heap.size≤k→yG cx W→yG cx (W.putObj k o):=fun W k o hk he=>by
  refine ⟨⟨he.same.os,he.same.tape,he.same.output,fun i x hi hx=>?_⟩,fun i x hi=>?_⟩
  ·have hlt:i<cx.w0.heap.size:=by
    rcases Nat.lt_or_ge i cx.w0.heap.size with h1 | h1
    ·exact h1
    ·rw [Array.getElem?_eq_none h1] at hi; cases hi
   rw [World.putObj_heap_other (by omega)];exact he.same.keep i x hi hx
  ·rw [World.putObj_heap_other (by have:=hKlt i x hi; omega)];exact he.kept i x hi
 have nomarks:∀(W:World),Marks cx W ([]:List Deferred):=fun W=>⟨[],List.nodup_nil,fun _=>rfl,rfl,fun _ h=>by cases h⟩
 have hS1:fU cfg N m cx s ⟨a.tmps,[]⟩ w I O:=⟨hcm.trans hS0.m,hR0,⟨rfl,hS0.tmps.size,hS0.tmps.rep,hS0.tmps.gone⟩,nomarks w⟩;have hS2:=yP hS1 h0;have turnput:∀ {s':St} {W:World} {I':Nat→Prop} {O':OM} {o:Obj} (o':Obj),W.heap[w.heap.size+1]? = some o→Ef o=true∧(∀es c,o≠.map es c)→fU cfg N m cx s' ⟨a.tmps,[]⟩ W I' O'→fU cfg N m cx s' ⟨a.tmps,[]⟩ (W.putObj (w.heap.size+1) o') I' O':=fun o' ho hn hS=>
  hS.turn (xV ho hn.1 hn.2) (fun b hb=>World.putObj_heap_other (by omega)) (envput _ _ _ (by omega) hS.rel.env) rfl (nomarks _)
 refine ⟨w.heap.size+1,[markOf w.heap.size],W1,{ target:=.fn (.func gf) lb,args:=#[.func (.yield (w.heap.size+1)) #[] #[]] },W1,gf,#[.func (.yield (w.heap.size+1)) #[] #[]]++lb,W1,?_,?_,fun _ _=>trivial,?_,(fun h=>by cases h),?_⟩
 ·rw [hW1,hrc]; exact run_enterLoop_outer _ _ _ _ _
 ·simp only [resolve,hgv];simp [go_sem]
 ·simp [invoke,go_sem,hit.1]
 refine (hrun (w.heap.size+1) (3 - 1)
  (fun k W=>∃gx,inv k gx∧∃I1 O1,fU cfg N m cx (st gx) ⟨a.tmps,[]⟩ W I1 O1∧(∀b,I b→I1 b)∧(∀b,I b→W.heap[b]? = w.heap[b]?)∧W.heap[w.heap.size+1]? = some (.loop (rc .ready none))∧W.heap[w.heap.size]? = some (.deferred (some [])))
  (fun W=>∃s' I1 O1,K .ret s'∧fU cfg N m cx s' ⟨a.tmps,[]⟩ W I1 O1∧W.heap[w.heap.size+1]? = some (.loop (rc .done (some .ret)))∧W.heap[w.heap.size]? = some (.deferred (some [])))
  W1 (fun b hb=>hold1 b (hR0.tu b hb)) ?_ ?_).mono ?_
 ·rintro k W hk ⟨gx,hiv,I1,O1,hS,hII,hkeep,hl,hD⟩;have hlW:w.heap.size+1<W.heap.size:=(Array.getElem?_eq_some_iff.1 hl).1;have hy:=run_yield (P:=P) (args:=#[v0 k,v1 k]) hl (by rw [hrc]; rfl);rw [hrc] at hy;refine ⟨fn,_,assign,body,hy,roundIn_of_wpIn hfn ?_⟩;clear hy;obtain ⟨hnx,hxa⟩:=ha k (w.heap.size+1) gx hk hiv;have hmx:∀o,o<cx.m→o<(st gx).nx:=fun o ho=>Nat.lt_of_lt_of_le (by rw [hS.m] at ho; exact ho) hnx;have hRr:=hS.rel.enter (JZ (hnm k gx).1) (m:=(st gx).nx) (fun _ h=>h);have hwI:∀b,I b→W.heap[b]? = w.heap[b]? := hkeep;obtain ⟨he0,he1⟩:=hel k hk;have hpe:∀ {v:AV} {x:Value},PRep w I v x→Rep W I1 O1 (fun o=>o<(st gx).nx) v x:=fun h=>.pure (h.mono hII hwI);have hT1:=r9.put hS.tmps (fun _ _ h=>h) (some p0) (fun _ h=>by cases h; exact hp0) (e0 k) (v0 k) true (fun _=>hpe he0) (fun h=>by cases h);have hT2:=r9.put hT1 (fun _ _ h=>h) (some p1) (fun _ h=>by cases h; exact hp1) (e1 k) (v1 k) true (fun _=>hpe he1) (fun h=>by cases h);rw [Eo,Eo,← qK,← qK] at hT2;have hSa:fU cfg N (st gx).nx (En W I1 O1 (st gx).nx) ⟨(p1,e1 k)::(p0,e0 k)::(st gx).tmps,(st gx).heap,(st gx).nx⟩ { tmps:=(a.tmps.setIfInBounds p0 (v0 k)).setIfInBounds p1 (v1 k),defers:=[] } W I1 O1:=
   ⟨rfl,hRr,hT2,⟨[],List.nodup_nil,fun _=>rfl,rfl,fun _ h=>by cases h⟩⟩
  have hga:=jq hc assign _ _ hoka hxa (3 - 1) _ _ W I1 O1 hSa rfl;have htm:((#[p0,p1]:Array Tmp).zip #[v0 k,v1 k]).foldl (fun tmps (t,a)=>tmps.setIfInBounds t a) a.tmps=(a.tmps.setIfInBounds p0 (v0 k)).setIfInBounds p1 (v1 k):=by rw [aaV]; rfl
  refine wpIn_mono (htm ▸ hga) ?_;rintro e a2 W2 ⟨s2,I2,O2,hk2,hSb⟩;cases e with
  | normal=>
   obtain ⟨ρ,hE⟩:=hk2;have hSc:=yP hSb hE;have hRc:=hS.rel.back hSc.rel hmx;have hl2:=(hSc.rel.env.kept _ _ ⟨hl,rfl⟩).1;have hD2:=(hSc.rel.env.kept _ _ ⟨hD,rfl⟩).1;have hkI2:=fun b hb=>hS.rel.Te hSc.rel b (hII b hb);refine ⟨_,run_beginRound hl2 (by rw [hrc]),?_⟩;have hlW2:w.heap.size+1<W2.heap.size:=(Array.getElem?_eq_some_iff.1 hl2).1;obtain ⟨W3,hW3⟩:∃W3,W3=W2.putObj (w.heap.size+1) (.loop { rc .ready none with state:=.busy }):=⟨_,rfl⟩;rw [← hW3];have hl3:W3.heap[w.heap.size+1]? = some (.loop { rc .ready none with state:=.busy }):=by rw [hW3]; exact World.putObj_heap_same hlW2
   have hD3:W3.heap[w.heap.size]? = some (.deferred (some [])):=by rw [hW3]; exact (World.putObj_heap_other (by omega)).trans hD2
   have hsc3:l8 W3 W2:=by rw [hW3]; exact xV hl2 rfl
   have hR3:Rel cfg cx (hget (st1 k gx).heap) (fun o=>o<(st1 k gx).nx) W3 I2 (jQ ρ (st1 k gx).heap O2):=hRc.turn hsc3 (fun b hb=>by rw [hW3]; exact World.putObj_heap_other (by omega)) (by rw [hW3]; exact envput _ _ _ (by omega) hRc.env);have hnx1:(st gx).nx≤(st1 k gx).nx:=by
    have:=hE.chk;unfold R6 at this;split at this
    ·exact Nat.le_of_ble_eq_true this
    ·cases this
   have hT0:∀t,Rep W3 I2 (jQ ρ (st1 k gx).heap O2) (fun o=>o<(st1 k gx).nx) (tget (st gx).tmps t) (a.tmps.getD t Go.undef):=fun t=>(Rep.behind hS.rel hSc.rel (hS.tmps.rep t rfl)).turn hsc3;have hRd:=hR3.enter (JZ (hnm k gx).2) (m:=(st1 k gx).nx) (fun _ ho=>ho);have hSd:fU cfg N (st1 k gx).nx (En W3 I2 (jQ ρ (st1 k gx).heap O2) (st1 k gx).nx) (st1 k gx) a2 W3 I2 (jQ ρ (st1 k gx).heap O2):=by
    refine ⟨rfl,hRd,⟨rfl,hSc.tmps.size,fun t ht=>(hSc.tmps.rep t ht).turn hsc3,fun t ht=>by cases ht⟩,?_⟩;have:a2.defers=[]:=by
     obtain ⟨ms2,_,h1,h2,_⟩:=hSc.marks;rw [h1 rfl] at h2;exact h2
    rw [this];exact ⟨[],List.nodup_nil,fun _=>rfl,rfl,fun _ h=>by cases h⟩
   have hgb:=jq hc body _ _ hokb (hb k (w.heap.size+1) gx hk hiv) (3 - 1) _ _ W3 I2 _ hSd rfl;refine wpIn_mono hgb ?_;rintro e a4 W4 ⟨s4,I4,O4,hk4,hSe⟩;have hRe:=hR3.back hSe.rel (fun o ho=>Nat.lt_of_lt_of_le (hmx o ho) hnx1);have hl4:=(hSe.rel.env.kept _ _ ⟨hl3,rfl⟩).1;have hD4:=(hSe.rel.env.kept _ _ ⟨hD3,rfl⟩).1;have hlW4:w.heap.size+1<W4.heap.size:=(Array.getElem?_eq_some_iff.1 hl4).1;have hI34:∀b,I b→I2 b:=fun b hb=>hSc.rel.Gv b (hII b hb);have hkI4:∀b,I b→W4.heap[b]? = W.heap[b]? := fun b hb=>by
    have hbl:=hR0.tu b hb;rw [hR3.Te hSe.rel b (hI34 b hb),hW3,World.putObj_heap_other (by omega)];exact hkI2 b hb
   have hT4:fU cfg N m cx ⟨(st gx).tmps,s4.heap,s4.nx⟩ ⟨a.tmps,[]⟩ W4 I4 O4:=
    ⟨hS.m,hRe,⟨rfl,hS.tmps.size,fun t _=>Rep.behind hR3 hSe.rel (hT0 t),fun t ht=>by cases ht⟩,nomarks _⟩
   cases e with
   | normal=>
    obtain ⟨x4,ρ4,hiv4,hE4⟩:=hk4;have hSf:=yP hT4 hE4;refine ⟨_,_,run_endRound none hl4,.inl ⟨rfl,⟨x4,hiv4,I4,_,turnput _ hl4 ⟨rfl,nofun⟩ hSf,fun b hb=>hSe.rel.Gv b (hI34 b hb),fun b hb=>?_,?_,?_⟩,fun b hb=>?_⟩⟩
    ·have hbl:=hR0.tu b hb;rw [World.putObj_heap_other (by omega),hkI4 b hb];exact hkeep b hb
    ·rw [World.putObj_heap_same hlW4,hrc]; rfl
    ·rw [World.putObj_heap_other (by omega)]; exact hD4
    ·have hbl:=hR0.tu b hb;rw [World.putObj_heap_other (by omega)];exact hkI4 b hb
   | ret=>
    refine ⟨_,_,run_endRound (some .ret) hl4,.inr ⟨rfl,_,I4,O4,hk4,turnput _ hl4 ⟨rfl,nofun⟩ hT4,?_,?_⟩⟩
    ·rw [World.putObj_heap_same hlW4,hrc]; rfl
    ·rw [World.putObj_heap_other (by omega)]; exact hD4
   | exit id=>exact hk4.elim
   | goto t=>exact hk4.elim
   | panic ch=>exact hk4.elim
   | outgrown=>exact hk4.elim
  | ret=>exact hk2.elim
  | exit id=>exact hk2.elim
  | goto t=>exact hk2.elim
  | panic ch=>exact hk2.elim
  | outgrown=>exact hk2.elim
 ·exact ⟨x0,hi0,I,_,hS2.turn hcells1 (fun b hb=>hold1 b (by omega)) henv1 rfl (nomarks _),fun _ h=>h,fun b hb=>hold1 b (hR0.tu b hb),hL1,hD1⟩
 ·have fin:∀ {s':St} {W:World} {I':Nat→Prop} {O':OM} {o:Obj} (o':Obj),W.heap[w.heap.size+1]? = some o→Ef o=true∧(∀es c,o≠.map es c)→W.heap[w.heap.size]? = some (.deferred (some []))→fU cfg N m cx s' ⟨a.tmps,[]⟩ W I' O'→
    fU cfg N m cx0 s' { a with defers:=markOf w.heap.size::a.defers } (W.putObj (w.heap.size+1) o') I' O':=by
   intro s' W I' O' o o' ho hn hD hS
   have hS':=turnput o' ho hn hS
   have hRx:=hS'.rel
   rw [hcx] at hRx
   obtain ⟨hRy,hmy⟩:=hRx.WM
   refine ⟨hS0.m,hRy,⟨rfl,hS'.tmps.size,hS'.tmps.rep,hS'.tmps.gone⟩,⟨w.heap.size::ms,?_,(fun h=>by rw [hrd] at h; cases h),?_,fun D hDm=>?_⟩⟩
   ·refine List.nodup_cons.2 ⟨fun hin=>?_,hnd⟩
    have:=(hms _ hin).2
    rw [Array.getElem?_eq_none (Nat.le_refl _)] at this
    cases this
   ·show markOf w.heap.size::a.defers=_
    rw [hds]
    rfl
   ·rcases List.mem_cons.1 hDm with rfl | hDm
    ·exact ⟨by rw [← hcw]; exact hw0,(World.putObj_heap_other (by omega)).trans hD⟩
    ·exact ⟨(hms D hDm).1,hmy D hDm⟩
  rintro e W2 ⟨⟨v,rfl⟩,⟨gx,hiv,I2,O2,hS2',_,_,hl2,hD2⟩ | ⟨s2,I2,O2,hk2,hS2',hl2,hD2⟩⟩
  ·exact ⟨none,_,by have:=run_endLoop (P:=P) hl2 (by rw [hrc]; simp); rw [hrc] at this; exact this,st gx,I2,O2,hK gx hiv,fin _ hl2 ⟨rfl,nofun⟩ hD2 hS2'⟩
  ·exact ⟨some .ret,_,by have:=run_endLoop (P:=P) hl2 (by rw [hrc]; simp); rw [hrc] at this; exact this,wpIn_ret ⟨s2,I2,O2,hk2,fin _ hl2 ⟨rfl,nofun⟩ hD2 hS2'⟩⟩
end
end Go.Ab



namespace Go.Ab
end Go.Ab


namespace Go.Ab
end Go.Ab



namespace Go.Ab
theorem om {p : Prop} (h : p := by omega) : p := h
inductive M:Type→Type 1 where
 | ret {R:Type} (v:R):M R
 | need {R:Type} (p:Prop) (d:Decidable p) (m:M R):M R
 | grd {R:Type} (p:Prop) (d:Decidable p) (m:M R) (z:R):M R
 | bnd {A R:Type} (m:M A) (k:A→M R):M R
 | sup {R:Type} (f:Nat→M R):M R
 | bot {R:Type}:M R
def M.den:{R:Type}→M R→R→Prop
 | _,.ret v,r=>r=v
 | _,.need p _ m,r=>p∧den m r
 | _,.grd p _ m _,r=>p→den m r
 | _,.bnd m k,r=>∃v,den m v∧den (k v) r
 | _,.sup f,r=>∃n,den (f n) r
 | _,.bot,_=>False
instance {R:Type}:CoeFun (M R) fun _=>R→Prop:=⟨M.den⟩
instance {x:Int}:Decidable (InI64 x):=by unfold InI64; infer_instance
def need {R:Type} (p:Prop) [d:Decidable p] (m:M R):M R:=.need p d m
def grd {R:Type} [Inhabited R] (p:Prop) [d:Decidable p] (m:M R):M R:=.grd p d m default
def bnd {A R:Type} (m:M A) (k:A→M R):M R:=.bnd m k
def ret {R:Type} (v:R):M R:=.ret v
def Zq {σ R:Type} (F:(σ→M R)→σ→M R):Nat→σ→M R
 | 0=>fun _=>.bot
 | n+1=>F (Zq F n)
def bT {σ R:Type} (F:(σ→M R)→σ→M R) (s:σ):M R:=.sup fun n=>Zq F n s
noncomputable def M.ex (n:Nat) {R:Type} (m:M R):Option R:=
 @M.rec (fun R _=>Option R) (fun v=>some v) (fun _ d _ ih=>match d with | .isTrue _=>ih | .isFalse _=>none) (fun _ d _ z ih=>match d with | .isTrue _=>ih | .isFalse _=>some z)
  (fun _ _ ih ihk=>match ih with | some v=>ihk v | none=>none) (fun _ ih=>ih n) none R m
theorem M.ZP (n:Nat) {R:Type} (m:M R):∀r,m.ex n=some r→m r:=by
 induction m with
 | ret v=>intro r h; exact (Option.some.inj h).symm
 | need p d m ih=>
  intro r h;cases d with
  | isTrue hp=>exact ⟨hp,ih r h⟩
  | isFalse hp=>exact absurd h (by show ¬ (none=some r); nofun)
 | grd p d m z ih=>
  intro r h;cases d with
  | isTrue hp=>exact fun _=>ih r h
  | isFalse hp=>exact fun q=>absurd q hp
 | bnd m k ih ihk=>
  intro r h;have h:(match m.ex n with | some v=>(k v).ex n | none=>none)=some r:=h;cases hv:m.ex n with
  | none=>rw [hv] at h; cases h
  | some v=>rw [hv] at h; exact ⟨v,ih v hv,ihk v r h⟩
 | sup f ih=>intro r h; exact ⟨n,ih n r h⟩
 | bot=>intro r h; cases h
theorem aK {R:Type} {p:Prop} {d:Decidable p} {m:M R} {r:R} {K:Prop} (hm:need p m r) (h:p→m r→K):p∧K:=⟨hm.1,h hm.1 hm.2⟩
theorem cK {R:Type} {c:Bool} {x y:M R} {r:R} {A B:Prop} (hm:(cond c x y) r) (h1:c=true→x r→A) (h2:c=false→y r→B):NP c A B:=by
 cases c
 ·exact h2 rfl hm
 ·exact h1 rfl hm
theorem bR {A R:Type} {m:M A} {k:A→M R} {r:R} {G:Prop} (hm:bnd m k r) (h:∀v,m v→k v r→G):G:=by
 obtain ⟨v,h1,h2⟩:=hm;exact h v h1 h2
section
variable {P:Program} {cfg:qm} {N:Nat}
theorem Pp {r:Option Nat} {m:Nat} {c:Code} {s:St} {K:Exit→St→Prop} {α:Type} (st:α→St) (inv:α→Prop) (μ:α→Nat) (x0:α) (ρ0:List (Nat×Option Nat)) (os0:List Nat) (h0:inv x0) (hE:IL m ρ0 os0 s (st x0))
  (round:∀x,inv x→Good P cfg N r m c (st x) (fun e s'=>match e with | .normal=>∃x' ρ os,inv x'∧μ x'<μ x∧IL m ρ os s' (st x') | e=>K e s')):Loops P cfg N r m (.loop c) s K:=by
 refine ⟨fun n0 cx a w I O hS hrd=>?_⟩;obtain ⟨I1,O1,hS1⟩:=FX hS hE;refine wpIn_loop_ghost (fun n a w=>∃x I O,inv x∧n=μ x∧fU cfg N m cx (st x) a w I O) (μ x0) ⟨x0,I1,O1,h0,rfl,hS1⟩ ?_;intro n a w hI;obtain ⟨x,I,O,hx,rfl,hS⟩:=hI;refine wpIn_mono (round x hx n0 cx a w I O hS hrd) ?_;intro e a' w' ⟨s',I',O',h1,h2⟩;cases e with
 | normal=>
  obtain ⟨x',ρ,os,h3,h4,h5⟩:=h1;obtain ⟨I2,O2,hS2⟩:=FX h2 h5;exact ⟨μ x',h4,x',I2,O2,h3,rfl,hS2⟩
 | exit id=>exact ⟨s',I',O',h1,h2⟩
 | goto l=>exact ⟨s',I',O',h1,h2⟩
 | ret=>exact ⟨s',I',O',h1,h2⟩
 | panic ch=>exact ⟨s',I',O',h1,h2⟩
 | outgrown=>exact ⟨s',I',O',h1,h2⟩
theorem yQ (hc:dY P cfg) {rr:Option Nat} {m:Nat} {ct:List Nat} {c:Code} {s:St} {K:Exit→St→Prop} (hok:fJ N c=true) {σ R:Type} {F:(σ→M R)→σ→M R} {x0:σ} {r:R} (hm:bT F x0 r) (st:σ→St) (ρ0:List (Nat×Option Nat)) (os0:List Nat) (hE:IL m ρ0 os0 s (st x0))
  (round:∀(self:σ→M R) (x:σ),F self x r→iZ cfg (Spec P cfg) ct (Loops P cfg N rr m) c (st x) (fun e s'=>match e with | .normal=>∃x' ρ os,self x' r∧IL m ρ os s' (st x') | e=>K e s')):Loops P cfg N rr m (.loop c) s K:=by
 obtain ⟨n0,h0⟩:=hm;refine Pp (fun x:σ×Nat=>st x.1) (fun x=>Zq F x.2 x.1 r) (fun x=>x.2) (x0,n0) ρ0 os0 h0 hE ?_;rintro ⟨x,n⟩ hx;cases n with
 | zero=>exact hx.elim
 | succ n=>
  refine (jq hc c (st x) _ hok (round (Zq F n) x hx)).mono ?_;intro e s' h;cases e with
  | normal=>
   obtain ⟨x',ρ,os,h1,h2⟩:=h;exact ⟨(x',n),ρ,os,h1,Nat.lt_succ_self n,h2⟩
  | _=>exact h
theorem LW (hc:dY P cfg) {rr:Option Nat} {m:Nat} {ct:List Nat} {x y:Code} {s:St} {K:Exit→St→Prop} (hokx:fJ N x=true) (hoky:fJ N y=true) {σ R:Type} (k:σ→M R) (r:R) (st:σ→St)
  (h1:iZ cfg (Spec P cfg) ct (Loops P cfg N rr m) x s (fun e s'=>match e with | .normal=>∃x' ρ os,k x' r∧IL m ρ os s' (st x') | e=>K e s'))
  (h2:∀x',k x' r→iZ cfg (Spec P cfg) ct (Loops P cfg N rr m) y (st x') K):Loops P cfg N rr m (.seq x y) s K:=by
 refine ⟨vQ ((jq hc x s _ hokx h1).mono ?_)⟩;intro e s' h;cases e with
 | normal=>
  obtain ⟨x',ρ,os,h3,h4⟩:=h;exact fun n0 cx a w I O hS hrd=>by
   obtain ⟨I',O',h'⟩:=FX hS h4;exact jq hc y (st x') K hoky (h2 x' h3) n0 cx a w I' O' h' hrd
 | _=>exact h
structure QU (P:Program) (cfg:qm) (N:Nat) (r:Option Nat) (m:Nat) (c:Code) (K:Exit→St→Prop) (M:Nat) (s:St):Prop where
 ok:∀(n0:Nat) (cx:Ctx) (a:Act) (w:World) (I:Nat→Prop) (O:OM),fU cfg N m cx s a w I O→cx.rd=r.isSome→Code.roundsIn (FW r) n0 P c (fun e a' w'=>∃s' I' O',K e s'∧fU cfg N m cx s' a' w' I' O') M a w
theorem jG (hc:dY P cfg) {r:Option Nat} {m:Nat} {ct:List Nat} {c:Code} {s:St} {K:Exit→St→Prop} {M:Nat} (hok:fJ N c=true)
  (h:iZ cfg (Spec P cfg) ct (Loops P cfg N r m) c s (fun e s'=>match e with | .normal=>QU P cfg N r m c K M s' | e=>K e s')):QU P cfg N r m c K (M+1) s:=by
 refine ⟨fun n0 cx a w I O hS hrd=>?_⟩;rw [roundsIn_succ];refine wpIn_mono (jq hc c s _ hok h n0 cx a w I O hS hrd) ?_;intro e a' w' ⟨s',I',O',h1,h2⟩;cases e with
 | normal=>exact h1.ok n0 cx a' w' I' O' h2 hrd
 | exit id=>exact ⟨s',I',O',h1,h2⟩
 | goto l=>exact ⟨s',I',O',h1,h2⟩
 | ret=>exact ⟨s',I',O',h1,h2⟩
 | panic ch=>exact ⟨s',I',O',h1,h2⟩
 | outgrown=>exact ⟨s',I',O',h1,h2⟩
theorem QV {r:Option Nat} {m:Nat} {c:Code} {s:St} {K:Exit→St→Prop} (M:Nat) (h:QU P cfg N r m c K M s):Loops P cfg N r m (.loop c) s K:=
 ⟨fun n0 cx a w I O hS hrd=>wpIn_loop_rounds M (h.ok n0 cx a w I O hS hrd)⟩
end
end Go.Ab

namespace Go.Ab
theorem le_rtake {α:Type} {f:α→AV} {d:α} {l:List α} {k:Nat} (_h:k≤l.length):∀i,i<k→Le (bB f d l i) (bB f d (l.take k) i):=fun i hi=>by
 unfold bB;rw [getD_take l d hi];exact .refl _
theorem le_litG {α:Type} (f:α→AV) (d:α) (l:List α) {n:Nat} {g:Nat→AV} (hg:g=JI (l.map f):=by rfl) (hn:n≤l.length:=by exact Nat.le_of_ble_eq_true rfl):∀i,i<n→Le (g i) (bB f d l i):=fun i hi=>by
 subst hg;unfold bB JI;rw [nS,List.getD_eq_getElem?_getD,List.getElem?_map,List.getD_eq_getElem?_getD,List.getElem?_eq_getElem (by omega)];exact .refl _
theorem yR {α:Type} {f:α→AV} {d:α} {x:α} {l:List α} {n:Nat} {g:Nat→AV} (h0:Le (g 0) (f x)) (ht:∀i,i<n→Le ((fun j=>g (j+1)) i) (bB f d l i)):∀i,i<n+1→Le (g i) (bB f d (x::l) i):=fun i hi=>by
 cases i with
 | zero=>exact h0
 | succ i=>exact ht i (by omega)
theorem le_appG {α:Type} {f:α→AV} {d:α} {l m:List α} {n k:Nat} {g h:Nat→AV} (hn:n=l.length) (hg:∀i,i<n→Le (g i) (bB f d l i)) (hk:k=m.length) (hh:∀i,i<k→Le (h i) (bB f d m i)):∀i,i<n+k→Le (appG n g h i) (bB f d (l++m) i):=fun i hi=>by
 unfold appG;cases hb:Nat.blt i n with
 | true=>
  have hlt:i<n:=by simpa using hb
  have:=hg i hlt;unfold bB at this ⊢;rw [gW d (by omega)];exact this
 | false=>
  have hge:n≤i:=by
   rcases Nat.lt_or_ge i n with h | h
   ·rw [show Nat.blt i n=true by simpa using h] at hb; cases hb
   ·exact h
  have:=hh (i - n) (by omega);unfold bB at this ⊢;rw [List.getD_eq_getElem?_getD,List.getElem?_append_right (by omega),← List.getD_eq_getElem?_getD,← hn];exact this
theorem IQ {α:Type} {f:α→AV} {d:α} {l:List α} {a n N:Nat} {g:Nat→AV} (hg:∀i,i<N→Le (g i) (bB f d l i)) (h:a+n≤N):∀i,i<n→Le (g (a+i)) (bB f d ((l.drop a).take n) i):=fun i hi=>by
 have:=hg (a+i) (by omega);unfold bB at this ⊢;rw [getD_take _ d hi,getD_drop];exact this
theorem Vj {α:Type} {f:α→AV} {d:α} {l:List α} {a n N:Nat} {g:Nat→AV} (hg:∀i,i<N→Le (g i) (bB f d l i)) (h:a+n≤N):∀i,i<n→Le (kP a g i) (bB f d ((l.drop a).take n) i):=fun i hi=>by
 rw [vE];exact IQ hg h i hi
theorem KS {α:Type} {f:α→AV} {d:α} {l:List α} {n j:Nat} {g:Nat→AV} {v:AV} {x:α} (hg:∀i,i<n→Le (g i) (bB f d l i)) (hn:n=l.length) (hv:Le v (f x)):∀i,i<n→Le (P8 g j v i) (bB f d (l.set j x) i):=fun i hi=>by
 unfold P8;cases hb:Nat.beq i j with
 | true=>
  have:=Nat.eq_of_beq_eq_true hb;subst this;unfold bB;rw [List.getD_eq_getElem?_getD,List.getElem?_set_self (by omega)];exact hv
 | false=>
  have hne:i≠j:=fun e=>by subst e; simp at hb
  have:=hg i hi;unfold bB at this ⊢;rw [List.getD_eq_getElem?_getD,List.getElem?_set_ne (by omega),← List.getD_eq_getElem?_getD];exact this
def Pq {α:Type} (l:List α) (i:Nat) (s:List α):List α:=l.mapIdx fun j x=>if i≤j then s.getD (j - i) x else x
theorem ou {α:Type} (l:List α) (i:Nat) (s:List α):(Pq l i s).length=l.length:=by
 unfold Pq;rw [List.length_mapIdx]
theorem Vk {α:Type} (d:α) {l s:List α} {i j:Nat} (hj:j<l.length):(Pq l i s).getD j d=if i≤j∧j<i+s.length then s.getD (j - i) d else l.getD j d:=by
 unfold Pq;rw [List.getD_eq_getElem?_getD,List.getElem?_mapIdx,List.getElem?_eq_getElem hj,List.getD_eq_getElem?_getD (l:=l),List.getElem?_eq_getElem hj];simp only [Option.map_some,Option.getD_some];by_cases h1:i≤j
 ·rw [if_pos h1];by_cases h2:j<i+s.length
  ·rw [if_pos ⟨h1,h2⟩,List.getD_eq_getElem?_getD,List.getD_eq_getElem?_getD,List.getElem?_eq_getElem (by omega)];rfl
  ·rw [if_neg (by omega),List.getD_eq_getElem?_getD,List.getElem?_eq_none (by omega)];rfl
 ·rw [if_neg h1,if_neg (by omega)]
theorem Xa {α:Type} {f:α→AV} {d:α} {l s:List α} {n i m:Nat} {g h:Nat→AV} (hn:n=l.length) (hg:∀j,j<n→Le (g j) (bB f d l j)) (hm:m=s.length) (hh:∀j,j<m→Le (h j) (bB f d s j)):∀j,j<n→Le (UF i m g h j) (bB f d (Pq l i s) j):=fun j hj=>by
 unfold bB;rw [Vk d (by omega)];by_cases hin:i≤j∧j<i+m
 ·rw [if_pos (by omega),LB hin.1 hin.2];exact hh (j - i) (by omega)
 ·rw [if_neg (by omega),GH hin];exact hg j hj
theorem QW {α:Type} (f:α→AV) (d:α) {n:Nat} {z:AV} (hz:Le z (f d):=by exact .refl _):∀i,i<n→Le ((fun _=>z) i) (bB f d (List.replicate n d) i):=fun i hi=>by
 unfold bB;rw [List.getD_eq_getElem?_getD,List.getElem?_replicate,if_pos hi];exact hz
def strOf (l:List Int):ByteArray:=zO l.length 0 (bB (AV.int .u8) 0 l) ByteArray.empty
def u8L:List AV→Bool
 | []=>true
 | v::l=>Zz v&&u8L l
theorem Xb:∀ {es:List AV},u8L es=true→∀i,i<es.length→Zz (JI es i)=true:=by
 intro es;induction es with
 | nil=>intro _ i h; exact absurd h (Nat.not_lt_zero _)
 | cons v l ih=>
  intro h i hi;simp only [u8L,Bool.and_eq_true] at h;cases i with
  | zero=>exact h.1
  | succ i=>exact ih h.2 i (by simpa using hi)
theorem Xc {ρ:List (Nat×Option Nat)} {H':iI} {f:Nat} {u v:AV} (h:Le u v) (hp:aak v=true) (hl:v.cells.length+2<f):jv ρ H' f u v:=by
 obtain ⟨f,rfl⟩:∃f',f=f'+1:=⟨f - 1,by omega⟩;cases v with
 | agg cs'=>
  have key:∀cs,Iw cs cs'→jv ρ H' (f+1) (.agg cs) (.agg cs'):=by
   intro cs hcs;unfold jv;have:=(vR _ _ hcs).1;exact YC cs cs' f (by simp [AV.cells] at hl; omega) hcs hp
  cases h with
  | refl=>exact key _ (Iw.refl _)
  | agg hl h=>exact key _ (Iw.Uq hl h)
 | _=>exact Ur h hp
def BM {α:Type} (f:α→AV) (X:Nat→α):Nat→AV:=fun i=>f (X i)
def upd {α:Type} (X:Nat→α) (i:Nat) (x:α):Nat→α:=fun j=>bif Nat.beq j i then x else X j
theorem Vl {α:Type} (X:Nat→α) (i:Nat) (x:α):upd X i x i=x:=by
 unfold upd;rw [show Nat.beq i i=true by simp];rfl
theorem YD {α:Type} {f:α→AV} {X:Nat→α} {n j:Nat} {g:Nat→AV} {v:AV} {x:α} (hg:∀i,i<n→Le (g i) (BM f X i)) (hv:Le v (f x)):∀i,i<n→Le (P8 g j v i) (BM f (upd X j x) i):=fun i hi=>by
 unfold P8 BM upd;cases hb:Nat.beq i j with
 | true=>exact hv
 | false=>exact hg i hi
theorem Pt {α:Type} {f:α→AV} {X:Nat→α} (h1:∀x,(f x).cells=[f x]):∀(n k i:Nat),i<n→nth (iA n k (BM f X)) i=f (X (k+i)):=by
 intro n;induction n with
 | zero=>intro k i h; exact absurd h (Nat.not_lt_zero _)
 | succ n ih=>
  intro k i hi;simp only [iA];have:(BM f X k).cells=[f (X k)]:=h1 _;rw [this];cases i with
  | zero=>rfl
  | succ i=>
   show nth (iA n (k+1) (BM f X)) i=_;rw [ih (k+1) i (by omega)];congr 2;omega
theorem Oj {α:Type} {f:α→AV} {X:Nat→α} {n:Nat} (h1:∀x,(f x).cells=[f x]):∀i,i<n→Le (JI (iA n 0 (BM f X)) i) (BM f X i):=fun i hi=>by
 unfold JI;rw [Pt h1 n 0 i hi,Nat.zero_add];exact .refl _
theorem le_funG {α:Type} {f:α→AV} {d:α} {X:Nat→α} {n:Nat}:∀i,i<n→Le (BM f X i) (bB f d ((List.range n).map X) i):=fun i hi=>by
 unfold BM bB;rw [List.getD_eq_getElem?_getD,List.getElem?_map,List.getElem?_range hi];exact .refl _
theorem lF (x:bJ) (h:(match x with | .map .. => false | _=>true)=true:=by rfl):ZA x x:=by
 cases x with
 | box cs=>exact Iw.refl cs
 | row es n g=>exact ⟨rfl,rfl,fun _ _=>.refl _⟩
 | map=>cases h
theorem length_eq {α:Type} {n:Nat} {l:List α} (h:n=l.length):n=l.length:=h
theorem J2 {c b:Bool} (h:(c==b)=false):¬ c=b:=by
 rintro rfl;simp at h
def W {R:Type} (m:M R) (Q:R→Prop):Prop:=∃r,m r∧Q r
theorem ak {R:Type} {v:R} {Q:R→Prop} (h:Q v):W (ret v) Q:=⟨v,rfl,h⟩
theorem bU {R:Type} {p:Prop} {d:Decidable p} {m:M R} {Q:R→Prop} (hp:p) (h:W m Q):W (need p m) Q:=by
 obtain ⟨r,h1,h2⟩:=h;exact ⟨r,⟨hp,h1⟩,h2⟩
theorem aC {A R:Type} {m:M A} {k:A→M R} {P:A→Prop} {Q:R→Prop} (h:W m P) (hk:∀v,P v→W (k v) Q):W (bnd m k) Q:=by
 obtain ⟨v,h1,h2⟩:=h;obtain ⟨r,h3,h4⟩:=hk v h2;exact ⟨r,⟨v,h1,h3⟩,h4⟩
theorem aF {R:Type} {c:Bool} {x y:M R} {Q:R→Prop} (h1:c=true→W x Q) (h2:c=false→W y Q):W (cond c x y) Q:=by
 cases c
 ·exact h2 rfl
 ·exact h1 rfl
theorem Xd {R:Type} {m:M R} {Q Q':R→Prop} (h:W m Q) (hq:∀r,Q r→Q' r):W m Q':=by
 obtain ⟨r,h1,h2⟩:=h;exact ⟨r,h1,hq r h2⟩
theorem CJ {R:Type} {m:M R} {v:R} (h:m v):W m (fun r=>r=v):=⟨v,h,rfl⟩
theorem jR {R:Type} {m:M R} {v:R} (h:W m (fun r=>r=v)):m v:=by
 obtain ⟨r,h1,rfl⟩:=h;exact h1
theorem CK {A:Type} [Inhabited A] {c:Prop} [Decidable c] {m:M A} {P:A→Prop} (h:c→W m P):W (grd c m) (fun v=>c→P v):=by
 by_cases hc:c
 ·obtain ⟨v,h1,h2⟩:=h hc;exact ⟨v,fun _=>h1,fun _=>h2⟩
 ·exact ⟨default,fun h=>absurd h hc,fun h=>absurd h hc⟩
theorem aW {σ R:Type} {F:(σ→M R)→σ→M R} {Q:R→Prop} (inv:σ→Prop) (μ:σ→Nat) (h:∀(self:σ→M R) (s:σ),inv s→(∀s',inv s'→μ s'<μ s→W (self s') Q)→W (F self s) Q) {s:σ} (hs:inv s):W (bT F s) Q:=by
 have key:∀n s,inv s→μ s<n→W (Zq F n s) Q:=by
  intro n;induction n with
  | zero=>intro s _ h; exact absurd h (Nat.not_lt_zero _)
  | succ n ih=>intro s hs hn; exact h _ s hs fun s' h1 h2=>ih s' h1 (by omega)
 obtain ⟨r,h1,h2⟩:=key (μ s+1) s hs (Nat.lt_succ_self _);exact ⟨r,⟨_,h1⟩,h2⟩
end Go.Ab



namespace Go.Ab
section
variable {P:Program} {cfg:qm} {N:Nat}
theorem Vm {r:Option Nat} {n0:Nat} {oA oB:Oper} {Q:Exit→Act→World→Prop} {a:Act} {w:World} (hA:oA.guard=none) (hB:oB.guard=none) (hdA:∀c,oA.op≠.defer c) (hdB:∀c,oB.op≠.defer c)
  {x y:Value} (h1:(execOp a.eval oA).run P w=.ok (.value x) w) (h2:(execOp (a.put oA.dst x).eval oB).run P w=.ok (.value y) w) (h:Q .normal ((a.put oA.dst x).put oB.dst y) w):
  wpOpsIn (FW r) n0 P #[oA,oB] Q (List.range 2) a w:=by
 show wpOpsIn (FW r) n0 P #[oA,oB] Q [0,1] a w;unfold wpOpsIn;simp only [List.getElem?_toArray,List.getElem?_cons_zero];rw [if_pos (by unfold Region.wanted; rw [hA])];refine Pk hdA (mW h1 ?_);unfold wpOpsIn;simp only [List.getElem?_toArray,List.getElem?_cons_succ,List.getElem?_cons_zero];rw [if_pos (by unfold Region.wanted; rw [hB])];refine Pk hdB (mW h2 ?_);unfold wpOpsIn;exact h
theorem Xe {r:Option Nat} {m id:Nat} {t e:TypeId} (hu:P.underlying t=some (.slice e)) {t0 d3 d4:Nat} (h3:d3<N) (h4:d4<N) {t' tyA tyB:TypeId} {pA pB:String} {aA aB:Array Edge}
  {T:List (Nat×AV)} {H:iI} {nx:Nat} {es n:Nat} {f:Bool} {g:Nat→AV} (hs:tget T t0=.sl es n f g) {K:Exit→St→Prop}
  (hK:∀b,(b=true→n=0)→K .normal ⟨(d4,.bool b)::(d3,.sl es n f g)::T,H,nx⟩):
  Good P cfg N r m (.region id #[⟨some d3,.move (.tmp t0),tyA,pA,aA,none⟩,⟨some d4,.binOp .eql t (.tmp d3) (.const (.slice none 0 0)) t',tyB,pB,aB,none⟩] false) ⟨T,H,nx⟩ K:=by
 intro n0 cx a w I O hS hrd;have hx:=hS.tmps.rep t0 rfl;have hsz:=hS.tmps.size;have hs':tget (⟨T,H,nx⟩:St).tmps t0=.sl es n f g:=hs;rw [hs'] at hx;generalize hxv:a.tmps.getD t0 Go.undef=x at hx;have hp:=hx.xR;refine wpIn_region ?_;cases hp with
 | @sl _ _ _ _ aa cap b off vs hcap hfull ha hes hm h1 hr=>
  have hb:aa.isNone=true→n=0:=fun h=>by
   rcases Nat.eq_zero_or_pos n with h0 | h0
   ·exact h0
   ·rw [(ha (by omega)).1] at h; cases h
  refine Vm rfl rfl (fun c h=>by cases h) (fun c h=>by cases h) (x:=.slice aa n cap) (y:=.bool aa.isNone) ?_ ?_ ?_
  ·simp only [execOp,Act.eval];rw [hxv];rfl
  ·have e1:(a.put (some d3) (.slice aa n cap)).eval (.tmp d3)=.slice aa n cap:=by
    simp [Act.put,Act.eval,hsz,h3]
   have e2:=run_equal_slice_nil (P:=P) w t e aa n cap hu;have e3:(a.put (some d3) (.slice aa n cap)).eval (.const (.slice none 0 0))=.slice none 0 0:=rfl;have hg:(eqGuard .eql t (.tmp d3) (.const (.slice none 0 0)) (.slice aa n cap) (.slice none 0 0)).run P w=.ok () w:=by unfold eqGuard; simp
   simp only [execOp];rw [e1,e3];simp [hg,binOp,e2]
  ·refine ⟨_,I,O,hK aa.isNone hb,hS.m,hS.rel,?_,hS.marks⟩;have h5:=hS.tmps.put (fun _ _ h=>h) (some d3) (fun k hk=>by cases hk; exact h3) (.sl es n f g) (.slice aa n cap) true (fun _=>hx) (fun h=>by cases h);have h6:=h5.put (fun _ _ h=>h) (some d4) (fun k hk=>by cases hk; exact h4) (.bool aa.isNone) (.bool aa.isNone) true (fun _=>.pure (.bool _)) (fun h=>by cases h);refine ⟨h6.defers,h6.size,fun tt _=>?_,fun tt h=>by cases h⟩;have:=h6.rep tt (by rw [Eo,Eo]);show Rep w I O _ (tget ((d4,.bool aa.isNone)::(d3,.sl es n f g)::T) tt) _;rw [qK,qK];exact this
theorem LX (hc:dY P cfg) {rr:Option Nat} {m:Nat} {ct:List Nat} {t e:TypeId} (hu:P.underlying t=some (.slice e)) {a X Y:Code} {s:St} {K:Exit→St→Prop} (hoka:fJ N a=true) (hokX:fJ N X=true) (hokY:fJ N Y=true)
  {id t0 d3 d4:Nat} (h3:d3<N) (h4:d4<N) {t' tyA tyB:TypeId} {pA pB:String} {aA aB:Array Edge} (T:List (Nat×AV)) (H:iI) (nx:Nat) {es n:Nat} {f:Bool} {g:Nat→AV} (hs:tget T t0=.sl es n f g)
  (h1:iZ cfg (Spec P cfg) ct (Loops P cfg N rr m) a s (fun e s'=>match e with | .normal=>s'=⟨T,H,nx⟩ | _=>False))
  (hX:n=0→iZ cfg (Spec P cfg) ct (Loops P cfg N rr m) X ⟨(d4,.bool true)::(d3,.sl es n f g)::T,H,nx⟩ (fun e s'=>match e with | .normal=>False | e=>K e s'))
  (hY:iZ cfg (Spec P cfg) ct (Loops P cfg N rr m) Y ⟨(d4,.bool false)::(d3,.sl es n f g)::T,H,nx⟩ K):
  Loops P cfg N rr m (.seq a (.seq (.seq (.region id #[⟨some d3,.move (.tmp t0),tyA,pA,aA,none⟩,⟨some d4,.binOp .eql t (.tmp d3) (.const (.slice none 0 0)) t',tyB,pB,aB,none⟩] false) (.cond (.tmp d4) X .skip)) Y)) s K:=by
 refine ⟨vQ ((jq hc a s _ hoka h1).mono ?_)⟩;intro e s' h;cases e with
 | normal=>
  have h:s'=⟨T,H,nx⟩:=h;subst h;refine vQ (vQ (Xe hu h3 h4 hs fun b hb=>?_));have hrho:Lb cfg (tget (⟨(d4,.bool b)::(d3,.sl es n f g)::T,H,nx⟩:St).tmps) (.tmp d4)=.bool b:=by
   show tget ((d4,.bool b)::(d3,.sl es n f g)::T) d4=_;rw [qK];simp [iY]
  refine Od hrho (fun hb1=>?_) (fun hb1=>?_)
  ·subst hb1;refine (jq hc X _ _ hokX (hX (hb rfl))).mono ?_;intro e s' h;cases e with
   | normal=>exact h.elim
   | _=>exact h
  ·subst hb1;refine jq (ct:=ct) hc .skip _ _ rfl ?_;exact jq hc Y _ _ hokY hY
 | _=>exact h.elim
def Pv {σ R:Type} (len:Nat) (B:Nat→(σ→M R)→σ→M R) (fin:σ→M R):Nat→σ→M R
 | 0=>fin
 | j+1=>B (len - (j+1)) (Pv len B fin j)
theorem Ol (hc:dY P cfg) {m:Nat} {ct ct':List Nat} {g:Operand} {p0 p1:Nat} {assign body:Code} {s:St} {K:Exit→St→Prop} (hoka:fJ N assign=true) (hokb:fJ N body=true) (hp0:p0<N) (hp1:p1<N)
  {gf:FuncId} {caps:List AV} {len:Nat} {e0 e1:Nat→AV} (hit:LV P gf caps len e0 e1) (hg:Lb cfg (tget s.tmps) g=.fn gf caps) (hcaps:∀v∈caps,∃cs,v=.ro cs)
  {σ R:Type} {B:Nat→(σ→M R)→σ→M R} {fin:σ→M R} {x0:σ} {r:R} (hm:Pv len B fin len x0 r)
  (st:σ→St) (st1:Nat→σ→St) (hnm:∀k gx,FY (st gx).heap=true∧FY (st1 k gx).heap=true) (ρ0:List (Nat×Option Nat)) (h0:Wh m ρ0 s (st x0))
  (ha:∀k l gx,k<len→m≤(st gx).nx∧iZ cfg (Spec P cfg) ct (Loops P cfg N (some l) (st gx).nx) assign ⟨(p1,e1 k)::(p0,e0 k)::(st gx).tmps,(st gx).heap,(st gx).nx⟩ (fun e s'=>match e with | .normal=>∃ρ,Wh (st gx).nx ρ s' (st1 k gx) | _=>False))
  (hb:∀k l self gx,k<len→B k self gx r→iZ cfg (Spec P cfg) ct' (Loops P cfg N (some l) (st1 k gx).nx) body (st1 k gx) (fun e s'=>match e with | .normal=>∃x' ρ,self x' r∧Wh m ρ ⟨(st gx).tmps,s'.heap,s'.nx⟩ (st x') | .ret=>K .ret ⟨(st gx).tmps,s'.heap,s'.nx⟩ | _=>False))
  (hK:∀gx,fin gx r→K .normal (st gx)):Loops P cfg N none m (.rangeFunc g #[p0,p1] assign body) s K:=by
 refine Vi (ct:=ct) (ct':=ct') hc hoka hokb hp0 hp1 hit hg hcaps st st1 hnm x0 ρ0 h0 (fun k x=>Pv len B fin (len - k) x r) hm (fun k l gx hk _=>ha k l gx hk) ?_ ?_
 ·intro k l gx hk hi;obtain ⟨j,hj⟩:∃j,len - k=j+1:=⟨len - k - 1,by omega⟩;have h1:=hi;rw [hj] at h1;have e1:len - (j+1)=k:=by omega
  have h2:B k (Pv len B fin j) gx r:=by
   have:B (len - (j+1)) (Pv len B fin j) gx r:=h1;rwa [e1] at this
  have e2:j=len - (k+1):=by omega
  subst e2;exact hb k l _ gx hk h2
 ·intro gx hi;have:=hi;rw [Nat.sub_self] at this;exact hK gx this
end
end Go.Ab
