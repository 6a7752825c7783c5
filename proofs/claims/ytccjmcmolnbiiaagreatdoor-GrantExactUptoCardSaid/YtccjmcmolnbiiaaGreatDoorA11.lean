/- A part of the proof. -/
import Derived.Test.YtccjmcmolnbiiaaGreatDoorA10
set_option linter.defProp false
set_option linter.unusedVariables false
set_option linter.unusedSimpArgs false
set_option maxHeartbeats 20000000
namespace Go.Proofs.YtccjmcmolnbiiaaGreatDoor.grantExact
open Go.ChangeShapes Go.WideShapes Go.ChangeAt Go.RowKit
open Go.Ab
set_option maxRecDepth 100000
set_option linter.unusedVariables false
set_option linter.unusedSimpArgs false
def bd {b:aM} (h:aeX b):uW b/\∀g∈b.aT.av,g.bU.length<=2000000/\g.ak.length<=2000000:=by
 obtain⟨⟨c1,c2⟩,⟨s1,_⟩,⟨_,⟨g1,g2⟩,_⟩,⟨r1,r2⟩,⟨d1,_⟩,_⟩:=h;refine⟨⟨by omega,λ i hi=>?_,by omega,λ g hg=>?_,by omega,λ g hg=>?_,by omega⟩,λ g hg=>?_⟩
 ·obtain⟨_,⟨a,_⟩,⟨b,_⟩,_⟩:=c2 _ (getD_in (i:=i) aL hi);omega
 ·obtain⟨_,⟨a,_⟩,_⟩:=g2 _ hg;omega
 ·obtain⟨⟨a,_⟩,_⟩:=r2 _ hg;omega
 obtain⟨_,⟨a,_⟩,⟨b,_⟩,_⟩:=g2 _ hg;omega
def nd {l:aha} (h:QL ag5 l):NdL l:=by
 obtain⟨h1,h2⟩:=h;refine⟨⟨by omega,λ n hn=>?_⟩,λ n hn=>?_⟩
 ·obtain⟨_,_,_,⟨a,_⟩,_,⟨b,_⟩,_⟩:=h2 _ hn;omega
 obtain⟨⟨a,_⟩,⟨b,_⟩,_⟩:=h2 _ hn;omega
def gr {g:aO} (h:aeZ g):Ec g:=by
 obtain⟨⟨a,_⟩,⟨⟨b,_⟩,⟨c,_⟩,_⟩,⟨d,_⟩,⟨e,_⟩,⟨f,_⟩,_⟩:=h;exact⟨by omega,by omega,by omega,by omega,by omega,by omega⟩
def spec (t:ag8) {raw:aM} {odd:aha} {other:aO} (members:ag8) (device:Int) (h1:aeX raw) (h2:QL ag5 odd) (h3:aeZ other):
  S 5 [au t,iO raw,cO odd,iT other,au members,iV device] [] (.bool true) []:=by
 obtain⟨r,e1,e2⟩:=Ru (t_:=t) (ah:=members) (aV:=device) (bd h1).1 (bd h1).2 (nd h2) (gr h3);subst e2;exact NI e1
def sl1 {v:Value} (h:∃a len cap,v=.slice a len cap):v.cells=#[v]:=by
 obtain⟨a,len,cap,rfl⟩:=h;rfl
def ag1 {v:Value} {n:Nat} (h:∃cs:Array Value,v=.agg cs/\cs.size=n):∃vs:Array Value,v=.agg vs:=by
 obtain⟨cs,h,_⟩:=h;exact⟨cs,h⟩
theorem adB {H:Type} {enc:TypeId×Value->H} {W W':World} (hb:Below W.heap.size W W'):∀ {ts:List TypeId} {vs:akS} {ds:List (DataW H)} {ps:List MemPlace},(∀t∈ts,Tryz.prog.readableRec t=true/\t<Tryz.prog.types.size)->
  DataW.TrodAll enc Tryz.prog W 0 (λ _=>true) true ts vs ds ps->(∀x∈ps,x.block<W.heap.size)->DataW.TrodAll enc Tryz.prog W' 0 (λ b=>decide (b<W.heap.size)) true ts vs ds ps
 | [],vs,ds,ps,_,h,_=>by
  obtain⟨rfl,rfl,rfl⟩:=trodAll_nil h;exact trodAll_mk0
 | t::ts,vs,ds,ps,ht,h,hlt=>by
  obtain⟨v,vs',d,ds',p,q,rfl,rfl,rfl,h1,h2⟩:=trodAll_cons h;have ht0:=ht t (List.mem_cons_self ..);exact trodAll_cons_mk (Below.trod laidOut ht0.1 ht0.2 h1 hb λ x hx=>hlt x (List.mem_append_left _ hx)) (adB hb (λ t h=>ht t (List.mem_cons_of_mem _ h)) h2 λ x hx=>hlt x (List.mem_append_right _ hx))
theorem contract (H:Type) (enc:TypeId×Value->H) (W:World) (base:Nat) (args:Array Value) (ds gs:List (DataW H)) (before:List MemPlace)
  (hval:∀(j:Nat) t v,Tryz.f5.params[j]? = some t->args[j]? = some v->Value.okWide Tryz.prog W .any base t v)
  (hW:DataW.Whole enc Tryz.prog Tryz.f5.params.toList Rows.grantExactSpec.vars false W args.toList ds gs before) (hk:Rows.uptoBulkAll ds<=1048576) (hL:laidMetH Tryz.prog Rows.grantExactUptoRow.laid W):
  Calls Tryz.prog 5 args W λ e W'=>∃v,e=.returned v/\Rows.grantExactSpec.post enc Tryz.prog Tryz.f5 false true false false W args v W':=by
 have hW':=hW;obtain⟨p,q,hA0,hV,rfl,hfz,hnd⟩:=hW;have hA:DataW.TrodAll enc Tryz.prog W 0 (λ _=>true) true Tryz.f5.params.toList args.toList ds p:=hA0;rw[Tryz.params5]at hA hval;have hA1:=hA;obtain⟨v0,vs0,d0,ds0,p0,q0,hargs,rfl,rfl,h0,r0⟩:=trodAll_cons hA;obtain⟨v1,vs1,d1,ds1,p1,q1,rfl,rfl,rfl,h1,r1⟩:=trodAll_cons r0;obtain⟨v2,vs2,d2,ds2,p2,q2,rfl,rfl,rfl,h2,r2⟩:=trodAll_cons r1;obtain⟨v3,vs3,d3,ds3,p3,q3,rfl,rfl,rfl,h3,r3⟩:=trodAll_cons r2;obtain⟨v4,vs4,d4,ds4,p4,q4,rfl,rfl,rfl,h4,r4⟩:=trodAll_cons r3;obtain⟨v5,vs5,d5,ds5,p5,q5,rfl,rfl,rfl,h5,r5⟩:=trodAll_cons r4;obtain⟨rfl,rfl,rfl⟩:=trodAll_nil r5;obtain rfl:args=#[v0,v1,v2,v3,v4,v5]:=by cases args;simp_all
 obtain⟨rfl,rfl⟩:=trodVars_none hV;clear hA r0 r1 r2 r3 r4 r5;simp only[Rows.uptoBulkAll]at hk;obtain⟨t,_,e0⟩:=aeT tq (sl1 (okWide_slice Tryz.underlying22 (hval 0 22 v0 rfl rfl))) (λ _=>rfl) h0 om;obtain⟨raw,k1,e1⟩:=ajI anW (ag1 (okWide_struct Tryz.underlying34 (hval 1 34 v1 rfl rfl))) (λ _=>rfl) h1 om;obtain⟨odd,k2,e2⟩:=aeT ak1 (sl1 (okWide_slice Tryz.underlying35 (hval 2 35 v2 rfl rfl))) (λ _=>rfl) h2 om;obtain⟨other,k3,e3⟩:=ajI anZ (ag1 (okWide_struct Tryz.underlying41 (hval 3 41 v3 rfl rfl))) (λ _=>rfl) h3 om;obtain⟨members,_,e4⟩:=aeT tq (sl1 (okWide_slice Tryz.underlying22 (hval 4 22 v4 rfl rfl))) (λ _=>rfl) h4 om;obtain⟨device,rfl,rfl,rfl,_⟩:=open_int Tryz.underlying3 (hval 5 3 v5 rfl rfl) h5;clear hA0;have hlt:∀x∈p0++(p1++(p2++(p3++(p4++([]++[]))))),x.block<W.heap.size:=λ x hx=>hA1.lt x hx;refine(apr (spec t members device k1 k2 k3) hL rfl (λ j hj=>?_)).mono λ e W' ⟨he,hb⟩=>?_
 ·match j,hj with
  | 0,_=>exact e0
  | 1,_=>exact e1
  | 2,_=>exact e2
  | 3,_=>exact e3
  | 4,_=>exact e4
  | 5,_=>exact .int _ _
 subst he;refine⟨_,rfl,[d0,d1,d2,d3,d4,.lit (.int .i64 device)],[],p0++(p1++(p2++(p3++(p4++([]++[]))))),[],p0++(p1++(p2++(p3++(p4++([]++[]))))),[],by simpa using hW',trodAll_mk1 (shut_bool Tryz.underlying4 _),?_,rfl,hb.frame _,λ h=>by cases h⟩;rw[Tryz.params5];refine adB hb (λ t ht=>?_) hA1 hlt;have ht:t∈[22,34,35,41,22,3]:=ht;simp only[List.mem_cons,List.not_mem_nil,or_false]at ht;rcases ht with rfl | rfl | rfl | rfl | rfl | rfl<;>exact⟨by kernel_rfl,of_decide_eq_true (by kernel_rfl)⟩
abbrev ajK:Array Value:=#[.slice none 0 0,.agg #[.slice none 0 0,.slice none 0 0,.int .i64 0,.slice none 0 0,.slice none 0 0,.slice none 0 0],.slice none 0 0,
 .agg #[.slice none 0 0,.slice none 0 0,.slice none 0 0,.slice none 0 0,.slice none 0 0,.slice none 0 0],.slice none 0 0,.int .i64 0]
noncomputable def XP (os:Os):World:=
 { World.holding Tryz.prog os ⟨#[],#[],[]⟩with heap:=(World.holding Tryz.prog os ⟨#[],#[],[]⟩).heap.modify 0 λ
   | .cells _ t frozen=>.cells #[.int .i64 0,.int .i64 1] t frozen
   | o=>o }
def an0 (os:Os):laidMet Tryz.prog Rows.grantExactUptoRow.laid ((XP os).forCall (λ _ _=>0) ⟨#[],ajK,[]⟩).memory:=
 laidMet_of_run' 8 (by kernel_rfl) (by kernel_rfl)
def reads (os:Os) {H:Type} (enc:TypeId×Value->H):∃places,DataW.whole enc Tryz.prog ((XP os).forCall (λ _ _=>0) ⟨#[],ajK,[]⟩).memory Tryz.f5.params.toList Rows.grantExactSpec.vars false ajK.toList 8=
  some ([.nil,.agg [.nil,.nil,.agg [.lit (.int .i64 0),.nil],.nil,.nil],.nil,.agg [.nil,.agg [.nil,.nil],.nil,.nil,.nil],.nil,.lit (.int .i64 0)],[],places):=
 ⟨[],by kernel_rfl⟩
def lifted (os:Os) (started:os.Started) (H:Type) (enc:TypeId×Value->H) (F:Stop.Interp):
  ReturnsInHanded {} Tryz.checked os 5 .any ((Rows.OpenSpec.upto Rows.grantExactSpec).preRow enc Tryz.prog Tryz.f5 Rows.grantExactUptoRow.domain false Rows.grantExactUptoRow.laid) (((Rows.OpenSpec.upto Rows.grantExactSpec).at F).post enc Tryz.prog Tryz.f5 false true false false):=by
 obtain⟨places,hx⟩:=reads os enc;refine returnsInHanded_of_row (C:=Tryz.checked) (s:=Rows.OpenSpec.upto Rows.grantExactSpec) own started (by kernel_rfl) Tryz.func5
  (witness_row_at (enc:=enc) (C:=Tryz.checked) false (XP os) ajK rfl (by kernel_rfl) (by kernel_rfl) (by kernel_rfl)
    (OpenSpec.preRow_of_cond 8 hx (by kernel_rfl) (λ k hk=>by cases hk;kernel_rfl) (by kernel_rfl) (an0 os))) ?_
 intro W base args ds gs before hval hW _ hcond _ hL _ _;have hk:=of_decide_eq_true (hcond _ rfl);have hgs:gs=[]:=by
  obtain⟨p,q,_,hV,_⟩:=hW;exact(trodVars_none hV).1
 subst hgs;rw[List.append_nil]at hk;exact contract H enc W base args ds [] before hval hW hk hL
theorem inst:Func.isInstance Tryz.pinned.checked.prog Tryz.f5 Rows.grantExactUptoRow.origin Rows.grantExactUptoRow.targs:=of_decide_eq_true (by kernel_rfl)
end Go.Proofs.YtccjmcmolnbiiaaGreatDoor.grantExact
