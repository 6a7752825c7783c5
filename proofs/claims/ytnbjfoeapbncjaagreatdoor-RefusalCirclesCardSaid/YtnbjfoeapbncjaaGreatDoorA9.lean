/- A part of the proof. -/
import Derived.Test.YtnbjfoeapbncjaaGreatDoorA8
set_option maxHeartbeats 20000000
set_option linter.unusedVariables false
set_option linter.unusedSimpArgs false
namespace Go.Proofs.YtnbjfoeapbncjaaGreatDoor.refusalCircles
open Go.ChangeShapes Go.WideShapes Go.ChangeAt Go.RowKit
open Go.Ab
set_option maxRecDepth 100000
theorem spec (l:List Int) (b:List Bool) (a:Int) (h:0≤a∧a≤255):S 3 [au l,aN b,.int .u8 a] [] (.bool true) []:=by
 obtain ⟨r,h1,h2⟩:=Av (t:=l) (bound:=b) h.1 h.2;subst h2;exact xu h1
theorem contract (H:Type) (enc:TypeId×Value→H) (W:World) (base:Nat) (args:Array Value) (ds gs:List (DataW H)) (before:List MemPlace)
  (hval:∀(j:Nat) t v,Tryz.f3.params[j]? = some t→args[j]? = some v→Value.okWide Tryz.prog W .any base t v)
  (hW:DataW.Whole enc Tryz.prog Tryz.f3.params.toList Rows.refusalCirclesSpec.vars false W args.toList ds gs before) (hL:laidMetH Tryz.prog Rows.refusalCirclesRow.laid W):
  Calls Tryz.prog 3 args W λ e W'=>∃v,e=.returned v∧Rows.refusalCirclesSpec.post enc Tryz.prog Tryz.f3 false true false false W args v W':=by
 have hW':=hW;obtain ⟨p,q,hA0,hV,rfl,hfz,hnd⟩:=hW;have hA:DataW.TrodAll enc Tryz.prog W 0 (λ _=>true) true Tryz.f3.params.toList args.toList ds p:=hA0;rw [Tryz.params3] at hA hval;obtain ⟨v0,v1,v2,d0,d1,d2,p0,p1,p2,rfl,rfl,rfl,h0,h1,h2⟩:=trodAll_three hA;obtain ⟨rfl,rfl⟩:=trodVars_none hV;have h0k:=h0;obtain ⟨l,hl,hr⟩:=Yl (hval 0 22 v0 rfl rfl) h0;have h1k:=h1;obtain ⟨b,hr1⟩:=WM (hval 1 23 v1 rfl rfl) h1;obtain ⟨n,rfl,rfl,rfl,hwf⟩:=open_int Tryz.underlying5 (hval 2 5 v2 rfl rfl) h2;have hn:0≤n∧n≤255:=by
  simp only [Lit.wf,Bool.and_eq_true,decide_eq_true_eq] at hwf;exact hwf
 clear hA0;simp only [List.append_nil] at hW';have hlt:∀x∈p0++p1,x.block<W.heap.size:=λ x hx=>by simpa using hW'.lt x (by simpa using hx)
 refine (ad4 (spec l b n hn) hL rfl (λ j hj=>?_)).mono λ e W' ⟨he,hb⟩=>?_
 ·match j,hj with
  | 0,_=>exact hr
  | 1,_=>exact hr1
  | 2,_=>exact .int _ _
 subst he;refine ⟨_,rfl,[d0,d1,.lit (.int .u8 n)],[],p0++(p1++[]),[],p0++(p1++[]),[],by simpa using hW',trodAll_mk1 (shut_bool Tryz.underlying4 _),?_,rfl,hb.frame _,λ h=>by cases h⟩;rw [Tryz.params3];exact trodAll_mk3 (Below.trod laidOut (by kernel_rfl) (of_decide_eq_true (by kernel_rfl)) h0k hb λ x hx=>hlt x (List.mem_append_left _ hx)) (Below.trod laidOut (by kernel_rfl) (of_decide_eq_true (by kernel_rfl)) h1k hb λ x hx=>hlt x (List.mem_append_right _ hx)) (shut_int Tryz.underlying5 hwf)
noncomputable def LX (os:Os):World:=
 { World.holding Tryz.prog os ⟨#[],#[],[]⟩ with heap:=(World.holding Tryz.prog os ⟨#[],#[],[]⟩).heap.modify 0 λ
   | .cells _ t frozen=>.cells #[.int .i64 0,.int .i64 1] t frozen
   | o=>o }
theorem acN (os:Os):laidMet Tryz.prog Rows.refusalCirclesRow.laid ((LX os).forCall (λ _ _=>0) ⟨#[],#[.slice none 0 0,.slice none 0 0,.int .u8 0],[]⟩).memory:=
 laidMet_of_run' 8 (by kernel_rfl) (by kernel_rfl)
theorem reads (os:Os) {H:Type} (enc:TypeId×Value→H):∃places,DataW.whole enc Tryz.prog ((LX os).forCall (λ _ _=>0) ⟨#[],#[.slice none 0 0,.slice none 0 0,.int .u8 0],[]⟩).memory Tryz.f3.params.toList Rows.refusalCirclesSpec.vars false #[Value.slice none 0 0,.slice none 0 0,.int .u8 0].toList 8=some ([.nil,.nil,.lit (.int .u8 0)],[],places):=
 ⟨[],by kernel_rfl⟩
theorem lifted (os:Os) (started:os.Started) (H:Type) (enc:TypeId×Value→H) (F:Stop.Interp):
  ReturnsInHanded {} Tryz.checked os 3 .any ((OpenSpec.ofChange Rows.refusalCirclesSpec).preRow enc Tryz.prog Tryz.f3 Rows.refusalCirclesRow.domain false Rows.refusalCirclesRow.laid) (((OpenSpec.ofChange Rows.refusalCirclesSpec).at F).post enc Tryz.prog Tryz.f3 false true false false):=by
 obtain ⟨places,hx⟩:=reads os enc;refine returnsInHanded_of_row (C:=Tryz.checked) (s:=OpenSpec.ofChange Rows.refusalCirclesSpec) own started (by kernel_rfl) Tryz.func3
  (witness_row_at (enc:=enc) (C:=Tryz.checked) false (LX os) #[.slice none 0 0,.slice none 0 0,.int .u8 0] rfl (by kernel_rfl) (by kernel_rfl) (by kernel_rfl)
    (OpenSpec.preRow_of_cond 8 hx (by kernel_rfl) (λ k hk=>by cases hk) (by kernel_rfl) (acN os))) ?_
 intro W base args ds gs before hval hW _ _ _ hL _ _;exact contract H enc W base args ds gs before hval hW hL
theorem inst:Func.isInstance Tryz.pinned.checked.prog Tryz.f3 Rows.refusalCirclesRow.origin Rows.refusalCirclesRow.targs:=of_decide_eq_true (by kernel_rfl)
end Go.Proofs.YtnbjfoeapbncjaaGreatDoor.refusalCircles
