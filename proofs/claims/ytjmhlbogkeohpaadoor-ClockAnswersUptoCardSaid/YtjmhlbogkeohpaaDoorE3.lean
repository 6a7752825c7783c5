/-
  Proved: the law bringuplaw16.ClockAnswers returns true, and leaves its arguments as they were, at every input whose bulk is at most the second form's bound; the card ties the package variable clock.off to the program's text.
-/
import Derived.Test.YtjmhlbogkeohpaaDoorE0
import Derived.Test.YtjmhlbogkeohpaaDoorE2
import Derived.Test.YtjmhlbogkeohpaaDoorD8
namespace Go.Proofs.YtjmhlbogkeohpaaDoor.clockAnswers
open Go.ChangeShapes Go.WideShapes Go.ChangeAt Go.RowKit
open Go.Ab
set_option maxRecDepth 100000
set_option linter.unusedVariables false
set_option linter.unusedSimpArgs false

theorem wf {z : Int} (h : QI z) : -9223372036854775808 ≤ z ∧ z ≤ 9223372036854775807 := by
  unfold QI at h
  simp only [Lit.wf, Bool.and_eq_true, decide_eq_true_eq] at h
  exact h

theorem spec {t : List Int} {raw : List Clk} (s : List Int) (m : List Lim) (k : Int) (h0 : QL QI t) (h1 : QL QClk raw) :
    S 5 [intsV t, clksV raw, intsV s, limsV m, iV k] [] (.bool true) [] := by
  refine law_spec t (fun x hx => wf (h0.2 x hx)) raw (Nat.le_trans h1.1 (by decide)) (fun i hi => ?_) s m k
  have hm : raw.getD i clk0 ∈ raw := by
    rw [List.getD_eq_getElem?_getD, List.getElem?_eq_getElem hi]
    exact List.getElem_mem hi
  obtain ⟨_, ⟨a, _⟩, ⟨b, _⟩, _⟩ := h1.2 _ hm
  exact ⟨Nat.le_trans a (by decide), Nat.le_trans b (by decide)⟩

theorem sl1 {v : Value} (h : ∃ a len cap, v = .slice a len cap) : v.cells = #[v] := by
  obtain ⟨a, len, cap, rfl⟩ := h
  rfl
theorem ag1 {v : Value} {n : Nat} (h : ∃ cs : Array Value, v = .agg cs ∧ cs.size = n) : ∃ vs : Array Value, v = .agg vs := by
  obtain ⟨cs, h, _⟩ := h
  exact ⟨cs, h⟩
theorem all_below {H : Type} {enc : TypeId × Value → H} {W W' : World} (hb : Below W.heap.size W W') : ∀ {ts : List TypeId} {vs : List Value} {ds : List (DataW H)} {ps : List MemPlace}, (∀ t ∈ ts, Tryd.prog.readableRec t = true ∧ t < Tryd.prog.types.size) →
    DataW.TrodAll enc Tryd.prog W 0 (fun _ => true) true ts vs ds ps → (∀ x ∈ ps, x.block < W.heap.size) → DataW.TrodAll enc Tryd.prog W' 0 (fun b => decide (b < W.heap.size)) true ts vs ds ps
  | [], vs, ds, ps, _, h, _ => by
    obtain ⟨rfl, rfl, rfl⟩ := trodAll_nil h
    exact trodAll_mk0
  | t :: ts, vs, ds, ps, ht, h, hlt => by
    obtain ⟨v, vs', d, ds', p, q, rfl, rfl, rfl, h1, h2⟩ := trodAll_cons h
    have ht0 := ht t (List.mem_cons_self ..)
    exact trodAll_cons_mk (Below.trod laidOut ht0.1 ht0.2 h1 hb fun x hx => hlt x (List.mem_append_left _ hx)) (all_below hb (fun t h => ht t (List.mem_cons_of_mem _ h)) h2 fun x hx => hlt x (List.mem_append_right _ hx))

theorem contract (H : Type) (enc : TypeId × Value → H) (W : World) (base : Nat) (args : Array Value) (ds gs : List (DataW H)) (before : List MemPlace)
    (hval : ∀ (j : Nat) t v, Tryd.f5.params[j]? = some t → args[j]? = some v → Value.okWide Tryd.prog W .any base t v)
    (hW : DataW.Whole enc Tryd.prog Tryd.f5.params.toList Rows.clockAnswersSpec.vars false W args.toList ds gs before) (hk : Rows.uptoBulkAll ds ≤ 1048576) (hL : laidMetH Tryd.prog Rows.clockAnswersUptoRow.laid W) :
    Calls Tryd.prog 5 args W fun e W' => ∃ v, e = .returned v ∧ Rows.clockAnswersSpec.post enc Tryd.prog Tryd.f5 false true false false W args v W' := by
  have hW' := hW
  obtain ⟨p, q, hA0, hV, rfl, hfz, hnd⟩ := hW
  have hA : DataW.TrodAll enc Tryd.prog W 0 (fun _ => true) true Tryd.f5.params.toList args.toList ds p := hA0
  rw [Tryd.params5] at hA hval
  have hA1 := hA
  obtain ⟨v0, vs0, d0, ds0, p0, q0, hargs, rfl, rfl, h0, r0⟩ := trodAll_cons hA
  obtain ⟨v1, vs1, d1, ds1, p1, q1, rfl, rfl, rfl, h1, r1⟩ := trodAll_cons r0
  obtain ⟨v2, vs2, d2, ds2, p2, q2, rfl, rfl, rfl, h2, r2⟩ := trodAll_cons r1
  obtain ⟨v3, vs3, d3, ds3, p3, q3, rfl, rfl, rfl, h3, r3⟩ := trodAll_cons r2
  obtain ⟨v4, vs4, d4, ds4, p4, q4, rfl, rfl, rfl, h4, r4⟩ := trodAll_cons r3
  obtain ⟨rfl, rfl, rfl⟩ := trodAll_nil r4
  obtain rfl : args = #[v0, v1, v2, v3, v4] := by cases args; simp_all
  obtain ⟨rfl, rfl⟩ := trodVars_none hV
  clear hA r0 r1 r2 r3 r4
  simp only [Rows.uptoBulkAll] at hk
  obtain ⟨t, k0, e0⟩ := rd_arg1 rd_ints (sl1 (okWide_slice Tryd.underlying22 (hval 0 22 v0 rfl rfl))) (fun _ => rfl) h0 (by omega)
  obtain ⟨raw, k1, e1⟩ := rd_arg1 rd_clks (sl1 (okWide_slice Tryd.underlying25 (hval 1 25 v1 rfl rfl))) (fun _ => rfl) h1 (by omega)
  obtain ⟨s, _, e2⟩ := rd_arg1 rd_ints (sl1 (okWide_slice Tryd.underlying22 (hval 2 22 v2 rfl rfl))) (fun _ => rfl) h2 (by omega)
  obtain ⟨m, _, e3⟩ := rd_arg1 rd_lims (sl1 (okWide_slice Tryd.underlying28 (hval 3 28 v3 rfl rfl))) (fun _ => rfl) h3 (by omega)
  obtain ⟨k, rfl, rfl, rfl, _⟩ := open_int Tryd.underlying3 (hval 4 3 v4 rfl rfl) h4
  clear hA0
  have hlt : ∀ x ∈ p0 ++ (p1 ++ (p2 ++ (p3 ++ ([] ++ [])))), x.block < W.heap.size := fun x hx => hA1.lt x hx
  refine (run_law (spec s m k k0 k1) hL rfl (fun j hj => ?_)).mono fun e W' ⟨he, hb⟩ => ?_
  · match j, hj with
    | 0, _ => exact e0
    | 1, _ => exact e1
    | 2, _ => exact e2
    | 3, _ => exact e3
    | 4, _ => exact .int _ _
  subst he
  refine ⟨_, rfl, [d0, d1, d2, d3, .lit (.int .i64 k)], [], p0 ++ (p1 ++ (p2 ++ (p3 ++ ([] ++ [])))), [], p0 ++ (p1 ++ (p2 ++ (p3 ++ ([] ++ [])))), [], by simpa using hW', trodAll_mk1 (shut_bool Tryd.underlying4 _), ?_, rfl, hb.frame _, fun h => by cases h⟩
  rw [Tryd.params5]
  refine all_below hb (fun t ht => ?_) hA1 hlt
  have ht : t ∈ [22, 25, 22, 28, 3] := ht
  simp only [List.mem_cons, List.not_mem_nil, or_false] at ht
  rcases ht with rfl | rfl | rfl | rfl | rfl <;> exact ⟨by kernel_rfl, of_decide_eq_true (by kernel_rfl)⟩

/-- The empty input: the witness. -/
abbrev none5 : Array Value := #[.slice none 0 0, .slice none 0 0, .slice none 0 0, .slice none 0 0, .int .i64 0]
/-- A world for the witness: 'off' (block 0) holds what its initialiser lays. -/
noncomputable def laidWorld (os : Os) : World :=
  { World.holding Tryd.prog os ⟨#[], #[], []⟩ with heap := (World.holding Tryd.prog os ⟨#[], #[], []⟩).heap.modify 0 fun
      | .cells _ t frozen => .cells #[.int .i64 0, .int .i64 1] t frozen
      | o => o }
theorem laid_met (os : Os) : laidMet Tryd.prog Rows.clockAnswersUptoRow.laid ((laidWorld os).forCall (fun _ _ => 0) ⟨#[], none5, []⟩).memory :=
  laidMet_of_run' 8 (by kernel_rfl) (by kernel_rfl)
theorem reads (os : Os) {H : Type} (enc : TypeId × Value → H) : ∃ places, DataW.whole enc Tryd.prog ((laidWorld os).forCall (fun _ _ => 0) ⟨#[], none5, []⟩).memory Tryd.f5.params.toList Rows.clockAnswersSpec.vars false none5.toList 8 =
    some ([.nil, .nil, .nil, .nil, .lit (.int .i64 0)], [], places) :=
  ⟨[], by kernel_rfl⟩

theorem lifted (os : Os) (started : os.Started) (H : Type) (enc : TypeId × Value → H) (F : Stop.Interp) :
    ReturnsInHanded {} Tryd.checked os 5 .any ((Rows.OpenSpec.upto Rows.clockAnswersSpec).preRow enc Tryd.prog Tryd.f5 Rows.clockAnswersUptoRow.domain false Rows.clockAnswersUptoRow.laid) (((Rows.OpenSpec.upto Rows.clockAnswersSpec).at F).post enc Tryd.prog Tryd.f5 false true false false) := by
  obtain ⟨places, hx⟩ := reads os enc
  refine returnsInHanded_of_row (C := Tryd.checked) (s := Rows.OpenSpec.upto Rows.clockAnswersSpec) own started (by kernel_rfl) Tryd.func5
    (witness_row_at (enc := enc) (C := Tryd.checked) false (laidWorld os) none5 rfl (by kernel_rfl) (by kernel_rfl) (by kernel_rfl)
      (OpenSpec.preRow_of_cond 8 hx (by kernel_rfl) (fun k hk => by cases hk; kernel_rfl) (by kernel_rfl) (laid_met os))) ?_
  intro W base args ds gs before hval hW _ hcond _ hL _ _
  have hk := of_decide_eq_true (hcond _ rfl)
  have hgs : gs = [] := by
    obtain ⟨p, q, _, hV, _⟩ := hW
    exact (trodVars_none hV).1
  subst hgs
  rw [List.append_nil] at hk
  exact contract H enc W base args ds [] before hval hW hk hL

theorem said : Rows.ClockAnswersUptoSaid :=
  OpenClaim.holds_of_cond 5 Tryd.f5 rfl rfl rfl rfl rfl rfl rfl ⟨rfl, rfl, rfl, rfl, rfl⟩ rfl rfl rfl rfl rfl (by kernel_rfl) Tryd.func5 (by kernel_rfl)
    (of_decide_eq_true (by kernel_rfl)) (by unfold Func.isWrapper; first | (rw [if_pos (by decide +kernel)]; kernel_rfl) | (rw [if_neg (by decide +kernel)]; exact ⟨rfl, rfl⟩))
    (fun os started H enc _ F => by rw [OpenClaim.pre_eq_preRow]; exact lifted os started H enc F)

theorem plain (f : FuncId) (fn : Func) (hf : Tryd.pinned.checked.prog.funcNamed "bringup/bringuplaw16.ClockAnswers" = some f) (hfn : Tryd.pinned.checked.prog.funcs[f]? = some fn) :
    false = Tryd.pinned.checked.prog.looks [] ∧ ∀ (j : Nat) t, fn.params[j]? = some t → Tryd.pinned.checked.prog.wantsStandIn t = false := by
  obtain rfl : f = 5 := Option.some.inj ((show Tryd.prog.funcNamed "bringup/bringuplaw16.ClockAnswers" = some 5 by kernel_rfl).symm.trans hf) |>.symm
  obtain rfl : fn = Tryd.f5 := (Option.some.inj (Tryd.func5.symm.trans hfn)).symm
  refine ⟨by kernel_rfl, fun j t ht => ?_⟩
  rw [Tryd.params5] at ht
  have ht : t ∈ #[22, 25, 22, 28, 3] := Array.mem_of_getElem? ht
  simp at ht
  rcases ht with rfl | rfl | rfl | rfl | rfl
  · exact (show Tryd.prog.wantsStandIn 22 = false by kernel_rfl)
  · exact (show Tryd.prog.wantsStandIn 25 = false by kernel_rfl)
  · exact (show Tryd.prog.wantsStandIn 22 = false by kernel_rfl)
  · exact (show Tryd.prog.wantsStandIn 28 = false by kernel_rfl)
  · exact (show Tryd.prog.wantsStandIn 3 = false by kernel_rfl)

end Go.Proofs.YtjmhlbogkeohpaaDoor.clockAnswers
namespace Go.Proofs.YtjmhlbogkeohpaaDoor
open Go.Ab
set_option maxRecDepth 100000

/-- The card. -/
theorem clockAnswers_card : Rows.ClockAnswersUptoCardSaid :=
  Claim7.holds_tied_plain_at .later [] _ _ _ _ clockAnswers.said (fun _ h => by cases h) (by kernel_rfl) (fun _ h => by cases h) clockAnswersUpto_row_tie rfl ⟨rfl, rfl⟩ (by kernel_rfl) rfl clockAnswers.plain (by kernel_rfl)
end Go.Proofs.YtjmhlbogkeohpaaDoor
