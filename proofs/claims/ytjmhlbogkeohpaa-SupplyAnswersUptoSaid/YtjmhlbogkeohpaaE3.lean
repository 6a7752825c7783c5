/-
  Proved: the law bringuplaw19.SupplyAnswers returns true, and leaves its arguments as they were, at every input whose bulk is at most the second form's bound.
-/
import Derived.Test.YtjmhlbogkeohpaaE0
import Derived.Test.YtjmhlbogkeohpaaE2
import Derived.Test.YtjmhlbogkeohpaaD8
namespace Go.Proofs.Ytjmhlbogkeohpaa.supplyAnswers
open Go.ChangeShapes Go.WideShapes Go.ChangeAt Go.RowKit
open Go.Ab
set_option maxRecDepth 100000
set_option linter.unusedVariables false
set_option linter.unusedSimpArgs false

theorem wf {z : Int} (h : QI z) : -9223372036854775808 ≤ z ∧ z ≤ 9223372036854775807 := by
  unfold QI at h
  simp only [Lit.wf, Bool.and_eq_true, decide_eq_true_eq] at h
  exact h

theorem spec {t : List Int} {raw : List Sup} (r : Rls) (d : List Drw) (c : Chn) (h0 : QL QI t) (h1 : QL QSup raw) :
    S 8 [intsV t, supsV raw, rlsV r, drwsV d, chnV c] [] (.bool true) [] := by
  refine law_spec t (fun x hx => wf (h0.2 x hx)) raw (Nat.le_trans h1.1 (by decide)) (fun i hi => ?_) r d c
  have hm : raw.getD i sup0 ∈ raw := by
    rw [List.getD_eq_getElem?_getD, List.getElem?_eq_getElem hi]
    exact List.getElem_mem hi
  obtain ⟨_, ⟨a, _⟩, _⟩ := h1.2 _ hm
  exact Nat.le_trans a (by decide)

theorem sl1 {v : Value} (h : ∃ a len cap, v = .slice a len cap) : v.cells = #[v] := by
  obtain ⟨a, len, cap, rfl⟩ := h
  rfl
theorem ag1 {v : Value} {n : Nat} (h : ∃ cs : Array Value, v = .agg cs ∧ cs.size = n) : ∃ vs : Array Value, v = .agg vs := by
  obtain ⟨cs, h, _⟩ := h
  exact ⟨cs, h⟩
theorem all_below {H : Type} {enc : TypeId × Value → H} {W W' : World} (hb : Below W.heap.size W W') : ∀ {ts : List TypeId} {vs : List Value} {ds : List (DataW H)} {ps : List MemPlace}, (∀ t ∈ ts, Try.prog.readableRec t = true ∧ t < Try.prog.types.size) →
    DataW.TrodAll enc Try.prog W 0 (fun _ => true) true ts vs ds ps → (∀ x ∈ ps, x.block < W.heap.size) → DataW.TrodAll enc Try.prog W' 0 (fun b => decide (b < W.heap.size)) true ts vs ds ps
  | [], vs, ds, ps, _, h, _ => by
    obtain ⟨rfl, rfl, rfl⟩ := trodAll_nil h
    exact trodAll_mk0
  | t :: ts, vs, ds, ps, ht, h, hlt => by
    obtain ⟨v, vs', d, ds', p, q, rfl, rfl, rfl, h1, h2⟩ := trodAll_cons h
    have ht0 := ht t (List.mem_cons_self ..)
    exact trodAll_cons_mk (Below.trod laidOut ht0.1 ht0.2 h1 hb fun x hx => hlt x (List.mem_append_left _ hx)) (all_below hb (fun t h => ht t (List.mem_cons_of_mem _ h)) h2 fun x hx => hlt x (List.mem_append_right _ hx))

theorem contract (H : Type) (enc : TypeId × Value → H) (W : World) (base : Nat) (args : Array Value) (ds gs : List (DataW H)) (before : List MemPlace)
    (hval : ∀ (j : Nat) t v, Try.f8.params[j]? = some t → args[j]? = some v → Value.okWide Try.prog W .any base t v)
    (hW : DataW.Whole enc Try.prog Try.f8.params.toList Rows.supplyAnswersSpec.vars false W args.toList ds gs before) (hk : Rows.uptoBulkAll ds ≤ 1048576) :
    Calls Try.prog 8 args W fun e W' => ∃ v, e = .returned v ∧ Rows.supplyAnswersSpec.post enc Try.prog Try.f8 false true false false W args v W' := by
  have hW' := hW
  obtain ⟨p, q, hA0, hV, rfl, hfz, hnd⟩ := hW
  have hA : DataW.TrodAll enc Try.prog W 0 (fun _ => true) true Try.f8.params.toList args.toList ds p := hA0
  rw [Try.params8] at hA hval
  have hA1 := hA
  obtain ⟨v0, vs0, d0, ds0, p0, q0, hargs, rfl, rfl, h0, r0⟩ := trodAll_cons hA
  obtain ⟨v1, vs1, d1, ds1, p1, q1, rfl, rfl, rfl, h1, r1⟩ := trodAll_cons r0
  obtain ⟨v2, vs2, d2, ds2, p2, q2, rfl, rfl, rfl, h2, r2⟩ := trodAll_cons r1
  obtain ⟨v3, vs3, d3, ds3, p3, q3, rfl, rfl, rfl, h3, r3⟩ := trodAll_cons r2
  obtain ⟨v4, vs4, d4, ds4, p4, q4, rfl, rfl, rfl, h4, r4⟩ := trodAll_cons r3
  obtain ⟨rfl, rfl, rfl⟩ := trodAll_nil r4
  obtain rfl : args = #[v0, v1, v2, v3, v4] := by cases args; simp_all
  obtain ⟨rfl, rfl⟩ := trodVars_none hV
  clear hA r0 r1 r2 r3 r4
  simp only [Rows.uptoBulkAll] at hk
  obtain ⟨t, k0, e0⟩ := rd_arg1 rd_ints (sl1 (okWide_slice Try.underlying22 (hval 0 22 v0 rfl rfl))) (fun _ => rfl) h0 (by omega)
  obtain ⟨raw, k1, e1⟩ := rd_arg1 rd_sups (sl1 (okWide_slice Try.underlying25 (hval 1 25 v1 rfl rfl))) (fun _ => rfl) h1 (by omega)
  obtain ⟨r, _, e2⟩ := rd_argS rd_rls (ag1 (okWide_struct Try.underlying31 (hval 2 31 v2 rfl rfl))) (fun _ => rfl) h2 (by omega)
  obtain ⟨d, _, e3⟩ := rd_arg1 rd_drws (sl1 (okWide_slice Try.underlying27 (hval 3 27 v3 rfl rfl))) (fun _ => rfl) h3 (by omega)
  obtain ⟨c, _, e4⟩ := rd_argS rd_chn (ag1 (okWide_struct Try.underlying51 (hval 4 51 v4 rfl rfl))) (fun _ => rfl) h4 (by omega)
  clear hA0
  have hlt : ∀ x ∈ p0 ++ (p1 ++ (p2 ++ (p3 ++ (p4 ++ [])))), x.block < W.heap.size := fun x hx => hA1.lt x hx
  refine (run_law (spec r d c k0 k1) rfl (fun j hj => ?_)).mono fun e W' ⟨he, hb⟩ => ?_
  · match j, hj with
    | 0, _ => exact e0
    | 1, _ => exact e1
    | 2, _ => exact e2
    | 3, _ => exact e3
    | 4, _ => exact e4
  subst he
  refine ⟨_, rfl, [d0, d1, d2, d3, d4], [], p0 ++ (p1 ++ (p2 ++ (p3 ++ (p4 ++ [])))), [], p0 ++ (p1 ++ (p2 ++ (p3 ++ (p4 ++ [])))), [], by simpa using hW', trodAll_mk1 (shut_bool Try.underlying4 _), ?_, rfl, hb.frame _, fun h => by cases h⟩
  rw [Try.params8]
  refine all_below hb (fun t ht => ?_) hA1 hlt
  have ht : t ∈ [22, 25, 31, 27, 51] := ht
  simp only [List.mem_cons, List.not_mem_nil, or_false] at ht
  rcases ht with rfl | rfl | rfl | rfl | rfl <;> exact ⟨by kernel_rfl, of_decide_eq_true (by kernel_rfl)⟩

/-- The empty input: the witness. -/
abbrev none5 : Array Value := #[.slice none 0 0, .slice none 0 0, .agg #[.slice none 0 0, .slice none 0 0], .slice none 0 0, .agg #[.bool false, .slice none 0 0, .int .i64 0, .int .i64 0]]
theorem reads (os : Os) {H : Type} (enc : TypeId × Value → H) : ∃ places, DataW.whole enc Try.prog ((World.holding Try.prog os ⟨#[], #[], []⟩).forCall (fun _ _ => 0) ⟨#[], none5, []⟩).memory Try.f8.params.toList Rows.supplyAnswersSpec.vars false none5.toList 8 =
    some ([.nil, .nil, .agg [.nil, .nil], .nil, .agg [.lit (.bool false), .nil, .lit (.int .i64 0), .lit (.int .i64 0)]], [], places) :=
  ⟨[], by kernel_rfl⟩

theorem lifted (os : Os) (started : os.Started) (H : Type) (enc : TypeId × Value → H) (F : Stop.Interp) :
    ReturnsInHanded {} Try.checked os 8 .any ((Rows.OpenSpec.upto Rows.supplyAnswersSpec).preRow enc Try.prog Try.f8 Rows.supplyAnswersUptoRow.domain false Rows.supplyAnswersUptoRow.laid) (((Rows.OpenSpec.upto Rows.supplyAnswersSpec).at F).post enc Try.prog Try.f8 false true false false) := by
  obtain ⟨places, hx⟩ := reads os enc
  refine returnsInHanded_of_row (C := Try.checked) (s := Rows.OpenSpec.upto Rows.supplyAnswersSpec) own started (by kernel_rfl) Try.func8
    (witness_row_at (enc := enc) (C := Try.checked) false (World.holding Try.prog os ⟨#[], #[], []⟩) none5 rfl (by kernel_rfl) (by kernel_rfl) (by kernel_rfl)
      (OpenSpec.preRow_of_cond 8 hx (by kernel_rfl) (fun k hk => by cases hk; kernel_rfl) (by kernel_rfl) (laidMet_of_run' 8 (by kernel_rfl) (by kernel_rfl)))) ?_
  intro W base args ds gs before hval hW _ hcond _ _ _ _
  have hk := of_decide_eq_true (hcond _ rfl)
  have hgs : gs = [] := by
    obtain ⟨p, q, _, hV, _⟩ := hW
    exact (trodVars_none hV).1
  subst hgs
  rw [List.append_nil] at hk
  exact contract H enc W base args ds [] before hval hW hk

theorem said : Rows.SupplyAnswersUptoSaid :=
  OpenClaim.holds_of_cond 8 Try.f8 rfl rfl rfl rfl rfl rfl rfl ⟨rfl, rfl, rfl, rfl, rfl⟩ rfl rfl rfl rfl rfl (by kernel_rfl) Try.func8 (by kernel_rfl)
    (of_decide_eq_true (by kernel_rfl)) (by unfold Func.isWrapper; first | (rw [if_pos (by decide +kernel)]; kernel_rfl) | (rw [if_neg (by decide +kernel)]; exact ⟨rfl, rfl⟩))
    (fun os started H enc _ F => by rw [OpenClaim.pre_eq_preRow]; exact lifted os started H enc F)

end Go.Proofs.Ytjmhlbogkeohpaa.supplyAnswers
namespace Go.Proofs.Ytjmhlbogkeohpaa

theorem supplyAnswers_holds : Rows.SupplyAnswersUptoSaid := supplyAnswers.said
end Go.Proofs.Ytjmhlbogkeohpaa
