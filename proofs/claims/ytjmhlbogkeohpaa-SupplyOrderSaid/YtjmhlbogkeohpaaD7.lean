/- Contracts of the program's functions, shown by walks of that machine, and the plain laws. -/
import Derived.Test.YtjmhlbogkeohpaaD6
namespace Go.Proofs.Ytjmhlbogkeohpaa
open Go.Ab
set_option maxRecDepth 100000

theorem tape0_ok {l : List Int} (h : I64 l) : Tp.ok ⟨l.take 500, 0⟩ := ⟨fun x hx => h x (List.mem_of_mem_take hx), by simp; omega, Nat.zero_le _⟩

theorem chainN_len (f : Nat) (a : List Dem) (at_ : Int) (acc : List Int) (x : Int) : (chainN f a at_ acc x).1.length ≤ acc.length + f := by
  induction f generalizing at_ acc x with
  | zero => exact Nat.le_refl _
  | succ f ih =>
    rw [chainN]
    cases decide (0 ≤ at_) with
    | false => show acc.length ≤ _; omega
    | true =>
      have := ih (a.getD at_.toNat dem0).child (acc ++ [at_]) (a.getD at_.toNat dem0).draw
      rw [List.length_append] at this
      simp only [List.length_singleton] at this
      simp only [cond_true]
      omega

theorem explain_len {l : List Sup} {d : List Drw} (h : drawsF l d = true) : (explainF l d).1.sups.length ≤ 100 := by
  have hv := vld_of h
  have hal := (demF_ok hv).1.al
  have hvl := hv.len
  have key : ∀ to last, (chainF (demF l d).1.a to last).sups.length ≤ 100 := fun to last => by
    show (chainN ((demF l d).1.a.length + 1) (demF l d).1.a to [] (-1)).1.reverse.length ≤ 100
    rw [List.length_reverse]
    have := chainN_len ((demF l d).1.a.length + 1) (demF l d).1.a to [] (-1)
    simp only [List.length_nil] at this
    omega
  unfold explainF
  rw [begin_draws h]
  simp only [bne_self_eq_false, cond_false]
  cases decide (0 ≤ overI l d) with
  | true => show 1 ≤ 100; omega
  | false =>
    cases decide (0 ≤ (demF l d).2) with
    | true => exact key _ _
    | false =>
      cases decide (0 ≤ highI l d) with
      | true => exact key _ _
      | false => show 0 ≤ 100; omega

set_option maxHeartbeats 4000000 in
theorem proves_spec (l0 : List Int) (h0 : I64 l0) : S 7 [intsV l0] [] (.bool true) [] := by
  refine spec_of_x (ct := []) cfgOK Try.func7 rfl rfl (Nat.le_of_ble_eq_true rfl) (by decide +kernel) (Nat.le_refl _) ?_; conv => whnf
  refine ⟨_, _, new_spec l0, ?_⟩; conv => whnf
  obtain ⟨l, t1, ht1, hl, hl1, hl2, hs1⟩ := supplies_ex (tape0_ok h0) 7 (by omega)
  refine ⟨_, _, hs1, ?_⟩; conv => whnf
  obtain ⟨d, t2, ht2, hd, hd2, hs2⟩ := draws_ex ht1 hl (by omega) 6 (by omega)
  refine ⟨_, _, hs2, ?_⟩; conv => whnf
  have hdr := goodD_draws (goodS_check hl (by omega)) hd (by omega)
  obtain ⟨e1, e2⟩ := explain_best hdr
  have hcl := explain_len hdr
  refine ⟨_, _, least_spec l (by omega) d (by omega), ?_⟩; conv => whnf
  refine ⟨_, _, explain_spec l (by omega) d (by omega), ?_⟩; conv => whnf
  refine bcase_of (fun h => ?_) (fun h => ?_)
  · have h : ((leastF l d).2 == 0) = true := h
    have hb : Best l d (leastF l d).1 := by
      rcases least_best hdr with ⟨_, hb⟩ | ⟨hb, _⟩
      · exact hb
      · rw [hb] at h; cases h
    (conv => whnf)
    refine ⟨_, _, fun _ => rMeets_spec l (by omega) (leastF l d).1 d (by omega), ?_⟩; conv => whnf
    refine ⟨_, _, fun _ => meets_spec l (by omega) (leastF l d).1 d (by omega), ?_⟩; conv => whnf
    refine ⟨_, _, fun _ => chain2_spec l (by omega) d (by omega) (explainF l d).1 (by omega), ?_⟩; conv => whnf
    refine ⟨_, _, fun _ => awake_spec, ?_⟩; conv => whnf
    refine ⟨?_, trivial⟩
    show ((((((explainF l d).2 == 8) && meetsF l (leastF l d).1 d) && meetsF l (leastF l d).1 d) && !pchkF l d (explainF l d).1) && true) = true
    rw [hb.ok, e1 (by simpa using h), pchk_eq]
    unfold rchkF
    show (true && true && true && !(bif (beginF l d != 0) || true then false else _) && true) = true
    rw [Bool.or_true]
    rfl
  · have h : ((leastF l d).2 == 0) = false := h
    obtain ⟨e3, e4⟩ := e2 (by simpa using h)
    have hb : (leastF l d).2 = 9 := by
      rcases least_best hdr with ⟨hb, _⟩ | ⟨hb, _⟩
      · rw [hb] at h; cases h
      · rw [hb]
    (conv => whnf)
    refine ⟨_, _, fun _ => rchain_spec l (by omega) d (by omega) (explainF l d).1 (by omega), ?_⟩; conv => whnf
    refine ⟨_, _, fun _ => chain2_spec l (by omega) d (by omega) (explainF l d).1 (by omega), ?_⟩; conv => whnf
    refine ⟨_, _, fun _ => awake_spec, ?_⟩; conv => whnf
    refine ⟨?_, trivial⟩
    show ((((((leastF l d).2 == 9) && ((explainF l d).2 == 0)) && rchkF l d (explainF l d).1) && pchkF l d (explainF l d).1) && true) = true
    rw [pchk_eq, e3, e4, hb]
    rfl

theorem joinF_snoc (i : Nat) (a b : Rls) : joinF (i + 1) a b = ⟨(joinF i a b).on ++ [bAt a.on i || bAt b.on i], (joinF i a b).lev ++ [jnN a b i]⟩ := by
  unfold joinF
  rw [List.range_succ, List.map_append, List.map_append]
  rfl

set_option maxHeartbeats 4000000 in
theorem joins_spec (l0 : List Int) (h0 : I64 l0) : S 3 [intsV l0] [] (.bool true) [] := by
  refine spec_of_x (ct := []) cfgOK Try.func3 rfl rfl (Nat.le_of_ble_eq_true rfl) (by decide +kernel) (Nat.le_refl _) ?_; conv => whnf
  refine ⟨_, _, new_spec l0, ?_⟩; conv => whnf
  obtain ⟨l, t1, ht1, hl, hl1, hl2, hs1⟩ := supplies_ex (tape0_ok h0) 6 (by omega)
  refine ⟨_, _, hs1, ?_⟩; conv => whnf
  obtain ⟨d, t2, ht2, hd, hd2, hs2⟩ := draws_ex ht1 hl (by omega) 4 (by omega)
  refine ⟨_, _, hs2, ?_⟩; conv => whnf
  have hdr := goodD_draws (goodS_check hl (by omega)) hd (by omega)
  obtain ⟨a, oka, t3, ht3, na, hs3⟩ := near_ex ht2 hl (by omega) hd (by omega)
  refine ⟨_, _, hs3, ?_⟩; conv => whnf
  obtain ⟨b, okb, t4, ht4, nb, hs4⟩ := near_ex ht3 hl (by omega) hd (by omega)
  refine ⟨_, _, hs4, ?_⟩; conv => whnf
  have hok : oka = okb := na.is.trans nb.is.symm
  subst hok
  refine bcase_of (fun h => ?_) (fun h => ?_)
  · (conv => whnf)
    refine ⟨_, _, fun _ => awake_spec, ?_⟩; conv => whnf
    refine ⟨?_, trivial⟩
    show ((oka == oka) && true) = true
    rw [beq_self_eq_true]
    rfl
  · have h : (!oka || !oka) = false := h
    have hoka : oka = true := by simpa using h
    have ma := na.yes hoka
    have mb := nb.yes hoka
    have ra := ((meetsF_iff hdr).1 ma).1
    have rb := ((meetsF_iff hdr).1 mb).1
    have ra1 := ra.on
    have ra2 := ra.len
    have rb1 := rb.on
    have rb2 := rb.len
    (conv => whnf)
    refine loops_intro (ct := [15, 17]) cfgOK (by decide +kernel) (fun i : Nat => ⟨[(4, supsV l), (5, drwsV d), (6, .ptr 0 0 0), (8, .ptr 1 0 0), (10, .ptr 2 0 0), (47, iV l.length), (48, iV i)], [(0, some (.box [boolsV a.on, intsV a.lev])), (1, some (.box [boolsV b.on, intsV b.lev])), (2, some (.box [.osl 3 0 i false, .osl 4 0 i false])), (3, some (.row 1 i (rowG AV.bool false (joinF i a b).on))), (4, some (.row 1 i (rowG iV 0 (joinF i a b).lev)))], 5⟩) (fun i => i ≤ l.length) (fun i => l.length - i) 0 [(0, some 18), (1, some 28), (2, some 37), (3, none), (4, none)] (Nat.zero_le _) (by (repeat' (first | exact trivial | exact rfl | exact ⟨rfl, rfl⟩ | exact ⟨rfl, trivial⟩ | exact ⟨rfl, LeL.refl _, trivial⟩ | exact ⟨rfl, LeL.refl _, LeL.refl _, trivial⟩ | exact embV_le (.refl _) rfl | exact embV_leV (.refl _) rfl (Nat.lt_of_sub_pos (by exact Nat.zero_lt_succ _)) | exact ⟨rfl, rfl, rfl, rfl⟩ | exact ⟨rfl, rfl, rfl, rfl, id⟩ | exact ⟨rfl, rfl, rfl, rfl, rfl⟩ | exact ⟨rfl, rfl, rfl, rfl, nofun⟩ | exact tape_emb rfl | exact embO_le (LeL.refl _) rfl (Nat.lt_of_sub_pos (by exact Nat.zero_lt_succ _)) | exact ⟨rfl, rfl, fun _ _ => .refl _⟩ | exact embV_le (le_len (by simp)) rfl | exact ⟨rfl, rfl, rfl, by simp, nofun⟩ | exact ⟨rfl, by simp, le_app rfl (.refl _)⟩ | (refine ⟨rfl, ?_⟩; dsimp only; simp; done) | (refine ⟨rfl, ?_⟩; dsimp only; omega) | (refine ⟨rfl, ?_⟩; dsimp only; simp; omega) | refine ⟨?_, ?_⟩ | refine ⟨?_, ?_, ?_⟩))) ?_
    intro i hi
    (conv => whnf)
    refine bcase_of (fun h2 => ?_) (fun h2 => ?_)
    · have h2 : decide ((i : Int) < l.length) = true := h2
      have hlt : i < l.length := by have := of_decide_eq_true h2; omega
      (conv => whnf)
      refine cut_intro (ct := []) (ct' := [17]) cfgOK (by decide +kernel) (by decide +kernel) (fun _ : Unit => ⟨[(4, supsV l), (5, drwsV d), (6, .ptr 0 0 0), (8, .ptr 1 0 0), (10, .ptr 2 0 0), (47, iV l.length), (48, iV i), (11, iV i), (12, iV (bif bAt a.on i then nAt a.lev i else 0))], [(0, some (.box [boolsV a.on, intsV a.lev])), (1, some (.box [boolsV b.on, intsV b.lev])), (2, some (.box [.osl 3 0 i false, .osl 4 0 i false])), (3, some (.row 1 i (rowG AV.bool false (joinF i a b).on))), (4, some (.row 1 i (rowG iV 0 (joinF i a b).lev)))], 5⟩) (fun _ => True) ?_ ?_
      · (conv => whnf)
        (refine ⟨by intros; first | omega | (unfold InI64; omega) | (unfold big; omega) | contradiction | (dsimp only at *; omega) | (dsimp only at *; unfold InI64; omega) | (dsimp only at *; unfold big; omega) | (simp only [Int.toNat_natCast]; omega) | (simp only [List.length_append, List.length_cons, List.length_nil, List.length_set]; omega), ?_⟩; conv => whnf)
        refine bcase_of (fun h3 => ?_) (fun h3 => ?_)
        · have h3 : bAt a.on i = true := h3
          (conv => whnf)
          (refine ⟨by intros; first | omega | (unfold InI64; omega) | (unfold big; omega) | contradiction | (dsimp only at *; omega) | (dsimp only at *; unfold InI64; omega) | (dsimp only at *; unfold big; omega) | (simp only [Int.toNat_natCast]; omega) | (simp only [List.length_append, List.length_cons, List.length_nil, List.length_set]; omega), ?_⟩; conv => whnf)
          exact ⟨(), [(0, some 0), (1, some 1), (2, some 2), (3, some 3), (4, some 4)], trivial, by rw [h3]; (repeat' (first | exact trivial | exact rfl | exact ⟨rfl, rfl⟩ | exact ⟨rfl, trivial⟩ | exact ⟨rfl, LeL.refl _, trivial⟩ | exact ⟨rfl, LeL.refl _, LeL.refl _, trivial⟩ | exact embV_le (.refl _) rfl | exact embV_leV (.refl _) rfl (Nat.lt_of_sub_pos (by exact Nat.zero_lt_succ _)) | exact ⟨rfl, rfl, rfl, rfl⟩ | exact ⟨rfl, rfl, rfl, rfl, id⟩ | exact ⟨rfl, rfl, rfl, rfl, rfl⟩ | exact ⟨rfl, rfl, rfl, rfl, nofun⟩ | exact tape_emb rfl | exact embO_le (LeL.refl _) rfl (Nat.lt_of_sub_pos (by exact Nat.zero_lt_succ _)) | exact ⟨rfl, rfl, fun _ _ => .refl _⟩ | exact embV_le (le_len (by simp)) rfl | exact ⟨rfl, rfl, rfl, by simp, nofun⟩ | exact ⟨rfl, by simp, le_app rfl (.refl _)⟩ | (refine ⟨rfl, ?_⟩; dsimp only; simp; done) | (refine ⟨rfl, ?_⟩; dsimp only; omega) | (refine ⟨rfl, ?_⟩; dsimp only; simp; omega) | refine ⟨?_, ?_⟩ | refine ⟨?_, ?_, ?_⟩))⟩
        · have h3 : bAt a.on i = false := h3
          (conv => whnf)
          exact ⟨(), [(0, some 0), (1, some 1), (2, some 2), (3, some 3), (4, some 4)], trivial, by rw [h3]; (repeat' (first | exact trivial | exact rfl | exact ⟨rfl, rfl⟩ | exact ⟨rfl, trivial⟩ | exact ⟨rfl, LeL.refl _, trivial⟩ | exact ⟨rfl, LeL.refl _, LeL.refl _, trivial⟩ | exact embV_le (.refl _) rfl | exact embV_leV (.refl _) rfl (Nat.lt_of_sub_pos (by exact Nat.zero_lt_succ _)) | exact ⟨rfl, rfl, rfl, rfl⟩ | exact ⟨rfl, rfl, rfl, rfl, id⟩ | exact ⟨rfl, rfl, rfl, rfl, rfl⟩ | exact ⟨rfl, rfl, rfl, rfl, nofun⟩ | exact tape_emb rfl | exact embO_le (LeL.refl _) rfl (Nat.lt_of_sub_pos (by exact Nat.zero_lt_succ _)) | exact ⟨rfl, rfl, fun _ _ => .refl _⟩ | exact embV_le (le_len (by simp)) rfl | exact ⟨rfl, rfl, rfl, by simp, nofun⟩ | exact ⟨rfl, by simp, le_app rfl (.refl _)⟩ | (refine ⟨rfl, ?_⟩; dsimp only; simp; done) | (refine ⟨rfl, ?_⟩; dsimp only; omega) | (refine ⟨rfl, ?_⟩; dsimp only; simp; omega) | refine ⟨?_, ?_⟩ | refine ⟨?_, ?_, ?_⟩))⟩
      · intro _ _
        (conv => whnf)
        refine cut_intro (ct := []) (ct' := []) cfgOK (by decide +kernel) (by decide +kernel) (fun _ : Unit => ⟨[(4, supsV l), (5, drwsV d), (6, .ptr 0 0 0), (8, .ptr 1 0 0), (10, .ptr 2 0 0), (47, iV l.length), (48, iV i), (11, iV i), (12, iV (jnN a b i))], [(0, some (.box [boolsV a.on, intsV a.lev])), (1, some (.box [boolsV b.on, intsV b.lev])), (2, some (.box [.osl 3 0 i false, .osl 4 0 i false])), (3, some (.row 1 i (rowG AV.bool false (joinF i a b).on))), (4, some (.row 1 i (rowG iV 0 (joinF i a b).lev)))], 5⟩) (fun _ => True) ?_ ?_
        · (conv => whnf)
          (refine ⟨by intros; first | omega | (unfold InI64; omega) | (unfold big; omega) | contradiction | (dsimp only at *; omega) | (dsimp only at *; unfold InI64; omega) | (dsimp only at *; unfold big; omega) | (simp only [Int.toNat_natCast]; omega) | (simp only [List.length_append, List.length_cons, List.length_nil, List.length_set]; omega), ?_⟩; conv => whnf)
          unfold jnN
          refine bcase_of (fun h3 => ?_) (fun h3 => ?_)
          · have h3 : bAt b.on i = true := h3
            (conv => whnf)
            (refine ⟨by intros; first | omega | (unfold InI64; omega) | (unfold big; omega) | contradiction | (dsimp only at *; omega) | (dsimp only at *; unfold InI64; omega) | (dsimp only at *; unfold big; omega) | (simp only [Int.toNat_natCast]; omega) | (simp only [List.length_append, List.length_cons, List.length_nil, List.length_set]; omega), ?_⟩; conv => whnf)
            exact ⟨(), [(0, some 0), (1, some 1), (2, some 2), (3, some 3), (4, some 4)], trivial, by rw [h3]; (repeat' (first | exact trivial | exact rfl | exact ⟨rfl, rfl⟩ | exact ⟨rfl, trivial⟩ | exact ⟨rfl, LeL.refl _, trivial⟩ | exact ⟨rfl, LeL.refl _, LeL.refl _, trivial⟩ | exact embV_le (.refl _) rfl | exact embV_leV (.refl _) rfl (Nat.lt_of_sub_pos (by exact Nat.zero_lt_succ _)) | exact ⟨rfl, rfl, rfl, rfl⟩ | exact ⟨rfl, rfl, rfl, rfl, id⟩ | exact ⟨rfl, rfl, rfl, rfl, rfl⟩ | exact ⟨rfl, rfl, rfl, rfl, nofun⟩ | exact tape_emb rfl | exact embO_le (LeL.refl _) rfl (Nat.lt_of_sub_pos (by exact Nat.zero_lt_succ _)) | exact ⟨rfl, rfl, fun _ _ => .refl _⟩ | exact embV_le (le_len (by simp)) rfl | exact ⟨rfl, rfl, rfl, by simp, nofun⟩ | exact ⟨rfl, by simp, le_app rfl (.refl _)⟩ | (refine ⟨rfl, ?_⟩; dsimp only; simp; done) | (refine ⟨rfl, ?_⟩; dsimp only; omega) | (refine ⟨rfl, ?_⟩; dsimp only; simp; omega) | refine ⟨?_, ?_⟩ | refine ⟨?_, ?_, ?_⟩))⟩
          · have h3 : bAt b.on i = false := h3
            (conv => whnf)
            exact ⟨(), [(0, some 0), (1, some 1), (2, some 2), (3, some 3), (4, some 4)], trivial, by rw [h3]; (repeat' (first | exact trivial | exact rfl | exact ⟨rfl, rfl⟩ | exact ⟨rfl, trivial⟩ | exact ⟨rfl, LeL.refl _, trivial⟩ | exact ⟨rfl, LeL.refl _, LeL.refl _, trivial⟩ | exact embV_le (.refl _) rfl | exact embV_leV (.refl _) rfl (Nat.lt_of_sub_pos (by exact Nat.zero_lt_succ _)) | exact ⟨rfl, rfl, rfl, rfl⟩ | exact ⟨rfl, rfl, rfl, rfl, id⟩ | exact ⟨rfl, rfl, rfl, rfl, rfl⟩ | exact ⟨rfl, rfl, rfl, rfl, nofun⟩ | exact tape_emb rfl | exact embO_le (LeL.refl _) rfl (Nat.lt_of_sub_pos (by exact Nat.zero_lt_succ _)) | exact ⟨rfl, rfl, fun _ _ => .refl _⟩ | exact embV_le (le_len (by simp)) rfl | exact ⟨rfl, rfl, rfl, by simp, nofun⟩ | exact ⟨rfl, by simp, le_app rfl (.refl _)⟩ | (refine ⟨rfl, ?_⟩; dsimp only; simp; done) | (refine ⟨rfl, ?_⟩; dsimp only; omega) | (refine ⟨rfl, ?_⟩; dsimp only; simp; omega) | refine ⟨?_, ?_⟩ | refine ⟨?_, ?_, ?_⟩))⟩
        · intro _ _
          (conv => whnf)
          (refine ⟨by intros; first | omega | (unfold InI64; omega) | (unfold big; omega) | contradiction | (dsimp only at *; omega) | (dsimp only at *; unfold InI64; omega) | (dsimp only at *; unfold big; omega) | (simp only [Int.toNat_natCast]; omega) | (simp only [List.length_append, List.length_cons, List.length_nil, List.length_set]; omega), ?_⟩; conv => whnf)
          refine ⟨fun _ => by show 0 ≤ (i : Int) ∧ (i : Int) < (b.on.length : Int); omega, ?_⟩; conv => whnf
          (refine ⟨by intros; first | omega | (unfold InI64; omega) | (unfold big; omega) | contradiction | (dsimp only at *; omega) | (dsimp only at *; unfold InI64; omega) | (dsimp only at *; unfold big; omega) | (simp only [Int.toNat_natCast]; omega) | (simp only [List.length_append, List.length_cons, List.length_nil, List.length_set]; omega), ?_⟩; conv => whnf)
          (refine ⟨by intros; first | omega | (unfold InI64; omega) | (unfold big; omega) | contradiction | (dsimp only at *; omega) | (dsimp only at *; unfold InI64; omega) | (dsimp only at *; unfold big; omega) | (simp only [Int.toNat_natCast]; omega) | (simp only [List.length_append, List.length_cons, List.length_nil, List.length_set]; omega), ?_⟩; conv => whnf)
          (refine ⟨by intros; first | omega | (unfold InI64; omega) | (unfold big; omega) | contradiction | (dsimp only at *; omega) | (dsimp only at *; unfold InI64; omega) | (dsimp only at *; unfold big; omega) | (simp only [Int.toNat_natCast]; omega) | (simp only [List.length_append, List.length_cons, List.length_nil, List.length_set]; omega), ?_⟩; conv => whnf)
          refine ⟨i + 1, [(0, some 0), (1, some 1), (2, some 2), (3, some 20), (4, some 25)], hlt, by omega, ⟨rfl, by (repeat' (first | exact trivial | exact rfl | exact ⟨rfl, rfl⟩ | exact ⟨rfl, trivial⟩ | exact ⟨rfl, LeL.refl _, trivial⟩ | exact ⟨rfl, LeL.refl _, LeL.refl _, trivial⟩ | exact embV_le (.refl _) rfl | exact embV_leV (.refl _) rfl (Nat.lt_of_sub_pos (by exact Nat.zero_lt_succ _)) | exact ⟨rfl, rfl, rfl, rfl⟩ | exact ⟨rfl, rfl, rfl, rfl, id⟩ | exact ⟨rfl, rfl, rfl, rfl, rfl⟩ | exact ⟨rfl, rfl, rfl, rfl, nofun⟩ | exact tape_emb rfl | exact embO_le (LeL.refl _) rfl (Nat.lt_of_sub_pos (by exact Nat.zero_lt_succ _)) | exact ⟨rfl, rfl, fun _ _ => .refl _⟩ | exact embV_le (le_len (by simp)) rfl | exact ⟨rfl, rfl, rfl, by simp, nofun⟩ | exact ⟨rfl, by simp, le_app rfl (.refl _)⟩ | (refine ⟨rfl, ?_⟩; dsimp only; simp; done) | (refine ⟨rfl, ?_⟩; dsimp only; omega) | (refine ⟨rfl, ?_⟩; dsimp only; simp; omega) | refine ⟨?_, ?_⟩ | refine ⟨?_, ?_, ?_⟩)), ⟨by (repeat' (first | exact trivial | exact rfl | exact ⟨rfl, rfl⟩ | exact ⟨rfl, trivial⟩ | exact ⟨rfl, LeL.refl _, trivial⟩ | exact ⟨rfl, LeL.refl _, LeL.refl _, trivial⟩ | exact embV_le (.refl _) rfl | exact embV_leV (.refl _) rfl (Nat.lt_of_sub_pos (by exact Nat.zero_lt_succ _)) | exact ⟨rfl, rfl, rfl, rfl⟩ | exact ⟨rfl, rfl, rfl, rfl, id⟩ | exact ⟨rfl, rfl, rfl, rfl, rfl⟩ | exact ⟨rfl, rfl, rfl, rfl, nofun⟩ | exact tape_emb rfl | exact embO_le (LeL.refl _) rfl (Nat.lt_of_sub_pos (by exact Nat.zero_lt_succ _)) | exact ⟨rfl, rfl, fun _ _ => .refl _⟩ | exact embV_le (le_len (by simp)) rfl | exact ⟨rfl, rfl, rfl, by simp, nofun⟩ | exact ⟨rfl, by simp, le_app rfl (.refl _)⟩ | (refine ⟨rfl, ?_⟩; dsimp only; simp; done) | (refine ⟨rfl, ?_⟩; dsimp only; omega) | (refine ⟨rfl, ?_⟩; dsimp only; simp; omega) | refine ⟨?_, ?_⟩ | refine ⟨?_, ?_, ?_⟩)), by (repeat' (first | exact trivial | exact rfl | exact ⟨rfl, rfl⟩ | exact ⟨rfl, trivial⟩ | exact ⟨rfl, LeL.refl _, trivial⟩ | exact ⟨rfl, LeL.refl _, LeL.refl _, trivial⟩ | exact embV_le (.refl _) rfl | exact embV_leV (.refl _) rfl (Nat.lt_of_sub_pos (by exact Nat.zero_lt_succ _)) | exact ⟨rfl, rfl, rfl, rfl⟩ | exact ⟨rfl, rfl, rfl, rfl, id⟩ | exact ⟨rfl, rfl, rfl, rfl, rfl⟩ | exact ⟨rfl, rfl, rfl, rfl, nofun⟩ | exact tape_emb rfl | exact embO_le (LeL.refl _) rfl (Nat.lt_of_sub_pos (by exact Nat.zero_lt_succ _)) | exact ⟨rfl, rfl, fun _ _ => .refl _⟩ | exact embV_le (le_len (by simp)) rfl | exact ⟨rfl, rfl, rfl, by simp, nofun⟩ | exact ⟨rfl, by simp, le_app rfl (.refl _)⟩ | (refine ⟨rfl, ?_⟩; dsimp only; simp; done) | (refine ⟨rfl, ?_⟩; dsimp only; omega) | (refine ⟨rfl, ?_⟩; dsimp only; simp; omega) | refine ⟨?_, ?_⟩ | refine ⟨?_, ?_, ?_⟩)), by (repeat' (first | exact trivial | exact rfl | exact ⟨rfl, rfl⟩ | exact ⟨rfl, trivial⟩ | exact ⟨rfl, LeL.refl _, trivial⟩ | exact ⟨rfl, LeL.refl _, LeL.refl _, trivial⟩ | exact embV_le (.refl _) rfl | exact embV_leV (.refl _) rfl (Nat.lt_of_sub_pos (by exact Nat.zero_lt_succ _)) | exact ⟨rfl, rfl, rfl, rfl⟩ | exact ⟨rfl, rfl, rfl, rfl, id⟩ | exact ⟨rfl, rfl, rfl, rfl, rfl⟩ | exact ⟨rfl, rfl, rfl, rfl, nofun⟩ | exact tape_emb rfl | exact embO_le (LeL.refl _) rfl (Nat.lt_of_sub_pos (by exact Nat.zero_lt_succ _)) | exact ⟨rfl, rfl, fun _ _ => .refl _⟩ | exact embV_le (le_len (by simp)) rfl | exact ⟨rfl, rfl, rfl, by simp, nofun⟩ | exact ⟨rfl, by simp, le_app rfl (.refl _)⟩ | (refine ⟨rfl, ?_⟩; dsimp only; simp; done) | (refine ⟨rfl, ?_⟩; dsimp only; omega) | (refine ⟨rfl, ?_⟩; dsimp only; simp; omega) | refine ⟨?_, ?_⟩ | refine ⟨?_, ?_, ?_⟩)), ⟨rfl, rfl, ?_⟩, ⟨rfl, rfl, ?_⟩, trivial⟩⟩⟩
          · rw [joinF_snoc]
            exact le_app (l := (joinF i a b).on) (by simp [joinF]) (.refl _)
          · rw [joinF_snoc]
            exact le_app (l := (joinF i a b).lev) (by simp [joinF]) (.refl _)
    · have h2 : decide ((i : Int) < l.length) = false := h2
      have hil : i = l.length := by have := of_decide_eq_false h2; omega
      subst hil
      (conv => whnf)
      refine ⟨_, _, meets_spec l (by omega) a d (by omega), ?_⟩; conv => whnf
      refine ⟨_, _, fun _ => meets_spec l (by omega) b d (by omega), ?_⟩; conv => whnf
      refine ⟨_, _, fun _ => (meets_spec l (by omega) (joinF l.length a b) d (by omega)).le ⟨.refl _, Le.aggL ⟨le_len (by simp [joinF]), le_len (by simp [joinF]), trivial⟩, .refl _, trivial⟩ trivial, ?_⟩; conv => whnf
      refine ⟨_, _, fun _ => awake_spec, ?_⟩; conv => whnf
      refine ⟨?_, trivial⟩
      show (((meetsF l a d && meetsF l b d) && meetsF l (joinF l.length a b) d) && true) = true
      rw [ma, mb, join_meets hdr ma mb]
      rfl

end Go.Proofs.Ytjmhlbogkeohpaa

namespace Go.Proofs.Ytjmhlbogkeohpaa
open Go.Ab
set_option maxRecDepth 100000

theorem le_app2 {α : Type} {f : α → AV} {d : α} {l m : List α} {n k : Nat} {g h : Nat → AV} (hn : n = l.length) (hk : k = m.length) (hg : ∀ i, i < n → Le (g i) (rowG f d l i)) (hh : ∀ i, i < k → Le (h i) (rowG f d m i)) : ∀ i, i < n + k → Le (appG n g h i) (rowG f d (l ++ m) i) := by
  intro i hi
  unfold rowG
  by_cases hin : i < n
  · rw [appG_l hin, getD_app_l d (by omega)]
    exact hg i hin
  · rw [appG_r (by omega), getD_app_r2 d (by omega), ← hn]
    exact hh _ (by omega)

theorem rsum_bnd {f : Nat → Int} {M : Int} (h : ∀ j, 0 ≤ f j ∧ f j ≤ M) (n : Nat) : 0 ≤ rsum f n ∧ rsum f n ≤ n * M := by
  induction n with
  | zero => exact ⟨Int.le_refl _, by show (0 : Int) ≤ (0 : Nat) * M; simp⟩
  | succ n ih =>
    rw [rsum]
    have := h n
    have e : ((n + 1 : Nat) : Int) * M = n * M + M := by rw [Int.natCast_add, Int.add_mul]; simp
    omega

def totN (d : List Drw) : Nat → Int := fun i => tot (d.drop i)

theorem tot_drop {d : List Drw} {i : Nat} (h : i < d.length) : tot (d.drop i) = (d.getD i drw0).load + tot (d.drop (i + 1)) := by
  rw [drop_cons drw0 h]
  rfl

theorem tot_bnd {d : List Drw} (h : ∀ x ∈ d, 0 ≤ x.load ∧ x.load ≤ 10000) : 0 ≤ tot d ∧ tot d ≤ 10000 * d.length := by
  induction d with
  | nil => exact ⟨Int.le_refl _, by show (0 : Int) ≤ 10000 * ((0 : Nat) : Int); simp⟩
  | cons x d ih =>
    have h1 := h x (List.mem_cons_self ..)
    have h2 := ih fun y hy => h y (List.mem_cons_of_mem _ hy)
    have e : tot (x :: d) = x.load + tot d := rfl
    rw [e, List.length_cons]
    omega

set_option maxHeartbeats 8000000 in
theorem sloads_spec (l0 : List Int) (h0 : I64 l0) : S 6 [intsV l0] [] (.bool true) [] := by
  refine spec_of_x (ct := []) cfgOK Try.func6 rfl rfl (Nat.le_of_ble_eq_true rfl) (by decide +kernel) (Nat.le_refl _) ?_; conv => whnf
  refine ⟨_, _, new_spec l0, ?_⟩; conv => whnf
  obtain ⟨l, t1, ht1, hl, hl1, hl2, hs1⟩ := supplies_ex (tape0_ok h0) 7 (by omega)
  refine ⟨_, _, hs1, ?_⟩; conv => whnf
  obtain ⟨a, t2, ht2, ha, ha2, hs2⟩ := draws_ex ht1 hl (by omega) 4 (by omega)
  refine ⟨_, _, hs2, ?_⟩; conv => whnf
  obtain ⟨b, t3, ht3, hb, hb2, hs3⟩ := draws_ex ht2 hl (by omega) 4 (by omega)
  refine ⟨_, _, hs3, ?_⟩; conv => whnf
  have hda := goodD_draws (goodS_check hl (by omega)) ha (by omega)
  have hdb := goodD_draws (goodS_check hl (by omega)) hb (by omega)
  have hab := draws_app hda hdb (by omega)
  have hv := vld_of hab
  have hadd := loads_add (vld_of hda) (vld_of hdb) (vld_sup hv)
  have hlr : ∀ d, drawsF l d = true → loadsR l d = loadsF l d ∧ beginF l d = 0 := fun d h => by
    have := begin_draws h
    unfold loadsR
    rw [this]
    exact ⟨rfl, rfl⟩
  have hroots := loads_roots hv
  have hba := loads_nonneg (vld_of hda)
  have hbb := loads_nonneg (vld_of hdb)
  have hbab := loads_nonneg hv
  refine ⟨_, _, Loads_spec l (by omega) a (by omega), ?_⟩; conv => whnf
  refine ⟨_, _, Loads_spec l (by omega) b (by omega), ?_⟩; conv => whnf
  (refine ⟨by intros; first | omega | (unfold InI64; omega) | (unfold big; omega) | contradiction | (dsimp only at *; omega) | (dsimp only at *; unfold InI64; omega) | (dsimp only at *; unfold big; omega) | (simp only [Int.toNat_natCast]; omega) | (simp only [List.length_append, List.length_cons, List.length_nil, List.length_set]; omega), ?_⟩; conv => whnf)
  (refine ⟨by intros; first | omega | (unfold InI64; omega) | (unfold big; omega) | contradiction | (dsimp only at *; omega) | (dsimp only at *; unfold InI64; omega) | (dsimp only at *; unfold big; omega) | (simp only [Int.toNat_natCast]; omega) | (simp only [List.length_append, List.length_cons, List.length_nil, List.length_set]; omega), ?_⟩; conv => whnf)
  refine ⟨_, _, (Loads_spec l (by omega) (a ++ b) (by rw [List.length_append]; omega)).le ⟨.refl _, .sl (by simp) (fun _ => rfl) nofun (le_app2 (by simp) rfl (fun _ _ => .refl _) (fun _ _ => .refl _)), trivial⟩ trivial, ?_⟩; conv => whnf
  rw [(hlr a hda).1, (hlr a hda).2, (hlr b hdb).1, (hlr b hdb).2, (hlr _ hab).1, (hlr _ hab).2]
  have hla := loadsF_len l a
  have hlb := loadsF_len l b
  have hlab := loadsF_len l (a ++ b)
  refine bcase_of (fun h => ?_) (fun h => ?_)
  · exfalso
    have h : (((((((0 : Int) != 0) || ((0 : Int) != 0)) || ((0 : Int) != 0)) || (((loadsF l a).length : Int) != l.length)) || (((loadsF l b).length : Int) != l.length)) || (((loadsF l (a ++ b)).length : Int) != l.length)) = true := h
    rw [hla, hlb, hlab] at h
    simp at h
  generalize hgb : a ++ b = ab at *
  have hW : ∀ j, 0 ≤ rootW l 0 (loadsF l ab) j ∧ rootW l 0 (loadsF l ab) j ≤ 100000000000 := fun j => by
    unfold rootW
    have := hbab j
    split <;> omega
  have hsb := fun i => rsum_bnd hW i
  (conv => whnf)
  refine loops_intro (ct := [18]) cfgOK (by decide +kernel) (fun i : Nat => ⟨[(4, supsV l), (5, drwsV a), (6, drwsV b), (7, intsV (loadsF l a)), (9, intsV (loadsF l b)), (11, intsV (loadsF l ab)), (13, iV (rsum (rootW l 0 (loadsF l ab)) i)), (81, supsV l), (82, iV l.length), (83, iV i)], [], 0⟩) (fun i => i ≤ l.length) (fun i => l.length - i) 0 [] (Nat.zero_le _) (by (repeat' (first | exact trivial | exact rfl | exact ⟨rfl, rfl⟩ | exact ⟨rfl, trivial⟩ | exact ⟨rfl, LeL.refl _, trivial⟩ | exact ⟨rfl, LeL.refl _, LeL.refl _, trivial⟩ | exact embV_le (.refl _) rfl | exact embV_leV (.refl _) rfl (Nat.lt_of_sub_pos (by exact Nat.zero_lt_succ _)) | exact ⟨rfl, rfl, rfl, rfl⟩ | exact ⟨rfl, rfl, rfl, rfl, id⟩ | exact ⟨rfl, rfl, rfl, rfl, rfl⟩ | exact ⟨rfl, rfl, rfl, rfl, nofun⟩ | exact tape_emb rfl | exact embO_le (LeL.refl _) rfl (Nat.lt_of_sub_pos (by exact Nat.zero_lt_succ _)) | exact ⟨rfl, rfl, fun _ _ => .refl _⟩ | exact embV_le (le_len (by simp)) rfl | exact ⟨rfl, rfl, rfl, by simp, nofun⟩ | exact ⟨rfl, by simp, le_app rfl (.refl _)⟩ | (refine ⟨rfl, ?_⟩; dsimp only; simp; done) | (refine ⟨rfl, ?_⟩; dsimp only; omega) | (refine ⟨rfl, ?_⟩; dsimp only; simp; omega) | refine ⟨?_, ?_⟩ | refine ⟨?_, ?_, ?_⟩))) ?_
  intro i hi
  (conv => whnf)
  refine bcase_of (fun h2 => ?_) (fun h2 => ?_)
  · have h2 : decide ((i : Int) < l.length) = true := h2
    have hlt : i < l.length := by have := of_decide_eq_true h2; omega
    have b1 := hba i
    have b2 := hbb i
    have b3 := hbab i
    have b4 := hsb i
    have b5 := hadd i
    unfold nAt at b1 b2 b3 b5
    (conv => whnf)
    (refine ⟨by intros; first | omega | (unfold InI64; omega) | (unfold big; omega) | contradiction | (dsimp only at *; omega) | (dsimp only at *; unfold InI64; omega) | (dsimp only at *; unfold big; omega) | (simp only [Int.toNat_natCast]; omega) | (simp only [List.length_append, List.length_cons, List.length_nil, List.length_set]; omega), ?_⟩; conv => whnf)
    (refine ⟨by intros; first | omega | (unfold InI64; omega) | (unfold big; omega) | contradiction | (dsimp only at *; omega) | (dsimp only at *; unfold InI64; omega) | (dsimp only at *; unfold big; omega) | (simp only [Int.toNat_natCast]; omega) | (simp only [List.length_append, List.length_cons, List.length_nil, List.length_set]; omega), ?_⟩; conv => whnf)
    (refine ⟨by intros; first | omega | (unfold InI64; omega) | (unfold big; omega) | contradiction | (dsimp only at *; omega) | (dsimp only at *; unfold InI64; omega) | (dsimp only at *; unfold big; omega) | (simp only [Int.toNat_natCast]; omega) | (simp only [List.length_append, List.length_cons, List.length_nil, List.length_set]; omega), ?_⟩; conv => whnf)
    refine ⟨by show InI64 ((loadsF l a).getD i 0 + (loadsF l b).getD i 0); unfold InI64; omega, ?_⟩; conv => whnf
    (refine ⟨by intros; first | omega | (unfold InI64; omega) | (unfold big; omega) | contradiction | (dsimp only at *; omega) | (dsimp only at *; unfold InI64; omega) | (dsimp only at *; unfold big; omega) | (simp only [Int.toNat_natCast]; omega) | (simp only [List.length_append, List.length_cons, List.length_nil, List.length_set]; omega), ?_⟩; conv => whnf)
    refine bcase_of (fun h3 => ?_) (fun h3 => ?_)
    · exfalso
      have h3 : ((loadsF l a).getD i 0 + (loadsF l b).getD i 0 != (loadsF l ab).getD i 0) = true := h3
      rw [b5] at h3
      simp at h3
    · (conv => whnf)
      refine bcase_of (fun h4 => ?_) (fun h4 => ?_)
      · have h4 : decide ((l.getD i sup0).par < 0) = true := h4
        have hr : rootW l 0 (loadsF l ab) i = (loadsF l ab).getD i 0 := if_pos (.inr (of_decide_eq_true h4))
        (conv => whnf)
        (refine ⟨by intros; first | omega | (unfold InI64; omega) | (unfold big; omega) | contradiction | (dsimp only at *; omega) | (dsimp only at *; unfold InI64; omega) | (dsimp only at *; unfold big; omega) | (simp only [Int.toNat_natCast]; omega) | (simp only [List.length_append, List.length_cons, List.length_nil, List.length_set]; omega), ?_⟩; conv => whnf)
        refine ⟨by show InI64 (rsum (rootW l 0 (loadsF l ab)) i + (loadsF l ab).getD i 0); unfold InI64; omega, ?_⟩; conv => whnf
        (refine ⟨by intros; first | omega | (unfold InI64; omega) | (unfold big; omega) | contradiction | (dsimp only at *; omega) | (dsimp only at *; unfold InI64; omega) | (dsimp only at *; unfold big; omega) | (simp only [Int.toNat_natCast]; omega) | (simp only [List.length_append, List.length_cons, List.length_nil, List.length_set]; omega), ?_⟩; conv => whnf)
        exact ⟨i + 1, [], hlt, by omega, ⟨rfl, by rw [rsum, hr]; (repeat' (first | exact trivial | exact rfl | exact ⟨rfl, rfl⟩ | exact ⟨rfl, trivial⟩ | exact ⟨rfl, LeL.refl _, trivial⟩ | exact ⟨rfl, LeL.refl _, LeL.refl _, trivial⟩ | exact embV_le (.refl _) rfl | exact embV_leV (.refl _) rfl (Nat.lt_of_sub_pos (by exact Nat.zero_lt_succ _)) | exact ⟨rfl, rfl, rfl, rfl⟩ | exact ⟨rfl, rfl, rfl, rfl, id⟩ | exact ⟨rfl, rfl, rfl, rfl, rfl⟩ | exact ⟨rfl, rfl, rfl, rfl, nofun⟩ | exact tape_emb rfl | exact embO_le (LeL.refl _) rfl (Nat.lt_of_sub_pos (by exact Nat.zero_lt_succ _)) | exact ⟨rfl, rfl, fun _ _ => .refl _⟩ | exact embV_le (le_len (by simp)) rfl | exact ⟨rfl, rfl, rfl, by simp, nofun⟩ | exact ⟨rfl, by simp, le_app rfl (.refl _)⟩ | (refine ⟨rfl, ?_⟩; dsimp only; simp; done) | (refine ⟨rfl, ?_⟩; dsimp only; omega) | (refine ⟨rfl, ?_⟩; dsimp only; simp; omega) | refine ⟨?_, ?_⟩ | refine ⟨?_, ?_, ?_⟩)), by (repeat' (first | exact trivial | exact rfl | exact ⟨rfl, rfl⟩ | exact ⟨rfl, trivial⟩ | exact ⟨rfl, LeL.refl _, trivial⟩ | exact ⟨rfl, LeL.refl _, LeL.refl _, trivial⟩ | exact embV_le (.refl _) rfl | exact embV_leV (.refl _) rfl (Nat.lt_of_sub_pos (by exact Nat.zero_lt_succ _)) | exact ⟨rfl, rfl, rfl, rfl⟩ | exact ⟨rfl, rfl, rfl, rfl, id⟩ | exact ⟨rfl, rfl, rfl, rfl, rfl⟩ | exact ⟨rfl, rfl, rfl, rfl, nofun⟩ | exact tape_emb rfl | exact embO_le (LeL.refl _) rfl (Nat.lt_of_sub_pos (by exact Nat.zero_lt_succ _)) | exact ⟨rfl, rfl, fun _ _ => .refl _⟩ | exact embV_le (le_len (by simp)) rfl | exact ⟨rfl, rfl, rfl, by simp, nofun⟩ | exact ⟨rfl, by simp, le_app rfl (.refl _)⟩ | (refine ⟨rfl, ?_⟩; dsimp only; simp; done) | (refine ⟨rfl, ?_⟩; dsimp only; omega) | (refine ⟨rfl, ?_⟩; dsimp only; simp; omega) | refine ⟨?_, ?_⟩ | refine ⟨?_, ?_, ?_⟩))⟩⟩
      · have h4 : decide ((l.getD i sup0).par < 0) = false := h4
        have hr : rootW l 0 (loadsF l ab) i = 0 := if_neg (by rintro (h | h); · omega
                                                              · exact absurd h (of_decide_eq_false h4))
        (conv => whnf)
        (refine ⟨by intros; first | omega | (unfold InI64; omega) | (unfold big; omega) | contradiction | (dsimp only at *; omega) | (dsimp only at *; unfold InI64; omega) | (dsimp only at *; unfold big; omega) | (simp only [Int.toNat_natCast]; omega) | (simp only [List.length_append, List.length_cons, List.length_nil, List.length_set]; omega), ?_⟩; conv => whnf)
        exact ⟨i + 1, [], hlt, by omega, ⟨rfl, by rw [rsum, hr, Int.add_zero]; (repeat' (first | exact trivial | exact rfl | exact ⟨rfl, rfl⟩ | exact ⟨rfl, trivial⟩ | exact ⟨rfl, LeL.refl _, trivial⟩ | exact ⟨rfl, LeL.refl _, LeL.refl _, trivial⟩ | exact embV_le (.refl _) rfl | exact embV_leV (.refl _) rfl (Nat.lt_of_sub_pos (by exact Nat.zero_lt_succ _)) | exact ⟨rfl, rfl, rfl, rfl⟩ | exact ⟨rfl, rfl, rfl, rfl, id⟩ | exact ⟨rfl, rfl, rfl, rfl, rfl⟩ | exact ⟨rfl, rfl, rfl, rfl, nofun⟩ | exact tape_emb rfl | exact embO_le (LeL.refl _) rfl (Nat.lt_of_sub_pos (by exact Nat.zero_lt_succ _)) | exact ⟨rfl, rfl, fun _ _ => .refl _⟩ | exact embV_le (le_len (by simp)) rfl | exact ⟨rfl, rfl, rfl, by simp, nofun⟩ | exact ⟨rfl, by simp, le_app rfl (.refl _)⟩ | (refine ⟨rfl, ?_⟩; dsimp only; simp; done) | (refine ⟨rfl, ?_⟩; dsimp only; omega) | (refine ⟨rfl, ?_⟩; dsimp only; simp; omega) | refine ⟨?_, ?_⟩ | refine ⟨?_, ?_, ?_⟩)), by (repeat' (first | exact trivial | exact rfl | exact ⟨rfl, rfl⟩ | exact ⟨rfl, trivial⟩ | exact ⟨rfl, LeL.refl _, trivial⟩ | exact ⟨rfl, LeL.refl _, LeL.refl _, trivial⟩ | exact embV_le (.refl _) rfl | exact embV_leV (.refl _) rfl (Nat.lt_of_sub_pos (by exact Nat.zero_lt_succ _)) | exact ⟨rfl, rfl, rfl, rfl⟩ | exact ⟨rfl, rfl, rfl, rfl, id⟩ | exact ⟨rfl, rfl, rfl, rfl, rfl⟩ | exact ⟨rfl, rfl, rfl, rfl, nofun⟩ | exact tape_emb rfl | exact embO_le (LeL.refl _) rfl (Nat.lt_of_sub_pos (by exact Nat.zero_lt_succ _)) | exact ⟨rfl, rfl, fun _ _ => .refl _⟩ | exact embV_le (le_len (by simp)) rfl | exact ⟨rfl, rfl, rfl, by simp, nofun⟩ | exact ⟨rfl, by simp, le_app rfl (.refl _)⟩ | (refine ⟨rfl, ?_⟩; dsimp only; simp; done) | (refine ⟨rfl, ?_⟩; dsimp only; omega) | (refine ⟨rfl, ?_⟩; dsimp only; simp; omega) | refine ⟨?_, ?_⟩ | refine ⟨?_, ?_, ?_⟩))⟩⟩
  · have h2 : decide ((i : Int) < l.length) = false := h2
    have hil : i = l.length := by have := of_decide_eq_false h2; omega
    subst hil
    (conv => whnf)
    rw [hroots]
    (refine ⟨by intros; first | omega | (unfold InI64; omega) | (unfold big; omega) | contradiction | (dsimp only at *; omega) | (dsimp only at *; unfold InI64; omega) | (dsimp only at *; unfold big; omega) | (simp only [Int.toNat_natCast]; omega) | (simp only [List.length_append, List.length_cons, List.length_nil, List.length_set]; omega), ?_⟩; conv => whnf)
    (refine ⟨by intros; first | omega | (unfold InI64; omega) | (unfold big; omega) | contradiction | (dsimp only at *; omega) | (dsimp only at *; unfold InI64; omega) | (dsimp only at *; unfold big; omega) | (simp only [Int.toNat_natCast]; omega) | (simp only [List.length_append, List.length_cons, List.length_nil, List.length_set]; omega), ?_⟩; conv => whnf)
    have hload : ∀ x ∈ ab, 0 ≤ x.load ∧ x.load ≤ 10000 := fun x hx => by have := hv.drw x hx; omega
    have hablen : ab.length = a.length + b.length := by rw [← hgb, List.length_append]
    refine loops_intro (ct := []) cfgOK (by decide +kernel) (fun i : Nat => ⟨[(13, iV (tot (ab.drop i))), (116, .osl 0 0 ab.length false), (117, iV ab.length), (118, iV i)], [(0, some (.row 4 ab.length (rowG drwV drw0 ab)))], 1⟩) (fun i => i ≤ ab.length) (fun i => ab.length - i) 0 [(0, some 5)] (Nat.zero_le _) ?_ ?_
    · subst hgb
      exact ⟨rfl, ⟨by (repeat' (first | exact trivial | exact rfl | exact ⟨rfl, rfl⟩ | exact ⟨rfl, trivial⟩ | exact ⟨rfl, LeL.refl _, trivial⟩ | exact ⟨rfl, LeL.refl _, LeL.refl _, trivial⟩ | exact embV_le (.refl _) rfl | exact embV_leV (.refl _) rfl (Nat.lt_of_sub_pos (by exact Nat.zero_lt_succ _)) | exact ⟨rfl, rfl, rfl, rfl⟩ | exact ⟨rfl, rfl, rfl, rfl, id⟩ | exact ⟨rfl, rfl, rfl, rfl, rfl⟩ | exact ⟨rfl, rfl, rfl, rfl, nofun⟩ | exact tape_emb rfl | exact embO_le (LeL.refl _) rfl (Nat.lt_of_sub_pos (by exact Nat.zero_lt_succ _)) | exact ⟨rfl, rfl, fun _ _ => .refl _⟩ | exact embV_le (le_len (by simp)) rfl | exact ⟨rfl, rfl, rfl, by simp, nofun⟩ | exact ⟨rfl, by simp, le_app rfl (.refl _)⟩ | (refine ⟨rfl, ?_⟩; dsimp only; simp; done) | (refine ⟨rfl, ?_⟩; dsimp only; omega) | (refine ⟨rfl, ?_⟩; dsimp only; simp; omega) | refine ⟨?_, ?_⟩ | refine ⟨?_, ?_, ?_⟩)), ⟨rfl, rfl, rfl, by simp, nofun⟩, ⟨rfl, by simp⟩, by (repeat' (first | exact trivial | exact rfl | exact ⟨rfl, rfl⟩ | exact ⟨rfl, trivial⟩ | exact ⟨rfl, LeL.refl _, trivial⟩ | exact ⟨rfl, LeL.refl _, LeL.refl _, trivial⟩ | exact embV_le (.refl _) rfl | exact embV_leV (.refl _) rfl (Nat.lt_of_sub_pos (by exact Nat.zero_lt_succ _)) | exact ⟨rfl, rfl, rfl, rfl⟩ | exact ⟨rfl, rfl, rfl, rfl, id⟩ | exact ⟨rfl, rfl, rfl, rfl, rfl⟩ | exact ⟨rfl, rfl, rfl, rfl, nofun⟩ | exact tape_emb rfl | exact embO_le (LeL.refl _) rfl (Nat.lt_of_sub_pos (by exact Nat.zero_lt_succ _)) | exact ⟨rfl, rfl, fun _ _ => .refl _⟩ | exact embV_le (le_len (by simp)) rfl | exact ⟨rfl, rfl, rfl, by simp, nofun⟩ | exact ⟨rfl, by simp, le_app rfl (.refl _)⟩ | (refine ⟨rfl, ?_⟩; dsimp only; simp; done) | (refine ⟨rfl, ?_⟩; dsimp only; omega) | (refine ⟨rfl, ?_⟩; dsimp only; simp; omega) | refine ⟨?_, ?_⟩ | refine ⟨?_, ?_, ?_⟩)), trivial⟩, ⟨⟨rfl, by simp, le_app2 (by simp) rfl (fun _ _ => .refl _) (fun _ _ => .refl _)⟩, trivial⟩⟩
    intro i hi
    (conv => whnf)
    refine bcase_of (fun h3 => ?_) (fun h3 => ?_)
    · have h3 : decide ((i : Int) < ab.length) = true := h3
      have hlt : i < ab.length := by have := of_decide_eq_true h3; omega
      have b1 := tot_bnd (d := ab.drop i) (fun x hx => hload x (List.mem_of_mem_drop hx))
      have b2 := hload _ (getD_mem drw0 hlt)
      have b3 : (ab.drop i).length ≤ ab.length := by simp
      have hab2 := hv.dlen
      (conv => whnf)
      (refine ⟨by intros; first | omega | (unfold InI64; omega) | (unfold big; omega) | contradiction | (dsimp only at *; omega) | (dsimp only at *; unfold InI64; omega) | (dsimp only at *; unfold big; omega) | (simp only [Int.toNat_natCast]; omega) | (simp only [List.length_append, List.length_cons, List.length_nil, List.length_set]; omega), ?_⟩; conv => whnf)
      refine ⟨by show InI64 (tot (ab.drop i) - (ab.getD i drw0).load); unfold InI64; omega, ?_⟩; conv => whnf
      (refine ⟨by intros; first | omega | (unfold InI64; omega) | (unfold big; omega) | contradiction | (dsimp only at *; omega) | (dsimp only at *; unfold InI64; omega) | (dsimp only at *; unfold big; omega) | (simp only [Int.toNat_natCast]; omega) | (simp only [List.length_append, List.length_cons, List.length_nil, List.length_set]; omega), ?_⟩; conv => whnf)
      have e : tot (ab.drop i) - (ab.getD i drw0).load = tot (ab.drop (i + 1)) := by rw [tot_drop hlt]; omega
      exact ⟨i + 1, [(0, some 0)], hlt, by omega, ⟨rfl, by rw [← e]; (repeat' (first | exact trivial | exact rfl | exact ⟨rfl, rfl⟩ | exact ⟨rfl, trivial⟩ | exact ⟨rfl, LeL.refl _, trivial⟩ | exact ⟨rfl, LeL.refl _, LeL.refl _, trivial⟩ | exact embV_le (.refl _) rfl | exact embV_leV (.refl _) rfl (Nat.lt_of_sub_pos (by exact Nat.zero_lt_succ _)) | exact ⟨rfl, rfl, rfl, rfl⟩ | exact ⟨rfl, rfl, rfl, rfl, id⟩ | exact ⟨rfl, rfl, rfl, rfl, rfl⟩ | exact ⟨rfl, rfl, rfl, rfl, nofun⟩ | exact tape_emb rfl | exact embO_le (LeL.refl _) rfl (Nat.lt_of_sub_pos (by exact Nat.zero_lt_succ _)) | exact ⟨rfl, rfl, fun _ _ => .refl _⟩ | exact embV_le (le_len (by simp)) rfl | exact ⟨rfl, rfl, rfl, by simp, nofun⟩ | exact ⟨rfl, by simp, le_app rfl (.refl _)⟩ | (refine ⟨rfl, ?_⟩; dsimp only; simp; done) | (refine ⟨rfl, ?_⟩; dsimp only; omega) | (refine ⟨rfl, ?_⟩; dsimp only; simp; omega) | refine ⟨?_, ?_⟩ | refine ⟨?_, ?_, ?_⟩)), by (repeat' (first | exact trivial | exact rfl | exact ⟨rfl, rfl⟩ | exact ⟨rfl, trivial⟩ | exact ⟨rfl, LeL.refl _, trivial⟩ | exact ⟨rfl, LeL.refl _, LeL.refl _, trivial⟩ | exact embV_le (.refl _) rfl | exact embV_leV (.refl _) rfl (Nat.lt_of_sub_pos (by exact Nat.zero_lt_succ _)) | exact ⟨rfl, rfl, rfl, rfl⟩ | exact ⟨rfl, rfl, rfl, rfl, id⟩ | exact ⟨rfl, rfl, rfl, rfl, rfl⟩ | exact ⟨rfl, rfl, rfl, rfl, nofun⟩ | exact tape_emb rfl | exact embO_le (LeL.refl _) rfl (Nat.lt_of_sub_pos (by exact Nat.zero_lt_succ _)) | exact ⟨rfl, rfl, fun _ _ => .refl _⟩ | exact embV_le (le_len (by simp)) rfl | exact ⟨rfl, rfl, rfl, by simp, nofun⟩ | exact ⟨rfl, by simp, le_app rfl (.refl _)⟩ | (refine ⟨rfl, ?_⟩; dsimp only; simp; done) | (refine ⟨rfl, ?_⟩; dsimp only; omega) | (refine ⟨rfl, ?_⟩; dsimp only; simp; omega) | refine ⟨?_, ?_⟩ | refine ⟨?_, ?_, ?_⟩))⟩⟩
    · have h3 : decide ((i : Int) < ab.length) = false := h3
      have hil : i = ab.length := by have := of_decide_eq_false h3; omega
      subst hil
      (conv => whnf)
      rw [List.drop_length]
      refine ⟨_, _, fun _ => awake_spec, ?_⟩; conv => whnf
      exact ⟨rfl, trivial⟩

end Go.Proofs.Ytjmhlbogkeohpaa

namespace Go.Proofs.Ytjmhlbogkeohpaa
open Go.Ab
set_option maxRecDepth 100000

theorem usedR_eq {l : List Sup} {d : List Drw} (h : drawsF l d = true) : usedR l d = usedF l d := by
  unfold usedR
  rw [h]
  rfl

set_option maxHeartbeats 8000000 in
theorem sleast_spec (l0 : List Int) (h0 : I64 l0) : S 4 [intsV l0] [] (.bool true) [] := by
  refine spec_of_x (ct := []) cfgOK Try.func4 rfl rfl (Nat.le_of_ble_eq_true rfl) (by decide +kernel) (Nat.le_refl _) ?_; conv => whnf
  refine ⟨_, _, new_spec l0, ?_⟩; conv => whnf
  obtain ⟨l, t1, ht1, hl, hl1, hl2, hs1⟩ := supplies_ex (tape0_ok h0) 6 (by omega)
  refine ⟨_, _, hs1, ?_⟩; conv => whnf
  obtain ⟨d, t2, ht2, hd, hd2, hs2⟩ := draws_ex ht1 hl (by omega) 5 (by omega)
  refine ⟨_, _, hs2, ?_⟩; conv => whnf
  have hdr := goodD_draws (goodS_check hl (by omega)) hd (by omega)
  refine ⟨_, _, least_spec l (by omega) d (by omega), ?_⟩; conv => whnf
  refine bcase_of (fun h => ?_) (fun h => ?_)
  · (conv => whnf)
    refine ⟨_, _, awake_spec, ?_⟩; conv => whnf
    exact ⟨rfl, trivial⟩
  have h : ((leastF l d).2 != 0) = false := h
  have h' : ((leastF l d).2 == 0) = true := by simpa using h
  have hb : Best l d (leastF l d).1 := by
    rcases least_best hdr with ⟨_, hb⟩ | ⟨hb, _⟩
    · exact hb
    · rw [hb] at h'; cases h'
  (conv => whnf)
  obtain ⟨x, ok, t3, ht3, nx1, hs3⟩ := near_ex ht2 hl (by omega) hd (by omega)
  have hok : ok = true := nx1.is.trans h'
  subst hok
  have hx := nx1.yes rfl
  refine ⟨_, _, hs3, ?_⟩; conv => whnf
  refine ⟨_, _, Used_spec l (by omega) d (by omega), ?_⟩; conv => whnf
  rw [usedR_eq hdr]
  have hul := usedF_len l d
  have hron := hb.on
  have hr := ((meetsF_iff hdr).1 hb.ok).1
  have hxr := ((meetsF_iff hdr).1 hx).1
  have hr1 := hr.on
  have hr2 := hr.len
  have hx1 := hxr.on
  have hx2 := hxr.len
  generalize (leastF l d).1 = r at *
  refine bcase_of (fun h2 => ?_) (fun h2 => ?_)
  · exfalso
    have h2 : ((((!true) || (((usedF l d).length : Int) != l.length)) || ((r.lev.length : Int) != l.length)) || ((r.on.length : Int) != l.length)) = true := h2
    rw [hul, hr1, hr2] at h2
    simp at h2
  (conv => whnf)
  refine loops_intro (ct := []) cfgOK (by decide +kernel) (fun i : Nat => ⟨[(4, supsV l), (5, drwsV d), (6, .ptr 0 0 0), (8, .ptr 1 0 0), (10, boolsV (usedF l d)), (65, iV l.length), (66, iV i)], [(0, some (.box [boolsV r.on, intsV r.lev])), (1, some (.box [boolsV x.on, intsV x.lev]))], 2⟩) (fun i => i ≤ l.length) (fun i => l.length - i) 0 [(0, some 17), (1, some 29)] (Nat.zero_le _) (by (repeat' (first | exact trivial | exact rfl | exact ⟨rfl, rfl⟩ | exact ⟨rfl, trivial⟩ | exact ⟨rfl, LeL.refl _, trivial⟩ | exact ⟨rfl, LeL.refl _, LeL.refl _, trivial⟩ | exact embV_le (.refl _) rfl | exact embV_leV (.refl _) rfl (Nat.lt_of_sub_pos (by exact Nat.zero_lt_succ _)) | exact ⟨rfl, rfl, rfl, rfl⟩ | exact ⟨rfl, rfl, rfl, rfl, id⟩ | exact ⟨rfl, rfl, rfl, rfl, rfl⟩ | exact ⟨rfl, rfl, rfl, rfl, nofun⟩ | exact tape_emb rfl | exact embO_le (LeL.refl _) rfl (Nat.lt_of_sub_pos (by exact Nat.zero_lt_succ _)) | exact ⟨rfl, rfl, fun _ _ => .refl _⟩ | exact embV_le (le_len (by simp)) rfl | exact ⟨rfl, rfl, rfl, by simp, nofun⟩ | exact ⟨rfl, by simp, le_app rfl (.refl _)⟩ | (refine ⟨rfl, ?_⟩; dsimp only; simp; done) | (refine ⟨rfl, ?_⟩; dsimp only; omega) | (refine ⟨rfl, ?_⟩; dsimp only; simp; omega) | refine ⟨?_, ?_⟩ | refine ⟨?_, ?_, ?_⟩))) ?_
  intro i hi
  (conv => whnf)
  refine bcase_of (fun h3 => ?_) (fun h3 => ?_)
  · have h3 : decide ((i : Int) < l.length) = true := h3
    have hlt : i < l.length := by have := of_decide_eq_true h3; omega
    (conv => whnf)
    (refine ⟨by intros; first | omega | (unfold InI64; omega) | (unfold big; omega) | contradiction | (dsimp only at *; omega) | (dsimp only at *; unfold InI64; omega) | (dsimp only at *; unfold big; omega) | (simp only [Int.toNat_natCast]; omega) | (simp only [List.length_append, List.length_cons, List.length_nil, List.length_set]; omega), ?_⟩; conv => whnf)
    (refine ⟨by intros; first | omega | (unfold InI64; omega) | (unfold big; omega) | contradiction | (dsimp only at *; omega) | (dsimp only at *; unfold InI64; omega) | (dsimp only at *; unfold big; omega) | (simp only [Int.toNat_natCast]; omega) | (simp only [List.length_append, List.length_cons, List.length_nil, List.length_set]; omega), ?_⟩; conv => whnf)
    (refine ⟨by intros; first | omega | (unfold InI64; omega) | (unfold big; omega) | contradiction | (dsimp only at *; omega) | (dsimp only at *; unfold InI64; omega) | (dsimp only at *; unfold big; omega) | (simp only [Int.toNat_natCast]; omega) | (simp only [List.length_append, List.length_cons, List.length_nil, List.length_set]; omega), ?_⟩; conv => whnf)
    (refine ⟨by intros; first | omega | (unfold InI64; omega) | (unfold big; omega) | contradiction | (dsimp only at *; omega) | (dsimp only at *; unfold InI64; omega) | (dsimp only at *; unfold big; omega) | (simp only [Int.toNat_natCast]; omega) | (simp only [List.length_append, List.length_cons, List.length_nil, List.length_set]; omega), ?_⟩; conv => whnf)
    (refine ⟨by intros; first | omega | (unfold InI64; omega) | (unfold big; omega) | contradiction | (dsimp only at *; omega) | (dsimp only at *; unfold InI64; omega) | (dsimp only at *; unfold big; omega) | (simp only [Int.toNat_natCast]; omega) | (simp only [List.length_append, List.length_cons, List.length_nil, List.length_set]; omega), ?_⟩; conv => whnf)
    (refine ⟨by intros; first | omega | (unfold InI64; omega) | (unfold big; omega) | contradiction | (dsimp only at *; omega) | (dsimp only at *; unfold InI64; omega) | (dsimp only at *; unfold big; omega) | (simp only [Int.toNat_natCast]; omega) | (simp only [List.length_append, List.length_cons, List.length_nil, List.length_set]; omega), ?_⟩; conv => whnf)
    (refine ⟨by intros; first | omega | (unfold InI64; omega) | (unfold big; omega) | contradiction | (dsimp only at *; omega) | (dsimp only at *; unfold InI64; omega) | (dsimp only at *; unfold big; omega) | (simp only [Int.toNat_natCast]; omega) | (simp only [List.length_append, List.length_cons, List.length_nil, List.length_set]; omega), ?_⟩; conv => whnf)
    (refine ⟨by intros; first | omega | (unfold InI64; omega) | (unfold big; omega) | contradiction | (dsimp only at *; omega) | (dsimp only at *; unfold InI64; omega) | (dsimp only at *; unfold big; omega) | (simp only [Int.toNat_natCast]; omega) | (simp only [List.length_append, List.length_cons, List.length_nil, List.length_set]; omega), ?_⟩; conv => whnf)
    refine bcase_of (fun h4 => ?_) (fun h4 => ?_)
    · exfalso
      have h4 : (((!((usedF l d).getD i false == r.on.getD i false)) || ((!(usedF l d).getD i false) && (r.lev.getD i 0 != 0))) || ((usedF l d).getD i false && ((!x.on.getD i false) || decide (x.lev.getD i 0 < r.lev.getD i 0)))) = true := h4
      rw [hron] at h4
      cases hu : (usedF l d).getD i false with
      | false =>
        rw [hu] at h4
        have := hb.zero i hu
        unfold nAt at this
        rw [this] at h4
        simp at h4
      | true =>
        rw [hu] at h4
        obtain ⟨a1, a2⟩ := hb.least x hx i hu
        unfold bAt at a1
        unfold nAt at a2
        rw [a1, decide_eq_false (by omega)] at h4
        simp at h4
    · (conv => whnf)
      (refine ⟨by intros; first | omega | (unfold InI64; omega) | (unfold big; omega) | contradiction | (dsimp only at *; omega) | (dsimp only at *; unfold InI64; omega) | (dsimp only at *; unfold big; omega) | (simp only [Int.toNat_natCast]; omega) | (simp only [List.length_append, List.length_cons, List.length_nil, List.length_set]; omega), ?_⟩; conv => whnf)
      (refine ⟨by intros; first | omega | (unfold InI64; omega) | (unfold big; omega) | contradiction | (dsimp only at *; omega) | (dsimp only at *; unfold InI64; omega) | (dsimp only at *; unfold big; omega) | (simp only [Int.toNat_natCast]; omega) | (simp only [List.length_append, List.length_cons, List.length_nil, List.length_set]; omega), ?_⟩; conv => whnf)
      refine bcase_of (fun h5 => ?_) (fun h5 => ?_)
      · have h5 : ((usedF l d).getD i false && decide (0 < r.lev.getD i 0)) = true := h5
        simp only [Bool.and_eq_true, decide_eq_true_eq] at h5
        have hrb := hr.lev i hlt
        have hlb := (hl i hlt).2
        (conv => whnf)
        (refine ⟨by intros; first | omega | (unfold InI64; omega) | (unfold big; omega) | contradiction | (dsimp only at *; omega) | (dsimp only at *; unfold InI64; omega) | (dsimp only at *; unfold big; omega) | (simp only [Int.toNat_natCast]; omega) | (simp only [List.length_append, List.length_cons, List.length_nil, List.length_set]; omega), ?_⟩; conv => whnf)
        (refine ⟨by intros; first | omega | (unfold InI64; omega) | (unfold big; omega) | contradiction | (dsimp only at *; omega) | (dsimp only at *; unfold InI64; omega) | (dsimp only at *; unfold big; omega) | (simp only [Int.toNat_natCast]; omega) | (simp only [List.length_append, List.length_cons, List.length_nil, List.length_set]; omega), ?_⟩; conv => whnf)
        (refine ⟨by intros; first | omega | (unfold InI64; omega) | (unfold big; omega) | contradiction | (dsimp only at *; omega) | (dsimp only at *; unfold InI64; omega) | (dsimp only at *; unfold big; omega) | (simp only [Int.toNat_natCast]; omega) | (simp only [List.length_append, List.length_cons, List.length_nil, List.length_set]; omega), ?_⟩; conv => whnf)
        refine ⟨by show InI64 (r.lev.getD i 0 - 1); unfold InI64; omega, ?_⟩; conv => whnf
        (refine ⟨by intros; first | omega | (unfold InI64; omega) | (unfold big; omega) | contradiction | (dsimp only at *; omega) | (dsimp only at *; unfold InI64; omega) | (dsimp only at *; unfold big; omega) | (simp only [Int.toNat_natCast]; omega) | (simp only [List.length_append, List.length_cons, List.length_nil, List.length_set]; omega), ?_⟩; conv => whnf)
        refine ⟨_, _, (meets_spec l (by omega) ⟨r.on, r.lev.set i (r.lev.getD i 0 - 1)⟩ d (by omega)).le ⟨.refl _, Le.aggL ⟨.sl (by simp) (fun _ => rfl) nofun (fun _ _ => .refl _), .sl (by simp) (fun _ => rfl) nofun (fun j _ => le_set (l := r.lev) (i := i) (v := r.lev.getD i 0 - 1) (by omega) rfl (.refl _) j), trivial⟩, .refl _, trivial⟩ trivial, ?_⟩; conv => whnf
        refine bcase_of (fun h6 => ?_) (fun h6 => ?_)
        · exfalso
          have h6 : meetsF l ⟨r.on, r.lev.set i (r.lev.getD i 0 - 1)⟩ d = true := h6
          have := (hb.least _ h6 i h5.1).2
          unfold nAt at this
          have e : (r.lev.set i (r.lev.getD i 0 - 1)).getD i 0 = r.lev.getD i 0 - 1 := by rw [getD_set, if_pos ⟨rfl, by omega⟩]
          rw [e] at this
          omega
        · (conv => whnf)
          (refine ⟨by intros; first | omega | (unfold InI64; omega) | (unfold big; omega) | contradiction | (dsimp only at *; omega) | (dsimp only at *; unfold InI64; omega) | (dsimp only at *; unfold big; omega) | (simp only [Int.toNat_natCast]; omega) | (simp only [List.length_append, List.length_cons, List.length_nil, List.length_set]; omega), ?_⟩; conv => whnf)
          exact ⟨i + 1, [(0, some 0), (1, some 1)], hlt, by omega, by (repeat' (first | exact trivial | exact rfl | exact ⟨rfl, rfl⟩ | exact ⟨rfl, trivial⟩ | exact ⟨rfl, LeL.refl _, trivial⟩ | exact ⟨rfl, LeL.refl _, LeL.refl _, trivial⟩ | exact embV_le (.refl _) rfl | exact embV_leV (.refl _) rfl (Nat.lt_of_sub_pos (by exact Nat.zero_lt_succ _)) | exact ⟨rfl, rfl, rfl, rfl⟩ | exact ⟨rfl, rfl, rfl, rfl, id⟩ | exact ⟨rfl, rfl, rfl, rfl, rfl⟩ | exact ⟨rfl, rfl, rfl, rfl, nofun⟩ | exact tape_emb rfl | exact embO_le (LeL.refl _) rfl (Nat.lt_of_sub_pos (by exact Nat.zero_lt_succ _)) | exact ⟨rfl, rfl, fun _ _ => .refl _⟩ | exact embV_le (le_len (by simp)) rfl | exact ⟨rfl, rfl, rfl, by simp, nofun⟩ | exact ⟨rfl, by simp, le_app rfl (.refl _)⟩ | (refine ⟨rfl, ?_⟩; dsimp only; simp; done) | (refine ⟨rfl, ?_⟩; dsimp only; omega) | (refine ⟨rfl, ?_⟩; dsimp only; simp; omega) | refine ⟨?_, ?_⟩ | refine ⟨?_, ?_, ?_⟩))⟩
      · (conv => whnf)
        (refine ⟨by intros; first | omega | (unfold InI64; omega) | (unfold big; omega) | contradiction | (dsimp only at *; omega) | (dsimp only at *; unfold InI64; omega) | (dsimp only at *; unfold big; omega) | (simp only [Int.toNat_natCast]; omega) | (simp only [List.length_append, List.length_cons, List.length_nil, List.length_set]; omega), ?_⟩; conv => whnf)
        exact ⟨i + 1, [(0, some 0), (1, some 1)], hlt, by omega, by (repeat' (first | exact trivial | exact rfl | exact ⟨rfl, rfl⟩ | exact ⟨rfl, trivial⟩ | exact ⟨rfl, LeL.refl _, trivial⟩ | exact ⟨rfl, LeL.refl _, LeL.refl _, trivial⟩ | exact embV_le (.refl _) rfl | exact embV_leV (.refl _) rfl (Nat.lt_of_sub_pos (by exact Nat.zero_lt_succ _)) | exact ⟨rfl, rfl, rfl, rfl⟩ | exact ⟨rfl, rfl, rfl, rfl, id⟩ | exact ⟨rfl, rfl, rfl, rfl, rfl⟩ | exact ⟨rfl, rfl, rfl, rfl, nofun⟩ | exact tape_emb rfl | exact embO_le (LeL.refl _) rfl (Nat.lt_of_sub_pos (by exact Nat.zero_lt_succ _)) | exact ⟨rfl, rfl, fun _ _ => .refl _⟩ | exact embV_le (le_len (by simp)) rfl | exact ⟨rfl, rfl, rfl, by simp, nofun⟩ | exact ⟨rfl, by simp, le_app rfl (.refl _)⟩ | (refine ⟨rfl, ?_⟩; dsimp only; simp; done) | (refine ⟨rfl, ?_⟩; dsimp only; omega) | (refine ⟨rfl, ?_⟩; dsimp only; simp; omega) | refine ⟨?_, ?_⟩ | refine ⟨?_, ?_, ?_⟩))⟩
  · (conv => whnf)
    refine ⟨_, _, awake_spec, ?_⟩; conv => whnf
    exact ⟨rfl, trivial⟩

end Go.Proofs.Ytjmhlbogkeohpaa

namespace Go.Proofs.Ytjmhlbogkeohpaa
open Go.Ab
set_option maxRecDepth 100000

def mixL (d : List Drw) (p : List Int) : List Drw := p.map fun k => d.getD k.toNat drw0

theorem mixL_perm {d : List Drw} {p : List Int} (h : p.Perm (upI d.length)) : d.Perm (mixL d p) := by
  have h1 : (mixL d (upI d.length)) = d := by
    refine ext_getD drw0 (by simp [mixL, upI]) fun j hj => ?_
    have hj' : j < d.length := by simpa [mixL, upI] using hj
    unfold mixL upI
    rw [List.map_map, List.getD_eq_getElem?_getD, List.getElem?_map, List.getElem?_range hj']
    rfl
  have h2 : (mixL d p).Perm (mixL d (upI d.length)) := List.Perm.map _ h
  rw [h1] at h2
  exact h2.symm

theorem mixL_take {d : List Drw} {p : List Int} {i : Nat} (h : i < p.length) : mixL d (p.take (i + 1)) = mixL d (p.take i) ++ [d.getD (p.getD i 0).toNat drw0] := by
  rw [take_snoc 0 h]
  unfold mixL
  rw [List.map_append]
  rfl

set_option maxHeartbeats 8000000 in
theorem sorder_spec (l0 : List Int) (h0 : I64 l0) : S 5 [intsV l0] [] (.bool true) [] := by
  refine spec_of_x (ct := [15]) cfgOK Try.func5 rfl rfl (Nat.le_of_ble_eq_true rfl) (by decide +kernel) (Nat.le_refl _) ?_
  (conv => whnf)
  refine ⟨_, _, new_spec l0, ?_⟩; conv => whnf
  obtain ⟨l, t1, ht1, hl, hl1, hl2, hs1⟩ := supplies_ex (tape0_ok h0) 6 (by omega)
  refine ⟨_, _, hs1, ?_⟩; conv => whnf
  obtain ⟨d, t2, ht2, hd, hd2, hs2⟩ := draws_ex ht1 hl (by omega) 5 (by omega)
  refine ⟨_, _, hs2, ?_⟩; conv => whnf
  have hck := goodS_check hl (by omega)
  have hdr := goodD_draws hck hd (by omega)
  obtain ⟨p, t3, ht3, hp, hs3⟩ := order_ex ht2 d.length (by omega)
  refine ⟨_, _, hs3, ?_⟩; conv => whnf
  have hpl : p.length = d.length := by rw [hp.length_eq]; simp [upI]
  have hpm : ∀ x ∈ p, 0 ≤ x ∧ x < d.length := fun x hx => by
    have := hp.mem_iff.1 hx
    unfold upI at this
    rw [List.mem_map] at this
    obtain ⟨k, hk, rfl⟩ := this
    have := List.mem_range.1 hk
    omega
  refine loops_intro (ct := [15]) cfgOK (by decide +kernel) (fun i : Nat => ⟨[(3, .ptr 0 0 0), (4, supsV l), (5, drwsV d), (6, .osl 1 0 i false), (31, intsV p), (32, iV p.length), (33, iV i)], [(0, some (tapeO t3)), (1, some (.row 4 i (rowG drwV drw0 (mixL d (p.take i)))))], 2⟩) (fun i => i ≤ p.length) (fun i => p.length - i) 0 [(0, some 2), (1, none)] (Nat.zero_le _) (by (repeat' (first | exact trivial | exact rfl | exact ⟨rfl, rfl⟩ | exact ⟨rfl, trivial⟩ | exact ⟨rfl, LeL.refl _, trivial⟩ | exact ⟨rfl, LeL.refl _, LeL.refl _, trivial⟩ | exact embV_le (.refl _) rfl | exact embV_leV (.refl _) rfl (Nat.lt_of_sub_pos (by exact Nat.zero_lt_succ _)) | exact ⟨rfl, rfl, rfl, rfl⟩ | exact ⟨rfl, rfl, rfl, rfl, id⟩ | exact ⟨rfl, rfl, rfl, rfl, rfl⟩ | exact ⟨rfl, rfl, rfl, rfl, nofun⟩ | exact tape_emb rfl | exact embO_le (LeL.refl _) rfl (Nat.lt_of_sub_pos (by exact Nat.zero_lt_succ _)) | exact ⟨rfl, rfl, fun _ _ => .refl _⟩ | exact embV_le (le_len (by simp)) rfl | exact ⟨rfl, rfl, rfl, by simp, nofun⟩ | exact ⟨rfl, by simp, le_app rfl (.refl _)⟩ | (refine ⟨rfl, ?_⟩; dsimp only; simp; done) | (refine ⟨rfl, ?_⟩; dsimp only; omega) | (refine ⟨rfl, ?_⟩; dsimp only; simp; omega) | refine ⟨?_, ?_⟩ | refine ⟨?_, ?_, ?_⟩))) ?_
  intro i hi
  (conv => whnf)
  refine bcase_of (fun h => ?_) (fun h => ?_)
  · have h : decide ((i : Int) < p.length) = true := h
    have hlt : i < p.length := by have := of_decide_eq_true h; omega
    have hpi := hpm _ (getD_mem 0 hlt)
    (conv => whnf)
    (refine ⟨by intros; first | omega | (unfold InI64; omega) | (unfold big; omega) | contradiction | (dsimp only at *; omega) | (dsimp only at *; unfold InI64; omega) | (dsimp only at *; unfold big; omega) | (simp only [Int.toNat_natCast]; omega) | (simp only [List.length_append, List.length_cons, List.length_nil, List.length_set]; omega), ?_⟩; conv => whnf)
    (refine ⟨by intros; first | omega | (unfold InI64; omega) | (unfold big; omega) | contradiction | (dsimp only at *; omega) | (dsimp only at *; unfold InI64; omega) | (dsimp only at *; unfold big; omega) | (simp only [Int.toNat_natCast]; omega) | (simp only [List.length_append, List.length_cons, List.length_nil, List.length_set]; omega), ?_⟩; conv => whnf)
    (refine ⟨by intros; first | omega | (unfold InI64; omega) | (unfold big; omega) | contradiction | (dsimp only at *; omega) | (dsimp only at *; unfold InI64; omega) | (dsimp only at *; unfold big; omega) | (simp only [Int.toNat_natCast]; omega) | (simp only [List.length_append, List.length_cons, List.length_nil, List.length_set]; omega), ?_⟩; conv => whnf)
    (refine ⟨by intros; first | omega | (unfold InI64; omega) | (unfold big; omega) | contradiction | (dsimp only at *; omega) | (dsimp only at *; unfold InI64; omega) | (dsimp only at *; unfold big; omega) | (simp only [Int.toNat_natCast]; omega) | (simp only [List.length_append, List.length_cons, List.length_nil, List.length_set]; omega), ?_⟩; conv => whnf)
    exact ⟨i + 1, [(0, some 0), (1, some 12)], hlt, by omega, ⟨rfl, by (repeat' (first | exact trivial | exact rfl | exact ⟨rfl, rfl⟩ | exact ⟨rfl, trivial⟩ | exact ⟨rfl, LeL.refl _, trivial⟩ | exact ⟨rfl, LeL.refl _, LeL.refl _, trivial⟩ | exact embV_le (.refl _) rfl | exact embV_leV (.refl _) rfl (Nat.lt_of_sub_pos (by exact Nat.zero_lt_succ _)) | exact ⟨rfl, rfl, rfl, rfl⟩ | exact ⟨rfl, rfl, rfl, rfl, id⟩ | exact ⟨rfl, rfl, rfl, rfl, rfl⟩ | exact ⟨rfl, rfl, rfl, rfl, nofun⟩ | exact tape_emb rfl | exact embO_le (LeL.refl _) rfl (Nat.lt_of_sub_pos (by exact Nat.zero_lt_succ _)) | exact ⟨rfl, rfl, fun _ _ => .refl _⟩ | exact embV_le (le_len (by simp)) rfl | exact ⟨rfl, rfl, rfl, by simp, nofun⟩ | exact ⟨rfl, by simp, le_app rfl (.refl _)⟩ | (refine ⟨rfl, ?_⟩; dsimp only; simp; done) | (refine ⟨rfl, ?_⟩; dsimp only; omega) | (refine ⟨rfl, ?_⟩; dsimp only; simp; omega) | refine ⟨?_, ?_⟩ | refine ⟨?_, ?_, ?_⟩)), ⟨by (repeat' (first | exact trivial | exact rfl | exact ⟨rfl, rfl⟩ | exact ⟨rfl, trivial⟩ | exact ⟨rfl, LeL.refl _, trivial⟩ | exact ⟨rfl, LeL.refl _, LeL.refl _, trivial⟩ | exact embV_le (.refl _) rfl | exact embV_leV (.refl _) rfl (Nat.lt_of_sub_pos (by exact Nat.zero_lt_succ _)) | exact ⟨rfl, rfl, rfl, rfl⟩ | exact ⟨rfl, rfl, rfl, rfl, id⟩ | exact ⟨rfl, rfl, rfl, rfl, rfl⟩ | exact ⟨rfl, rfl, rfl, rfl, nofun⟩ | exact tape_emb rfl | exact embO_le (LeL.refl _) rfl (Nat.lt_of_sub_pos (by exact Nat.zero_lt_succ _)) | exact ⟨rfl, rfl, fun _ _ => .refl _⟩ | exact embV_le (le_len (by simp)) rfl | exact ⟨rfl, rfl, rfl, by simp, nofun⟩ | exact ⟨rfl, by simp, le_app rfl (.refl _)⟩ | (refine ⟨rfl, ?_⟩; dsimp only; simp; done) | (refine ⟨rfl, ?_⟩; dsimp only; omega) | (refine ⟨rfl, ?_⟩; dsimp only; simp; omega) | refine ⟨?_, ?_⟩ | refine ⟨?_, ?_, ?_⟩)), ⟨rfl, rfl, by rw [mixL_take hlt]; exact le_app (by unfold mixL; rw [List.length_map, List.length_take]; omega) (.refl _)⟩, trivial⟩⟩⟩
  have h : decide ((i : Int) < p.length) = false := h
  have hil : i = p.length := by have := of_decide_eq_false h; omega
  subst hil
  rw [List.take_length]
  have hperm := mixL_perm hp
  have hml : (mixL d p).length = p.length := by simp [mixL]
  have hleast := least_perm hperm hdr
  (conv => whnf)
  refine ⟨_, _, least_spec l (by omega) d (by omega), ?_⟩; conv => whnf
  refine ⟨_, _, (least_spec l (by omega) (mixL d p) (by omega)).le ⟨.refl _, .sl hml.symm (fun _ => rfl) nofun (fun _ _ => .refl _), trivial⟩ trivial, ?_⟩; conv => whnf
  rw [← hleast]
  have hlens : (leastF l d).1.on.length ≤ 1000000 ∧ (leastF l d).1.lev.length ≤ 1000000 := by
    rcases least_best hdr with ⟨_, hb⟩ | ⟨hb, _⟩
    · have hr := ((meetsF_iff hdr).1 hb.ok).1
      have h1 := hr.on
      have h2 := hr.len
      omega
    · rw [hb]; exact ⟨Nat.zero_le _, Nat.zero_le _⟩
  refine ⟨_, _, fun _ => sameRails_spec (leastF l d).1 (leastF l d).1 hlens, ?_⟩; conv => whnf
  refine bcase_of (fun h2 => ?_) (fun h2 => ?_)
  · exfalso
    have h2 : (((leastF l d).2 != (leastF l d).2) || !(((leastF l d).1.on == (leastF l d).1.on) && ((leastF l d).1.lev == (leastF l d).1.lev))) = true := h2
    simp at h2
  (conv => whnf)
  obtain ⟨e, t4, ht4, he, he2, hs4⟩ := draws_ex ht3 hl (by omega) 2 (by omega)
  have her := goodD_draws hck he (by omega)
  have hmr := draws_app hdr her (by omega)
  refine cut_freeze (ct := []) (ct' := []) cfgOK (by decide +kernel) (by decide +kernel) (fun _ : Unit => ⟨[(4, supsV l), (5, drwsV d), (9, .ptr 0 0 0), (10, iV (leastF l d).2), (13, drwsV (d ++ e))], [(0, some (.box [boolsV (leastF l d).1.on, intsV (leastF l d).1.lev]))], 1⟩) (fun _ => True) ?_ ?_
  · (conv => whnf)
    (refine ⟨by intros; first | omega | (unfold InI64; omega) | (unfold big; omega) | contradiction | (dsimp only at *; omega) | (dsimp only at *; unfold InI64; omega) | (dsimp only at *; unfold big; omega) | (simp only [Int.toNat_natCast]; omega) | (simp only [List.length_append, List.length_cons, List.length_nil, List.length_set]; omega), ?_⟩; conv => whnf)
    refine ⟨_, _, hs4, ?_⟩; conv => whnf
    (refine ⟨by intros; first | omega | (unfold InI64; omega) | (unfold big; omega) | contradiction | (dsimp only at *; omega) | (dsimp only at *; unfold InI64; omega) | (dsimp only at *; unfold big; omega) | (simp only [Int.toNat_natCast]; omega) | (simp only [List.length_append, List.length_cons, List.length_nil, List.length_set]; omega), ?_⟩; conv => whnf)
    refine ⟨(), [(0, some 9)], 36, trivial, ⟨rfl, ⟨by (repeat' (first | exact trivial | exact rfl | exact ⟨rfl, rfl⟩ | exact ⟨rfl, trivial⟩ | exact ⟨rfl, LeL.refl _, trivial⟩ | exact ⟨rfl, LeL.refl _, LeL.refl _, trivial⟩ | exact embV_le (.refl _) rfl | exact embV_leV (.refl _) rfl (Nat.lt_of_sub_pos (by exact Nat.zero_lt_succ _)) | exact ⟨rfl, rfl, rfl, rfl⟩ | exact ⟨rfl, rfl, rfl, rfl, id⟩ | exact ⟨rfl, rfl, rfl, rfl, rfl⟩ | exact ⟨rfl, rfl, rfl, rfl, nofun⟩ | exact tape_emb rfl | exact embO_le (LeL.refl _) rfl (Nat.lt_of_sub_pos (by exact Nat.zero_lt_succ _)) | exact ⟨rfl, rfl, fun _ _ => .refl _⟩ | exact embV_le (le_len (by simp)) rfl | exact ⟨rfl, rfl, rfl, by simp, nofun⟩ | exact ⟨rfl, by simp, le_app rfl (.refl _)⟩ | (refine ⟨rfl, ?_⟩; dsimp only; simp; done) | (refine ⟨rfl, ?_⟩; dsimp only; omega) | (refine ⟨rfl, ?_⟩; dsimp only; simp; omega) | refine ⟨?_, ?_⟩ | refine ⟨?_, ?_, ?_⟩)), by (repeat' (first | exact trivial | exact rfl | exact ⟨rfl, rfl⟩ | exact ⟨rfl, trivial⟩ | exact ⟨rfl, LeL.refl _, trivial⟩ | exact ⟨rfl, LeL.refl _, LeL.refl _, trivial⟩ | exact embV_le (.refl _) rfl | exact embV_leV (.refl _) rfl (Nat.lt_of_sub_pos (by exact Nat.zero_lt_succ _)) | exact ⟨rfl, rfl, rfl, rfl⟩ | exact ⟨rfl, rfl, rfl, rfl, id⟩ | exact ⟨rfl, rfl, rfl, rfl, rfl⟩ | exact ⟨rfl, rfl, rfl, rfl, nofun⟩ | exact tape_emb rfl | exact embO_le (LeL.refl _) rfl (Nat.lt_of_sub_pos (by exact Nat.zero_lt_succ _)) | exact ⟨rfl, rfl, fun _ _ => .refl _⟩ | exact embV_le (le_len (by simp)) rfl | exact ⟨rfl, rfl, rfl, by simp, nofun⟩ | exact ⟨rfl, by simp, le_app rfl (.refl _)⟩ | (refine ⟨rfl, ?_⟩; dsimp only; simp; done) | (refine ⟨rfl, ?_⟩; dsimp only; omega) | (refine ⟨rfl, ?_⟩; dsimp only; simp; omega) | refine ⟨?_, ?_⟩ | refine ⟨?_, ?_, ?_⟩)), by (repeat' (first | exact trivial | exact rfl | exact ⟨rfl, rfl⟩ | exact ⟨rfl, trivial⟩ | exact ⟨rfl, LeL.refl _, trivial⟩ | exact ⟨rfl, LeL.refl _, LeL.refl _, trivial⟩ | exact embV_le (.refl _) rfl | exact embV_leV (.refl _) rfl (Nat.lt_of_sub_pos (by exact Nat.zero_lt_succ _)) | exact ⟨rfl, rfl, rfl, rfl⟩ | exact ⟨rfl, rfl, rfl, rfl, id⟩ | exact ⟨rfl, rfl, rfl, rfl, rfl⟩ | exact ⟨rfl, rfl, rfl, rfl, nofun⟩ | exact tape_emb rfl | exact embO_le (LeL.refl _) rfl (Nat.lt_of_sub_pos (by exact Nat.zero_lt_succ _)) | exact ⟨rfl, rfl, fun _ _ => .refl _⟩ | exact embV_le (le_len (by simp)) rfl | exact ⟨rfl, rfl, rfl, by simp, nofun⟩ | exact ⟨rfl, by simp, le_app rfl (.refl _)⟩ | (refine ⟨rfl, ?_⟩; dsimp only; simp; done) | (refine ⟨rfl, ?_⟩; dsimp only; omega) | (refine ⟨rfl, ?_⟩; dsimp only; simp; omega) | refine ⟨?_, ?_⟩ | refine ⟨?_, ?_, ?_⟩)), by (repeat' (first | exact trivial | exact rfl | exact ⟨rfl, rfl⟩ | exact ⟨rfl, trivial⟩ | exact ⟨rfl, LeL.refl _, trivial⟩ | exact ⟨rfl, LeL.refl _, LeL.refl _, trivial⟩ | exact embV_le (.refl _) rfl | exact embV_leV (.refl _) rfl (Nat.lt_of_sub_pos (by exact Nat.zero_lt_succ _)) | exact ⟨rfl, rfl, rfl, rfl⟩ | exact ⟨rfl, rfl, rfl, rfl, id⟩ | exact ⟨rfl, rfl, rfl, rfl, rfl⟩ | exact ⟨rfl, rfl, rfl, rfl, nofun⟩ | exact tape_emb rfl | exact embO_le (LeL.refl _) rfl (Nat.lt_of_sub_pos (by exact Nat.zero_lt_succ _)) | exact ⟨rfl, rfl, fun _ _ => .refl _⟩ | exact embV_le (le_len (by simp)) rfl | exact ⟨rfl, rfl, rfl, by simp, nofun⟩ | exact ⟨rfl, by simp, le_app rfl (.refl _)⟩ | (refine ⟨rfl, ?_⟩; dsimp only; simp; done) | (refine ⟨rfl, ?_⟩; dsimp only; omega) | (refine ⟨rfl, ?_⟩; dsimp only; simp; omega) | refine ⟨?_, ?_⟩ | refine ⟨?_, ?_, ?_⟩)), ⟨by simp, fun _ => rfl, nofun, le_app2 (by simp) rfl (fun _ _ => .refl _) (fun _ _ => .refl _)⟩, trivial⟩, by (repeat' (first | exact trivial | exact rfl | exact ⟨rfl, rfl⟩ | exact ⟨rfl, trivial⟩ | exact ⟨rfl, LeL.refl _, trivial⟩ | exact ⟨rfl, LeL.refl _, LeL.refl _, trivial⟩ | exact embV_le (.refl _) rfl | exact embV_leV (.refl _) rfl (Nat.lt_of_sub_pos (by exact Nat.zero_lt_succ _)) | exact ⟨rfl, rfl, rfl, rfl⟩ | exact ⟨rfl, rfl, rfl, rfl, id⟩ | exact ⟨rfl, rfl, rfl, rfl, rfl⟩ | exact ⟨rfl, rfl, rfl, rfl, nofun⟩ | exact tape_emb rfl | exact embO_le (LeL.refl _) rfl (Nat.lt_of_sub_pos (by exact Nat.zero_lt_succ _)) | exact ⟨rfl, rfl, fun _ _ => .refl _⟩ | exact embV_le (le_len (by simp)) rfl | exact ⟨rfl, rfl, rfl, by simp, nofun⟩ | exact ⟨rfl, by simp, le_app rfl (.refl _)⟩ | (refine ⟨rfl, ?_⟩; dsimp only; simp; done) | (refine ⟨rfl, ?_⟩; dsimp only; omega) | (refine ⟨rfl, ?_⟩; dsimp only; simp; omega) | refine ⟨?_, ?_⟩ | refine ⟨?_, ?_, ?_⟩))⟩⟩
  intro _ _
  (conv => whnf)
  refine ⟨_, _, least_spec l (by omega) (d ++ e) (by rw [List.length_append]; omega), ?_⟩; conv => whnf
  refine ⟨_, _, Loads_spec l (by omega) d (by omega), ?_⟩; conv => whnf
  refine ⟨_, _, Loads_spec l (by omega) (d ++ e) (by rw [List.length_append]; omega), ?_⟩; conv => whnf
  have hlr : ∀ d, drawsF l d = true → loadsR l d = loadsF l d ∧ beginF l d = 0 := fun d h => by
    have := begin_draws h
    unfold loadsR
    rw [this]
    exact ⟨rfl, rfl⟩
  rw [(hlr d hdr).1, (hlr d hdr).2, (hlr _ hmr).1, (hlr _ hmr).2]
  have hl1' := loadsF_len l d
  have hl2' := loadsF_len l (d ++ e)
  have hbest : ∀ d, drawsF l d = true → (leastF l d).2 = 0 → Best l d (leastF l d).1 := fun d h1 h2 => by
    rcases least_best h1 with ⟨_, hb⟩ | ⟨hb, _⟩
    · exact hb
    · rw [hb] at h2; exact absurd h2 (by decide)
  have hrok : ∀ d, drawsF l d = true → (leastF l d).2 = 0 → railsF l (leastF l d).1 = true := fun d h1 h2 => rails_iff.2 ⟨hck, ((meetsF_iff h1).1 (hbest d h1 h2).ok).1⟩
  refine ⟨_, _, fun _ _ => rrails_spec l (by omega) (leastF l d).1, ?_⟩; conv => whnf
  refine ⟨_, _, fun _ _ _ => rrails_spec l (by omega) (leastF l (d ++ e)).1, ?_⟩; conv => whnf
  have hmore := least_more hdr her (by omega)
  have hlle := loads_le_app hdr her (by omega)
  refine bcase_of (fun h3 => ?_) (fun h3 => ?_)
  · exfalso
    have h3 : ((((((((0 : Int) != 0) || ((0 : Int) != 0)) || (((loadsF l d).length : Int) != l.length)) || (((loadsF l (d ++ e)).length : Int) != l.length)) || (((leastF l d).2 != 0) && ((leastF l (d ++ e)).2 == 0))) || (((leastF l (d ++ e)).2 == 0) && (!railsF l (leastF l d).1 || !railsF l (leastF l (d ++ e)).1)))) = true := h3
    rw [hl1', hl2'] at h3
    cases hg : ((leastF l (d ++ e)).2 == 0) with
    | false => rw [hg] at h3; simp at h3
    | true =>
      have hg0 : (leastF l (d ++ e)).2 = 0 := by simpa using hg
      rw [hg, (hmore hg0).1, hrok _ hdr (hmore hg0).1, hrok _ hmr hg0] at h3
      simp at h3
  generalize hA : (leastF l d).1 = A at *
  generalize hC : (leastF l (d ++ e)).1 = C at *
  have hlA : (leastF l (d ++ e)).2 = 0 → A.on.length = l.length ∧ A.lev.length = l.length ∧ C.on.length = l.length ∧ C.lev.length = l.length := fun hg0 => by
    have h1 := ((meetsF_iff hdr).1 (hbest d hdr (hmore hg0).1).ok).1
    have h2 := ((meetsF_iff hmr).1 (hbest _ hmr hg0).ok).1
    rw [hA] at h1
    rw [hC] at h2
    exact ⟨h1.on, h1.len, h2.on, h2.len⟩
  generalize hG : (leastF l (d ++ e)).2 = G at *
  (conv => whnf)
  refine loops_intro (ct := []) cfgOK (by decide +kernel) (fun i : Nat => ⟨[(9, .ptr 0 0 0), (14, .ptr 1 0 0), (15, iV G), (16, intsV (loadsF l d)), (18, intsV (loadsF l (d ++ e))), (136, iV l.length), (137, iV i)], [(0, some (.box [boolsV A.on, intsV A.lev])), (1, some (.box [boolsV C.on, intsV C.lev]))], 2⟩) (fun i => i ≤ l.length) (fun i => l.length - i) 0 [(0, some 0), (1, some 7)] (Nat.zero_le _) (by (repeat' (first | exact trivial | exact rfl | exact ⟨rfl, rfl⟩ | exact ⟨rfl, trivial⟩ | exact ⟨rfl, LeL.refl _, trivial⟩ | exact ⟨rfl, LeL.refl _, LeL.refl _, trivial⟩ | exact embV_le (.refl _) rfl | exact embV_leV (.refl _) rfl (Nat.lt_of_sub_pos (by exact Nat.zero_lt_succ _)) | exact ⟨rfl, rfl, rfl, rfl⟩ | exact ⟨rfl, rfl, rfl, rfl, id⟩ | exact ⟨rfl, rfl, rfl, rfl, rfl⟩ | exact ⟨rfl, rfl, rfl, rfl, nofun⟩ | exact tape_emb rfl | exact embO_le (LeL.refl _) rfl (Nat.lt_of_sub_pos (by exact Nat.zero_lt_succ _)) | exact ⟨rfl, rfl, fun _ _ => .refl _⟩ | exact embV_le (le_len (by simp)) rfl | exact ⟨rfl, rfl, rfl, by simp, nofun⟩ | exact ⟨rfl, by simp, le_app rfl (.refl _)⟩ | (refine ⟨rfl, ?_⟩; dsimp only; simp; done) | (refine ⟨rfl, ?_⟩; dsimp only; omega) | (refine ⟨rfl, ?_⟩; dsimp only; simp; omega) | refine ⟨?_, ?_⟩ | refine ⟨?_, ?_, ?_⟩))) ?_
  intro i hi
  (conv => whnf)
  refine bcase_of (fun h4 => ?_) (fun h4 => ?_)
  · have h4 : decide ((i : Int) < l.length) = true := h4
    have hlt : i < l.length := by have := of_decide_eq_true h4; omega
    (conv => whnf)
    (refine ⟨by intros; first | omega | (unfold InI64; omega) | (unfold big; omega) | contradiction | (dsimp only at *; omega) | (dsimp only at *; unfold InI64; omega) | (dsimp only at *; unfold big; omega) | (simp only [Int.toNat_natCast]; omega) | (simp only [List.length_append, List.length_cons, List.length_nil, List.length_set]; omega), ?_⟩; conv => whnf)
    (refine ⟨by intros; first | omega | (unfold InI64; omega) | (unfold big; omega) | contradiction | (dsimp only at *; omega) | (dsimp only at *; unfold InI64; omega) | (dsimp only at *; unfold big; omega) | (simp only [Int.toNat_natCast]; omega) | (simp only [List.length_append, List.length_cons, List.length_nil, List.length_set]; omega), ?_⟩; conv => whnf)
    refine ⟨fun _ h => by
      have h : (G == 0) = true := h
      have := hlA (by simpa using h)
      show 0 ≤ (i : Int) ∧ (i : Int) < (A.on.length : Int)
      omega, ?_⟩; conv => whnf
    refine ⟨fun _ h _ => by
      have h : (G == 0) = true := h
      have := hlA (by simpa using h)
      show 0 ≤ (i : Int) ∧ (i : Int) < (C.on.length : Int)
      omega, ?_⟩; conv => whnf
    refine ⟨fun _ h _ => by
      have h : (G == 0) = true := h
      have := hlA (by simpa using h)
      show 0 ≤ (i : Int) ∧ (i : Int) < (C.lev.length : Int)
      omega, ?_⟩; conv => whnf
    refine ⟨fun _ h _ => by
      have h : (G == 0) = true := h
      have := hlA (by simpa using h)
      show 0 ≤ (i : Int) ∧ (i : Int) < (A.lev.length : Int)
      omega, ?_⟩; conv => whnf
    refine bcase_of (fun h5 => ?_) (fun h5 => ?_)
    · exfalso
      have h5 : (decide ((loadsF l (d ++ e)).getD i 0 < (loadsF l d).getD i 0) || ((G == 0) && ((A.on.getD i false && !C.on.getD i false) || decide (C.lev.getD i 0 < A.lev.getD i 0)))) = true := h5
      have h6 := hlle i
      unfold nAt at h6
      rw [decide_eq_false (by omega)] at h5
      cases hg : (G == 0) with
      | false => rw [hg] at h5; simp at h5
      | true =>
        obtain ⟨h7, h8⟩ := (hmore (by simpa using hg)).2 i
        unfold bAt at h7
        unfold nAt at h8
        rw [hg, decide_eq_false (by omega)] at h5
        cases ha : A.on.getD i false with
        | false => rw [ha] at h5; simp at h5
        | true => rw [ha, h7 ha] at h5; simp at h5
    · (conv => whnf)
      (refine ⟨by intros; first | omega | (unfold InI64; omega) | (unfold big; omega) | contradiction | (dsimp only at *; omega) | (dsimp only at *; unfold InI64; omega) | (dsimp only at *; unfold big; omega) | (simp only [Int.toNat_natCast]; omega) | (simp only [List.length_append, List.length_cons, List.length_nil, List.length_set]; omega), ?_⟩; conv => whnf)
      exact ⟨i + 1, [(0, some 0), (1, some 1)], hlt, by omega, by (repeat' (first | exact trivial | exact rfl | exact ⟨rfl, rfl⟩ | exact ⟨rfl, trivial⟩ | exact ⟨rfl, LeL.refl _, trivial⟩ | exact ⟨rfl, LeL.refl _, LeL.refl _, trivial⟩ | exact embV_le (.refl _) rfl | exact embV_leV (.refl _) rfl (Nat.lt_of_sub_pos (by exact Nat.zero_lt_succ _)) | exact ⟨rfl, rfl, rfl, rfl⟩ | exact ⟨rfl, rfl, rfl, rfl, id⟩ | exact ⟨rfl, rfl, rfl, rfl, rfl⟩ | exact ⟨rfl, rfl, rfl, rfl, nofun⟩ | exact tape_emb rfl | exact embO_le (LeL.refl _) rfl (Nat.lt_of_sub_pos (by exact Nat.zero_lt_succ _)) | exact ⟨rfl, rfl, fun _ _ => .refl _⟩ | exact embV_le (le_len (by simp)) rfl | exact ⟨rfl, rfl, rfl, by simp, nofun⟩ | exact ⟨rfl, by simp, le_app rfl (.refl _)⟩ | (refine ⟨rfl, ?_⟩; dsimp only; simp; done) | (refine ⟨rfl, ?_⟩; dsimp only; omega) | (refine ⟨rfl, ?_⟩; dsimp only; simp; omega) | refine ⟨?_, ?_⟩ | refine ⟨?_, ?_, ?_⟩))⟩
  · (conv => whnf)
    refine ⟨_, _, awake_spec, ?_⟩; conv => whnf
    exact ⟨rfl, trivial⟩

end Go.Proofs.Ytjmhlbogkeohpaa
