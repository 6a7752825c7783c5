/- Contracts of the program's functions, shown by walks of that machine, and the plain laws. -/
import Derived.Test.YtjmhlbogkeohpaaD6
import Derived.Test.YtjmhlbogkeohpaaD7
namespace Go.Proofs.Ytjmhlbogkeohpaa
open Go.Ab
set_option maxRecDepth 100000

theorem tape0_ok {l : List Int} (h : I64 l) : Tp.ok ⟨l.take 500, 0⟩ := ⟨fun x hx => h x (List.mem_of_mem_take hx), by simp; omega, Nat.zero_le _⟩

theorem chainN_len (f : Nat) (a : List Dem) (at_ : Int) (acc : List Int) (x : Int) : (chainN f a at_ acc x).1.length ≤ acc.length + f := by
  induction f generalizing at_ acc x with
  | zero => exact Nat.le_refl _
  | succ f ih =>
    rw [chainN]
    cases decide (0 ≤ at_) with
    | false => show acc.length ≤ _; omega
    | true =>
      have := ih (a.getD at_.toNat dem0).child (acc ++ [at_]) (a.getD at_.toNat dem0).draw
      rw [List.length_append] at this
      simp only [List.length_singleton] at this
      simp only [cond_true]
      omega

theorem explain_len {l : List Sup} {d : List Drw} (h : drawsF l d = true) : (explainF l d).1.sups.length ≤ 100 := by
  have hv := vld_of h
  have hal := (demF_ok hv).1.al
  have hvl := hv.len
  have key : ∀ to last, (chainF (demF l d).1.a to last).sups.length ≤ 100 := fun to last => by
    show (chainN ((demF l d).1.a.length + 1) (demF l d).1.a to [] (-1)).1.reverse.length ≤ 100
    rw [List.length_reverse]
    have := chainN_len ((demF l d).1.a.length + 1) (demF l d).1.a to [] (-1)
    simp only [List.length_nil] at this
    omega
  unfold explainF
  rw [begin_draws h]
  simp only [bne_self_eq_false, cond_false]
  cases decide (0 ≤ overI l d) with
  | true => show 1 ≤ 100; omega
  | false =>
    cases decide (0 ≤ (demF l d).2) with
    | true => exact key _ _
    | false =>
      cases decide (0 ≤ highI l d) with
      | true => exact key _ _
      | false => show 0 ≤ 100; omega

set_option maxHeartbeats 4000000 in
theorem proves_spec (l0 : List Int) (h0 : I64 l0) : S 7 [intsV l0] [] (.bool true) [] := by
  refine spec_of_x (ct := []) cfgOK Try.func7 rfl rfl (Nat.le_of_ble_eq_true rfl) (by decide +kernel) (Nat.le_refl _) ?_; conv => whnf
  refine ⟨_, _, new_spec l0, ?_⟩; conv => whnf
  obtain ⟨l, t1, ht1, hl, hl1, hl2, hs1⟩ := supplies_ex (tape0_ok h0) 7 (by omega)
  refine ⟨_, _, hs1, ?_⟩; conv => whnf
  obtain ⟨d, t2, ht2, hd, hd2, hs2⟩ := draws_ex ht1 hl (by omega) 6 (by omega)
  refine ⟨_, _, hs2, ?_⟩; conv => whnf
  have hdr := goodD_draws (goodS_check hl (by omega)) hd (by omega)
  obtain ⟨e1, e2⟩ := explain_best hdr
  have hcl := explain_len hdr
  refine ⟨_, _, least_spec l (by omega) d (by omega), ?_⟩; conv => whnf
  refine ⟨_, _, explain_spec l (by omega) d (by omega), ?_⟩; conv => whnf
  refine bcase_of (fun h => ?_) (fun h => ?_)
  · have h : ((leastF l d).2 == 0) = true := h
    have hb : Best l d (leastF l d).1 := by
      rcases least_best hdr with ⟨_, hb⟩ | ⟨hb, _⟩
      · exact hb
      · rw [hb] at h; cases h
    (conv => whnf)
    refine ⟨_, _, fun _ => rMeets_spec l (by omega) (leastF l d).1 d (by omega), ?_⟩; conv => whnf
    refine ⟨_, _, fun _ => meets_spec l (by omega) (leastF l d).1 d (by omega), ?_⟩; conv => whnf
    refine ⟨_, _, fun _ => chain2_spec l (by omega) d (by omega) (explainF l d).1 (by omega), ?_⟩; conv => whnf
    refine ⟨_, _, fun _ => awake_spec, ?_⟩; conv => whnf
    refine ⟨?_, trivial⟩
    show ((((((explainF l d).2 == 8) && meetsF l (leastF l d).1 d) && meetsF l (leastF l d).1 d) && !pchkF l d (explainF l d).1) && true) = true
    rw [hb.ok, e1 (by simpa using h), pchk_eq]
    unfold rchkF
    show (true && true && true && !(bif (beginF l d != 0) || true then false else _) && true) = true
    rw [Bool.or_true]
    rfl
  · have h : ((leastF l d).2 == 0) = false := h
    obtain ⟨e3, e4⟩ := e2 (by simpa using h)
    have hb : (leastF l d).2 = 9 := by
      rcases least_best hdr with ⟨hb, _⟩ | ⟨hb, _⟩
      · rw [hb] at h; cases h
      · rw [hb]
    (conv => whnf)
    refine ⟨_, _, fun _ => rchain_spec l (by omega) d (by omega) (explainF l d).1 (by omega), ?_⟩; conv => whnf
    refine ⟨_, _, fun _ => chain2_spec l (by omega) d (by omega) (explainF l d).1 (by omega), ?_⟩; conv => whnf
    refine ⟨_, _, fun _ => awake_spec, ?_⟩; conv => whnf
    refine ⟨?_, trivial⟩
    show ((((((leastF l d).2 == 9) && ((explainF l d).2 == 0)) && rchkF l d (explainF l d).1) && pchkF l d (explainF l d).1) && true) = true
    rw [pchk_eq, e3, e4, hb]
    rfl

theorem joinF_snoc (i : Nat) (a b : Rls) : joinF (i + 1) a b = ⟨(joinF i a b).on ++ [bAt a.on i || bAt b.on i], (joinF i a b).lev ++ [jnN a b i]⟩ := by
  unfold joinF
  rw [List.range_succ, List.map_append, List.map_append]
  rfl

set_option maxHeartbeats 4000000 in
theorem joins_spec (l0 : List Int) (h0 : I64 l0) : S 3 [intsV l0] [] (.bool true) [] := by
  refine spec_of_x (ct := []) cfgOK Try.func3 rfl rfl (Nat.le_of_ble_eq_true rfl) (by decide +kernel) (Nat.le_refl _) ?_; conv => whnf
  refine ⟨_, _, new_spec l0, ?_⟩; conv => whnf
  obtain ⟨l, t1, ht1, hl, hl1, hl2, hs1⟩ := supplies_ex (tape0_ok h0) 6 (by omega)
  refine ⟨_, _, hs1, ?_⟩; conv => whnf
  obtain ⟨d, t2, ht2, hd, hd2, hs2⟩ := draws_ex ht1 hl (by omega) 4 (by omega)
  refine ⟨_, _, hs2, ?_⟩; conv => whnf
  have hdr := goodD_draws (goodS_check hl (by omega)) hd (by omega)
  obtain ⟨a, oka, t3, ht3, na, hs3⟩ := near_ex ht2 hl (by omega) hd (by omega)
  refine ⟨_, _, hs3, ?_⟩; conv => whnf
  obtain ⟨b, okb, t4, ht4, nb, hs4⟩ := near_ex ht3 hl (by omega) hd (by omega)
  refine ⟨_, _, hs4, ?_⟩; conv => whnf
  have hok : oka = okb := na.is.trans nb.is.symm
  subst hok
  refine bcase_of (fun h => ?_) (fun h => ?_)
  · (conv => whnf)
    refine ⟨_, _, fun _ => awake_spec, ?_⟩; conv => whnf
    refine ⟨?_, trivial⟩
    show ((oka == oka) && true) = true
    rw [beq_self_eq_true]
    rfl
  · have h : (!oka || !oka) = false := h
    have hoka : oka = true := by simpa using h
    have ma := na.yes hoka
    have mb := nb.yes hoka
    have ra := ((meetsF_iff hdr).1 ma).1
    have rb := ((meetsF_iff hdr).1 mb).1
    have ra1 := ra.on
    have ra2 := ra.len
    have rb1 := rb.on
    have rb2 := rb.len
    (conv => whnf)
    refine loops_intro (ct := [15, 17]) cfgOK (by decide +kernel) (fun i : Nat => ⟨[(4, supsV l), (5, drwsV d), (6, .ptr 0 0 0), (8, .ptr 1 0 0), (10, .ptr 2 0 0), (47, iV l.length), (48, iV i)], [(0, some (.box [boolsV a.on, intsV a.lev])), (1, some (.box [boolsV b.on, intsV b.lev])), (2, some (.box [.osl 3 0 i false, .osl 4 0 i false])), (3, some (.row 1 i (rowG AV.bool false (joinF i a b).on))), (4, some (.row 1 i (rowG iV 0 (joinF i a b).lev)))], 5⟩) (fun i => i ≤ l.length) (fun i => l.length - i) 0 [(0, some 18), (1, some 28), (2, some 37), (3, none), (4, none)] (Nat.zero_le _) (by (repeat' (first | exact trivial | exact rfl | exact ⟨rfl, rfl⟩ | exact ⟨rfl, trivial⟩ | exact ⟨rfl, LeL.refl _, trivial⟩ | exact ⟨rfl, LeL.refl _, LeL.refl _, trivial⟩ | exact embV_le (.refl _) rfl | exact embV_leV (.refl _) rfl (Nat.lt_of_sub_pos (by exact Nat.zero_lt_succ _)) | exact ⟨rfl, rfl, rfl, rfl⟩ | exact ⟨rfl, rfl, rfl, rfl, id⟩ | exact ⟨rfl, rfl, rfl, rfl, rfl⟩ | exact ⟨rfl, rfl, rfl, rfl, nofun⟩ | exact tape_emb rfl | exact embO_le (LeL.refl _) rfl (Nat.lt_of_sub_pos (by exact Nat.zero_lt_succ _)) | exact ⟨rfl, rfl, fun _ _ => .refl _⟩ | exact embV_le (le_len (by simp)) rfl | exact ⟨rfl, rfl, rfl, by simp, nofun⟩ | exact ⟨rfl, by simp, le_app rfl (.refl _)⟩ | (refine ⟨rfl, ?_⟩; dsimp only; simp; done) | (refine ⟨rfl, ?_⟩; dsimp only; omega) | (refine ⟨rfl, ?_⟩; dsimp only; simp; omega) | refine ⟨?_, ?_⟩ | refine ⟨?_, ?_, ?_⟩))) ?_
    intro i hi
    (conv => whnf)
    refine bcase_of (fun h2 => ?_) (fun h2 => ?_)
    · have h2 : decide ((i : Int) < l.length) = true := h2
      have hlt : i < l.length := by have := of_decide_eq_true h2; omega
      (conv => whnf)
      refine cut_intro (ct := []) (ct' := [17]) cfgOK (by decide +kernel) (by decide +kernel) (fun _ : Unit => ⟨[(4, supsV l), (5, drwsV d), (6, .ptr 0 0 0), (8, .ptr 1 0 0), (10, .ptr 2 0 0), (47, iV l.length), (48, iV i), (11, iV i), (12, iV (bif bAt a.on i then nAt a.lev i else 0))], [(0, some (.box [boolsV a.on, intsV a.lev])), (1, some (.box [boolsV b.on, intsV b.lev])), (2, some (.box [.osl 3 0 i false, .osl 4 0 i false])), (3, some (.row 1 i (rowG AV.bool false (joinF i a b).on))), (4, some (.row 1 i (rowG iV 0 (joinF i a b).lev)))], 5⟩) (fun _ => True) ?_ ?_
      · (conv => whnf)
        (refine ⟨by intros; first | omega | (unfold InI64; omega) | (unfold big; omega) | contradiction | (dsimp only at *; omega) | (dsimp only at *; unfold InI64; omega) | (dsimp only at *; unfold big; omega) | (simp only [Int.toNat_natCast]; omega) | (simp only [List.length_append, List.length_cons, List.length_nil, List.length_set]; omega), ?_⟩; conv => whnf)
        refine bcase_of (fun h3 => ?_) (fun h3 => ?_)
        · have h3 : bAt a.on i = true := h3
          (conv => whnf)
          (refine ⟨by intros; first | omega | (unfold InI64; omega) | (unfold big; omega) | contradiction | (dsimp only at *; omega) | (dsimp only at *; unfold InI64; omega) | (dsimp only at *; unfold big; omega) | (simp only [Int.toNat_natCast]; omega) | (simp only [List.length_append, List.length_cons, List.length_nil, List.length_set]; omega), ?_⟩; conv => whnf)
          exact ⟨(), [(0, some 0), (1, some 1), (2, some 2), (3, some 3), (4, some 4)], trivial, by rw [h3]; (repeat' (first | exact trivial | exact rfl | exact ⟨rfl, rfl⟩ | exact ⟨rfl, trivial⟩ | exact ⟨rfl, LeL.refl _, trivial⟩ | exact ⟨rfl, LeL.refl _, LeL.refl _, trivial⟩ | exact embV_le (.refl _) rfl | exact embV_leV (.refl _) rfl (Nat.lt_of_sub_pos (by exact Nat.zero_lt_succ _)) | exact ⟨rfl, rfl, rfl, rfl⟩ | exact ⟨rfl, rfl, rfl, rfl, id⟩ | exact ⟨rfl, rfl, rfl, rfl, rfl⟩ | exact ⟨rfl, rfl, rfl, rfl, nofun⟩ | exact tape_emb rfl | exact embO_le (LeL.refl _) rfl (Nat.lt_of_sub_pos (by exact Nat.zero_lt_succ _)) | exact ⟨rfl, rfl, fun _ _ => .refl _⟩ | exact embV_le (le_len (by simp)) rfl | exact ⟨rfl, rfl, rfl, by simp, nofun⟩ | exact ⟨rfl, by simp, le_app rfl (.refl _)⟩ | (refine ⟨rfl, ?_⟩; dsimp only; simp; done) | (refine ⟨rfl, ?_⟩; dsimp only; omega) | (refine ⟨rfl, ?_⟩; dsimp only; simp; omega) | refine ⟨?_, ?_⟩ | refine ⟨?_, ?_, ?_⟩))⟩
        · have h3 : bAt a.on i = false := h3
          (conv => whnf)
          exact ⟨(), [(0, some 0), (1, some 1), (2, some 2), (3, some 3), (4, some 4)], trivial, by rw [h3]; (repeat' (first | exact trivial | exact rfl | exact ⟨rfl, rfl⟩ | exact ⟨rfl, trivial⟩ | exact ⟨rfl, LeL.refl _, trivial⟩ | exact ⟨rfl, LeL.refl _, LeL.refl _, trivial⟩ | exact embV_le (.refl _) rfl | exact embV_leV (.refl _) rfl (Nat.lt_of_sub_pos (by exact Nat.zero_lt_succ _)) | exact ⟨rfl, rfl, rfl, rfl⟩ | exact ⟨rfl, rfl, rfl, rfl, id⟩ | exact ⟨rfl, rfl, rfl, rfl, rfl⟩ | exact ⟨rfl, rfl, rfl, rfl, nofun⟩ | exact tape_emb rfl | exact embO_le (LeL.refl _) rfl (Nat.lt_of_sub_pos (by exact Nat.zero_lt_succ _)) | exact ⟨rfl, rfl, fun _ _ => .refl _⟩ | exact embV_le (le_len (by simp)) rfl | exact ⟨rfl, rfl, rfl, by simp, nofun⟩ | exact ⟨rfl, by simp, le_app rfl (.refl _)⟩ | (refine ⟨rfl, ?_⟩; dsimp only; simp; done) | (refine ⟨rfl, ?_⟩; dsimp only; omega) | (refine ⟨rfl, ?_⟩; dsimp only; simp; omega) | refine ⟨?_, ?_⟩ | refine ⟨?_, ?_, ?_⟩))⟩
      · intro _ _
        (conv => whnf)
        refine cut_intro (ct := []) (ct' := []) cfgOK (by decide +kernel) (by decide +kernel) (fun _ : Unit => ⟨[(4, supsV l), (5, drwsV d), (6, .ptr 0 0 0), (8, .ptr 1 0 0), (10, .ptr 2 0 0), (47, iV l.length), (48, iV i), (11, iV i), (12, iV (jnN a b i))], [(0, some (.box [boolsV a.on, intsV a.lev])), (1, some (.box [boolsV b.on, intsV b.lev])), (2, some (.box [.osl 3 0 i false, .osl 4 0 i false])), (3, some (.row 1 i (rowG AV.bool false (joinF i a b).on))), (4, some (.row 1 i (rowG iV 0 (joinF i a b).lev)))], 5⟩) (fun _ => True) ?_ ?_
        · (conv => whnf)
          (refine ⟨by intros; first | omega | (unfold InI64; omega) | (unfold big; omega) | contradiction | (dsimp only at *; omega) | (dsimp only at *; unfold InI64; omega) | (dsimp only at *; unfold big; omega) | (simp only [Int.toNat_natCast]; omega) | (simp only [List.length_append, List.length_cons, List.length_nil, List.length_set]; omega), ?_⟩; conv => whnf)
          unfold jnN
          refine bcase_of (fun h3 => ?_) (fun h3 => ?_)
          · have h3 : bAt b.on i = true := h3
            (conv => whnf)
            (refine ⟨by intros; first | omega | (unfold InI64; omega) | (unfold big; omega) | contradiction | (dsimp only at *; omega) | (dsimp only at *; unfold InI64; omega) | (dsimp only at *; unfold big; omega) | (simp only [Int.toNat_natCast]; omega) | (simp only [List.length_append, List.length_cons, List.length_nil, List.length_set]; omega), ?_⟩; conv => whnf)
            exact ⟨(), [(0, some 0), (1, some 1), (2, some 2), (3, some 3), (4, some 4)], trivial, by rw [h3]; (repeat' (first | exact trivial | exact rfl | exact ⟨rfl, rfl⟩ | exact ⟨rfl, trivial⟩ | exact ⟨rfl, LeL.refl _, trivial⟩ | exact ⟨rfl, LeL.refl _, LeL.refl _, trivial⟩ | exact embV_le (.refl _) rfl | exact embV_leV (.refl _) rfl (Nat.lt_of_sub_pos (by exact Nat.zero_lt_succ _)) | exact ⟨rfl, rfl, rfl, rfl⟩ | exact ⟨rfl, rfl, rfl, rfl, id⟩ | exact ⟨rfl, rfl, rfl, rfl, rfl⟩ | exact ⟨rfl, rfl, rfl, rfl, nofun⟩ | exact tape_emb rfl | exact embO_le (LeL.refl _) rfl (Nat.lt_of_sub_pos (by exact Nat.zero_lt_succ _)) | exact ⟨rfl, rfl, fun _ _ => .refl _⟩ | exact embV_le (le_len (by simp)) rfl | exact ⟨rfl, rfl, rfl, by simp, nofun⟩ | exact ⟨rfl, by simp, le_app rfl (.refl _)⟩ | (refine ⟨rfl, ?_⟩; dsimp only; simp; done) | (refine ⟨rfl, ?_⟩; dsimp only; omega) | (refine ⟨rfl, ?_⟩; dsimp only; simp; omega) | refine ⟨?_, ?_⟩ | refine ⟨?_, ?_, ?_⟩))⟩
          · have h3 : bAt b.on i = false := h3
            (conv => whnf)
            exact ⟨(), [(0, some 0), (1, some 1), (2, some 2), (3, some 3), (4, some 4)], trivial, by rw [h3]; (repeat' (first | exact trivial | exact rfl | exact ⟨rfl, rfl⟩ | exact ⟨rfl, trivial⟩ | exact ⟨rfl, LeL.refl _, trivial⟩ | exact ⟨rfl, LeL.refl _, LeL.refl _, trivial⟩ | exact embV_le (.refl _) rfl | exact embV_leV (.refl _) rfl (Nat.lt_of_sub_pos (by exact Nat.zero_lt_succ _)) | exact ⟨rfl, rfl, rfl, rfl⟩ | exact ⟨rfl, rfl, rfl, rfl, id⟩ | exact ⟨rfl, rfl, rfl, rfl, rfl⟩ | exact ⟨rfl, rfl, rfl, rfl, nofun⟩ | exact tape_emb rfl | exact embO_le (LeL.refl _) rfl (Nat.lt_of_sub_pos (by exact Nat.zero_lt_succ _)) | exact ⟨rfl, rfl, fun _ _ => .refl _⟩ | exact embV_le (le_len (by simp)) rfl | exact ⟨rfl, rfl, rfl, by simp, nofun⟩ | exact ⟨rfl, by simp, le_app rfl (.refl _)⟩ | (refine ⟨rfl, ?_⟩; dsimp only; simp; done) | (refine ⟨rfl, ?_⟩; dsimp only; omega) | (refine ⟨rfl, ?_⟩; dsimp only; simp; omega) | refine ⟨?_, ?_⟩ | refine ⟨?_, ?_, ?_⟩))⟩
        · intro _ _
          (conv => whnf)
          (refine ⟨by intros; first | omega | (unfold InI64; omega) | (unfold big; omega) | contradiction | (dsimp only at *; omega) | (dsimp only at *; unfold InI64; omega) | (dsimp only at *; unfold big; omega) | (simp only [Int.toNat_natCast]; omega) | (simp only [List.length_append, List.length_cons, List.length_nil, List.length_set]; omega), ?_⟩; conv => whnf)
          refine ⟨fun _ => by show 0 ≤ (i : Int) ∧ (i : Int) < (b.on.length : Int); omega, ?_⟩; conv => whnf
          (refine ⟨by intros; first | omega | (unfold InI64; omega) | (unfold big; omega) | contradiction | (dsimp only at *; omega) | (dsimp only at *; unfold InI64; omega) | (dsimp only at *; unfold big; omega) | (simp only [Int.toNat_natCast]; omega) | (simp only [List.length_append, List.length_cons, List.length_nil, List.length_set]; omega), ?_⟩; conv => whnf)
          (refine ⟨by intros; first | omega | (unfold InI64; omega) | (unfold big; omega) | contradiction | (dsimp only at *; omega) | (dsimp only at *; unfold InI64; omega) | (dsimp only at *; unfold big; omega) | (simp only [Int.toNat_natCast]; omega) | (simp only [List.length_append, List.length_cons, List.length_nil, List.length_set]; omega), ?_⟩; conv => whnf)
          (refine ⟨by intros; first | omega | (unfold InI64; omega) | (unfold big; omega) | contradiction | (dsimp only at *; omega) | (dsimp only at *; unfold InI64; omega) | (dsimp only at *; unfold big; omega) | (simp only [Int.toNat_natCast]; omega) | (simp only [List.length_append, List.length_cons, List.length_nil, List.length_set]; omega), ?_⟩; conv => whnf)
          refine ⟨i + 1, [(0, some 0), (1, some 1), (2, some 2), (3, some 20), (4, some 25)], hlt, by omega, ⟨rfl, by (repeat' (first | exact trivial | exact rfl | exact ⟨rfl, rfl⟩ | exact ⟨rfl, trivial⟩ | exact ⟨rfl, LeL.refl _, trivial⟩ | exact ⟨rfl, LeL.refl _, LeL.refl _, trivial⟩ | exact embV_le (.refl _) rfl | exact embV_leV (.refl _) rfl (Nat.lt_of_sub_pos (by exact Nat.zero_lt_succ _)) | exact ⟨rfl, rfl, rfl, rfl⟩ | exact ⟨rfl, rfl, rfl, rfl, id⟩ | exact ⟨rfl, rfl, rfl, rfl, rfl⟩ | exact ⟨rfl, rfl, rfl, rfl, nofun⟩ | exact tape_emb rfl | exact embO_le (LeL.refl _) rfl (Nat.lt_of_sub_pos (by exact Nat.zero_lt_succ _)) | exact ⟨rfl, rfl, fun _ _ => .refl _⟩ | exact embV_le (le_len (by simp)) rfl | exact ⟨rfl, rfl, rfl, by simp, nofun⟩ | exact ⟨rfl, by simp, le_app rfl (.refl _)⟩ | (refine ⟨rfl, ?_⟩; dsimp only; simp; done) | (refine ⟨rfl, ?_⟩; dsimp only; omega) | (refine ⟨rfl, ?_⟩; dsimp only; simp; omega) | refine ⟨?_, ?_⟩ | refine ⟨?_, ?_, ?_⟩)), ⟨by (repeat' (first | exact trivial | exact rfl | exact ⟨rfl, rfl⟩ | exact ⟨rfl, trivial⟩ | exact ⟨rfl, LeL.refl _, trivial⟩ | exact ⟨rfl, LeL.refl _, LeL.refl _, trivial⟩ | exact embV_le (.refl _) rfl | exact embV_leV (.refl _) rfl (Nat.lt_of_sub_pos (by exact Nat.zero_lt_succ _)) | exact ⟨rfl, rfl, rfl, rfl⟩ | exact ⟨rfl, rfl, rfl, rfl, id⟩ | exact ⟨rfl, rfl, rfl, rfl, rfl⟩ | exact ⟨rfl, rfl, rfl, rfl, nofun⟩ | exact tape_emb rfl | exact embO_le (LeL.refl _) rfl (Nat.lt_of_sub_pos (by exact Nat.zero_lt_succ _)) | exact ⟨rfl, rfl, fun _ _ => .refl _⟩ | exact embV_le (le_len (by simp)) rfl | exact ⟨rfl, rfl, rfl, by simp, nofun⟩ | exact ⟨rfl, by simp, le_app rfl (.refl _)⟩ | (refine ⟨rfl, ?_⟩; dsimp only; simp; done) | (refine ⟨rfl, ?_⟩; dsimp only; omega) | (refine ⟨rfl, ?_⟩; dsimp only; simp; omega) | refine ⟨?_, ?_⟩ | refine ⟨?_, ?_, ?_⟩)), by (repeat' (first | exact trivial | exact rfl | exact ⟨rfl, rfl⟩ | exact ⟨rfl, trivial⟩ | exact ⟨rfl, LeL.refl _, trivial⟩ | exact ⟨rfl, LeL.refl _, LeL.refl _, trivial⟩ | exact embV_le (.refl _) rfl | exact embV_leV (.refl _) rfl (Nat.lt_of_sub_pos (by exact Nat.zero_lt_succ _)) | exact ⟨rfl, rfl, rfl, rfl⟩ | exact ⟨rfl, rfl, rfl, rfl, id⟩ | exact ⟨rfl, rfl, rfl, rfl, rfl⟩ | exact ⟨rfl, rfl, rfl, rfl, nofun⟩ | exact tape_emb rfl | exact embO_le (LeL.refl _) rfl (Nat.lt_of_sub_pos (by exact Nat.zero_lt_succ _)) | exact ⟨rfl, rfl, fun _ _ => .refl _⟩ | exact embV_le (le_len (by simp)) rfl | exact ⟨rfl, rfl, rfl, by simp, nofun⟩ | exact ⟨rfl, by simp, le_app rfl (.refl _)⟩ | (refine ⟨rfl, ?_⟩; dsimp only; simp; done) | (refine ⟨rfl, ?_⟩; dsimp only; omega) | (refine ⟨rfl, ?_⟩; dsimp only; simp; omega) | refine ⟨?_, ?_⟩ | refine ⟨?_, ?_, ?_⟩)), by (repeat' (first | exact trivial | exact rfl | exact ⟨rfl, rfl⟩ | exact ⟨rfl, trivial⟩ | exact ⟨rfl, LeL.refl _, trivial⟩ | exact ⟨rfl, LeL.refl _, LeL.refl _, trivial⟩ | exact embV_le (.refl _) rfl | exact embV_leV (.refl _) rfl (Nat.lt_of_sub_pos (by exact Nat.zero_lt_succ _)) | exact ⟨rfl, rfl, rfl, rfl⟩ | exact ⟨rfl, rfl, rfl, rfl, id⟩ | exact ⟨rfl, rfl, rfl, rfl, rfl⟩ | exact ⟨rfl, rfl, rfl, rfl, nofun⟩ | exact tape_emb rfl | exact embO_le (LeL.refl _) rfl (Nat.lt_of_sub_pos (by exact Nat.zero_lt_succ _)) | exact ⟨rfl, rfl, fun _ _ => .refl _⟩ | exact embV_le (le_len (by simp)) rfl | exact ⟨rfl, rfl, rfl, by simp, nofun⟩ | exact ⟨rfl, by simp, le_app rfl (.refl _)⟩ | (refine ⟨rfl, ?_⟩; dsimp only; simp; done) | (refine ⟨rfl, ?_⟩; dsimp only; omega) | (refine ⟨rfl, ?_⟩; dsimp only; simp; omega) | refine ⟨?_, ?_⟩ | refine ⟨?_, ?_, ?_⟩)), ⟨rfl, rfl, ?_⟩, ⟨rfl, rfl, ?_⟩, trivial⟩⟩⟩
          · rw [joinF_snoc]
            exact le_app (l := (joinF i a b).on) (by simp [joinF]) (.refl _)
          · rw [joinF_snoc]
            exact le_app (l := (joinF i a b).lev) (by simp [joinF]) (.refl _)
    · have h2 : decide ((i : Int) < l.length) = false := h2
      have hil : i = l.length := by have := of_decide_eq_false h2; omega
      subst hil
      (conv => whnf)
      refine ⟨_, _, meets_spec l (by omega) a d (by omega), ?_⟩; conv => whnf
      refine ⟨_, _, fun _ => meets_spec l (by omega) b d (by omega), ?_⟩; conv => whnf
      refine ⟨_, _, fun _ => (meets_spec l (by omega) (joinF l.length a b) d (by omega)).le ⟨.refl _, Le.aggL ⟨le_len (by simp [joinF]), le_len (by simp [joinF]), trivial⟩, .refl _, trivial⟩ trivial, ?_⟩; conv => whnf
      refine ⟨_, _, fun _ => awake_spec, ?_⟩; conv => whnf
      refine ⟨?_, trivial⟩
      show (((meetsF l a d && meetsF l b d) && meetsF l (joinF l.length a b) d) && true) = true
      rw [ma, mb, join_meets hdr ma mb]
      rfl

end Go.Proofs.Ytjmhlbogkeohpaa

namespace Go.Proofs.Ytjmhlbogkeohpaa
open Go.Ab
set_option maxRecDepth 100000
set_option maxHeartbeats 8000000

theorem ar5 {p : Nat → Prop} (a : p 0) (b : p 1) (c : p 2) (d : p 3) (e : p 4) : ∀ k, k < 5 → p k
  | 0, _ => a
  | 1, _ => b
  | 2, _ => c
  | 3, _ => d
  | 4, _ => e
  | k + 5, h => absurd h (by omega)
theorem ar4 {p : Nat → Prop} (a : p 0) (b : p 1) (c : p 2) (d : p 3) : ∀ k, k < 4 → p k
  | 0, _ => a
  | 1, _ => b
  | 2, _ => c
  | 3, _ => d
  | k + 4, h => absurd h (by omega)
theorem ar3 {p : Nat → Prop} (a : p 0) (b : p 1) (c : p 2) : ∀ k, k < 3 → p k
  | 0, _ => a
  | 1, _ => b
  | 2, _ => c
  | k + 3, h => absurd h (by omega)
theorem ar2 {p : Nat → Prop} (a : p 0) (b : p 1) : ∀ k, k < 2 → p k
  | 0, _ => a
  | 1, _ => b
  | k + 2, h => absurd h (by omega)
theorem get_all {α : Type} {p : α → Prop} {X : List α} (d : α) (h : ∀ x ∈ X, p x) {i : Nat} (hi : i < X.length) : p (X.getD i d) := by
  rw [List.getD_eq_getElem?_getD, List.getElem?_eq_getElem hi]
  exact h _ (List.getElem_mem hi)

theorem usedR_len {l : List Sup} {d : List Drw} (hl : l.length ≤ 1000000) : (usedR l d).length ≤ 1000000 := by
  unfold usedR
  cases hd : drawsF l d with
  | false => simp
  | true =>
    have : (usedF l d).length = l.length := usedF_len l d
    simp only [Bool.not_true, cond_false]
    omega
theorem loadsR_len {l : List Sup} {d : List Drw} (hl : l.length ≤ 1000000) : (loadsR l d).length ≤ 1000000 := by
  unfold loadsR
  cases hd : beginF l d != 0 with
  | true => simp
  | false =>
    have : (loadsF l d).length = l.length := loadsF_len l d
    simp only [cond_false]
    omega

theorem cells4 {p : Nat → Prop} (h0 : p 0) (h1 : p 1) (h2 : p 2) (h3 : p 3) : ∀ j, j < 4 → p j := ar4 h0 h1 h2 h3
theorem leastF_len {l : List Sup} {d : List Drw} (hl : l.length ≤ 1000000) : (leastF l d).1.on.length ≤ 1000000 ∧ (leastF l d).1.lev.length ≤ 1000000 := by
  unfold leastF
  cases hb : beginF l d != 0 with
  | true => exact ⟨Nat.zero_le _, Nat.zero_le _⟩
  | false =>
    simp only [cond_false]
    have hd : drawsF l d = true := by
      unfold beginF at hb
      cases hc : checkF l != 0 with
      | true =>
        rw [hc] at hb
        rw [cond_true, hc] at hb
        cases hb
      | false =>
        rw [hc] at hb
        cases hd : drawsF l d with
        | true => rfl
        | false => rw [hd] at hb; cases hb
    have hv := vld_of hd
    have hu : (usedF l d).length = l.length := usedF_len l d
    have hll := (demF_ok hv).1.ll
    cases decide (0 ≤ (demF l d).2) || !meetsF l ⟨usedF l d, (demF l d).1.lv⟩ d with
    | true => exact ⟨Nat.zero_le _, Nat.zero_le _⟩
    | false =>
      simp only [cond_false]
      omega
theorem explainF_len (l : List Sup) (d : List Drw) : (explainF l d).1.sups.length ≤ 100 := by
  cases hd : drawsF l d with
  | true => exact explain_len hd
  | false =>
    unfold explainF
    cases hb : beginF l d != 0 with
    | true => exact Nat.zero_le _
    | false =>
      exfalso
      unfold beginF at hb
      cases hc : checkF l != 0 with
      | true =>
        rw [hc] at hb
        rw [cond_true, hc] at hb
        cases hb
      | false => rw [hc, hd] at hb; cases hb

theorem law_spec (t : List Int) (ht : I64 t) (raw : List Sup) (hraw : raw.length ≤ 1000000000) (hrb : ∀ i : Nat, i < raw.length → (raw.getD i sup0).lev.length ≤ 1000000000) (r : Rls) (d : List Drw) (c : Chn) :
    S 8 [intsV t, supsV raw, rlsV r, drwsV d, chnV c] [] (.bool true) [] := by
  obtain ⟨b0, hb0, s0⟩ := small_spec raw hraw hrb
  refine spec_of_x (ct := []) cfgOK Try.func8 rfl rfl (Nat.le_of_ble_eq_true rfl) (by decide +kernel) (Nat.le_refl _) ?_
  (conv => whnf)
  refine ⟨_, _, s0, ?_⟩; conv => whnf
  refine bcase_of (fun h => ?_) (fun h => ?_)
  · (conv => whnf)
    refine ⟨_, _, awake_spec, ?_⟩; conv => whnf
    exact ⟨rfl, trivial⟩
  · have h : ((((!b0 || decide (50 < (d.length : Int))) || decide (50 < (r.on.length : Int))) || decide (50 < (r.lev.length : Int))) || decide (30 < (c.sups.length : Int))) = false := h
    rw [Bool.or_eq_false_iff, Bool.or_eq_false_iff, Bool.or_eq_false_iff, Bool.or_eq_false_iff] at h
    have hb0 := hb0 (by simpa using h.1.1.1.1)
    have hd := of_decide_eq_false h.1.1.1.2
    have hro := of_decide_eq_false h.1.1.2
    have hrl := of_decide_eq_false h.1.2
    have hcs := of_decide_eq_false h.2
    (conv => whnf)
    refine ⟨_, _, new_spec t, ?_⟩; conv => whnf
    obtain ⟨l, t1, ht1, hl, hl1, hl2, hs1⟩ := supplies_ex (tape0_ok ht) 6 (by omega)
    refine ⟨_, _, hs1, ?_⟩; conv => whnf
    obtain ⟨a, t2, ht2, ha, ha2, hs2⟩ := draws_ex ht1 hl (by omega) 5 (by omega)
    refine ⟨_, _, hs2, ?_⟩; conv => whnf
    obtain ⟨n, ok, t3, ht3, hn, hs3⟩ := near_ex ht2 hl (by omega) ha (by omega)
    refine ⟨_, _, hs3, ?_⟩; conv => whnf
    obtain ⟨b, t4, ht4, hb, hs4⟩ := bentS_ex ht3 hl1 hl2 hl
    refine ⟨_, _, hs4, ?_⟩; conv => whnf
    have hX : ∀ x ∈ [raw, l, b], x.length ≤ 1000000 := by
      intro x hx
      simp only [List.mem_cons, List.not_mem_nil, or_false] at hx
      rcases hx with rfl | rfl | rfl <;> omega
    have hY : ∀ y ∈ [d, a], y.length ≤ 1000000 := by
      intro y hy
      simp only [List.mem_cons, List.not_mem_nil, or_false] at hy
      rcases hy with rfl | rfl <;> omega
    refine loops_intro (ct := []) cfgOK (by decide +kernel) (fun g : Nat × Tp => ⟨[(3, drwsV d), (7, .ptr 1 0 0), (9, .ptr 2 0 0), (11, .ptr 0 0 0), (12, supsV l), (13, drwsV a), (14, .ptr 3 0 0), (80, .osl 4 0 3 true), (81, iV 3), (82, iV g.1)],
        [(0, some (tapeO g.2)), (1, some (.box [boolsV r.on, intsV r.lev])), (2, some (.box [.bool c.over, intsV c.sups, iV c.first, iV c.last])), (3, some (.box [boolsV n.on, intsV n.lev])), (4, some (.row 1 3 (rowG supsV [] [raw, l, b])))], 5⟩)
      (fun g => g.1 ≤ 3 ∧ g.2.ok) (fun g => 3 - g.1) (0, t4) [(0, some 30), (1, some 0), (2, some 1), (3, some 46), (4, some 54)] ⟨Nat.zero_le _, ht4⟩
      ⟨rfl, by (repeat' (first | exact trivial | exact rfl | exact ⟨rfl, rfl⟩ | exact ⟨rfl, trivial⟩ | exact ⟨rfl, LeL.refl _, trivial⟩ | exact ⟨rfl, LeL.refl _, LeL.refl _, trivial⟩ | exact embV_le (.refl _) rfl | exact embV_leV (.refl _) rfl (Nat.lt_of_sub_pos (by exact Nat.zero_lt_succ _)) | exact ⟨rfl, rfl, rfl, rfl⟩ | exact ⟨rfl, rfl, rfl, rfl, id⟩ | exact ⟨rfl, rfl, rfl, rfl, rfl⟩ | exact ⟨rfl, rfl, rfl, rfl, nofun⟩ | exact tape_emb rfl | exact embO_le (LeL.refl _) rfl (Nat.lt_of_sub_pos (by exact Nat.zero_lt_succ _)) | exact ⟨rfl, rfl, fun _ _ => .refl _⟩ | exact embV_le (le_len (by simp)) rfl | exact ⟨rfl, rfl, rfl, by simp, nofun⟩ | exact ⟨rfl, by simp, le_app rfl (.refl _)⟩ | (refine ⟨rfl, ?_⟩; dsimp only; simp; done) | (refine ⟨rfl, ?_⟩; dsimp only; omega) | (refine ⟨rfl, ?_⟩; dsimp only; simp; omega) | refine ⟨?_, ?_⟩ | refine ⟨?_, ?_, ?_⟩)), ⟨tape_emb rfl, by (repeat' (first | exact trivial | exact rfl | exact ⟨rfl, rfl⟩ | exact ⟨rfl, trivial⟩ | exact ⟨rfl, LeL.refl _, trivial⟩ | exact ⟨rfl, LeL.refl _, LeL.refl _, trivial⟩ | exact embV_le (.refl _) rfl | exact embV_leV (.refl _) rfl (Nat.lt_of_sub_pos (by exact Nat.zero_lt_succ _)) | exact ⟨rfl, rfl, rfl, rfl⟩ | exact ⟨rfl, rfl, rfl, rfl, id⟩ | exact ⟨rfl, rfl, rfl, rfl, rfl⟩ | exact ⟨rfl, rfl, rfl, rfl, nofun⟩ | exact tape_emb rfl | exact embO_le (LeL.refl _) rfl (Nat.lt_of_sub_pos (by exact Nat.zero_lt_succ _)) | exact ⟨rfl, rfl, fun _ _ => .refl _⟩ | exact embV_le (le_len (by simp)) rfl | exact ⟨rfl, rfl, rfl, by simp, nofun⟩ | exact ⟨rfl, by simp, le_app rfl (.refl _)⟩ | (refine ⟨rfl, ?_⟩; dsimp only; simp; done) | (refine ⟨rfl, ?_⟩; dsimp only; omega) | (refine ⟨rfl, ?_⟩; dsimp only; simp; omega) | refine ⟨?_, ?_⟩ | refine ⟨?_, ?_, ?_⟩)), by (repeat' (first | exact trivial | exact rfl | exact ⟨rfl, rfl⟩ | exact ⟨rfl, trivial⟩ | exact ⟨rfl, LeL.refl _, trivial⟩ | exact ⟨rfl, LeL.refl _, LeL.refl _, trivial⟩ | exact embV_le (.refl _) rfl | exact embV_leV (.refl _) rfl (Nat.lt_of_sub_pos (by exact Nat.zero_lt_succ _)) | exact ⟨rfl, rfl, rfl, rfl⟩ | exact ⟨rfl, rfl, rfl, rfl, id⟩ | exact ⟨rfl, rfl, rfl, rfl, rfl⟩ | exact ⟨rfl, rfl, rfl, rfl, nofun⟩ | exact tape_emb rfl | exact embO_le (LeL.refl _) rfl (Nat.lt_of_sub_pos (by exact Nat.zero_lt_succ _)) | exact ⟨rfl, rfl, fun _ _ => .refl _⟩ | exact embV_le (le_len (by simp)) rfl | exact ⟨rfl, rfl, rfl, by simp, nofun⟩ | exact ⟨rfl, by simp, le_app rfl (.refl _)⟩ | (refine ⟨rfl, ?_⟩; dsimp only; simp; done) | (refine ⟨rfl, ?_⟩; dsimp only; omega) | (refine ⟨rfl, ?_⟩; dsimp only; simp; omega) | refine ⟨?_, ?_⟩ | refine ⟨?_, ?_, ?_⟩)), by (repeat' (first | exact trivial | exact rfl | exact ⟨rfl, rfl⟩ | exact ⟨rfl, trivial⟩ | exact ⟨rfl, LeL.refl _, trivial⟩ | exact ⟨rfl, LeL.refl _, LeL.refl _, trivial⟩ | exact embV_le (.refl _) rfl | exact embV_leV (.refl _) rfl (Nat.lt_of_sub_pos (by exact Nat.zero_lt_succ _)) | exact ⟨rfl, rfl, rfl, rfl⟩ | exact ⟨rfl, rfl, rfl, rfl, id⟩ | exact ⟨rfl, rfl, rfl, rfl, rfl⟩ | exact ⟨rfl, rfl, rfl, rfl, nofun⟩ | exact tape_emb rfl | exact embO_le (LeL.refl _) rfl (Nat.lt_of_sub_pos (by exact Nat.zero_lt_succ _)) | exact ⟨rfl, rfl, fun _ _ => .refl _⟩ | exact embV_le (le_len (by simp)) rfl | exact ⟨rfl, rfl, rfl, by simp, nofun⟩ | exact ⟨rfl, by simp, le_app rfl (.refl _)⟩ | (refine ⟨rfl, ?_⟩; dsimp only; simp; done) | (refine ⟨rfl, ?_⟩; dsimp only; omega) | (refine ⟨rfl, ?_⟩; dsimp only; simp; omega) | refine ⟨?_, ?_⟩ | refine ⟨?_, ?_, ?_⟩)), ⟨rfl, rfl, ar3 (.refl _) (.refl _) (.refl _)⟩, trivial⟩⟩ ?_
    have hXl : [raw, l, b].length = 3 := rfl
    generalize [raw, l, b] = X at hX hXl
    clear hs1 hs2 hs3 hs4
    intro g hg
    obtain ⟨i, tp⟩ := g
    obtain ⟨hi, hp⟩ : i ≤ 3 ∧ tp.ok := hg
    (conv => whnf)
    refine bcase_of (fun h3 => ?_) (fun h3 => ?_)
    · have hlt : i < 3 := by have := of_decide_eq_true h3; omega
      (conv => whnf)
      (refine ⟨by intros; first | omega | (unfold InI64; omega) | (unfold big; omega) | contradiction | (dsimp only at *; omega) | (dsimp only at *; unfold InI64; omega) | (dsimp only at *; unfold big; omega) | (simp only [Int.toNat_natCast]; omega) | (simp only [List.length_append, List.length_cons, List.length_nil, List.length_set]; omega), ?_⟩; conv => whnf)
      have hx := get_all (p := fun x : List Sup => x.length ≤ 1000000) [] hX (show i < X.length by omega)
      refine ⟨_, _, check_spec (X.getD i []) hx, ?_⟩; conv => whnf
      refine ⟨_, _, rcheck_spec (X.getD i []) hx, ?_⟩; conv => whnf
      refine bcase_of (fun h4 => absurd h4 (by simp)) (fun _ => ?_)
      (conv => whnf)
      refine loops_intro (ct := []) cfgOK (by decide +kernel) (fun g : Nat × Tp => ⟨[(3, drwsV d), (7, .ptr 1 0 0), (9, .ptr 2 0 0), (11, .ptr 0 0 0), (12, supsV l), (13, drwsV a), (14, .ptr 3 0 0), (80, .osl 4 0 3 true), (81, iV 3), (82, iV i), (17, supsV (X.getD i [])), (93, .osl 5 0 2 true), (94, iV 2), (95, iV g.1)],
          [(0, some (tapeO g.2)), (1, some (.box [boolsV r.on, intsV r.lev])), (2, some (.box [.bool c.over, intsV c.sups, iV c.first, iV c.last])), (3, some (.box [boolsV n.on, intsV n.lev])), (4, some (.row 1 3 (rowG supsV [] X))), (5, some (.row 1 2 (rowG drwsV [] [d, a])))], 6⟩)
        (fun g => g.1 ≤ 2 ∧ g.2.ok) (fun g => 2 - g.1) (0, tp) [(5, some 16)] ⟨Nat.zero_le _, hp⟩
        ⟨rfl, by (repeat' (first | exact trivial | exact rfl | exact ⟨rfl, rfl⟩ | exact ⟨rfl, trivial⟩ | exact ⟨rfl, LeL.refl _, trivial⟩ | exact ⟨rfl, LeL.refl _, LeL.refl _, trivial⟩ | exact embV_le (.refl _) rfl | exact embV_leV (.refl _) rfl (Nat.lt_of_sub_pos (by exact Nat.zero_lt_succ _)) | exact ⟨rfl, rfl, rfl, rfl⟩ | exact ⟨rfl, rfl, rfl, rfl, id⟩ | exact ⟨rfl, rfl, rfl, rfl, rfl⟩ | exact ⟨rfl, rfl, rfl, rfl, nofun⟩ | exact tape_emb rfl | exact embO_le (LeL.refl _) rfl (Nat.lt_of_sub_pos (by exact Nat.zero_lt_succ _)) | exact ⟨rfl, rfl, fun _ _ => .refl _⟩ | exact embV_le (le_len (by simp)) rfl | exact ⟨rfl, rfl, rfl, by simp, nofun⟩ | exact ⟨rfl, by simp, le_app rfl (.refl _)⟩ | (refine ⟨rfl, ?_⟩; dsimp only; simp; done) | (refine ⟨rfl, ?_⟩; dsimp only; omega) | (refine ⟨rfl, ?_⟩; dsimp only; simp; omega) | refine ⟨?_, ?_⟩ | refine ⟨?_, ?_, ?_⟩)), ⟨tape_emb rfl, by (repeat' (first | exact trivial | exact rfl | exact ⟨rfl, rfl⟩ | exact ⟨rfl, trivial⟩ | exact ⟨rfl, LeL.refl _, trivial⟩ | exact ⟨rfl, LeL.refl _, LeL.refl _, trivial⟩ | exact embV_le (.refl _) rfl | exact embV_leV (.refl _) rfl (Nat.lt_of_sub_pos (by exact Nat.zero_lt_succ _)) | exact ⟨rfl, rfl, rfl, rfl⟩ | exact ⟨rfl, rfl, rfl, rfl, id⟩ | exact ⟨rfl, rfl, rfl, rfl, rfl⟩ | exact ⟨rfl, rfl, rfl, rfl, nofun⟩ | exact tape_emb rfl | exact embO_le (LeL.refl _) rfl (Nat.lt_of_sub_pos (by exact Nat.zero_lt_succ _)) | exact ⟨rfl, rfl, fun _ _ => .refl _⟩ | exact embV_le (le_len (by simp)) rfl | exact ⟨rfl, rfl, rfl, by simp, nofun⟩ | exact ⟨rfl, by simp, le_app rfl (.refl _)⟩ | (refine ⟨rfl, ?_⟩; dsimp only; simp; done) | (refine ⟨rfl, ?_⟩; dsimp only; omega) | (refine ⟨rfl, ?_⟩; dsimp only; simp; omega) | refine ⟨?_, ?_⟩ | refine ⟨?_, ?_, ?_⟩)), by (repeat' (first | exact trivial | exact rfl | exact ⟨rfl, rfl⟩ | exact ⟨rfl, trivial⟩ | exact ⟨rfl, LeL.refl _, trivial⟩ | exact ⟨rfl, LeL.refl _, LeL.refl _, trivial⟩ | exact embV_le (.refl _) rfl | exact embV_leV (.refl _) rfl (Nat.lt_of_sub_pos (by exact Nat.zero_lt_succ _)) | exact ⟨rfl, rfl, rfl, rfl⟩ | exact ⟨rfl, rfl, rfl, rfl, id⟩ | exact ⟨rfl, rfl, rfl, rfl, rfl⟩ | exact ⟨rfl, rfl, rfl, rfl, nofun⟩ | exact tape_emb rfl | exact embO_le (LeL.refl _) rfl (Nat.lt_of_sub_pos (by exact Nat.zero_lt_succ _)) | exact ⟨rfl, rfl, fun _ _ => .refl _⟩ | exact embV_le (le_len (by simp)) rfl | exact ⟨rfl, rfl, rfl, by simp, nofun⟩ | exact ⟨rfl, by simp, le_app rfl (.refl _)⟩ | (refine ⟨rfl, ?_⟩; dsimp only; simp; done) | (refine ⟨rfl, ?_⟩; dsimp only; omega) | (refine ⟨rfl, ?_⟩; dsimp only; simp; omega) | refine ⟨?_, ?_⟩ | refine ⟨?_, ?_, ?_⟩)), by (repeat' (first | exact trivial | exact rfl | exact ⟨rfl, rfl⟩ | exact ⟨rfl, trivial⟩ | exact ⟨rfl, LeL.refl _, trivial⟩ | exact ⟨rfl, LeL.refl _, LeL.refl _, trivial⟩ | exact embV_le (.refl _) rfl | exact embV_leV (.refl _) rfl (Nat.lt_of_sub_pos (by exact Nat.zero_lt_succ _)) | exact ⟨rfl, rfl, rfl, rfl⟩ | exact ⟨rfl, rfl, rfl, rfl, id⟩ | exact ⟨rfl, rfl, rfl, rfl, rfl⟩ | exact ⟨rfl, rfl, rfl, rfl, nofun⟩ | exact tape_emb rfl | exact embO_le (LeL.refl _) rfl (Nat.lt_of_sub_pos (by exact Nat.zero_lt_succ _)) | exact ⟨rfl, rfl, fun _ _ => .refl _⟩ | exact embV_le (le_len (by simp)) rfl | exact ⟨rfl, rfl, rfl, by simp, nofun⟩ | exact ⟨rfl, by simp, le_app rfl (.refl _)⟩ | (refine ⟨rfl, ?_⟩; dsimp only; simp; done) | (refine ⟨rfl, ?_⟩; dsimp only; omega) | (refine ⟨rfl, ?_⟩; dsimp only; simp; omega) | refine ⟨?_, ?_⟩ | refine ⟨?_, ?_, ?_⟩)), by (repeat' (first | exact trivial | exact rfl | exact ⟨rfl, rfl⟩ | exact ⟨rfl, trivial⟩ | exact ⟨rfl, LeL.refl _, trivial⟩ | exact ⟨rfl, LeL.refl _, LeL.refl _, trivial⟩ | exact embV_le (.refl _) rfl | exact embV_leV (.refl _) rfl (Nat.lt_of_sub_pos (by exact Nat.zero_lt_succ _)) | exact ⟨rfl, rfl, rfl, rfl⟩ | exact ⟨rfl, rfl, rfl, rfl, id⟩ | exact ⟨rfl, rfl, rfl, rfl, rfl⟩ | exact ⟨rfl, rfl, rfl, rfl, nofun⟩ | exact tape_emb rfl | exact embO_le (LeL.refl _) rfl (Nat.lt_of_sub_pos (by exact Nat.zero_lt_succ _)) | exact ⟨rfl, rfl, fun _ _ => .refl _⟩ | exact embV_le (le_len (by simp)) rfl | exact ⟨rfl, rfl, rfl, by simp, nofun⟩ | exact ⟨rfl, by simp, le_app rfl (.refl _)⟩ | (refine ⟨rfl, ?_⟩; dsimp only; simp; done) | (refine ⟨rfl, ?_⟩; dsimp only; omega) | (refine ⟨rfl, ?_⟩; dsimp only; simp; omega) | refine ⟨?_, ?_⟩ | refine ⟨?_, ?_, ?_⟩)), ⟨rfl, rfl, ar2 (.refl _) (.refl _)⟩, trivial⟩⟩ ?_
      intro g hg
      obtain ⟨j, tq⟩ := g
      obtain ⟨hj, hq⟩ : j ≤ 2 ∧ tq.ok := hg
      generalize X.getD i [] = x at hx ⊢
      (conv => whnf)
      refine bcase_of (fun h5 => ?_) (fun h5 => ?_)
      · have hlt5 : j < 2 := by have := of_decide_eq_true h5; omega
        (conv => whnf)
        (refine ⟨by intros; first | omega | (unfold InI64; omega) | (unfold big; omega) | contradiction | (dsimp only at *; omega) | (dsimp only at *; unfold InI64; omega) | (dsimp only at *; unfold big; omega) | (simp only [Int.toNat_natCast]; omega) | (simp only [List.length_append, List.length_cons, List.length_nil, List.length_set]; omega), ?_⟩; conv => whnf)
        have hy := get_all (p := fun y : List Drw => y.length ≤ 1000000) [] hY (show j < [d, a].length from hlt5)
        refine ⟨_, _, Loads_spec x hx ([d, a].getD j []) hy, ?_⟩; conv => whnf
        refine ⟨_, _, rLoads_spec x hx ([d, a].getD j []) hy, ?_⟩; conv => whnf
        refine ⟨_, _, least_spec x hx ([d, a].getD j []) hy, ?_⟩; conv => whnf
        refine ⟨_, _, rleast_spec x hx ([d, a].getD j []) hy, ?_⟩; conv => whnf
        refine ⟨_, _, explain_spec x hx ([d, a].getD j []) hy, ?_⟩; conv => whnf
        refine ⟨_, _, draws_spec x hx ([d, a].getD j []) hy, ?_⟩; conv => whnf
        refine ⟨_, _, rdraws_spec x hx ([d, a].getD j []) hy, ?_⟩; conv => whnf
        refine bcase_of (fun hg => ?_) (fun hg => absurd hg (by simp))
        refine ⟨_, _, Used_spec x hx ([d, a].getD j []) hy, ?_⟩; conv => whnf
        refine bcase_of (fun hg => ?_) (fun hg => absurd hg (by simp))
        refine ⟨_, _, rUsed_spec x hx ([d, a].getD j []) hy, ?_⟩; conv => whnf
        refine ⟨_, _, fun _ => sameUsed_spec (usedR x ([d, a].getD j [])) (usedR x ([d, a].getD j [])) (usedR_len hx), ?_⟩
        (conv => whnf)
        refine ⟨_, _, fun _ => ints_spec (loadsR x ([d, a].getD j [])) (loadsR x ([d, a].getD j [])) (loadsR_len hx), ?_⟩
        (conv => whnf)
        refine ⟨_, _, fun _ => sameRails_spec (leastF x ([d, a].getD j [])).1 (leastF x ([d, a].getD j [])).1 (leastF_len hx), ?_⟩
        (conv => whnf)
        refine ⟨_, _, fun _ => explained_spec x hx ([d, a].getD j []) hy, ?_⟩
        (conv => whnf)
        refine bcase_of (fun h6 => absurd h6 (by simp [explained_eq])) (fun _ => ?_)
        (conv => whnf)
        obtain ⟨q, t5, ht5, hq1, hq2, hs5⟩ := rails_ex hq hl (by omega)
        refine ⟨_, _, hs5, ?_⟩; conv => whnf
        have hey := explainF_len x ([d, a].getD j [])
        generalize hKe : [r, n, q, (leastF x ([d, a].getD j [])).1] = KL
        have hKl : KL.length = 4 := by rw [← hKe]; rfl
        generalize (explainF x ([d, a].getD j [])).1 = e at hey ⊢
        refine loops_intro (ct := []) cfgOK (by decide +kernel) (fun z : Nat => ⟨[(3, drwsV d), (7, .ptr 1 0 0), (9, .ptr 2 0 0), (11, .ptr 0 0 0), (12, supsV l), (13, drwsV a), (14, .ptr 3 0 0), (80, .osl 4 0 3 true), (81, iV 3), (82, iV i), (17, supsV x), (93, .osl 5 0 2 true), (94, iV 2), (95, iV j), (19, drwsV ([d, a].getD j [])), (28, .ptr 6 0 0), (181, .osl 7 0 4 true), (182, iV 4), (183, iV z)],
            [(0, some (tapeO t5)), (1, some (.box [boolsV r.on, intsV r.lev])), (2, some (.box [.bool c.over, intsV c.sups, iV c.first, iV c.last])), (3, some (.box [boolsV n.on, intsV n.lev])), (4, some (.row 1 3 (rowG supsV [] X))), (5, some (.row 1 2 (rowG drwsV [] [d, a]))), (6, some (.box [.bool e.over, intsV e.sups, iV e.first, iV e.last])), (7, some (.row 2 4 (rowG rlsV rls0 KL)))], 8⟩)
          (fun z => z ≤ 4) (fun z => 4 - z) 0 [(6, some 50), (7, some 105)] (Nat.zero_le _)
          ⟨rfl, by (repeat' (first | exact trivial | exact rfl | exact ⟨rfl, rfl⟩ | exact ⟨rfl, trivial⟩ | exact ⟨rfl, LeL.refl _, trivial⟩ | exact ⟨rfl, LeL.refl _, LeL.refl _, trivial⟩ | exact embV_le (.refl _) rfl | exact embV_leV (.refl _) rfl (Nat.lt_of_sub_pos (by exact Nat.zero_lt_succ _)) | exact ⟨rfl, rfl, rfl, rfl⟩ | exact ⟨rfl, rfl, rfl, rfl, id⟩ | exact ⟨rfl, rfl, rfl, rfl, rfl⟩ | exact ⟨rfl, rfl, rfl, rfl, nofun⟩ | exact tape_emb rfl | exact embO_le (LeL.refl _) rfl (Nat.lt_of_sub_pos (by exact Nat.zero_lt_succ _)) | exact ⟨rfl, rfl, fun _ _ => .refl _⟩ | exact embV_le (le_len (by simp)) rfl | exact ⟨rfl, rfl, rfl, by simp, nofun⟩ | exact ⟨rfl, by simp, le_app rfl (.refl _)⟩ | (refine ⟨rfl, ?_⟩; dsimp only; simp; done) | (refine ⟨rfl, ?_⟩; dsimp only; omega) | (refine ⟨rfl, ?_⟩; dsimp only; simp; omega) | refine ⟨?_, ?_⟩ | refine ⟨?_, ?_, ?_⟩)), ⟨tape_emb rfl, by (repeat' (first | exact trivial | exact rfl | exact ⟨rfl, rfl⟩ | exact ⟨rfl, trivial⟩ | exact ⟨rfl, LeL.refl _, trivial⟩ | exact ⟨rfl, LeL.refl _, LeL.refl _, trivial⟩ | exact embV_le (.refl _) rfl | exact embV_leV (.refl _) rfl (Nat.lt_of_sub_pos (by exact Nat.zero_lt_succ _)) | exact ⟨rfl, rfl, rfl, rfl⟩ | exact ⟨rfl, rfl, rfl, rfl, id⟩ | exact ⟨rfl, rfl, rfl, rfl, rfl⟩ | exact ⟨rfl, rfl, rfl, rfl, nofun⟩ | exact tape_emb rfl | exact embO_le (LeL.refl _) rfl (Nat.lt_of_sub_pos (by exact Nat.zero_lt_succ _)) | exact ⟨rfl, rfl, fun _ _ => .refl _⟩ | exact embV_le (le_len (by simp)) rfl | exact ⟨rfl, rfl, rfl, by simp, nofun⟩ | exact ⟨rfl, by simp, le_app rfl (.refl _)⟩ | (refine ⟨rfl, ?_⟩; dsimp only; simp; done) | (refine ⟨rfl, ?_⟩; dsimp only; omega) | (refine ⟨rfl, ?_⟩; dsimp only; simp; omega) | refine ⟨?_, ?_⟩ | refine ⟨?_, ?_, ?_⟩)), by (repeat' (first | exact trivial | exact rfl | exact ⟨rfl, rfl⟩ | exact ⟨rfl, trivial⟩ | exact ⟨rfl, LeL.refl _, trivial⟩ | exact ⟨rfl, LeL.refl _, LeL.refl _, trivial⟩ | exact embV_le (.refl _) rfl | exact embV_leV (.refl _) rfl (Nat.lt_of_sub_pos (by exact Nat.zero_lt_succ _)) | exact ⟨rfl, rfl, rfl, rfl⟩ | exact ⟨rfl, rfl, rfl, rfl, id⟩ | exact ⟨rfl, rfl, rfl, rfl, rfl⟩ | exact ⟨rfl, rfl, rfl, rfl, nofun⟩ | exact tape_emb rfl | exact embO_le (LeL.refl _) rfl (Nat.lt_of_sub_pos (by exact Nat.zero_lt_succ _)) | exact ⟨rfl, rfl, fun _ _ => .refl _⟩ | exact embV_le (le_len (by simp)) rfl | exact ⟨rfl, rfl, rfl, by simp, nofun⟩ | exact ⟨rfl, by simp, le_app rfl (.refl _)⟩ | (refine ⟨rfl, ?_⟩; dsimp only; simp; done) | (refine ⟨rfl, ?_⟩; dsimp only; omega) | (refine ⟨rfl, ?_⟩; dsimp only; simp; omega) | refine ⟨?_, ?_⟩ | refine ⟨?_, ?_, ?_⟩)), by (repeat' (first | exact trivial | exact rfl | exact ⟨rfl, rfl⟩ | exact ⟨rfl, trivial⟩ | exact ⟨rfl, LeL.refl _, trivial⟩ | exact ⟨rfl, LeL.refl _, LeL.refl _, trivial⟩ | exact embV_le (.refl _) rfl | exact embV_leV (.refl _) rfl (Nat.lt_of_sub_pos (by exact Nat.zero_lt_succ _)) | exact ⟨rfl, rfl, rfl, rfl⟩ | exact ⟨rfl, rfl, rfl, rfl, id⟩ | exact ⟨rfl, rfl, rfl, rfl, rfl⟩ | exact ⟨rfl, rfl, rfl, rfl, nofun⟩ | exact tape_emb rfl | exact embO_le (LeL.refl _) rfl (Nat.lt_of_sub_pos (by exact Nat.zero_lt_succ _)) | exact ⟨rfl, rfl, fun _ _ => .refl _⟩ | exact embV_le (le_len (by simp)) rfl | exact ⟨rfl, rfl, rfl, by simp, nofun⟩ | exact ⟨rfl, by simp, le_app rfl (.refl _)⟩ | (refine ⟨rfl, ?_⟩; dsimp only; simp; done) | (refine ⟨rfl, ?_⟩; dsimp only; omega) | (refine ⟨rfl, ?_⟩; dsimp only; simp; omega) | refine ⟨?_, ?_⟩ | refine ⟨?_, ?_, ?_⟩)), by (repeat' (first | exact trivial | exact rfl | exact ⟨rfl, rfl⟩ | exact ⟨rfl, trivial⟩ | exact ⟨rfl, LeL.refl _, trivial⟩ | exact ⟨rfl, LeL.refl _, LeL.refl _, trivial⟩ | exact embV_le (.refl _) rfl | exact embV_leV (.refl _) rfl (Nat.lt_of_sub_pos (by exact Nat.zero_lt_succ _)) | exact ⟨rfl, rfl, rfl, rfl⟩ | exact ⟨rfl, rfl, rfl, rfl, id⟩ | exact ⟨rfl, rfl, rfl, rfl, rfl⟩ | exact ⟨rfl, rfl, rfl, rfl, nofun⟩ | exact tape_emb rfl | exact embO_le (LeL.refl _) rfl (Nat.lt_of_sub_pos (by exact Nat.zero_lt_succ _)) | exact ⟨rfl, rfl, fun _ _ => .refl _⟩ | exact embV_le (le_len (by simp)) rfl | exact ⟨rfl, rfl, rfl, by simp, nofun⟩ | exact ⟨rfl, by simp, le_app rfl (.refl _)⟩ | (refine ⟨rfl, ?_⟩; dsimp only; simp; done) | (refine ⟨rfl, ?_⟩; dsimp only; omega) | (refine ⟨rfl, ?_⟩; dsimp only; simp; omega) | refine ⟨?_, ?_⟩ | refine ⟨?_, ?_, ?_⟩)), by (repeat' (first | exact trivial | exact rfl | exact ⟨rfl, rfl⟩ | exact ⟨rfl, trivial⟩ | exact ⟨rfl, LeL.refl _, trivial⟩ | exact ⟨rfl, LeL.refl _, LeL.refl _, trivial⟩ | exact embV_le (.refl _) rfl | exact embV_leV (.refl _) rfl (Nat.lt_of_sub_pos (by exact Nat.zero_lt_succ _)) | exact ⟨rfl, rfl, rfl, rfl⟩ | exact ⟨rfl, rfl, rfl, rfl, id⟩ | exact ⟨rfl, rfl, rfl, rfl, rfl⟩ | exact ⟨rfl, rfl, rfl, rfl, nofun⟩ | exact tape_emb rfl | exact embO_le (LeL.refl _) rfl (Nat.lt_of_sub_pos (by exact Nat.zero_lt_succ _)) | exact ⟨rfl, rfl, fun _ _ => .refl _⟩ | exact embV_le (le_len (by simp)) rfl | exact ⟨rfl, rfl, rfl, by simp, nofun⟩ | exact ⟨rfl, by simp, le_app rfl (.refl _)⟩ | (refine ⟨rfl, ?_⟩; dsimp only; simp; done) | (refine ⟨rfl, ?_⟩; dsimp only; omega) | (refine ⟨rfl, ?_⟩; dsimp only; simp; omega) | refine ⟨?_, ?_⟩ | refine ⟨?_, ?_, ?_⟩)), by (repeat' (first | exact trivial | exact rfl | exact ⟨rfl, rfl⟩ | exact ⟨rfl, trivial⟩ | exact ⟨rfl, LeL.refl _, trivial⟩ | exact ⟨rfl, LeL.refl _, LeL.refl _, trivial⟩ | exact embV_le (.refl _) rfl | exact embV_leV (.refl _) rfl (Nat.lt_of_sub_pos (by exact Nat.zero_lt_succ _)) | exact ⟨rfl, rfl, rfl, rfl⟩ | exact ⟨rfl, rfl, rfl, rfl, id⟩ | exact ⟨rfl, rfl, rfl, rfl, rfl⟩ | exact ⟨rfl, rfl, rfl, rfl, nofun⟩ | exact tape_emb rfl | exact embO_le (LeL.refl _) rfl (Nat.lt_of_sub_pos (by exact Nat.zero_lt_succ _)) | exact ⟨rfl, rfl, fun _ _ => .refl _⟩ | exact embV_le (le_len (by simp)) rfl | exact ⟨rfl, rfl, rfl, by simp, nofun⟩ | exact ⟨rfl, by simp, le_app rfl (.refl _)⟩ | (refine ⟨rfl, ?_⟩; dsimp only; simp; done) | (refine ⟨rfl, ?_⟩; dsimp only; omega) | (refine ⟨rfl, ?_⟩; dsimp only; simp; omega) | refine ⟨?_, ?_⟩ | refine ⟨?_, ?_, ?_⟩)), ⟨rfl, rfl, by rw [← hKe]; exact ar4 (.refl _) (.refl _) (.refl _) (.refl _)⟩, trivial⟩⟩ ?_
        intro z hz
        (conv => whnf)
        refine bcase_of (fun h7 => ?_) (fun h7 => ?_)
        · have hlt7 : z < 4 := by have := of_decide_eq_true h7; omega
          (conv => whnf)
          (refine ⟨by intros; first | omega | (unfold InI64; omega) | (unfold big; omega) | contradiction | (dsimp only at *; omega) | (dsimp only at *; unfold InI64; omega) | (dsimp only at *; unfold big; omega) | (simp only [Int.toNat_natCast]; omega) | (simp only [List.length_append, List.length_cons, List.length_nil, List.length_set]; omega), ?_⟩; conv => whnf)
          refine ⟨_, _, rails_spec x hx (KL.getD z rls0), ?_⟩; conv => whnf
          refine ⟨_, _, rrails_spec x hx (KL.getD z rls0), ?_⟩; conv => whnf
          refine ⟨_, _, fun _ => meets_spec x hx (KL.getD z rls0) ([d, a].getD j []) hy, ?_⟩
          (conv => whnf)
          refine ⟨_, _, fun _ => rMeets_spec x hx (KL.getD z rls0) ([d, a].getD j []) hy, ?_⟩
          (conv => whnf)
          refine bcase_of (fun h8 => absurd h8 (by simp)) (fun _ => ?_)
          (conv => whnf)
          refine ⟨by unfold InI64; omega, ?_⟩; conv => whnf
          exact ⟨z + 1, [], hlt7, by show 4 - (z + 1) < 4 - z; omega, ⟨rfl, by (repeat' (first | exact trivial | exact rfl | exact ⟨rfl, rfl⟩ | exact ⟨rfl, trivial⟩ | exact ⟨rfl, LeL.refl _, trivial⟩ | exact ⟨rfl, LeL.refl _, LeL.refl _, trivial⟩ | exact embV_le (.refl _) rfl | exact embV_leV (.refl _) rfl (Nat.lt_of_sub_pos (by exact Nat.zero_lt_succ _)) | exact ⟨rfl, rfl, rfl, rfl⟩ | exact ⟨rfl, rfl, rfl, rfl, id⟩ | exact ⟨rfl, rfl, rfl, rfl, rfl⟩ | exact ⟨rfl, rfl, rfl, rfl, nofun⟩ | exact tape_emb rfl | exact embO_le (LeL.refl _) rfl (Nat.lt_of_sub_pos (by exact Nat.zero_lt_succ _)) | exact ⟨rfl, rfl, fun _ _ => .refl _⟩ | exact embV_le (le_len (by simp)) rfl | exact ⟨rfl, rfl, rfl, by simp, nofun⟩ | exact ⟨rfl, by simp, le_app rfl (.refl _)⟩ | (refine ⟨rfl, ?_⟩; dsimp only; simp; done) | (refine ⟨rfl, ?_⟩; dsimp only; omega) | (refine ⟨rfl, ?_⟩; dsimp only; simp; omega) | refine ⟨?_, ?_⟩ | refine ⟨?_, ?_, ?_⟩)), ⟨tape_emb rfl, by (repeat' (first | exact trivial | exact rfl | exact ⟨rfl, rfl⟩ | exact ⟨rfl, trivial⟩ | exact ⟨rfl, LeL.refl _, trivial⟩ | exact ⟨rfl, LeL.refl _, LeL.refl _, trivial⟩ | exact embV_le (.refl _) rfl | exact embV_leV (.refl _) rfl (Nat.lt_of_sub_pos (by exact Nat.zero_lt_succ _)) | exact ⟨rfl, rfl, rfl, rfl⟩ | exact ⟨rfl, rfl, rfl, rfl, id⟩ | exact ⟨rfl, rfl, rfl, rfl, rfl⟩ | exact ⟨rfl, rfl, rfl, rfl, nofun⟩ | exact tape_emb rfl | exact embO_le (LeL.refl _) rfl (Nat.lt_of_sub_pos (by exact Nat.zero_lt_succ _)) | exact ⟨rfl, rfl, fun _ _ => .refl _⟩ | exact embV_le (le_len (by simp)) rfl | exact ⟨rfl, rfl, rfl, by simp, nofun⟩ | exact ⟨rfl, by simp, le_app rfl (.refl _)⟩ | (refine ⟨rfl, ?_⟩; dsimp only; simp; done) | (refine ⟨rfl, ?_⟩; dsimp only; omega) | (refine ⟨rfl, ?_⟩; dsimp only; simp; omega) | refine ⟨?_, ?_⟩ | refine ⟨?_, ?_, ?_⟩)), by (repeat' (first | exact trivial | exact rfl | exact ⟨rfl, rfl⟩ | exact ⟨rfl, trivial⟩ | exact ⟨rfl, LeL.refl _, trivial⟩ | exact ⟨rfl, LeL.refl _, LeL.refl _, trivial⟩ | exact embV_le (.refl _) rfl | exact embV_leV (.refl _) rfl (Nat.lt_of_sub_pos (by exact Nat.zero_lt_succ _)) | exact ⟨rfl, rfl, rfl, rfl⟩ | exact ⟨rfl, rfl, rfl, rfl, id⟩ | exact ⟨rfl, rfl, rfl, rfl, rfl⟩ | exact ⟨rfl, rfl, rfl, rfl, nofun⟩ | exact tape_emb rfl | exact embO_le (LeL.refl _) rfl (Nat.lt_of_sub_pos (by exact Nat.zero_lt_succ _)) | exact ⟨rfl, rfl, fun _ _ => .refl _⟩ | exact embV_le (le_len (by simp)) rfl | exact ⟨rfl, rfl, rfl, by simp, nofun⟩ | exact ⟨rfl, by simp, le_app rfl (.refl _)⟩ | (refine ⟨rfl, ?_⟩; dsimp only; simp; done) | (refine ⟨rfl, ?_⟩; dsimp only; omega) | (refine ⟨rfl, ?_⟩; dsimp only; simp; omega) | refine ⟨?_, ?_⟩ | refine ⟨?_, ?_, ?_⟩)), by (repeat' (first | exact trivial | exact rfl | exact ⟨rfl, rfl⟩ | exact ⟨rfl, trivial⟩ | exact ⟨rfl, LeL.refl _, trivial⟩ | exact ⟨rfl, LeL.refl _, LeL.refl _, trivial⟩ | exact embV_le (.refl _) rfl | exact embV_leV (.refl _) rfl (Nat.lt_of_sub_pos (by exact Nat.zero_lt_succ _)) | exact ⟨rfl, rfl, rfl, rfl⟩ | exact ⟨rfl, rfl, rfl, rfl, id⟩ | exact ⟨rfl, rfl, rfl, rfl, rfl⟩ | exact ⟨rfl, rfl, rfl, rfl, nofun⟩ | exact tape_emb rfl | exact embO_le (LeL.refl _) rfl (Nat.lt_of_sub_pos (by exact Nat.zero_lt_succ _)) | exact ⟨rfl, rfl, fun _ _ => .refl _⟩ | exact embV_le (le_len (by simp)) rfl | exact ⟨rfl, rfl, rfl, by simp, nofun⟩ | exact ⟨rfl, by simp, le_app rfl (.refl _)⟩ | (refine ⟨rfl, ?_⟩; dsimp only; simp; done) | (refine ⟨rfl, ?_⟩; dsimp only; omega) | (refine ⟨rfl, ?_⟩; dsimp only; simp; omega) | refine ⟨?_, ?_⟩ | refine ⟨?_, ?_, ?_⟩)), by (repeat' (first | exact trivial | exact rfl | exact ⟨rfl, rfl⟩ | exact ⟨rfl, trivial⟩ | exact ⟨rfl, LeL.refl _, trivial⟩ | exact ⟨rfl, LeL.refl _, LeL.refl _, trivial⟩ | exact embV_le (.refl _) rfl | exact embV_leV (.refl _) rfl (Nat.lt_of_sub_pos (by exact Nat.zero_lt_succ _)) | exact ⟨rfl, rfl, rfl, rfl⟩ | exact ⟨rfl, rfl, rfl, rfl, id⟩ | exact ⟨rfl, rfl, rfl, rfl, rfl⟩ | exact ⟨rfl, rfl, rfl, rfl, nofun⟩ | exact tape_emb rfl | exact embO_le (LeL.refl _) rfl (Nat.lt_of_sub_pos (by exact Nat.zero_lt_succ _)) | exact ⟨rfl, rfl, fun _ _ => .refl _⟩ | exact embV_le (le_len (by simp)) rfl | exact ⟨rfl, rfl, rfl, by simp, nofun⟩ | exact ⟨rfl, by simp, le_app rfl (.refl _)⟩ | (refine ⟨rfl, ?_⟩; dsimp only; simp; done) | (refine ⟨rfl, ?_⟩; dsimp only; omega) | (refine ⟨rfl, ?_⟩; dsimp only; simp; omega) | refine ⟨?_, ?_⟩ | refine ⟨?_, ?_, ?_⟩)), by (repeat' (first | exact trivial | exact rfl | exact ⟨rfl, rfl⟩ | exact ⟨rfl, trivial⟩ | exact ⟨rfl, LeL.refl _, trivial⟩ | exact ⟨rfl, LeL.refl _, LeL.refl _, trivial⟩ | exact embV_le (.refl _) rfl | exact embV_leV (.refl _) rfl (Nat.lt_of_sub_pos (by exact Nat.zero_lt_succ _)) | exact ⟨rfl, rfl, rfl, rfl⟩ | exact ⟨rfl, rfl, rfl, rfl, id⟩ | exact ⟨rfl, rfl, rfl, rfl, rfl⟩ | exact ⟨rfl, rfl, rfl, rfl, nofun⟩ | exact tape_emb rfl | exact embO_le (LeL.refl _) rfl (Nat.lt_of_sub_pos (by exact Nat.zero_lt_succ _)) | exact ⟨rfl, rfl, fun _ _ => .refl _⟩ | exact embV_le (le_len (by simp)) rfl | exact ⟨rfl, rfl, rfl, by simp, nofun⟩ | exact ⟨rfl, by simp, le_app rfl (.refl _)⟩ | (refine ⟨rfl, ?_⟩; dsimp only; simp; done) | (refine ⟨rfl, ?_⟩; dsimp only; omega) | (refine ⟨rfl, ?_⟩; dsimp only; simp; omega) | refine ⟨?_, ?_⟩ | refine ⟨?_, ?_, ?_⟩)), by (repeat' (first | exact trivial | exact rfl | exact ⟨rfl, rfl⟩ | exact ⟨rfl, trivial⟩ | exact ⟨rfl, LeL.refl _, trivial⟩ | exact ⟨rfl, LeL.refl _, LeL.refl _, trivial⟩ | exact embV_le (.refl _) rfl | exact embV_leV (.refl _) rfl (Nat.lt_of_sub_pos (by exact Nat.zero_lt_succ _)) | exact ⟨rfl, rfl, rfl, rfl⟩ | exact ⟨rfl, rfl, rfl, rfl, id⟩ | exact ⟨rfl, rfl, rfl, rfl, rfl⟩ | exact ⟨rfl, rfl, rfl, rfl, nofun⟩ | exact tape_emb rfl | exact embO_le (LeL.refl _) rfl (Nat.lt_of_sub_pos (by exact Nat.zero_lt_succ _)) | exact ⟨rfl, rfl, fun _ _ => .refl _⟩ | exact embV_le (le_len (by simp)) rfl | exact ⟨rfl, rfl, rfl, by simp, nofun⟩ | exact ⟨rfl, by simp, le_app rfl (.refl _)⟩ | (refine ⟨rfl, ?_⟩; dsimp only; simp; done) | (refine ⟨rfl, ?_⟩; dsimp only; omega) | (refine ⟨rfl, ?_⟩; dsimp only; simp; omega) | refine ⟨?_, ?_⟩ | refine ⟨?_, ?_, ?_⟩)), by (repeat' (first | exact trivial | exact rfl | exact ⟨rfl, rfl⟩ | exact ⟨rfl, trivial⟩ | exact ⟨rfl, LeL.refl _, trivial⟩ | exact ⟨rfl, LeL.refl _, LeL.refl _, trivial⟩ | exact embV_le (.refl _) rfl | exact embV_leV (.refl _) rfl (Nat.lt_of_sub_pos (by exact Nat.zero_lt_succ _)) | exact ⟨rfl, rfl, rfl, rfl⟩ | exact ⟨rfl, rfl, rfl, rfl, id⟩ | exact ⟨rfl, rfl, rfl, rfl, rfl⟩ | exact ⟨rfl, rfl, rfl, rfl, nofun⟩ | exact tape_emb rfl | exact embO_le (LeL.refl _) rfl (Nat.lt_of_sub_pos (by exact Nat.zero_lt_succ _)) | exact ⟨rfl, rfl, fun _ _ => .refl _⟩ | exact embV_le (le_len (by simp)) rfl | exact ⟨rfl, rfl, rfl, by simp, nofun⟩ | exact ⟨rfl, by simp, le_app rfl (.refl _)⟩ | (refine ⟨rfl, ?_⟩; dsimp only; simp; done) | (refine ⟨rfl, ?_⟩; dsimp only; omega) | (refine ⟨rfl, ?_⟩; dsimp only; simp; omega) | refine ⟨?_, ?_⟩ | refine ⟨?_, ?_, ?_⟩)), trivial⟩⟩⟩
        · (conv => whnf)
          obtain ⟨qb, t6, ht6, hqb, hs6⟩ := bentC_ex ht5 (show e.sups.length ≤ 100000 by omega)
          refine ⟨_, _, hs6, ?_⟩; conv => whnf
          obtain ⟨v1, t7, ht7, _, _, hs7⟩ := n_ex ht6 6 (by unfold InI64; omega)
          refine ⟨_, _, hs7, ?_⟩; conv => whnf
          obtain ⟨v2, t8, ht8, _, _, hs8⟩ := range_ex ht7 (-1) 4 (by omega)
          refine ⟨_, _, hs8, ?_⟩; conv => whnf
          obtain ⟨v3, t9, ht9, _, _, hs9⟩ := range_ex ht8 (-1) 4 (by omega)
          refine ⟨_, _, hs9, ?_⟩; conv => whnf
          obtain ⟨v4, t10, ht10, _, _, hs10⟩ := n_ex ht9 6 (by unfold InI64; omega)
          refine ⟨_, _, hs10, ?_⟩; conv => whnf
          have hC : ∀ k ∈ [c, e, qb, ⟨false, [v1], v2, v3⟩, ⟨true, [v4], -1, -1⟩], k.sups.length ≤ 1000000 := by
            intro k hk
            simp only [List.mem_cons, List.not_mem_nil, or_false] at hk
            rcases hk with rfl | rfl | rfl | rfl | rfl
            · omega
            · omega
            · omega
            · show 1 ≤ 1000000; omega
            · show 1 ≤ 1000000; omega
          refine loops_intro (ct := []) cfgOK (by decide +kernel) (fun z : Nat => ⟨[(3, drwsV d), (7, .ptr 1 0 0), (9, .ptr 2 0 0), (11, .ptr 0 0 0), (12, supsV l), (13, drwsV a), (14, .ptr 3 0 0), (80, .osl 4 0 3 true), (81, iV 3), (82, iV i), (17, supsV x), (93, .osl 5 0 2 true), (94, iV 2), (95, iV j), (19, drwsV ([d, a].getD j [])), (223, .osl 6 0 5 true), (224, iV 5), (225, iV z)],
              [(0, some (tapeO t10)), (1, some (.box [boolsV r.on, intsV r.lev])), (2, some (.box [.bool c.over, intsV c.sups, iV c.first, iV c.last])), (3, some (.box [boolsV n.on, intsV n.lev])), (4, some (.row 1 3 (rowG supsV [] X))), (5, some (.row 1 2 (rowG drwsV [] [d, a]))), (6, some (.row 4 5 (rowG chnV chn0 [c, e, qb, ⟨false, [v1], v2, v3⟩, ⟨true, [v4], -1, -1⟩])))], 7⟩)
            (fun z => z ≤ 5) (fun z => 5 - z) 0 [(6, some 26)] (Nat.zero_le _)
            ⟨rfl, by (repeat' (first | exact trivial | exact rfl | exact ⟨rfl, rfl⟩ | exact ⟨rfl, trivial⟩ | exact ⟨rfl, LeL.refl _, trivial⟩ | exact ⟨rfl, LeL.refl _, LeL.refl _, trivial⟩ | exact embV_le (.refl _) rfl | exact embV_leV (.refl _) rfl (Nat.lt_of_sub_pos (by exact Nat.zero_lt_succ _)) | exact ⟨rfl, rfl, rfl, rfl⟩ | exact ⟨rfl, rfl, rfl, rfl, id⟩ | exact ⟨rfl, rfl, rfl, rfl, rfl⟩ | exact ⟨rfl, rfl, rfl, rfl, nofun⟩ | exact tape_emb rfl | exact embO_le (LeL.refl _) rfl (Nat.lt_of_sub_pos (by exact Nat.zero_lt_succ _)) | exact ⟨rfl, rfl, fun _ _ => .refl _⟩ | exact embV_le (le_len (by simp)) rfl | exact ⟨rfl, rfl, rfl, by simp, nofun⟩ | exact ⟨rfl, by simp, le_app rfl (.refl _)⟩ | (refine ⟨rfl, ?_⟩; dsimp only; simp; done) | (refine ⟨rfl, ?_⟩; dsimp only; omega) | (refine ⟨rfl, ?_⟩; dsimp only; simp; omega) | refine ⟨?_, ?_⟩ | refine ⟨?_, ?_, ?_⟩)), ⟨tape_emb rfl, by (repeat' (first | exact trivial | exact rfl | exact ⟨rfl, rfl⟩ | exact ⟨rfl, trivial⟩ | exact ⟨rfl, LeL.refl _, trivial⟩ | exact ⟨rfl, LeL.refl _, LeL.refl _, trivial⟩ | exact embV_le (.refl _) rfl | exact embV_leV (.refl _) rfl (Nat.lt_of_sub_pos (by exact Nat.zero_lt_succ _)) | exact ⟨rfl, rfl, rfl, rfl⟩ | exact ⟨rfl, rfl, rfl, rfl, id⟩ | exact ⟨rfl, rfl, rfl, rfl, rfl⟩ | exact ⟨rfl, rfl, rfl, rfl, nofun⟩ | exact tape_emb rfl | exact embO_le (LeL.refl _) rfl (Nat.lt_of_sub_pos (by exact Nat.zero_lt_succ _)) | exact ⟨rfl, rfl, fun _ _ => .refl _⟩ | exact embV_le (le_len (by simp)) rfl | exact ⟨rfl, rfl, rfl, by simp, nofun⟩ | exact ⟨rfl, by simp, le_app rfl (.refl _)⟩ | (refine ⟨rfl, ?_⟩; dsimp only; simp; done) | (refine ⟨rfl, ?_⟩; dsimp only; omega) | (refine ⟨rfl, ?_⟩; dsimp only; simp; omega) | refine ⟨?_, ?_⟩ | refine ⟨?_, ?_, ?_⟩)), by (repeat' (first | exact trivial | exact rfl | exact ⟨rfl, rfl⟩ | exact ⟨rfl, trivial⟩ | exact ⟨rfl, LeL.refl _, trivial⟩ | exact ⟨rfl, LeL.refl _, LeL.refl _, trivial⟩ | exact embV_le (.refl _) rfl | exact embV_leV (.refl _) rfl (Nat.lt_of_sub_pos (by exact Nat.zero_lt_succ _)) | exact ⟨rfl, rfl, rfl, rfl⟩ | exact ⟨rfl, rfl, rfl, rfl, id⟩ | exact ⟨rfl, rfl, rfl, rfl, rfl⟩ | exact ⟨rfl, rfl, rfl, rfl, nofun⟩ | exact tape_emb rfl | exact embO_le (LeL.refl _) rfl (Nat.lt_of_sub_pos (by exact Nat.zero_lt_succ _)) | exact ⟨rfl, rfl, fun _ _ => .refl _⟩ | exact embV_le (le_len (by simp)) rfl | exact ⟨rfl, rfl, rfl, by simp, nofun⟩ | exact ⟨rfl, by simp, le_app rfl (.refl _)⟩ | (refine ⟨rfl, ?_⟩; dsimp only; simp; done) | (refine ⟨rfl, ?_⟩; dsimp only; omega) | (refine ⟨rfl, ?_⟩; dsimp only; simp; omega) | refine ⟨?_, ?_⟩ | refine ⟨?_, ?_, ?_⟩)), by (repeat' (first | exact trivial | exact rfl | exact ⟨rfl, rfl⟩ | exact ⟨rfl, trivial⟩ | exact ⟨rfl, LeL.refl _, trivial⟩ | exact ⟨rfl, LeL.refl _, LeL.refl _, trivial⟩ | exact embV_le (.refl _) rfl | exact embV_leV (.refl _) rfl (Nat.lt_of_sub_pos (by exact Nat.zero_lt_succ _)) | exact ⟨rfl, rfl, rfl, rfl⟩ | exact ⟨rfl, rfl, rfl, rfl, id⟩ | exact ⟨rfl, rfl, rfl, rfl, rfl⟩ | exact ⟨rfl, rfl, rfl, rfl, nofun⟩ | exact tape_emb rfl | exact embO_le (LeL.refl _) rfl (Nat.lt_of_sub_pos (by exact Nat.zero_lt_succ _)) | exact ⟨rfl, rfl, fun _ _ => .refl _⟩ | exact embV_le (le_len (by simp)) rfl | exact ⟨rfl, rfl, rfl, by simp, nofun⟩ | exact ⟨rfl, by simp, le_app rfl (.refl _)⟩ | (refine ⟨rfl, ?_⟩; dsimp only; simp; done) | (refine ⟨rfl, ?_⟩; dsimp only; omega) | (refine ⟨rfl, ?_⟩; dsimp only; simp; omega) | refine ⟨?_, ?_⟩ | refine ⟨?_, ?_, ?_⟩)), by (repeat' (first | exact trivial | exact rfl | exact ⟨rfl, rfl⟩ | exact ⟨rfl, trivial⟩ | exact ⟨rfl, LeL.refl _, trivial⟩ | exact ⟨rfl, LeL.refl _, LeL.refl _, trivial⟩ | exact embV_le (.refl _) rfl | exact embV_leV (.refl _) rfl (Nat.lt_of_sub_pos (by exact Nat.zero_lt_succ _)) | exact ⟨rfl, rfl, rfl, rfl⟩ | exact ⟨rfl, rfl, rfl, rfl, id⟩ | exact ⟨rfl, rfl, rfl, rfl, rfl⟩ | exact ⟨rfl, rfl, rfl, rfl, nofun⟩ | exact tape_emb rfl | exact embO_le (LeL.refl _) rfl (Nat.lt_of_sub_pos (by exact Nat.zero_lt_succ _)) | exact ⟨rfl, rfl, fun _ _ => .refl _⟩ | exact embV_le (le_len (by simp)) rfl | exact ⟨rfl, rfl, rfl, by simp, nofun⟩ | exact ⟨rfl, by simp, le_app rfl (.refl _)⟩ | (refine ⟨rfl, ?_⟩; dsimp only; simp; done) | (refine ⟨rfl, ?_⟩; dsimp only; omega) | (refine ⟨rfl, ?_⟩; dsimp only; simp; omega) | refine ⟨?_, ?_⟩ | refine ⟨?_, ?_, ?_⟩)), by (repeat' (first | exact trivial | exact rfl | exact ⟨rfl, rfl⟩ | exact ⟨rfl, trivial⟩ | exact ⟨rfl, LeL.refl _, trivial⟩ | exact ⟨rfl, LeL.refl _, LeL.refl _, trivial⟩ | exact embV_le (.refl _) rfl | exact embV_leV (.refl _) rfl (Nat.lt_of_sub_pos (by exact Nat.zero_lt_succ _)) | exact ⟨rfl, rfl, rfl, rfl⟩ | exact ⟨rfl, rfl, rfl, rfl, id⟩ | exact ⟨rfl, rfl, rfl, rfl, rfl⟩ | exact ⟨rfl, rfl, rfl, rfl, nofun⟩ | exact tape_emb rfl | exact embO_le (LeL.refl _) rfl (Nat.lt_of_sub_pos (by exact Nat.zero_lt_succ _)) | exact ⟨rfl, rfl, fun _ _ => .refl _⟩ | exact embV_le (le_len (by simp)) rfl | exact ⟨rfl, rfl, rfl, by simp, nofun⟩ | exact ⟨rfl, by simp, le_app rfl (.refl _)⟩ | (refine ⟨rfl, ?_⟩; dsimp only; simp; done) | (refine ⟨rfl, ?_⟩; dsimp only; omega) | (refine ⟨rfl, ?_⟩; dsimp only; simp; omega) | refine ⟨?_, ?_⟩ | refine ⟨?_, ?_, ?_⟩)), ⟨rfl, rfl, ar5 (.refl _) (.refl _) (.refl _) (.agg rfl (cells4 (.refl _) (.sl rfl (fun _ => rfl) nofun (le_one1 v1)) (.refl _) (.refl _))) (.agg rfl (cells4 (.refl _) (.sl rfl (fun _ => rfl) nofun (le_one1 v4)) (.refl _) (.refl _)))⟩, trivial⟩⟩ ?_
          have hCl : [c, e, qb, ⟨false, [v1], v2, v3⟩, ⟨true, [v4], -1, -1⟩].length = 5 := rfl
          generalize [c, e, qb, ⟨false, [v1], v2, v3⟩, ⟨true, [v4], -1, -1⟩] = CL at hC hCl
          intro z hz
          (conv => whnf)
          refine bcase_of (fun h9 => ?_) (fun h9 => ?_)
          · have hlt9 : z < 5 := by have := of_decide_eq_true h9; omega
            have hk := get_all (p := fun k : Chn => k.sups.length ≤ 1000000) chn0 hC (show z < CL.length by omega)
            (conv => whnf)
            (refine ⟨by intros; first | omega | (unfold InI64; omega) | (unfold big; omega) | contradiction | (dsimp only at *; omega) | (dsimp only at *; unfold InI64; omega) | (dsimp only at *; unfold big; omega) | (simp only [Int.toNat_natCast]; omega) | (simp only [List.length_append, List.length_cons, List.length_nil, List.length_set]; omega), ?_⟩; conv => whnf)
            refine ⟨_, _, chain2_spec x hx ([d, a].getD j []) hy (CL.getD z chn0) hk, ?_⟩; conv => whnf
            refine ⟨_, _, rchain_spec x hx ([d, a].getD j []) hy (CL.getD z chn0) hk, ?_⟩; conv => whnf
            refine bcase_of (fun h10 => absurd h10 (by simp [pchk_eq])) (fun _ => ?_)
            (conv => whnf)
            refine ⟨by unfold InI64; omega, ?_⟩; conv => whnf
            exact ⟨z + 1, [], hlt9, by show 5 - (z + 1) < 5 - z; omega, ⟨rfl, by (repeat' (first | exact trivial | exact rfl | exact ⟨rfl, rfl⟩ | exact ⟨rfl, trivial⟩ | exact ⟨rfl, LeL.refl _, trivial⟩ | exact ⟨rfl, LeL.refl _, LeL.refl _, trivial⟩ | exact embV_le (.refl _) rfl | exact embV_leV (.refl _) rfl (Nat.lt_of_sub_pos (by exact Nat.zero_lt_succ _)) | exact ⟨rfl, rfl, rfl, rfl⟩ | exact ⟨rfl, rfl, rfl, rfl, id⟩ | exact ⟨rfl, rfl, rfl, rfl, rfl⟩ | exact ⟨rfl, rfl, rfl, rfl, nofun⟩ | exact tape_emb rfl | exact embO_le (LeL.refl _) rfl (Nat.lt_of_sub_pos (by exact Nat.zero_lt_succ _)) | exact ⟨rfl, rfl, fun _ _ => .refl _⟩ | exact embV_le (le_len (by simp)) rfl | exact ⟨rfl, rfl, rfl, by simp, nofun⟩ | exact ⟨rfl, by simp, le_app rfl (.refl _)⟩ | (refine ⟨rfl, ?_⟩; dsimp only; simp; done) | (refine ⟨rfl, ?_⟩; dsimp only; omega) | (refine ⟨rfl, ?_⟩; dsimp only; simp; omega) | refine ⟨?_, ?_⟩ | refine ⟨?_, ?_, ?_⟩)), ⟨tape_emb rfl, by (repeat' (first | exact trivial | exact rfl | exact ⟨rfl, rfl⟩ | exact ⟨rfl, trivial⟩ | exact ⟨rfl, LeL.refl _, trivial⟩ | exact ⟨rfl, LeL.refl _, LeL.refl _, trivial⟩ | exact embV_le (.refl _) rfl | exact embV_leV (.refl _) rfl (Nat.lt_of_sub_pos (by exact Nat.zero_lt_succ _)) | exact ⟨rfl, rfl, rfl, rfl⟩ | exact ⟨rfl, rfl, rfl, rfl, id⟩ | exact ⟨rfl, rfl, rfl, rfl, rfl⟩ | exact ⟨rfl, rfl, rfl, rfl, nofun⟩ | exact tape_emb rfl | exact embO_le (LeL.refl _) rfl (Nat.lt_of_sub_pos (by exact Nat.zero_lt_succ _)) | exact ⟨rfl, rfl, fun _ _ => .refl _⟩ | exact embV_le (le_len (by simp)) rfl | exact ⟨rfl, rfl, rfl, by simp, nofun⟩ | exact ⟨rfl, by simp, le_app rfl (.refl _)⟩ | (refine ⟨rfl, ?_⟩; dsimp only; simp; done) | (refine ⟨rfl, ?_⟩; dsimp only; omega) | (refine ⟨rfl, ?_⟩; dsimp only; simp; omega) | refine ⟨?_, ?_⟩ | refine ⟨?_, ?_, ?_⟩)), by (repeat' (first | exact trivial | exact rfl | exact ⟨rfl, rfl⟩ | exact ⟨rfl, trivial⟩ | exact ⟨rfl, LeL.refl _, trivial⟩ | exact ⟨rfl, LeL.refl _, LeL.refl _, trivial⟩ | exact embV_le (.refl _) rfl | exact embV_leV (.refl _) rfl (Nat.lt_of_sub_pos (by exact Nat.zero_lt_succ _)) | exact ⟨rfl, rfl, rfl, rfl⟩ | exact ⟨rfl, rfl, rfl, rfl, id⟩ | exact ⟨rfl, rfl, rfl, rfl, rfl⟩ | exact ⟨rfl, rfl, rfl, rfl, nofun⟩ | exact tape_emb rfl | exact embO_le (LeL.refl _) rfl (Nat.lt_of_sub_pos (by exact Nat.zero_lt_succ _)) | exact ⟨rfl, rfl, fun _ _ => .refl _⟩ | exact embV_le (le_len (by simp)) rfl | exact ⟨rfl, rfl, rfl, by simp, nofun⟩ | exact ⟨rfl, by simp, le_app rfl (.refl _)⟩ | (refine ⟨rfl, ?_⟩; dsimp only; simp; done) | (refine ⟨rfl, ?_⟩; dsimp only; omega) | (refine ⟨rfl, ?_⟩; dsimp only; simp; omega) | refine ⟨?_, ?_⟩ | refine ⟨?_, ?_, ?_⟩)), by (repeat' (first | exact trivial | exact rfl | exact ⟨rfl, rfl⟩ | exact ⟨rfl, trivial⟩ | exact ⟨rfl, LeL.refl _, trivial⟩ | exact ⟨rfl, LeL.refl _, LeL.refl _, trivial⟩ | exact embV_le (.refl _) rfl | exact embV_leV (.refl _) rfl (Nat.lt_of_sub_pos (by exact Nat.zero_lt_succ _)) | exact ⟨rfl, rfl, rfl, rfl⟩ | exact ⟨rfl, rfl, rfl, rfl, id⟩ | exact ⟨rfl, rfl, rfl, rfl, rfl⟩ | exact ⟨rfl, rfl, rfl, rfl, nofun⟩ | exact tape_emb rfl | exact embO_le (LeL.refl _) rfl (Nat.lt_of_sub_pos (by exact Nat.zero_lt_succ _)) | exact ⟨rfl, rfl, fun _ _ => .refl _⟩ | exact embV_le (le_len (by simp)) rfl | exact ⟨rfl, rfl, rfl, by simp, nofun⟩ | exact ⟨rfl, by simp, le_app rfl (.refl _)⟩ | (refine ⟨rfl, ?_⟩; dsimp only; simp; done) | (refine ⟨rfl, ?_⟩; dsimp only; omega) | (refine ⟨rfl, ?_⟩; dsimp only; simp; omega) | refine ⟨?_, ?_⟩ | refine ⟨?_, ?_, ?_⟩)), by (repeat' (first | exact trivial | exact rfl | exact ⟨rfl, rfl⟩ | exact ⟨rfl, trivial⟩ | exact ⟨rfl, LeL.refl _, trivial⟩ | exact ⟨rfl, LeL.refl _, LeL.refl _, trivial⟩ | exact embV_le (.refl _) rfl | exact embV_leV (.refl _) rfl (Nat.lt_of_sub_pos (by exact Nat.zero_lt_succ _)) | exact ⟨rfl, rfl, rfl, rfl⟩ | exact ⟨rfl, rfl, rfl, rfl, id⟩ | exact ⟨rfl, rfl, rfl, rfl, rfl⟩ | exact ⟨rfl, rfl, rfl, rfl, nofun⟩ | exact tape_emb rfl | exact embO_le (LeL.refl _) rfl (Nat.lt_of_sub_pos (by exact Nat.zero_lt_succ _)) | exact ⟨rfl, rfl, fun _ _ => .refl _⟩ | exact embV_le (le_len (by simp)) rfl | exact ⟨rfl, rfl, rfl, by simp, nofun⟩ | exact ⟨rfl, by simp, le_app rfl (.refl _)⟩ | (refine ⟨rfl, ?_⟩; dsimp only; simp; done) | (refine ⟨rfl, ?_⟩; dsimp only; omega) | (refine ⟨rfl, ?_⟩; dsimp only; simp; omega) | refine ⟨?_, ?_⟩ | refine ⟨?_, ?_, ?_⟩)), by (repeat' (first | exact trivial | exact rfl | exact ⟨rfl, rfl⟩ | exact ⟨rfl, trivial⟩ | exact ⟨rfl, LeL.refl _, trivial⟩ | exact ⟨rfl, LeL.refl _, LeL.refl _, trivial⟩ | exact embV_le (.refl _) rfl | exact embV_leV (.refl _) rfl (Nat.lt_of_sub_pos (by exact Nat.zero_lt_succ _)) | exact ⟨rfl, rfl, rfl, rfl⟩ | exact ⟨rfl, rfl, rfl, rfl, id⟩ | exact ⟨rfl, rfl, rfl, rfl, rfl⟩ | exact ⟨rfl, rfl, rfl, rfl, nofun⟩ | exact tape_emb rfl | exact embO_le (LeL.refl _) rfl (Nat.lt_of_sub_pos (by exact Nat.zero_lt_succ _)) | exact ⟨rfl, rfl, fun _ _ => .refl _⟩ | exact embV_le (le_len (by simp)) rfl | exact ⟨rfl, rfl, rfl, by simp, nofun⟩ | exact ⟨rfl, by simp, le_app rfl (.refl _)⟩ | (refine ⟨rfl, ?_⟩; dsimp only; simp; done) | (refine ⟨rfl, ?_⟩; dsimp only; omega) | (refine ⟨rfl, ?_⟩; dsimp only; simp; omega) | refine ⟨?_, ?_⟩ | refine ⟨?_, ?_, ?_⟩)), by (repeat' (first | exact trivial | exact rfl | exact ⟨rfl, rfl⟩ | exact ⟨rfl, trivial⟩ | exact ⟨rfl, LeL.refl _, trivial⟩ | exact ⟨rfl, LeL.refl _, LeL.refl _, trivial⟩ | exact embV_le (.refl _) rfl | exact embV_leV (.refl _) rfl (Nat.lt_of_sub_pos (by exact Nat.zero_lt_succ _)) | exact ⟨rfl, rfl, rfl, rfl⟩ | exact ⟨rfl, rfl, rfl, rfl, id⟩ | exact ⟨rfl, rfl, rfl, rfl, rfl⟩ | exact ⟨rfl, rfl, rfl, rfl, nofun⟩ | exact tape_emb rfl | exact embO_le (LeL.refl _) rfl (Nat.lt_of_sub_pos (by exact Nat.zero_lt_succ _)) | exact ⟨rfl, rfl, fun _ _ => .refl _⟩ | exact embV_le (le_len (by simp)) rfl | exact ⟨rfl, rfl, rfl, by simp, nofun⟩ | exact ⟨rfl, by simp, le_app rfl (.refl _)⟩ | (refine ⟨rfl, ?_⟩; dsimp only; simp; done) | (refine ⟨rfl, ?_⟩; dsimp only; omega) | (refine ⟨rfl, ?_⟩; dsimp only; simp; omega) | refine ⟨?_, ?_⟩ | refine ⟨?_, ?_, ?_⟩)), trivial⟩⟩⟩
          · (conv => whnf)
            refine ⟨by unfold InI64; omega, ?_⟩; conv => whnf
            exact ⟨(j + 1, t10), [], ⟨hlt5, ht10⟩, by show 2 - (j + 1) < 2 - j; omega, ⟨rfl, by (repeat' (first | exact trivial | exact rfl | exact ⟨rfl, rfl⟩ | exact ⟨rfl, trivial⟩ | exact ⟨rfl, LeL.refl _, trivial⟩ | exact ⟨rfl, LeL.refl _, LeL.refl _, trivial⟩ | exact embV_le (.refl _) rfl | exact embV_leV (.refl _) rfl (Nat.lt_of_sub_pos (by exact Nat.zero_lt_succ _)) | exact ⟨rfl, rfl, rfl, rfl⟩ | exact ⟨rfl, rfl, rfl, rfl, id⟩ | exact ⟨rfl, rfl, rfl, rfl, rfl⟩ | exact ⟨rfl, rfl, rfl, rfl, nofun⟩ | exact tape_emb rfl | exact embO_le (LeL.refl _) rfl (Nat.lt_of_sub_pos (by exact Nat.zero_lt_succ _)) | exact ⟨rfl, rfl, fun _ _ => .refl _⟩ | exact embV_le (le_len (by simp)) rfl | exact ⟨rfl, rfl, rfl, by simp, nofun⟩ | exact ⟨rfl, by simp, le_app rfl (.refl _)⟩ | (refine ⟨rfl, ?_⟩; dsimp only; simp; done) | (refine ⟨rfl, ?_⟩; dsimp only; omega) | (refine ⟨rfl, ?_⟩; dsimp only; simp; omega) | refine ⟨?_, ?_⟩ | refine ⟨?_, ?_, ?_⟩)), ⟨tape_emb rfl, by (repeat' (first | exact trivial | exact rfl | exact ⟨rfl, rfl⟩ | exact ⟨rfl, trivial⟩ | exact ⟨rfl, LeL.refl _, trivial⟩ | exact ⟨rfl, LeL.refl _, LeL.refl _, trivial⟩ | exact embV_le (.refl _) rfl | exact embV_leV (.refl _) rfl (Nat.lt_of_sub_pos (by exact Nat.zero_lt_succ _)) | exact ⟨rfl, rfl, rfl, rfl⟩ | exact ⟨rfl, rfl, rfl, rfl, id⟩ | exact ⟨rfl, rfl, rfl, rfl, rfl⟩ | exact ⟨rfl, rfl, rfl, rfl, nofun⟩ | exact tape_emb rfl | exact embO_le (LeL.refl _) rfl (Nat.lt_of_sub_pos (by exact Nat.zero_lt_succ _)) | exact ⟨rfl, rfl, fun _ _ => .refl _⟩ | exact embV_le (le_len (by simp)) rfl | exact ⟨rfl, rfl, rfl, by simp, nofun⟩ | exact ⟨rfl, by simp, le_app rfl (.refl _)⟩ | (refine ⟨rfl, ?_⟩; dsimp only; simp; done) | (refine ⟨rfl, ?_⟩; dsimp only; omega) | (refine ⟨rfl, ?_⟩; dsimp only; simp; omega) | refine ⟨?_, ?_⟩ | refine ⟨?_, ?_, ?_⟩)), by (repeat' (first | exact trivial | exact rfl | exact ⟨rfl, rfl⟩ | exact ⟨rfl, trivial⟩ | exact ⟨rfl, LeL.refl _, trivial⟩ | exact ⟨rfl, LeL.refl _, LeL.refl _, trivial⟩ | exact embV_le (.refl _) rfl | exact embV_leV (.refl _) rfl (Nat.lt_of_sub_pos (by exact Nat.zero_lt_succ _)) | exact ⟨rfl, rfl, rfl, rfl⟩ | exact ⟨rfl, rfl, rfl, rfl, id⟩ | exact ⟨rfl, rfl, rfl, rfl, rfl⟩ | exact ⟨rfl, rfl, rfl, rfl, nofun⟩ | exact tape_emb rfl | exact embO_le (LeL.refl _) rfl (Nat.lt_of_sub_pos (by exact Nat.zero_lt_succ _)) | exact ⟨rfl, rfl, fun _ _ => .refl _⟩ | exact embV_le (le_len (by simp)) rfl | exact ⟨rfl, rfl, rfl, by simp, nofun⟩ | exact ⟨rfl, by simp, le_app rfl (.refl _)⟩ | (refine ⟨rfl, ?_⟩; dsimp only; simp; done) | (refine ⟨rfl, ?_⟩; dsimp only; omega) | (refine ⟨rfl, ?_⟩; dsimp only; simp; omega) | refine ⟨?_, ?_⟩ | refine ⟨?_, ?_, ?_⟩)), by (repeat' (first | exact trivial | exact rfl | exact ⟨rfl, rfl⟩ | exact ⟨rfl, trivial⟩ | exact ⟨rfl, LeL.refl _, trivial⟩ | exact ⟨rfl, LeL.refl _, LeL.refl _, trivial⟩ | exact embV_le (.refl _) rfl | exact embV_leV (.refl _) rfl (Nat.lt_of_sub_pos (by exact Nat.zero_lt_succ _)) | exact ⟨rfl, rfl, rfl, rfl⟩ | exact ⟨rfl, rfl, rfl, rfl, id⟩ | exact ⟨rfl, rfl, rfl, rfl, rfl⟩ | exact ⟨rfl, rfl, rfl, rfl, nofun⟩ | exact tape_emb rfl | exact embO_le (LeL.refl _) rfl (Nat.lt_of_sub_pos (by exact Nat.zero_lt_succ _)) | exact ⟨rfl, rfl, fun _ _ => .refl _⟩ | exact embV_le (le_len (by simp)) rfl | exact ⟨rfl, rfl, rfl, by simp, nofun⟩ | exact ⟨rfl, by simp, le_app rfl (.refl _)⟩ | (refine ⟨rfl, ?_⟩; dsimp only; simp; done) | (refine ⟨rfl, ?_⟩; dsimp only; omega) | (refine ⟨rfl, ?_⟩; dsimp only; simp; omega) | refine ⟨?_, ?_⟩ | refine ⟨?_, ?_, ?_⟩)), by (repeat' (first | exact trivial | exact rfl | exact ⟨rfl, rfl⟩ | exact ⟨rfl, trivial⟩ | exact ⟨rfl, LeL.refl _, trivial⟩ | exact ⟨rfl, LeL.refl _, LeL.refl _, trivial⟩ | exact embV_le (.refl _) rfl | exact embV_leV (.refl _) rfl (Nat.lt_of_sub_pos (by exact Nat.zero_lt_succ _)) | exact ⟨rfl, rfl, rfl, rfl⟩ | exact ⟨rfl, rfl, rfl, rfl, id⟩ | exact ⟨rfl, rfl, rfl, rfl, rfl⟩ | exact ⟨rfl, rfl, rfl, rfl, nofun⟩ | exact tape_emb rfl | exact embO_le (LeL.refl _) rfl (Nat.lt_of_sub_pos (by exact Nat.zero_lt_succ _)) | exact ⟨rfl, rfl, fun _ _ => .refl _⟩ | exact embV_le (le_len (by simp)) rfl | exact ⟨rfl, rfl, rfl, by simp, nofun⟩ | exact ⟨rfl, by simp, le_app rfl (.refl _)⟩ | (refine ⟨rfl, ?_⟩; dsimp only; simp; done) | (refine ⟨rfl, ?_⟩; dsimp only; omega) | (refine ⟨rfl, ?_⟩; dsimp only; simp; omega) | refine ⟨?_, ?_⟩ | refine ⟨?_, ?_, ?_⟩)), by (repeat' (first | exact trivial | exact rfl | exact ⟨rfl, rfl⟩ | exact ⟨rfl, trivial⟩ | exact ⟨rfl, LeL.refl _, trivial⟩ | exact ⟨rfl, LeL.refl _, LeL.refl _, trivial⟩ | exact embV_le (.refl _) rfl | exact embV_leV (.refl _) rfl (Nat.lt_of_sub_pos (by exact Nat.zero_lt_succ _)) | exact ⟨rfl, rfl, rfl, rfl⟩ | exact ⟨rfl, rfl, rfl, rfl, id⟩ | exact ⟨rfl, rfl, rfl, rfl, rfl⟩ | exact ⟨rfl, rfl, rfl, rfl, nofun⟩ | exact tape_emb rfl | exact embO_le (LeL.refl _) rfl (Nat.lt_of_sub_pos (by exact Nat.zero_lt_succ _)) | exact ⟨rfl, rfl, fun _ _ => .refl _⟩ | exact embV_le (le_len (by simp)) rfl | exact ⟨rfl, rfl, rfl, by simp, nofun⟩ | exact ⟨rfl, by simp, le_app rfl (.refl _)⟩ | (refine ⟨rfl, ?_⟩; dsimp only; simp; done) | (refine ⟨rfl, ?_⟩; dsimp only; omega) | (refine ⟨rfl, ?_⟩; dsimp only; simp; omega) | refine ⟨?_, ?_⟩ | refine ⟨?_, ?_, ?_⟩)), trivial⟩⟩⟩
      · (conv => whnf)
        refine ⟨by unfold InI64; omega, ?_⟩; conv => whnf
        exact ⟨(i + 1, tq), [], ⟨hlt, hq⟩, by show 3 - (i + 1) < 3 - i; omega, ⟨rfl, by (repeat' (first | exact trivial | exact rfl | exact ⟨rfl, rfl⟩ | exact ⟨rfl, trivial⟩ | exact ⟨rfl, LeL.refl _, trivial⟩ | exact ⟨rfl, LeL.refl _, LeL.refl _, trivial⟩ | exact embV_le (.refl _) rfl | exact embV_leV (.refl _) rfl (Nat.lt_of_sub_pos (by exact Nat.zero_lt_succ _)) | exact ⟨rfl, rfl, rfl, rfl⟩ | exact ⟨rfl, rfl, rfl, rfl, id⟩ | exact ⟨rfl, rfl, rfl, rfl, rfl⟩ | exact ⟨rfl, rfl, rfl, rfl, nofun⟩ | exact tape_emb rfl | exact embO_le (LeL.refl _) rfl (Nat.lt_of_sub_pos (by exact Nat.zero_lt_succ _)) | exact ⟨rfl, rfl, fun _ _ => .refl _⟩ | exact embV_le (le_len (by simp)) rfl | exact ⟨rfl, rfl, rfl, by simp, nofun⟩ | exact ⟨rfl, by simp, le_app rfl (.refl _)⟩ | (refine ⟨rfl, ?_⟩; dsimp only; simp; done) | (refine ⟨rfl, ?_⟩; dsimp only; omega) | (refine ⟨rfl, ?_⟩; dsimp only; simp; omega) | refine ⟨?_, ?_⟩ | refine ⟨?_, ?_, ?_⟩)), ⟨tape_emb rfl, by (repeat' (first | exact trivial | exact rfl | exact ⟨rfl, rfl⟩ | exact ⟨rfl, trivial⟩ | exact ⟨rfl, LeL.refl _, trivial⟩ | exact ⟨rfl, LeL.refl _, LeL.refl _, trivial⟩ | exact embV_le (.refl _) rfl | exact embV_leV (.refl _) rfl (Nat.lt_of_sub_pos (by exact Nat.zero_lt_succ _)) | exact ⟨rfl, rfl, rfl, rfl⟩ | exact ⟨rfl, rfl, rfl, rfl, id⟩ | exact ⟨rfl, rfl, rfl, rfl, rfl⟩ | exact ⟨rfl, rfl, rfl, rfl, nofun⟩ | exact tape_emb rfl | exact embO_le (LeL.refl _) rfl (Nat.lt_of_sub_pos (by exact Nat.zero_lt_succ _)) | exact ⟨rfl, rfl, fun _ _ => .refl _⟩ | exact embV_le (le_len (by simp)) rfl | exact ⟨rfl, rfl, rfl, by simp, nofun⟩ | exact ⟨rfl, by simp, le_app rfl (.refl _)⟩ | (refine ⟨rfl, ?_⟩; dsimp only; simp; done) | (refine ⟨rfl, ?_⟩; dsimp only; omega) | (refine ⟨rfl, ?_⟩; dsimp only; simp; omega) | refine ⟨?_, ?_⟩ | refine ⟨?_, ?_, ?_⟩)), by (repeat' (first | exact trivial | exact rfl | exact ⟨rfl, rfl⟩ | exact ⟨rfl, trivial⟩ | exact ⟨rfl, LeL.refl _, trivial⟩ | exact ⟨rfl, LeL.refl _, LeL.refl _, trivial⟩ | exact embV_le (.refl _) rfl | exact embV_leV (.refl _) rfl (Nat.lt_of_sub_pos (by exact Nat.zero_lt_succ _)) | exact ⟨rfl, rfl, rfl, rfl⟩ | exact ⟨rfl, rfl, rfl, rfl, id⟩ | exact ⟨rfl, rfl, rfl, rfl, rfl⟩ | exact ⟨rfl, rfl, rfl, rfl, nofun⟩ | exact tape_emb rfl | exact embO_le (LeL.refl _) rfl (Nat.lt_of_sub_pos (by exact Nat.zero_lt_succ _)) | exact ⟨rfl, rfl, fun _ _ => .refl _⟩ | exact embV_le (le_len (by simp)) rfl | exact ⟨rfl, rfl, rfl, by simp, nofun⟩ | exact ⟨rfl, by simp, le_app rfl (.refl _)⟩ | (refine ⟨rfl, ?_⟩; dsimp only; simp; done) | (refine ⟨rfl, ?_⟩; dsimp only; omega) | (refine ⟨rfl, ?_⟩; dsimp only; simp; omega) | refine ⟨?_, ?_⟩ | refine ⟨?_, ?_, ?_⟩)), by (repeat' (first | exact trivial | exact rfl | exact ⟨rfl, rfl⟩ | exact ⟨rfl, trivial⟩ | exact ⟨rfl, LeL.refl _, trivial⟩ | exact ⟨rfl, LeL.refl _, LeL.refl _, trivial⟩ | exact embV_le (.refl _) rfl | exact embV_leV (.refl _) rfl (Nat.lt_of_sub_pos (by exact Nat.zero_lt_succ _)) | exact ⟨rfl, rfl, rfl, rfl⟩ | exact ⟨rfl, rfl, rfl, rfl, id⟩ | exact ⟨rfl, rfl, rfl, rfl, rfl⟩ | exact ⟨rfl, rfl, rfl, rfl, nofun⟩ | exact tape_emb rfl | exact embO_le (LeL.refl _) rfl (Nat.lt_of_sub_pos (by exact Nat.zero_lt_succ _)) | exact ⟨rfl, rfl, fun _ _ => .refl _⟩ | exact embV_le (le_len (by simp)) rfl | exact ⟨rfl, rfl, rfl, by simp, nofun⟩ | exact ⟨rfl, by simp, le_app rfl (.refl _)⟩ | (refine ⟨rfl, ?_⟩; dsimp only; simp; done) | (refine ⟨rfl, ?_⟩; dsimp only; omega) | (refine ⟨rfl, ?_⟩; dsimp only; simp; omega) | refine ⟨?_, ?_⟩ | refine ⟨?_, ?_, ?_⟩)), by (repeat' (first | exact trivial | exact rfl | exact ⟨rfl, rfl⟩ | exact ⟨rfl, trivial⟩ | exact ⟨rfl, LeL.refl _, trivial⟩ | exact ⟨rfl, LeL.refl _, LeL.refl _, trivial⟩ | exact embV_le (.refl _) rfl | exact embV_leV (.refl _) rfl (Nat.lt_of_sub_pos (by exact Nat.zero_lt_succ _)) | exact ⟨rfl, rfl, rfl, rfl⟩ | exact ⟨rfl, rfl, rfl, rfl, id⟩ | exact ⟨rfl, rfl, rfl, rfl, rfl⟩ | exact ⟨rfl, rfl, rfl, rfl, nofun⟩ | exact tape_emb rfl | exact embO_le (LeL.refl _) rfl (Nat.lt_of_sub_pos (by exact Nat.zero_lt_succ _)) | exact ⟨rfl, rfl, fun _ _ => .refl _⟩ | exact embV_le (le_len (by simp)) rfl | exact ⟨rfl, rfl, rfl, by simp, nofun⟩ | exact ⟨rfl, by simp, le_app rfl (.refl _)⟩ | (refine ⟨rfl, ?_⟩; dsimp only; simp; done) | (refine ⟨rfl, ?_⟩; dsimp only; omega) | (refine ⟨rfl, ?_⟩; dsimp only; simp; omega) | refine ⟨?_, ?_⟩ | refine ⟨?_, ?_, ?_⟩)), trivial⟩⟩⟩
    · (conv => whnf)
      refine ⟨_, _, awake_spec, ?_⟩; conv => whnf
      exact ⟨rfl, trivial⟩
end Go.Proofs.Ytjmhlbogkeohpaa
