/- Contracts of the program's functions, shown by walks of that machine, and the plain laws. -/
import Derived.Test.YtjmhlbogkeohpaaD5
namespace Go.Proofs.Ytjmhlbogkeohpaa
open Go.Ab
set_option maxRecDepth 100000

theorem lev_bnd {l : List Sup} {d : List Drw} (hv : Vld l d) {k : Int} {v : Int} (hk : 0 ≤ k ∧ k < l.length) (h : okK l k v = true) : 1 ≤ voK l k v ∧ voK l k v ≤ 5000 := by
  have := asc_get (hv.lev k.toNat (by omega)) (lvK l k v) (of_decide_eq_true h)
  exact this.2

set_option maxHeartbeats 4000000 in
theorem chain2_spec (l : List Sup) (hl : l.length ≤ 1000000) (d : List Drw) (hd : d.length ≤ 1000000) (c : Chn) (hcl : c.sups.length ≤ 1000000) : S 23 [supsV l, drwsV d, chnV c] [] (.bool (pchkF l d c)) [] := by
  refine spec_of_x (ct := [9]) cfgOK Try.func23 rfl rfl (Nat.le_of_ble_eq_true rfl) (by decide +kernel) (Nat.le_refl _) ?_
  (conv => whnf)
  refine ⟨_, _, draws_spec l hl d hd, ?_⟩; conv => whnf
  refine ⟨_, _, fun h => joined_spec l d (vld_of (by have h : (!drawsF l d) = false := h; rwa [Bool.not_eq_false'] at h)) c hcl, ?_⟩; conv => whnf
  unfold pchkF
  refine bcase_of (fun h => ?_) (fun h => ?_)
  · have h : (!drawsF l d || !pjoinF l d c) = true := h
    (conv => whnf)
    rw [h]
    exact ⟨rfl, trivial⟩
  have h : (!drawsF l d || !pjoinF l d c) = false := h
  rw [h]
  rw [Bool.or_eq_false_iff, Bool.not_eq_false', Bool.not_eq_false'] at h
  obtain ⟨hdr, hpj⟩ := h
  have hv := vld_of hdr
  obtain ⟨hj, hc0, hf, hla⟩ := pjoin_of hpj
  have hja := jnAll_iff.1 hj
  have hll := loadsF_len l d
  have hc00 := hja 0 hc0
  unfold nAt at hc00
  (conv => whnf)
  refine bcase_of (fun ho => ?_) (fun ho => ?_)
  · have ho : c.over = true := ho
    rw [ho]
    (conv => whnf)
    (refine ⟨by intros; first | omega | (unfold InI64; omega) | (unfold big; omega) | contradiction | (dsimp only at *; omega) | (dsimp only at *; unfold InI64; omega) | (dsimp only at *; unfold big; omega) | (simp only [Int.toNat_natCast]; omega) | (simp only [List.length_append, List.length_cons, List.length_nil, List.length_set]; omega), ?_⟩; conv => whnf)
    unfold ovB
    generalize hx : ((((c.sups.length : Int) == 1) && (c.first == -1)) && (c.last == -1)) = b
    cases b with
    | true =>
      (conv => whnf)
      refine ⟨_, _, loads_spec l d hv, ?_⟩; conv => whnf
      refine ⟨fun _ => by show 0 ≤ c.sups.getD 0 0 ∧ c.sups.getD 0 0 < ((loadsF l d).length : Int); omega, ?_⟩; conv => whnf
      refine ⟨fun _ => by show 0 ≤ c.sups.getD 0 0 ∧ c.sups.getD 0 0 < (l.length : Int); omega, ?_⟩; conv => whnf
      exact ⟨rfl, trivial⟩
    | false =>
      (conv => whnf)
      (refine ⟨by intros; first | omega | (unfold InI64; omega) | (unfold big; omega) | contradiction | (dsimp only at *; omega) | (dsimp only at *; unfold InI64; omega) | (dsimp only at *; unfold big; omega) | (simp only [Int.toNat_natCast]; omega) | (simp only [List.length_append, List.length_cons, List.length_nil, List.length_set]; omega), ?_⟩; conv => whnf)
      (refine ⟨by intros; first | omega | (unfold InI64; omega) | (unfold big; omega) | contradiction | (dsimp only at *; omega) | (dsimp only at *; unfold InI64; omega) | (dsimp only at *; unfold big; omega) | (simp only [Int.toNat_natCast]; omega) | (simp only [List.length_append, List.length_cons, List.length_nil, List.length_set]; omega), ?_⟩; conv => whnf)
      (refine ⟨by intros; first | omega | (unfold InI64; omega) | (unfold big; omega) | contradiction | (dsimp only at *; omega) | (dsimp only at *; unfold InI64; omega) | (dsimp only at *; unfold big; omega) | (simp only [Int.toNat_natCast]; omega) | (simp only [List.length_append, List.length_cons, List.length_nil, List.length_set]; omega), ?_⟩; conv => whnf)
      (refine ⟨by intros; first | omega | (unfold InI64; omega) | (unfold big; omega) | contradiction | (dsimp only at *; omega) | (dsimp only at *; unfold InI64; omega) | (dsimp only at *; unfold big; omega) | (simp only [Int.toNat_natCast]; omega) | (simp only [List.length_append, List.length_cons, List.length_nil, List.length_set]; omega), ?_⟩; conv => whnf)
      refine ⟨rfl, ?_⟩; conv => whnf
      exact ⟨rfl, trivial⟩
  · have ho : c.over = false := ho
    rw [ho]
    (conv => whnf)
    refine cut_intro (ct := []) (ct' := []) cfgOK (by decide +kernel) (by decide +kernel) (fun v : Int => ⟨[(0, supsV l), (1, drwsV d), (5, .ptr 0 0 0), (8, iV v)], [(0, some (.box [.bool false, intsV c.sups, iV c.first, iV c.last]))], 1⟩) (fun v => v = (bif decide (0 ≤ c.first) then (d.getD c.first.toNat drw0).low else 0)) ?_ ?_
    · (conv => whnf)
      refine bcase_of (fun h1 => ?_) (fun h1 => ?_)
      · have h1 : decide (0 ≤ c.first) = true := h1
        have hfl := has_lt hf (of_decide_eq_true h1)
        (conv => whnf)
        refine ⟨by show 0 ≤ c.first ∧ c.first < (d.length : Int); have := of_decide_eq_true h1; omega, ?_⟩; conv => whnf
        exact ⟨(d.getD c.first.toNat drw0).low, [(0, some 0)], by rw [h1]; rfl, by (repeat' (first | exact trivial | exact rfl | exact ⟨rfl, rfl⟩ | exact ⟨rfl, trivial⟩ | exact ⟨rfl, LeL.refl _, trivial⟩ | exact ⟨rfl, LeL.refl _, LeL.refl _, trivial⟩ | exact embV_le (.refl _) rfl | exact embV_leV (.refl _) rfl (Nat.lt_of_sub_pos (by exact Nat.zero_lt_succ _)) | exact ⟨rfl, rfl, rfl, rfl⟩ | exact ⟨rfl, rfl, rfl, rfl, id⟩ | exact ⟨rfl, rfl, rfl, rfl, rfl⟩ | exact ⟨rfl, rfl, rfl, rfl, nofun⟩ | exact tape_emb rfl | exact embO_le (LeL.refl _) rfl (Nat.lt_of_sub_pos (by exact Nat.zero_lt_succ _)) | exact ⟨rfl, rfl, fun _ _ => .refl _⟩ | exact embV_le (le_len (by simp)) rfl | exact ⟨rfl, rfl, rfl, by simp, nofun⟩ | exact ⟨rfl, by simp, le_app rfl (.refl _)⟩ | (refine ⟨rfl, ?_⟩; dsimp only; simp; done) | (refine ⟨rfl, ?_⟩; dsimp only; omega) | (refine ⟨rfl, ?_⟩; dsimp only; simp; omega) | refine ⟨?_, ?_⟩ | refine ⟨?_, ?_, ?_⟩))⟩
      · have h1 : decide (0 ≤ c.first) = false := h1
        (conv => whnf)
        exact ⟨0, [(0, some 0)], by rw [h1]; rfl, by (repeat' (first | exact trivial | exact rfl | exact ⟨rfl, rfl⟩ | exact ⟨rfl, trivial⟩ | exact ⟨rfl, LeL.refl _, trivial⟩ | exact ⟨rfl, LeL.refl _, LeL.refl _, trivial⟩ | exact embV_le (.refl _) rfl | exact embV_leV (.refl _) rfl (Nat.lt_of_sub_pos (by exact Nat.zero_lt_succ _)) | exact ⟨rfl, rfl, rfl, rfl⟩ | exact ⟨rfl, rfl, rfl, rfl, id⟩ | exact ⟨rfl, rfl, rfl, rfl, rfl⟩ | exact ⟨rfl, rfl, rfl, rfl, nofun⟩ | exact tape_emb rfl | exact embO_le (LeL.refl _) rfl (Nat.lt_of_sub_pos (by exact Nat.zero_lt_succ _)) | exact ⟨rfl, rfl, fun _ _ => .refl _⟩ | exact embV_le (le_len (by simp)) rfl | exact ⟨rfl, rfl, rfl, by simp, nofun⟩ | exact ⟨rfl, by simp, le_app rfl (.refl _)⟩ | (refine ⟨rfl, ?_⟩; dsimp only; simp; done) | (refine ⟨rfl, ?_⟩; dsimp only; omega) | (refine ⟨rfl, ?_⟩; dsimp only; simp; omega) | refine ⟨?_, ?_⟩ | refine ⟨?_, ?_, ?_⟩))⟩
    · intro v0 hv0
      rw [← hv0]
      have hv0b : v0 ≤ 100000 ∧ -100000 ≤ v0 := by
        rw [hv0]
        by_cases h1 : 0 ≤ c.first
        · have := hv.drw _ (getD_mem drw0 (show c.first.toNat < d.length by have := has_lt hf h1; omega))
          rw [decide_eq_true h1]
          show (d.getD c.first.toNat drw0).low ≤ 100000 ∧ _ ≤ (d.getD c.first.toNat drw0).low
          omega
        · rw [decide_eq_false h1]
          show (0 : Int) ≤ 100000 ∧ -100000 ≤ (0 : Int)
          omega
      (conv => whnf)
      refine loops_intro (ct := []) cfgOK (by decide +kernel) (fun g : Nat × Int × Int => ⟨[(0, supsV l), (1, drwsV d), (5, .ptr 0 0 0), (8, iV g.2.1), (9, iV g.2.2), (69, intsV c.sups), (70, iV c.sups.length), (71, iV g.1)], [(0, some (.box [.bool false, intsV c.sups, iV c.first, iV c.last]))], 1⟩) (fun g => g.1 ≤ c.sups.length ∧ pwN l d c.last (c.sups.drop g.1) g.2.1 g.2.2 = pwN l d c.last c.sups v0 0) (fun g => c.sups.length - g.1) (0, v0, 0) [(0, some 0)] ⟨Nat.zero_le _, rfl⟩ (by (repeat' (first | exact trivial | exact rfl | exact ⟨rfl, rfl⟩ | exact ⟨rfl, trivial⟩ | exact ⟨rfl, LeL.refl _, trivial⟩ | exact ⟨rfl, LeL.refl _, LeL.refl _, trivial⟩ | exact embV_le (.refl _) rfl | exact embV_leV (.refl _) rfl (Nat.lt_of_sub_pos (by exact Nat.zero_lt_succ _)) | exact ⟨rfl, rfl, rfl, rfl⟩ | exact ⟨rfl, rfl, rfl, rfl, id⟩ | exact ⟨rfl, rfl, rfl, rfl, rfl⟩ | exact ⟨rfl, rfl, rfl, rfl, nofun⟩ | exact tape_emb rfl | exact embO_le (LeL.refl _) rfl (Nat.lt_of_sub_pos (by exact Nat.zero_lt_succ _)) | exact ⟨rfl, rfl, fun _ _ => .refl _⟩ | exact embV_le (le_len (by simp)) rfl | exact ⟨rfl, rfl, rfl, by simp, nofun⟩ | exact ⟨rfl, by simp, le_app rfl (.refl _)⟩ | (refine ⟨rfl, ?_⟩; dsimp only; simp; done) | (refine ⟨rfl, ?_⟩; dsimp only; omega) | (refine ⟨rfl, ?_⟩; dsimp only; simp; omega) | refine ⟨?_, ?_⟩ | refine ⟨?_, ?_, ?_⟩))) ?_
      intro ⟨i, v, ndv⟩ ⟨g1, g2⟩
      have g1 : i ≤ c.sups.length := g1
      have g2 : pwN l d c.last (c.sups.drop i) v ndv = pwN l d c.last c.sups v0 0 := g2
      (conv => whnf)
      refine bcase_of (fun h2 => ?_) (fun h2 => ?_)
      · have h2 : decide ((i : Int) < c.sups.length) = true := h2
        have hlt : i < c.sups.length := by have := of_decide_eq_true h2; omega
        have hk := hja i hlt
        unfold nAt at hk
        rw [drop_cons 0 hlt, pwN] at g2
        have hlen := (hv.sup (c.sups.getD i 0).toNat (by omega)).2.2.2.1
        have hdrp := (hv.sup (c.sups.getD i 0).toNat (by omega)).2.2.2.2
        (conv => whnf)
        (refine ⟨by intros; first | omega | (unfold InI64; omega) | (unfold big; omega) | contradiction | (dsimp only at *; omega) | (dsimp only at *; unfold InI64; omega) | (dsimp only at *; unfold big; omega) | (simp only [Int.toNat_natCast]; omega) | (simp only [List.length_append, List.length_cons, List.length_nil, List.length_set]; omega), ?_⟩; conv => whnf)
        (refine ⟨by intros; first | omega | (unfold InI64; omega) | (unfold big; omega) | contradiction | (dsimp only at *; omega) | (dsimp only at *; unfold InI64; omega) | (dsimp only at *; unfold big; omega) | (simp only [Int.toNat_natCast]; omega) | (simp only [List.length_append, List.length_cons, List.length_nil, List.length_set]; omega), ?_⟩; conv => whnf)
        refine ⟨_, _, level_spec (l.getD (c.sups.getD i 0).toNat sup0) (by omega) (hv.lev _ (by omega)) v, ?_⟩; conv => whnf
        have hok : okK l (c.sups.getD i 0) v = decide ((lvN (l.getD (c.sups.getD i 0).toNat sup0).lev v : Int) < (l.getD (c.sups.getD i 0).toNat sup0).lev.length) := by
          unfold okK lvK
          by_cases hh : lvN (l.getD (c.sups.getD i 0).toNat sup0).lev v < (l.getD (c.sups.getD i 0).toNat sup0).lev.length
          · rw [decide_eq_true hh, decide_eq_true (by omega)]
          · rw [decide_eq_false hh, decide_eq_false (by omega)]
        refine bcase_of (fun h3 => ?_) (fun h3 => ?_)
        · have h3 : (!decide ((lvN (l.getD (c.sups.getD i 0).toNat sup0).lev v : Int) < (l.getD (c.sups.getD i 0).toNat sup0).lev.length)) = true := h3
          rw [← hok] at h3
          rw [h3, cond_true] at g2
          (conv => whnf)
          (refine ⟨by intros; first | omega | (unfold InI64; omega) | (unfold big; omega) | contradiction | (dsimp only at *; omega) | (dsimp only at *; unfold InI64; omega) | (dsimp only at *; unfold big; omega) | (simp only [Int.toNat_natCast]; omega) | (simp only [List.length_append, List.length_cons, List.length_nil, List.length_set]; omega), ?_⟩; conv => whnf)
          refine ⟨?_, trivial⟩
          show (((i : Int) == (c.sups.length : Int) - 1) && (c.last == -1)) = _
          rw [← g2]
          congr 1
          by_cases hh : i + 1 = c.sups.length
          · rw [List.drop_eq_nil_of_le (by omega)]
            show ((i : Int) == (c.sups.length : Int) - 1) = true
            rw [beq_iff_eq]
            omega
          · rw [show ((i : Int) == (c.sups.length : Int) - 1) = false by rw [beq_eq_false_iff_ne]; omega, drop_cons 0 (show i + 1 < c.sups.length by omega)]
            rfl
        · have h3 : (!decide ((lvN (l.getD (c.sups.getD i 0).toNat sup0).lev v : Int) < (l.getD (c.sups.getD i 0).toNat sup0).lev.length)) = false := h3
          rw [← hok] at h3
          rw [h3, cond_false] at g2
          have hok' : okK l (c.sups.getD i 0) v = true := by rwa [Bool.not_eq_false'] at h3
          have hb := lev_bnd hv (by omega) hok'
          have hlt2 := of_decide_eq_true hok'
          (conv => whnf)
          (refine ⟨by intros; first | omega | (unfold InI64; omega) | (unfold big; omega) | contradiction | (dsimp only at *; omega) | (dsimp only at *; unfold InI64; omega) | (dsimp only at *; unfold big; omega) | (simp only [Int.toNat_natCast]; omega) | (simp only [List.length_append, List.length_cons, List.length_nil, List.length_set]; omega), ?_⟩; conv => whnf)
          refine ⟨by show (0 : Int) ≤ (lvN (l.getD (c.sups.getD i 0).toNat sup0).lev v : Int) ∧ (lvN (l.getD (c.sups.getD i 0).toNat sup0).lev v : Int) < ((l.getD (c.sups.getD i 0).toNat sup0).lev.length : Int); unfold lvK at hlt2; omega, ?_⟩; conv => whnf
          (refine ⟨by intros; first | omega | (unfold InI64; omega) | (unfold big; omega) | contradiction | (dsimp only at *; omega) | (dsimp only at *; unfold InI64; omega) | (dsimp only at *; unfold big; omega) | (simp only [Int.toNat_natCast]; omega) | (simp only [List.length_append, List.length_cons, List.length_nil, List.length_set]; omega), ?_⟩; conv => whnf)
          refine ⟨by show InI64 (voK l (c.sups.getD i 0) v + (l.getD (c.sups.getD i 0).toNat sup0).drop); unfold InI64; omega, ?_⟩; conv => whnf
          (refine ⟨by intros; first | omega | (unfold InI64; omega) | (unfold big; omega) | contradiction | (dsimp only at *; omega) | (dsimp only at *; unfold InI64; omega) | (dsimp only at *; unfold big; omega) | (simp only [Int.toNat_natCast]; omega) | (simp only [List.length_append, List.length_cons, List.length_nil, List.length_set]; omega), ?_⟩; conv => whnf)
          exact ⟨(i + 1, voK l (c.sups.getD i 0) v + (l.getD (c.sups.getD i 0).toNat sup0).drop, voK l (c.sups.getD i 0) v), [(0, some 0)], ⟨hlt, g2⟩, by show c.sups.length - (i + 1) < c.sups.length - i; omega, by (repeat' (first | exact trivial | exact rfl | exact ⟨rfl, rfl⟩ | exact ⟨rfl, trivial⟩ | exact ⟨rfl, LeL.refl _, trivial⟩ | exact ⟨rfl, LeL.refl _, LeL.refl _, trivial⟩ | exact embV_le (.refl _) rfl | exact embV_leV (.refl _) rfl (Nat.lt_of_sub_pos (by exact Nat.zero_lt_succ _)) | exact ⟨rfl, rfl, rfl, rfl⟩ | exact ⟨rfl, rfl, rfl, rfl, id⟩ | exact ⟨rfl, rfl, rfl, rfl, rfl⟩ | exact ⟨rfl, rfl, rfl, rfl, nofun⟩ | exact tape_emb rfl | exact embO_le (LeL.refl _) rfl (Nat.lt_of_sub_pos (by exact Nat.zero_lt_succ _)) | exact ⟨rfl, rfl, fun _ _ => .refl _⟩ | exact embV_le (le_len (by simp)) rfl | exact ⟨rfl, rfl, rfl, by simp, nofun⟩ | exact ⟨rfl, by simp, le_app rfl (.refl _)⟩ | (refine ⟨rfl, ?_⟩; dsimp only; simp; done) | (refine ⟨rfl, ?_⟩; dsimp only; omega) | (refine ⟨rfl, ?_⟩; dsimp only; simp; omega) | refine ⟨?_, ?_⟩ | refine ⟨?_, ?_, ?_⟩))⟩
      · have h2 : decide ((i : Int) < c.sups.length) = false := h2
        have hil : i = c.sups.length := by have := of_decide_eq_false h2; omega
        subst hil
        rw [List.drop_length, pwN] at g2
        (conv => whnf)
        refine ⟨fun h => by
          have h : decide (0 ≤ c.last) = true := h
          have h0 := of_decide_eq_true h
          have := has_lt hla h0
          show 0 ≤ c.last ∧ c.last < (d.length : Int)
          omega, ?_⟩; conv => whnf
        exact ⟨g2, trivial⟩

end Go.Proofs.Ytjmhlbogkeohpaa

namespace Go.Proofs.Ytjmhlbogkeohpaa
open Go.Ab
set_option maxRecDepth 100000

theorem supplies_ex {t : Tp} (ht : t.ok) (n : Nat) (hn : 1 ≤ n ∧ n ≤ 16) : ∃ l t', t'.ok ∧ GoodS l ∧ 1 ≤ l.length ∧ l.length ≤ n ∧ S 10 [.ptr 0 0 0, iV n] [tapeO t] (supsV l) [tapeO t'] := by
  obtain ⟨r, o, ⟨l, t', rfl, rfl, h1, h2, h3, h4⟩, h⟩ := supplies_E t ht n hn
  exact ⟨l, t', h1, h2, h3, h4, h⟩

def GoodD (l : List Sup) (d : List Drw) : Prop := ∀ x ∈ d, 0 ≤ x.sup ∧ x.sup < l.length ∧ 0 ≤ x.low ∧ x.low ≤ x.high ∧ x.high ≤ 5000 ∧ 0 ≤ x.load ∧ x.load ≤ 10000

theorem goodD_draws {l : List Sup} {d : List Drw} (hl : checkF l = 0) (h : GoodD l d) (hn : d.length ≤ 32) : drawsF l d = true := by
  unfold drawsF
  rw [hl, decide_eq_true (by omega)]
  simp only [beq_self_eq_true, Bool.true_and, Bool.not_eq_true']
  rw [List.any_eq_false]
  intro x hx
  have := h x hx
  unfold badD
  rw [withinF_iff.2 (by omega), withinF_iff.2 (by omega), withinF_iff.2 (by omega), withinF_iff.2 (by omega)]
  decide

theorem goodS_lev {l : List Sup} (h : GoodS l) {k q : Nat} (hk : k < l.length) (hq : q < (l.getD k sup0).lev.length) : 1 ≤ (l.getD k sup0).lev.getD q 0 ∧ (l.getD k sup0).lev.getD q 0 ≤ 5000 :=
  (asc_get (valid_of (h k hk).1).2.2.2.2.2.2.2.1 q hq).2

set_option maxHeartbeats 4000000 in
theorem draws_E (t : Tp) (ht : t.ok) (l : List Sup) (hl : GoodS l) (hl1 : 1 ≤ l.length ∧ l.length ≤ 16) (n : Nat) (hn : n ≤ 16) : SpecE Try.prog cfg 11 [.ptr 0 0 0, supsV l, iV n] [tapeO t] (fun r obs' => ∃ d t', r = drwsV d ∧ obs' = [tapeO t'] ∧ t'.ok ∧ GoodD l d ∧ d.length ≤ n) := by
  refine spec_ex (ct := []) cfgOK Try.func11 rfl rfl (Nat.le_of_ble_eq_true rfl) (by decide +kernel) ?_; conv => whnf
  (refine ⟨by intros; first | omega | (unfold InI64; omega) | (unfold big; omega) | contradiction | (dsimp only at *; omega) | (dsimp only at *; unfold InI64; omega) | (dsimp only at *; unfold big; omega) | (simp only [Int.toNat_natCast]; omega) | (simp only [List.length_append, List.length_cons, List.length_nil, List.length_set]; omega), ?_⟩; conv => whnf)
  obtain ⟨i0, t1, ht1, hi1, hi2, hs⟩ := n_ex ht (n + 1) (by unfold InI64; omega)
  refine ⟨_, _, hs, ?_⟩; conv => whnf
  refine loops_introE (ct := []) cfgOK (by decide +kernel) (fun g : Nat × Tp × List Drw => ⟨[(0, .ptr 0 0 0), (1, supsV l), (7, .osl 1 0 g.2.2.length false), (8, iV g.1)], [(0, some (tapeO g.2.1)), (1, some (.row 4 g.2.2.length (rowG drwV drw0 g.2.2)))], 2⟩)
    (fun g => g.2.1.ok ∧ GoodD l g.2.2 ∧ g.1 + g.2.2.length ≤ n) (fun g => g.1) (i0.toNat, t1, []) [(0, some 0), (1, none)] ⟨ht1, fun j hj => absurd hj (by simp), by show i0.toNat + 0 ≤ n; omega⟩ ?_ ?_
  · refine ⟨rfl, ⟨by (repeat' (first | exact trivial | exact rfl | exact ⟨rfl, rfl⟩ | exact ⟨rfl, trivial⟩ | exact ⟨rfl, LeL.refl _, trivial⟩ | exact ⟨rfl, LeL.refl _, LeL.refl _, trivial⟩ | exact embV_le (.refl _) rfl | exact embV_leV (.refl _) rfl (Nat.lt_of_sub_pos (by exact Nat.zero_lt_succ _)) | exact ⟨rfl, rfl, rfl, rfl⟩ | exact ⟨rfl, rfl, rfl, rfl, id⟩ | exact ⟨rfl, rfl, rfl, rfl, rfl⟩ | exact ⟨rfl, rfl, rfl, rfl, nofun⟩ | exact tape_emb rfl | exact embO_le (LeL.refl _) rfl (Nat.lt_of_sub_pos (by exact Nat.zero_lt_succ _)) | exact ⟨rfl, rfl, fun _ _ => .refl _⟩ | exact embV_le (le_len (by simp)) rfl | exact ⟨rfl, rfl, rfl, by simp, nofun⟩ | exact ⟨rfl, by simp, le_app rfl (.refl _)⟩ | (refine ⟨rfl, ?_⟩; dsimp only; simp; done) | (refine ⟨rfl, ?_⟩; dsimp only; omega) | (refine ⟨rfl, ?_⟩; dsimp only; simp; omega) | refine ⟨?_, ?_⟩ | refine ⟨?_, ?_, ?_⟩)), by (repeat' (first | exact trivial | exact rfl | exact ⟨rfl, rfl⟩ | exact ⟨rfl, trivial⟩ | exact ⟨rfl, LeL.refl _, trivial⟩ | exact ⟨rfl, LeL.refl _, LeL.refl _, trivial⟩ | exact embV_le (.refl _) rfl | exact embV_leV (.refl _) rfl (Nat.lt_of_sub_pos (by exact Nat.zero_lt_succ _)) | exact ⟨rfl, rfl, rfl, rfl⟩ | exact ⟨rfl, rfl, rfl, rfl, id⟩ | exact ⟨rfl, rfl, rfl, rfl, rfl⟩ | exact ⟨rfl, rfl, rfl, rfl, nofun⟩ | exact tape_emb rfl | exact embO_le (LeL.refl _) rfl (Nat.lt_of_sub_pos (by exact Nat.zero_lt_succ _)) | exact ⟨rfl, rfl, fun _ _ => .refl _⟩ | exact embV_le (le_len (by simp)) rfl | exact ⟨rfl, rfl, rfl, by simp, nofun⟩ | exact ⟨rfl, by simp, le_app rfl (.refl _)⟩ | (refine ⟨rfl, ?_⟩; dsimp only; simp; done) | (refine ⟨rfl, ?_⟩; dsimp only; omega) | (refine ⟨rfl, ?_⟩; dsimp only; simp; omega) | refine ⟨?_, ?_⟩ | refine ⟨?_, ?_, ?_⟩)), by (repeat' (first | exact trivial | exact rfl | exact ⟨rfl, rfl⟩ | exact ⟨rfl, trivial⟩ | exact ⟨rfl, LeL.refl _, trivial⟩ | exact ⟨rfl, LeL.refl _, LeL.refl _, trivial⟩ | exact embV_le (.refl _) rfl | exact embV_leV (.refl _) rfl (Nat.lt_of_sub_pos (by exact Nat.zero_lt_succ _)) | exact ⟨rfl, rfl, rfl, rfl⟩ | exact ⟨rfl, rfl, rfl, rfl, id⟩ | exact ⟨rfl, rfl, rfl, rfl, rfl⟩ | exact ⟨rfl, rfl, rfl, rfl, nofun⟩ | exact tape_emb rfl | exact embO_le (LeL.refl _) rfl (Nat.lt_of_sub_pos (by exact Nat.zero_lt_succ _)) | exact ⟨rfl, rfl, fun _ _ => .refl _⟩ | exact embV_le (le_len (by simp)) rfl | exact ⟨rfl, rfl, rfl, by simp, nofun⟩ | exact ⟨rfl, by simp, le_app rfl (.refl _)⟩ | (refine ⟨rfl, ?_⟩; dsimp only; simp; done) | (refine ⟨rfl, ?_⟩; dsimp only; omega) | (refine ⟨rfl, ?_⟩; dsimp only; simp; omega) | refine ⟨?_, ?_⟩ | refine ⟨?_, ?_, ?_⟩)), ⟨rfl, by show i0 = ((i0.toNat : Nat) : Int); omega⟩, trivial⟩, ⟨by (repeat' (first | exact trivial | exact rfl | exact ⟨rfl, rfl⟩ | exact ⟨rfl, trivial⟩ | exact ⟨rfl, LeL.refl _, trivial⟩ | exact ⟨rfl, LeL.refl _, LeL.refl _, trivial⟩ | exact embV_le (.refl _) rfl | exact embV_leV (.refl _) rfl (Nat.lt_of_sub_pos (by exact Nat.zero_lt_succ _)) | exact ⟨rfl, rfl, rfl, rfl⟩ | exact ⟨rfl, rfl, rfl, rfl, id⟩ | exact ⟨rfl, rfl, rfl, rfl, rfl⟩ | exact ⟨rfl, rfl, rfl, rfl, nofun⟩ | exact tape_emb rfl | exact embO_le (LeL.refl _) rfl (Nat.lt_of_sub_pos (by exact Nat.zero_lt_succ _)) | exact ⟨rfl, rfl, fun _ _ => .refl _⟩ | exact embV_le (le_len (by simp)) rfl | exact ⟨rfl, rfl, rfl, by simp, nofun⟩ | exact ⟨rfl, by simp, le_app rfl (.refl _)⟩ | (refine ⟨rfl, ?_⟩; dsimp only; simp; done) | (refine ⟨rfl, ?_⟩; dsimp only; omega) | (refine ⟨rfl, ?_⟩; dsimp only; simp; omega) | refine ⟨?_, ?_⟩ | refine ⟨?_, ?_, ?_⟩)), by (repeat' (first | exact trivial | exact rfl | exact ⟨rfl, rfl⟩ | exact ⟨rfl, trivial⟩ | exact ⟨rfl, LeL.refl _, trivial⟩ | exact ⟨rfl, LeL.refl _, LeL.refl _, trivial⟩ | exact embV_le (.refl _) rfl | exact embV_leV (.refl _) rfl (Nat.lt_of_sub_pos (by exact Nat.zero_lt_succ _)) | exact ⟨rfl, rfl, rfl, rfl⟩ | exact ⟨rfl, rfl, rfl, rfl, id⟩ | exact ⟨rfl, rfl, rfl, rfl, rfl⟩ | exact ⟨rfl, rfl, rfl, rfl, nofun⟩ | exact tape_emb rfl | exact embO_le (LeL.refl _) rfl (Nat.lt_of_sub_pos (by exact Nat.zero_lt_succ _)) | exact ⟨rfl, rfl, fun _ _ => .refl _⟩ | exact embV_le (le_len (by simp)) rfl | exact ⟨rfl, rfl, rfl, by simp, nofun⟩ | exact ⟨rfl, by simp, le_app rfl (.refl _)⟩ | (refine ⟨rfl, ?_⟩; dsimp only; simp; done) | (refine ⟨rfl, ?_⟩; dsimp only; omega) | (refine ⟨rfl, ?_⟩; dsimp only; simp; omega) | refine ⟨?_, ?_⟩ | refine ⟨?_, ?_, ?_⟩)), trivial⟩⟩
  intro ⟨i, t, d⟩ ⟨g1, g2, g3⟩
  have g1 : t.ok := g1
  have g2 : GoodD l d := g2
  have g3 : i + d.length ≤ n := g3
  (conv => whnf)
  refine bcase_of (fun h => ?_) (fun h => ?_)
  · have h : decide ((0 : Int) < (i : Int)) = true := h
    have h0 := of_decide_eq_true h
    (conv => whnf)
    obtain ⟨k, t2, ht2, hk1, hk2, hs2⟩ := n_ex g1 l.length (by unfold InI64; omega)
    have hk3 := hk2 (by omega)
    obtain ⟨k, rfl⟩ : ∃ q : Nat, k = q := ⟨k.toNat, by omega⟩
    have hkl := (hl k (by omega)).2
    have hkv := valid_of (hl k (by omega)).1
    refine ⟨_, _, hs2, ?_⟩; conv => whnf
    (refine ⟨by intros; first | omega | (unfold InI64; omega) | (unfold big; omega) | contradiction | (dsimp only at *; omega) | (dsimp only at *; unfold InI64; omega) | (dsimp only at *; unfold big; omega) | (simp only [Int.toNat_natCast]; omega) | (simp only [List.length_append, List.length_cons, List.length_nil, List.length_set]; omega), ?_⟩; conv => whnf)
    (refine ⟨by intros; first | omega | (unfold InI64; omega) | (unfold big; omega) | contradiction | (dsimp only at *; omega) | (dsimp only at *; unfold InI64; omega) | (dsimp only at *; unfold big; omega) | (simp only [Int.toNat_natCast]; omega) | (simp only [List.length_append, List.length_cons, List.length_nil, List.length_set]; omega), ?_⟩; conv => whnf)
    obtain ⟨q, t3, ht3, hq1, hq2, hs3⟩ := n_ex ht2 (l.getD k sup0).lev.length (by unfold InI64; omega)
    have hq3 := hq2 (by omega)
    obtain ⟨q, rfl⟩ : ∃ q' : Nat, q = q' := ⟨q.toNat, by omega⟩
    refine ⟨_, _, hs3, ?_⟩; conv => whnf
    have hvb := goodS_lev hl (show k < l.length by omega) (show q < (l.getD k sup0).lev.length by omega)
    (refine ⟨by intros; first | omega | (unfold InI64; omega) | (unfold big; omega) | contradiction | (dsimp only at *; omega) | (dsimp only at *; unfold InI64; omega) | (dsimp only at *; unfold big; omega) | (simp only [Int.toNat_natCast]; omega) | (simp only [List.length_append, List.length_cons, List.length_nil, List.length_set]; omega), ?_⟩; conv => whnf)
    obtain ⟨a, t4, ht4, ha, hs4⟩ := pick_ex ht3 [0, 10, 100, 1000] (by decide) (n := 4) (b := true) rfl
    refine ⟨_, _, hs4, ?_⟩; conv => whnf
    have ha' : 0 ≤ a ∧ a ≤ 1000 := by
      simp only [List.mem_cons, List.not_mem_nil, or_false] at ha
      omega
    generalize hV : (l.getD k sup0).lev.getD q 0 = V at hvb
    refine ⟨by show InI64 ((l.getD k sup0).lev.getD q 0 - a); rw [hV]; unfold InI64; omega, ?_⟩; conv => whnf
    obtain ⟨b, t5, ht5, hb, hs5⟩ := pick_ex ht4 [0, 50, 500, 2000] (by decide) (n := 4) (b := true) rfl
    refine ⟨_, _, hs5, ?_⟩; conv => whnf
    have hb' : 0 ≤ b ∧ b ≤ 2000 := by
      simp only [List.mem_cons, List.not_mem_nil, or_false] at hb
      omega
    refine ⟨by show InI64 ((l.getD k sup0).lev.getD q 0 + b); rw [hV]; unfold InI64; omega, ?_⟩; conv => whnf
    obtain ⟨c, t6, ht6, hc, hs6⟩ := pick_ex ht5 [0, 10, 100, 300] (by decide) (n := 4) (b := true) rfl
    refine ⟨_, _, hs6, ?_⟩; conv => whnf
    have hc' : 0 ≤ c ∧ c ≤ 300 := by
      simp only [List.mem_cons, List.not_mem_nil, or_false] at hc
      omega
    (refine ⟨by intros; first | omega | (unfold InI64; omega) | (unfold big; omega) | contradiction | (dsimp only at *; omega) | (dsimp only at *; unfold InI64; omega) | (dsimp only at *; unfold big; omega) | (simp only [Int.toNat_natCast]; omega) | (simp only [List.length_append, List.length_cons, List.length_nil, List.length_set]; omega), ?_⟩; conv => whnf)
    (refine ⟨by intros; first | omega | (unfold InI64; omega) | (unfold big; omega) | contradiction | (dsimp only at *; omega) | (dsimp only at *; unfold InI64; omega) | (dsimp only at *; unfold big; omega) | (simp only [Int.toNat_natCast]; omega) | (simp only [List.length_append, List.length_cons, List.length_nil, List.length_set]; omega), ?_⟩; conv => whnf)
    refine ⟨(i - 1, t6, d ++ [⟨k, if (l.getD k sup0).lev.getD q 0 - a > 0 then (l.getD k sup0).lev.getD q 0 - a else 0, if (l.getD k sup0).lev.getD q 0 + b < 5000 then (l.getD k sup0).lev.getD q 0 + b else 5000, c⟩]), [(0, some 0), (1, some 47)], ⟨ht6, fun x hx => ?_, ?_⟩, by show i - 1 < i; omega, ?_⟩
    · rw [List.mem_append, List.mem_singleton] at hx
      rcases hx with hx | hx
      · exact g2 x hx
      · subst hx
        rw [hV]
        dsimp only
        refine ⟨by omega, by omega, ?_, ?_, ?_, by omega, by omega⟩ <;> (repeat' split) <;> omega
    · show i - 1 + (d ++ _).length ≤ n
      rw [List.length_append]
      simp only [List.length_singleton]
      omega
    · (repeat' (first | exact trivial | exact rfl | exact ⟨rfl, rfl⟩ | exact ⟨rfl, trivial⟩ | exact ⟨rfl, LeL.refl _, trivial⟩ | exact ⟨rfl, LeL.refl _, LeL.refl _, trivial⟩ | exact embV_le (.refl _) rfl | exact embV_leV (.refl _) rfl (Nat.lt_of_sub_pos (by exact Nat.zero_lt_succ _)) | exact ⟨rfl, rfl, rfl, rfl⟩ | exact ⟨rfl, rfl, rfl, rfl, id⟩ | exact ⟨rfl, rfl, rfl, rfl, rfl⟩ | exact ⟨rfl, rfl, rfl, rfl, nofun⟩ | exact tape_emb rfl | exact embO_le (LeL.refl _) rfl (Nat.lt_of_sub_pos (by exact Nat.zero_lt_succ _)) | exact ⟨rfl, rfl, fun _ _ => .refl _⟩ | exact embV_le (le_len (by simp)) rfl | exact ⟨rfl, rfl, rfl, by simp, nofun⟩ | exact ⟨rfl, by simp, le_app rfl (.refl _)⟩ | (refine ⟨rfl, ?_⟩; dsimp only; simp; done) | (refine ⟨rfl, ?_⟩; dsimp only; omega) | (refine ⟨rfl, ?_⟩; dsimp only; simp; omega) | refine ⟨?_, ?_⟩ | refine ⟨?_, ?_, ?_⟩))
  · (conv => whnf)
    have h : decide ((0 : Int) < (i : Int)) = false := h
    have h0 := of_decide_eq_false h
    refine ⟨_, _, ⟨d, t, rfl, rfl, g1, g2, by omega⟩, Nat.le_refl _, ?_⟩
    (conv => whnf)
    (repeat' (first | exact trivial | exact rfl | exact ⟨rfl, rfl⟩ | exact ⟨rfl, trivial⟩ | exact ⟨rfl, LeL.refl _, trivial⟩ | exact ⟨rfl, LeL.refl _, LeL.refl _, trivial⟩ | exact embV_le (.refl _) rfl | exact embV_leV (.refl _) rfl (Nat.lt_of_sub_pos (by exact Nat.zero_lt_succ _)) | exact ⟨rfl, rfl, rfl, rfl⟩ | exact ⟨rfl, rfl, rfl, rfl, id⟩ | exact ⟨rfl, rfl, rfl, rfl, rfl⟩ | exact ⟨rfl, rfl, rfl, rfl, nofun⟩ | exact tape_emb rfl | exact embO_le (LeL.refl _) rfl (Nat.lt_of_sub_pos (by exact Nat.zero_lt_succ _)) | exact ⟨rfl, rfl, fun _ _ => .refl _⟩ | exact embV_le (le_len (by simp)) rfl | exact ⟨rfl, rfl, rfl, by simp, nofun⟩ | exact ⟨rfl, by simp, le_app rfl (.refl _)⟩ | (refine ⟨rfl, ?_⟩; dsimp only; simp; done) | (refine ⟨rfl, ?_⟩; dsimp only; omega) | (refine ⟨rfl, ?_⟩; dsimp only; simp; omega) | refine ⟨?_, ?_⟩ | refine ⟨?_, ?_, ?_⟩))

theorem draws_ex {t : Tp} (ht : t.ok) {l : List Sup} (hl : GoodS l) (hl1 : 1 ≤ l.length ∧ l.length ≤ 16) (n : Nat) (hn : n ≤ 16) : ∃ d t', t'.ok ∧ GoodD l d ∧ d.length ≤ n ∧ S 11 [.ptr 0 0 0, supsV l, iV n] [tapeO t] (drwsV d) [tapeO t'] := by
  obtain ⟨r, o, ⟨d, t', rfl, rfl, h1, h2, h3⟩, h⟩ := draws_E t ht l hl hl1 n hn
  exact ⟨d, t', h1, h2, h3, h⟩

end Go.Proofs.Ytjmhlbogkeohpaa

namespace Go.Proofs.Ytjmhlbogkeohpaa
open Go.Ab
set_option maxRecDepth 100000

theorem shiftG_eq (i : Nat) (g : Nat → AV) (j : Nat) : shiftG i g j = g (i + j) := by
  cases i with
  | zero => rw [Nat.zero_add]; rfl
  | succ n => rfl

theorem appG_l {n j : Nat} {g h : Nat → AV} (hj : j < n) : appG n g h j = g j := by
  have : Nat.blt j n = true := by simpa using hj
  simp [appG, this]

theorem appG_r {n j : Nat} {g h : Nat → AV} (hj : n ≤ j) : appG n g h j = h (j - n) := by
  have : Nat.blt j n = false := blt_false (by omega)
  simp [appG, this]

theorem getD_app_r2 {α : Type} {l m : List α} {i : Nat} (d : α) (h : l.length ≤ i) : (l ++ m).getD i d = m.getD (i - l.length) d := by
  rw [List.getD_eq_getElem?_getD, List.getElem?_append_right h, List.getD_eq_getElem?_getD]

theorem le_ins {acc : List Int} {x : Int} {k : Nat} (hk : k ≤ acc.length) {h : Nat → AV} (h0 : h 0 = iV x) (j : Nat) : Le (appG k (rowG iV 0 acc) (appG 1 h (shiftG (0 + k) (rowG iV 0 acc))) j) (rowG iV 0 (acc.take k ++ x :: acc.drop k) j) := by
  have e : appG k (rowG iV 0 acc) (appG 1 h (shiftG (0 + k) (rowG iV 0 acc))) j = rowG iV 0 (acc.take k ++ x :: acc.drop k) j := by
    unfold rowG
    by_cases h1 : j < k
    · rw [appG_l h1, getD_app_l 0 (by rw [take_len hk]; exact h1), getD_take acc 0 h1]
    · rw [appG_r (by omega)]
      by_cases h2 : j = k
      · subst h2
        rw [appG_l (by omega), Nat.sub_self, h0, getD_app_r 0 (take_len hk).symm]
      · rw [appG_r (by omega), shiftG_eq, getD_app_r2 0 (by rw [take_len hk]; omega), take_len hk, show j - k = (j - k - 1) + 1 by omega, List.getD_cons_succ, getD_drop, Nat.zero_add]
        rfl
  rw [e]
  exact .refl _

def upI (n : Nat) : List Int := (List.range n).map fun k : Nat => (k : Int)

theorem upI_succ (n : Nat) : upI (n + 1) = upI n ++ [(n : Int)] := by
  unfold upI
  rw [List.range_succ, List.map_append]
  rfl

set_option maxHeartbeats 4000000 in
theorem order_E (t : Tp) (ht : t.ok) (n : Nat) (hn : n ≤ 1000) : SpecE Try.prog cfg 17 [.ptr 0 0 0, iV n] [tapeO t] (fun r obs' => ∃ p t', r = intsV p ∧ obs' = [tapeO t'] ∧ t'.ok ∧ p.Perm (upI n)) := by
  refine spec_ex (ct := []) cfgOK Try.func17 rfl rfl (Nat.le_of_ble_eq_true rfl) (by decide +kernel) ?_; conv => whnf
  refine loops_introE (ct := []) cfgOK (by decide +kernel) (fun g : Nat × List Int × Tp => ⟨[(0, .ptr 0 0 0), (1, iV n), (5, .osl 1 0 g.1 false), (6, iV g.1)], [(0, some (tapeO g.2.2)), (1, some (.row 1 g.1 (rowG iV 0 g.2.1)))], 2⟩)
    (fun g => g.1 ≤ n ∧ g.2.1.Perm (upI g.1) ∧ g.2.2.ok) (fun g => n - g.1) (0, [], t) [(1, none)] ⟨Nat.zero_le _, List.Perm.nil, ht⟩
    ⟨rfl, ⟨⟨rfl, rfl, rfl, rfl⟩, ⟨rfl, rfl⟩, ⟨rfl, rfl, rfl, rfl, rfl⟩, ⟨rfl, rfl⟩, trivial⟩, ⟨tape_emb rfl, rfl, trivial⟩⟩ ?_
  intro ⟨i, acc, t2⟩ ⟨hi, hp, ht2⟩
  have hi : i ≤ n := hi
  have hp : acc.Perm (upI i) := hp
  have hl : acc.length = i := by rw [hp.length_eq]; simp [upI]
  have ht2 : t2.ok := ht2
  (conv => whnf)
  refine bcase_of (fun h2 => ?_) (fun h2 => ?_)
  · have h2 : decide ((i : Int) < n) = true := h2
    have hlt : i < n := by have := of_decide_eq_true h2; omega
    (conv => whnf)
    refine ⟨by show InI64 ((i : Int) + 1); unfold InI64; omega, ?_⟩; conv => whnf
    obtain ⟨k, t3, ht3, hk1, hk2, hs⟩ := n_ex ht2 (i + 1) (by unfold InI64; omega)
    have hk3 := hk2 (by omega)
    refine ⟨_, _, hs, ?_⟩; conv => whnf
    refine ⟨⟨hk1, by show k ≤ (i : Int); omega⟩, ?_⟩; conv => whnf
    refine ⟨by show (1 + (i - k.toNat)) * 8 ≤ 140737488355328; omega, ?_⟩; conv => whnf
    refine ⟨rfl, ?_⟩; conv => whnf
    refine ⟨⟨hk1, by show k ≤ (i : Int); omega⟩, ?_⟩; conv => whnf
    refine ⟨by show (k.toNat + (1 + (i - k.toNat))) * 8 ≤ 140737488355328; omega, ?_⟩; conv => whnf
    refine ⟨by show InI64 ((i : Int) + 1); unfold InI64; omega, ?_⟩; conv => whnf
    refine ⟨(i + 1, acc.take k.toNat ++ (i : Int) :: acc.drop k.toNat, t3), [(1, some 23)], ⟨hlt, ?_, ht3⟩, by show n - (i + 1) < n - i; omega, ⟨rfl, ⟨⟨rfl, rfl, rfl, rfl⟩, ⟨rfl, rfl⟩, ?_, ⟨rfl, by simp⟩, trivial⟩, ⟨tape_emb rfl, ?_, trivial⟩⟩⟩
    · show (acc.take k.toNat ++ (i : Int) :: acc.drop k.toNat).Perm (upI (i + 1))
      rw [upI_succ]
      refine List.perm_middle.trans ?_
      rw [List.take_append_drop]
      exact (List.Perm.cons _ hp).trans (List.perm_append_comm (l₁ := [(i : Int)]))
    · exact ⟨rfl, rfl, rfl, by show k.toNat + (1 + (i - k.toNat)) = i + 1; omega, nofun⟩
    · exact ⟨rfl, by show k.toNat + (1 + (i - k.toNat)) = i + 1; omega, fun j _ => le_ins (acc := acc) (k := k.toNat) (by omega) rfl j⟩
  · have h2 : decide ((i : Int) < n) = false := h2
    have hil : i = n := by have := of_decide_eq_false h2; omega
    subst hil
    (conv => whnf)
    refine ⟨_, _, ⟨acc, t2, rfl, rfl, ht2, hp⟩, Nat.le_refl _, ?_⟩
    (conv => whnf)
    exact ⟨embV_le (le_len hl.symm) rfl, tape_emb rfl, trivial⟩

theorem order_ex {t : Tp} (ht : t.ok) (n : Nat) (hn : n ≤ 1000) : ∃ p t', t'.ok ∧ p.Perm (upI n) ∧ S 17 [.ptr 0 0 0, iV n] [tapeO t] (intsV p) [tapeO t'] := by
  obtain ⟨r, o, ⟨p, t', rfl, rfl, h1, h2⟩, h⟩ := order_E t ht n hn
  exact ⟨p, t', h1, h2, h⟩

set_option maxHeartbeats 4000000 in
theorem rails_E (t : Tp) (ht : t.ok) (l : List Sup) (hl : GoodS l) (hl1 : l.length ≤ 16) : SpecE Try.prog cfg 37 [.ptr 0 0 0, supsV l] [tapeO t] (fun r obs' => ∃ q t', r = rlsV q ∧ obs' = [tapeO t'] ∧ t'.ok ∧ q.on.length ≤ 16 ∧ q.lev.length ≤ 16) := by
  refine spec_ex (ct := []) cfgOK Try.func37 rfl rfl (Nat.le_of_ble_eq_true rfl) (by decide +kernel) ?_; conv => whnf
  refine loops_introE (ct := []) cfgOK (by decide +kernel) (fun g : Nat × Tp × List Bool × List Int => ⟨[(0, .ptr 0 0 0), (4, .ptr 1 0 0), (5, .ptr 2 0 0), (8, supsV l), (9, iV l.length), (10, iV g.1)], [(0, some (tapeO g.2.1)), (1, some (.box [.sl 0 0 true nilG, .sl 0 0 true nilG])), (2, some (.box [.osl 3 0 g.2.2.1.length false, .osl 4 0 g.2.2.2.length false])), (3, some (.row 1 g.2.2.1.length (rowG AV.bool false g.2.2.1))), (4, some (.row 1 g.2.2.2.length (rowG iV 0 g.2.2.2)))], 5⟩)
    (fun g => g.1 ≤ l.length ∧ g.2.1.ok ∧ g.2.2.1.length = g.1 ∧ g.2.2.2.length = g.1) (fun g => l.length - g.1) (0, t, [], []) [(0, some 0), (1, some 1), (2, some 2), (3, none), (4, none)] ⟨Nat.zero_le _, ht, rfl, rfl⟩ (by (repeat' (first | exact trivial | exact rfl | exact ⟨rfl, rfl⟩ | exact ⟨rfl, trivial⟩ | exact ⟨rfl, LeL.refl _, trivial⟩ | exact ⟨rfl, LeL.refl _, LeL.refl _, trivial⟩ | exact embV_le (.refl _) rfl | exact embV_leV (.refl _) rfl (Nat.lt_of_sub_pos (by exact Nat.zero_lt_succ _)) | exact ⟨rfl, rfl, rfl, rfl⟩ | exact ⟨rfl, rfl, rfl, rfl, id⟩ | exact ⟨rfl, rfl, rfl, rfl, rfl⟩ | exact ⟨rfl, rfl, rfl, rfl, nofun⟩ | exact tape_emb rfl | exact embO_le (LeL.refl _) rfl (Nat.lt_of_sub_pos (by exact Nat.zero_lt_succ _)) | exact ⟨rfl, rfl, fun _ _ => .refl _⟩ | exact embV_le (le_len (by simp)) rfl | exact ⟨rfl, rfl, rfl, by simp, nofun⟩ | exact ⟨rfl, by simp, le_app rfl (.refl _)⟩ | (refine ⟨rfl, ?_⟩; dsimp only; simp; done) | (refine ⟨rfl, ?_⟩; dsimp only; omega) | (refine ⟨rfl, ?_⟩; dsimp only; simp; omega) | refine ⟨?_, ?_⟩ | refine ⟨?_, ?_, ?_⟩))) ?_
  intro ⟨i, t, on, lev⟩ ⟨g1, g2, g3, g4⟩
  have g1 : i ≤ l.length := g1
  have g2 : t.ok := g2
  have g3 : on.length = i := g3
  have g4 : lev.length = i := g4
  (conv => whnf)
  refine bcase_of (fun h => ?_) (fun h => ?_)
  · have h : decide ((i : Int) < l.length) = true := h
    have hlt : i < l.length := by have := of_decide_eq_true h; omega
    have hkl := (hl i hlt).2
    (conv => whnf)
    (refine ⟨by intros; first | omega | (unfold InI64; omega) | (unfold big; omega) | contradiction | (dsimp only at *; omega) | (dsimp only at *; unfold InI64; omega) | (dsimp only at *; unfold big; omega) | (simp only [Int.toNat_natCast]; omega) | (simp only [List.length_append, List.length_cons, List.length_nil, List.length_set]; omega), ?_⟩; conv => whnf)
    obtain ⟨a, t2, ht2, _, _, hs⟩ := n_ex g2 3 (by unfold InI64; omega)
    refine ⟨_, _, hs, ?_⟩; conv => whnf
    (refine ⟨by intros; first | omega | (unfold InI64; omega) | (unfold big; omega) | contradiction | (dsimp only at *; omega) | (dsimp only at *; unfold InI64; omega) | (dsimp only at *; unfold big; omega) | (simp only [Int.toNat_natCast]; omega) | (simp only [List.length_append, List.length_cons, List.length_nil, List.length_set]; omega), ?_⟩; conv => whnf)
    obtain ⟨b, t3, ht3, _, _, hs3⟩ := n_ex ht2 (l.getD i sup0).lev.length (by unfold InI64; omega)
    refine ⟨_, _, hs3, ?_⟩; conv => whnf
    (refine ⟨by intros; first | omega | (unfold InI64; omega) | (unfold big; omega) | contradiction | (dsimp only at *; omega) | (dsimp only at *; unfold InI64; omega) | (dsimp only at *; unfold big; omega) | (simp only [Int.toNat_natCast]; omega) | (simp only [List.length_append, List.length_cons, List.length_nil, List.length_set]; omega), ?_⟩; conv => whnf)
    (refine ⟨by intros; first | omega | (unfold InI64; omega) | (unfold big; omega) | contradiction | (dsimp only at *; omega) | (dsimp only at *; unfold InI64; omega) | (dsimp only at *; unfold big; omega) | (simp only [Int.toNat_natCast]; omega) | (simp only [List.length_append, List.length_cons, List.length_nil, List.length_set]; omega), ?_⟩; conv => whnf)
    refine ⟨(i + 1, t3, on ++ [decide (0 < a)], lev ++ [b]), [(0, some 0), (1, some 1), (2, some 2), (3, some 16), (4, some 27)], ⟨hlt, ht3, by show (on ++ [_]).length = i + 1; simp [g3], by show (lev ++ [_]).length = i + 1; simp [g4]⟩, by show l.length - (i + 1) < l.length - i; omega, by (repeat' (first | exact trivial | exact rfl | exact ⟨rfl, rfl⟩ | exact ⟨rfl, trivial⟩ | exact ⟨rfl, LeL.refl _, trivial⟩ | exact ⟨rfl, LeL.refl _, LeL.refl _, trivial⟩ | exact embV_le (.refl _) rfl | exact embV_leV (.refl _) rfl (Nat.lt_of_sub_pos (by exact Nat.zero_lt_succ _)) | exact ⟨rfl, rfl, rfl, rfl⟩ | exact ⟨rfl, rfl, rfl, rfl, id⟩ | exact ⟨rfl, rfl, rfl, rfl, rfl⟩ | exact ⟨rfl, rfl, rfl, rfl, nofun⟩ | exact tape_emb rfl | exact embO_le (LeL.refl _) rfl (Nat.lt_of_sub_pos (by exact Nat.zero_lt_succ _)) | exact ⟨rfl, rfl, fun _ _ => .refl _⟩ | exact embV_le (le_len (by simp)) rfl | exact ⟨rfl, rfl, rfl, by simp, nofun⟩ | exact ⟨rfl, by simp, le_app rfl (.refl _)⟩ | (refine ⟨rfl, ?_⟩; dsimp only; simp; done) | (refine ⟨rfl, ?_⟩; dsimp only; omega) | (refine ⟨rfl, ?_⟩; dsimp only; simp; omega) | refine ⟨?_, ?_⟩ | refine ⟨?_, ?_, ?_⟩))⟩
  · have h : decide ((i : Int) < l.length) = false := h
    have hil : i = l.length := by have := of_decide_eq_false h; omega
    (conv => whnf)
    refine ⟨_, _, ⟨⟨on, lev⟩, t, rfl, rfl, g2, by show on.length ≤ 16; omega, by show lev.length ≤ 16; omega⟩, Nat.le_refl _, ?_⟩
    (conv => whnf)
    (repeat' (first | exact trivial | exact rfl | exact ⟨rfl, rfl⟩ | exact ⟨rfl, trivial⟩ | exact ⟨rfl, LeL.refl _, trivial⟩ | exact ⟨rfl, LeL.refl _, LeL.refl _, trivial⟩ | exact embV_le (.refl _) rfl | exact embV_leV (.refl _) rfl (Nat.lt_of_sub_pos (by exact Nat.zero_lt_succ _)) | exact ⟨rfl, rfl, rfl, rfl⟩ | exact ⟨rfl, rfl, rfl, rfl, id⟩ | exact ⟨rfl, rfl, rfl, rfl, rfl⟩ | exact ⟨rfl, rfl, rfl, rfl, nofun⟩ | exact tape_emb rfl | exact embO_le (LeL.refl _) rfl (Nat.lt_of_sub_pos (by exact Nat.zero_lt_succ _)) | exact ⟨rfl, rfl, fun _ _ => .refl _⟩ | exact embV_le (le_len (by simp)) rfl | exact ⟨rfl, rfl, rfl, by simp, nofun⟩ | exact ⟨rfl, by simp, le_app rfl (.refl _)⟩ | (refine ⟨rfl, ?_⟩; dsimp only; simp; done) | (refine ⟨rfl, ?_⟩; dsimp only; omega) | (refine ⟨rfl, ?_⟩; dsimp only; simp; omega) | refine ⟨?_, ?_⟩ | refine ⟨?_, ?_, ?_⟩))

theorem rails_ex {t : Tp} (ht : t.ok) {l : List Sup} (hl : GoodS l) (hl1 : l.length ≤ 16) : ∃ q t', t'.ok ∧ q.on.length ≤ 16 ∧ q.lev.length ≤ 16 ∧ S 37 [.ptr 0 0 0, supsV l] [tapeO t] (rlsV q) [tapeO t'] := by
  obtain ⟨r, o, ⟨q, t', rfl, rfl, h1, h2, h3⟩, h⟩ := rails_E t ht l hl hl1
  exact ⟨q, t', h1, h2, h3, h⟩

end Go.Proofs.Ytjmhlbogkeohpaa

namespace Go.Proofs.Ytjmhlbogkeohpaa
open Go.Ab
set_option maxRecDepth 100000

structure NearOk (l : List Sup) (d : List Drw) (r : Rls) (ok : Bool) : Prop where
  is : ok = ((leastF l d).2 == 0)
  yes : ok = true → meetsF l r d = true
  no : ok = false → r = (leastF l d).1

set_option maxHeartbeats 8000000 in
theorem near_E (t : Tp) (ht : t.ok) (l : List Sup) (hl : GoodS l) (hl1 : 1 ≤ l.length ∧ l.length ≤ 16) (d : List Drw) (hd : GoodD l d) (hd1 : d.length ≤ 32) : SpecE Try.prog cfg 12 [.ptr 0 0 0, supsV l, drwsV d] [tapeO t] (fun r obs' => ∃ q ok t', r = .tup [rlsV q, .bool ok] ∧ obs' = [tapeO t'] ∧ t'.ok ∧ NearOk l d q ok) := by
  have hdr := goodD_draws (goodS_check hl hl1.2) hd hd1
  refine spec_ex (ct := []) cfgOK Try.func12 rfl rfl (Nat.le_of_ble_eq_true rfl) (by decide +kernel) ?_; conv => whnf
  refine ⟨_, _, rleast_spec l (by omega) d (by omega), ?_⟩; conv => whnf
  refine bcase_of (fun h => ?_) (fun h => ?_)
  · have h : ((leastF l d).2 != 0) = true := h
    have h' : ((leastF l d).2 == 0) = false := by simpa using h
    (conv => whnf)
    refine ⟨_, _, ⟨(leastF l d).1, false, t, rfl, rfl, ht, h'.symm, nofun, fun _ => rfl⟩, Nat.le_refl _, ?_⟩
    (conv => whnf)
    (repeat' (first | exact trivial | exact rfl | exact ⟨rfl, rfl⟩ | exact ⟨rfl, trivial⟩ | exact ⟨rfl, LeL.refl _, trivial⟩ | exact ⟨rfl, LeL.refl _, LeL.refl _, trivial⟩ | exact embV_le (.refl _) rfl | exact embV_leV (.refl _) rfl (Nat.lt_of_sub_pos (by exact Nat.zero_lt_succ _)) | exact ⟨rfl, rfl, rfl, rfl⟩ | exact ⟨rfl, rfl, rfl, rfl, id⟩ | exact ⟨rfl, rfl, rfl, rfl, rfl⟩ | exact ⟨rfl, rfl, rfl, rfl, nofun⟩ | exact tape_emb rfl | exact embO_le (LeL.refl _) rfl (Nat.lt_of_sub_pos (by exact Nat.zero_lt_succ _)) | exact ⟨rfl, rfl, fun _ _ => .refl _⟩ | exact embV_le (le_len (by simp)) rfl | exact ⟨rfl, rfl, rfl, by simp, nofun⟩ | exact ⟨rfl, by simp, le_app rfl (.refl _)⟩ | (refine ⟨rfl, ?_⟩; dsimp only; simp; done) | (refine ⟨rfl, ?_⟩; dsimp only; omega) | (refine ⟨rfl, ?_⟩; dsimp only; simp; omega) | refine ⟨?_, ?_⟩ | refine ⟨?_, ?_, ?_⟩))
  have h : ((leastF l d).2 != 0) = false := h
  have h' : ((leastF l d).2 == 0) = true := by simpa using h
  have hb : Best l d (leastF l d).1 := by
    rcases least_best hdr with ⟨_, hb⟩ | ⟨hb, _⟩
    · exact hb
    · rw [hb] at h'; cases h'
  generalize (leastF l d).1 = r0 at hb
  (conv => whnf)
  (refine ⟨by intros; first | omega | (unfold InI64; omega) | (unfold big; omega) | contradiction | (dsimp only at *; omega) | (dsimp only at *; unfold InI64; omega) | (dsimp only at *; unfold big; omega) | (simp only [Int.toNat_natCast]; omega) | (simp only [List.length_append, List.length_cons, List.length_nil, List.length_set]; omega), ?_⟩; conv => whnf)
  refine loops_introF (ct := [11]) cfgOK (by decide +kernel) (fun g : Nat × Tp × Rls => ⟨[(0, .ptr 0 0 0), (1, supsV l), (2, drwsV d), (6, .ptr 1 0 0), (8, .ptr 2 0 0), (10, iV g.1)], [(0, some (tapeO g.2.1)), (1, some (.box [.sl 0 0 true nilG, .sl 0 0 true nilG])), (2, some (.box [boolsV g.2.2.on, intsV g.2.2.lev]))], 3⟩)
    (fun g => g.1 ≤ 2 * l.length ∧ g.2.1.ok ∧ meetsF l g.2.2 d = true) (fun g => g.1) (2 * l.length, t, r0) [(0, some 0), (1, some 1), (2, some 9)] [] ⟨Nat.le_refl _, ht, hb.ok⟩ ?_ ?_
  · exact ⟨rfl, by (repeat' (first | exact trivial | exact rfl | exact ⟨rfl, rfl⟩ | exact ⟨rfl, trivial⟩ | exact ⟨rfl, LeL.refl _, trivial⟩ | exact ⟨rfl, LeL.refl _, LeL.refl _, trivial⟩ | exact embV_le (.refl _) rfl | exact embV_leV (.refl _) rfl (Nat.lt_of_sub_pos (by exact Nat.zero_lt_succ _)) | exact ⟨rfl, rfl, rfl, rfl⟩ | exact ⟨rfl, rfl, rfl, rfl, id⟩ | exact ⟨rfl, rfl, rfl, rfl, rfl⟩ | exact ⟨rfl, rfl, rfl, rfl, nofun⟩ | exact tape_emb rfl | exact embO_le (LeL.refl _) rfl (Nat.lt_of_sub_pos (by exact Nat.zero_lt_succ _)) | exact ⟨rfl, rfl, fun _ _ => .refl _⟩ | exact embV_le (le_len (by simp)) rfl | exact ⟨rfl, rfl, rfl, by simp, nofun⟩ | exact ⟨rfl, by simp, le_app rfl (.refl _)⟩ | (refine ⟨rfl, ?_⟩; dsimp only; simp; done) | (refine ⟨rfl, ?_⟩; dsimp only; omega) | (refine ⟨rfl, ?_⟩; dsimp only; simp; omega) | refine ⟨?_, ?_⟩ | refine ⟨?_, ?_, ?_⟩)), by (repeat' (first | exact trivial | exact rfl | exact ⟨rfl, rfl⟩ | exact ⟨rfl, trivial⟩ | exact ⟨rfl, LeL.refl _, trivial⟩ | exact ⟨rfl, LeL.refl _, LeL.refl _, trivial⟩ | exact embV_le (.refl _) rfl | exact embV_leV (.refl _) rfl (Nat.lt_of_sub_pos (by exact Nat.zero_lt_succ _)) | exact ⟨rfl, rfl, rfl, rfl⟩ | exact ⟨rfl, rfl, rfl, rfl, id⟩ | exact ⟨rfl, rfl, rfl, rfl, rfl⟩ | exact ⟨rfl, rfl, rfl, rfl, nofun⟩ | exact tape_emb rfl | exact embO_le (LeL.refl _) rfl (Nat.lt_of_sub_pos (by exact Nat.zero_lt_succ _)) | exact ⟨rfl, rfl, fun _ _ => .refl _⟩ | exact embV_le (le_len (by simp)) rfl | exact ⟨rfl, rfl, rfl, by simp, nofun⟩ | exact ⟨rfl, by simp, le_app rfl (.refl _)⟩ | (refine ⟨rfl, ?_⟩; dsimp only; simp; done) | (refine ⟨rfl, ?_⟩; dsimp only; omega) | (refine ⟨rfl, ?_⟩; dsimp only; simp; omega) | refine ⟨?_, ?_⟩ | refine ⟨?_, ?_, ?_⟩))⟩
  intro ⟨i, t, r⟩ ⟨g1, g2, g3⟩
  have g1 : i ≤ 2 * l.length := g1
  have g2 : t.ok := g2
  have g3 : meetsF l r d = true := g3
  have hr := ((meetsF_iff hdr).1 g3).1
  have hron := hr.on
  have hrlen := hr.len
  (conv => whnf)
  refine bcase_of (fun h2 => ?_) (fun h2 => ?_)
  · have h2 : decide ((0 : Int) < (i : Int)) = true := h2
    have h0 := of_decide_eq_true h2
    (conv => whnf)
    (refine ⟨by intros; first | omega | (unfold InI64; omega) | (unfold big; omega) | contradiction | (dsimp only at *; omega) | (dsimp only at *; unfold InI64; omega) | (dsimp only at *; unfold big; omega) | (simp only [Int.toNat_natCast]; omega) | (simp only [List.length_append, List.length_cons, List.length_nil, List.length_set]; omega), ?_⟩; conv => whnf)
    (refine ⟨by intros; first | omega | (unfold InI64; omega) | (unfold big; omega) | contradiction | (dsimp only at *; omega) | (dsimp only at *; unfold InI64; omega) | (dsimp only at *; unfold big; omega) | (simp only [Int.toNat_natCast]; omega) | (simp only [List.length_append, List.length_cons, List.length_nil, List.length_set]; omega), ?_⟩; conv => whnf)
    obtain ⟨k, t2, ht2, hk1, hk2, hs2⟩ := n_ex g2 l.length (by unfold InI64; omega)
    have hk3 := hk2 (by omega)
    obtain ⟨k, rfl⟩ : ∃ q : Nat, k = q := ⟨k.toNat, by omega⟩
    have hkl := (hl k (by omega)).2
    refine ⟨_, _, hs2, ?_⟩; conv => whnf
    refine cut_introF (ct := []) (ct' := []) cfgOK (by decide +kernel) (by decide +kernel) (fun g : Tp × List Bool => ⟨[(0, .ptr 0 0 0), (1, supsV l), (2, drwsV d), (6, .ptr 1 0 0), (8, .ptr 2 0 0), (10, iV i), (11, .ptr 3 0 0), (12, iV k)], [(0, some (tapeO g.1)), (1, some (.box [.sl 0 0 true nilG, .sl 0 0 true nilG])), (2, some (.box [boolsV r.on, intsV r.lev])), (3, some (.box [.osl 4 0 g.2.length false, .osl 5 0 r.lev.length false])), (4, some (.row 1 g.2.length (rowG AV.bool false g.2))), (5, some (.row 1 r.lev.length (rowG iV 0 r.lev)))], 6⟩) (fun g => g.1.ok ∧ g.2.length = l.length) ?_ ?_
    · (conv => whnf)
      obtain ⟨c, t3, ht3, _, _, hs3⟩ := n_ex ht2 2 (by unfold InI64; omega)
      refine ⟨_, _, hs3, ?_⟩; conv => whnf
      refine bcase_of (fun h3 => ?_) (fun h3 => ?_)
      · (conv => whnf)
        refine ⟨by show 0 ≤ (k : Int) ∧ (k : Int) < ((0 + r.on.length : Nat) : Int); omega, ?_⟩; conv => whnf
        refine ⟨(t3, r.on.set k true), [(0, some 0), (1, some 1), (2, some 2), (3, some 14), (4, some 8), (5, some 12)], [], ⟨ht3, by show (r.on.set k true).length = _; rw [List.length_set]; exact hron⟩, ⟨rfl, by (repeat' (first | exact trivial | exact rfl | exact ⟨rfl, rfl⟩ | exact ⟨rfl, trivial⟩ | exact ⟨rfl, LeL.refl _, trivial⟩ | exact ⟨rfl, LeL.refl _, LeL.refl _, trivial⟩ | exact embV_le (.refl _) rfl | exact embV_leV (.refl _) rfl (Nat.lt_of_sub_pos (by exact Nat.zero_lt_succ _)) | exact ⟨rfl, rfl, rfl, rfl⟩ | exact ⟨rfl, rfl, rfl, rfl, id⟩ | exact ⟨rfl, rfl, rfl, rfl, rfl⟩ | exact ⟨rfl, rfl, rfl, rfl, nofun⟩ | exact tape_emb rfl | exact embO_le (LeL.refl _) rfl (Nat.lt_of_sub_pos (by exact Nat.zero_lt_succ _)) | exact ⟨rfl, rfl, fun _ _ => .refl _⟩ | exact embV_le (le_len (by simp)) rfl | exact ⟨rfl, rfl, rfl, by simp, nofun⟩ | exact ⟨rfl, by simp, le_app rfl (.refl _)⟩ | (refine ⟨rfl, ?_⟩; dsimp only; simp; done) | (refine ⟨rfl, ?_⟩; dsimp only; omega) | (refine ⟨rfl, ?_⟩; dsimp only; simp; omega) | refine ⟨?_, ?_⟩ | refine ⟨?_, ?_, ?_⟩)), ⟨by (repeat' (first | exact trivial | exact rfl | exact ⟨rfl, rfl⟩ | exact ⟨rfl, trivial⟩ | exact ⟨rfl, LeL.refl _, trivial⟩ | exact ⟨rfl, LeL.refl _, LeL.refl _, trivial⟩ | exact embV_le (.refl _) rfl | exact embV_leV (.refl _) rfl (Nat.lt_of_sub_pos (by exact Nat.zero_lt_succ _)) | exact ⟨rfl, rfl, rfl, rfl⟩ | exact ⟨rfl, rfl, rfl, rfl, id⟩ | exact ⟨rfl, rfl, rfl, rfl, rfl⟩ | exact ⟨rfl, rfl, rfl, rfl, nofun⟩ | exact tape_emb rfl | exact embO_le (LeL.refl _) rfl (Nat.lt_of_sub_pos (by exact Nat.zero_lt_succ _)) | exact ⟨rfl, rfl, fun _ _ => .refl _⟩ | exact embV_le (le_len (by simp)) rfl | exact ⟨rfl, rfl, rfl, by simp, nofun⟩ | exact ⟨rfl, by simp, le_app rfl (.refl _)⟩ | (refine ⟨rfl, ?_⟩; dsimp only; simp; done) | (refine ⟨rfl, ?_⟩; dsimp only; omega) | (refine ⟨rfl, ?_⟩; dsimp only; simp; omega) | refine ⟨?_, ?_⟩ | refine ⟨?_, ?_, ?_⟩)), by (repeat' (first | exact trivial | exact rfl | exact ⟨rfl, rfl⟩ | exact ⟨rfl, trivial⟩ | exact ⟨rfl, LeL.refl _, trivial⟩ | exact ⟨rfl, LeL.refl _, LeL.refl _, trivial⟩ | exact embV_le (.refl _) rfl | exact embV_leV (.refl _) rfl (Nat.lt_of_sub_pos (by exact Nat.zero_lt_succ _)) | exact ⟨rfl, rfl, rfl, rfl⟩ | exact ⟨rfl, rfl, rfl, rfl, id⟩ | exact ⟨rfl, rfl, rfl, rfl, rfl⟩ | exact ⟨rfl, rfl, rfl, rfl, nofun⟩ | exact tape_emb rfl | exact embO_le (LeL.refl _) rfl (Nat.lt_of_sub_pos (by exact Nat.zero_lt_succ _)) | exact ⟨rfl, rfl, fun _ _ => .refl _⟩ | exact embV_le (le_len (by simp)) rfl | exact ⟨rfl, rfl, rfl, by simp, nofun⟩ | exact ⟨rfl, by simp, le_app rfl (.refl _)⟩ | (refine ⟨rfl, ?_⟩; dsimp only; simp; done) | (refine ⟨rfl, ?_⟩; dsimp only; omega) | (refine ⟨rfl, ?_⟩; dsimp only; simp; omega) | refine ⟨?_, ?_⟩ | refine ⟨?_, ?_, ?_⟩)), by (repeat' (first | exact trivial | exact rfl | exact ⟨rfl, rfl⟩ | exact ⟨rfl, trivial⟩ | exact ⟨rfl, LeL.refl _, trivial⟩ | exact ⟨rfl, LeL.refl _, LeL.refl _, trivial⟩ | exact embV_le (.refl _) rfl | exact embV_leV (.refl _) rfl (Nat.lt_of_sub_pos (by exact Nat.zero_lt_succ _)) | exact ⟨rfl, rfl, rfl, rfl⟩ | exact ⟨rfl, rfl, rfl, rfl, id⟩ | exact ⟨rfl, rfl, rfl, rfl, rfl⟩ | exact ⟨rfl, rfl, rfl, rfl, nofun⟩ | exact tape_emb rfl | exact embO_le (LeL.refl _) rfl (Nat.lt_of_sub_pos (by exact Nat.zero_lt_succ _)) | exact ⟨rfl, rfl, fun _ _ => .refl _⟩ | exact embV_le (le_len (by simp)) rfl | exact ⟨rfl, rfl, rfl, by simp, nofun⟩ | exact ⟨rfl, by simp, le_app rfl (.refl _)⟩ | (refine ⟨rfl, ?_⟩; dsimp only; simp; done) | (refine ⟨rfl, ?_⟩; dsimp only; omega) | (refine ⟨rfl, ?_⟩; dsimp only; simp; omega) | refine ⟨?_, ?_⟩ | refine ⟨?_, ?_, ?_⟩)), by (repeat' (first | exact trivial | exact rfl | exact ⟨rfl, rfl⟩ | exact ⟨rfl, trivial⟩ | exact ⟨rfl, LeL.refl _, trivial⟩ | exact ⟨rfl, LeL.refl _, LeL.refl _, trivial⟩ | exact embV_le (.refl _) rfl | exact embV_leV (.refl _) rfl (Nat.lt_of_sub_pos (by exact Nat.zero_lt_succ _)) | exact ⟨rfl, rfl, rfl, rfl⟩ | exact ⟨rfl, rfl, rfl, rfl, id⟩ | exact ⟨rfl, rfl, rfl, rfl, rfl⟩ | exact ⟨rfl, rfl, rfl, rfl, nofun⟩ | exact tape_emb rfl | exact embO_le (LeL.refl _) rfl (Nat.lt_of_sub_pos (by exact Nat.zero_lt_succ _)) | exact ⟨rfl, rfl, fun _ _ => .refl _⟩ | exact embV_le (le_len (by simp)) rfl | exact ⟨rfl, rfl, rfl, by simp, nofun⟩ | exact ⟨rfl, by simp, le_app rfl (.refl _)⟩ | (refine ⟨rfl, ?_⟩; dsimp only; simp; done) | (refine ⟨rfl, ?_⟩; dsimp only; omega) | (refine ⟨rfl, ?_⟩; dsimp only; simp; omega) | refine ⟨?_, ?_⟩ | refine ⟨?_, ?_, ?_⟩)), ⟨rfl, by simp, fun j _ => ?_⟩, ⟨rfl, by simp, fun j _ => .refl _⟩, trivial⟩⟩⟩
        exact le_set (l := r.on) (i := k) (v := true) (by omega) rfl (.refl _) j
      · (conv => whnf)
        refine ⟨(t3, r.on), [(0, some 0), (1, some 1), (2, some 2), (3, some 14), (4, some 8), (5, some 12)], [], ⟨ht3, hron⟩, ⟨rfl, by (repeat' (first | exact trivial | exact rfl | exact ⟨rfl, rfl⟩ | exact ⟨rfl, trivial⟩ | exact ⟨rfl, LeL.refl _, trivial⟩ | exact ⟨rfl, LeL.refl _, LeL.refl _, trivial⟩ | exact embV_le (.refl _) rfl | exact embV_leV (.refl _) rfl (Nat.lt_of_sub_pos (by exact Nat.zero_lt_succ _)) | exact ⟨rfl, rfl, rfl, rfl⟩ | exact ⟨rfl, rfl, rfl, rfl, id⟩ | exact ⟨rfl, rfl, rfl, rfl, rfl⟩ | exact ⟨rfl, rfl, rfl, rfl, nofun⟩ | exact tape_emb rfl | exact embO_le (LeL.refl _) rfl (Nat.lt_of_sub_pos (by exact Nat.zero_lt_succ _)) | exact ⟨rfl, rfl, fun _ _ => .refl _⟩ | exact embV_le (le_len (by simp)) rfl | exact ⟨rfl, rfl, rfl, by simp, nofun⟩ | exact ⟨rfl, by simp, le_app rfl (.refl _)⟩ | (refine ⟨rfl, ?_⟩; dsimp only; simp; done) | (refine ⟨rfl, ?_⟩; dsimp only; omega) | (refine ⟨rfl, ?_⟩; dsimp only; simp; omega) | refine ⟨?_, ?_⟩ | refine ⟨?_, ?_, ?_⟩)), ⟨by (repeat' (first | exact trivial | exact rfl | exact ⟨rfl, rfl⟩ | exact ⟨rfl, trivial⟩ | exact ⟨rfl, LeL.refl _, trivial⟩ | exact ⟨rfl, LeL.refl _, LeL.refl _, trivial⟩ | exact embV_le (.refl _) rfl | exact embV_leV (.refl _) rfl (Nat.lt_of_sub_pos (by exact Nat.zero_lt_succ _)) | exact ⟨rfl, rfl, rfl, rfl⟩ | exact ⟨rfl, rfl, rfl, rfl, id⟩ | exact ⟨rfl, rfl, rfl, rfl, rfl⟩ | exact ⟨rfl, rfl, rfl, rfl, nofun⟩ | exact tape_emb rfl | exact embO_le (LeL.refl _) rfl (Nat.lt_of_sub_pos (by exact Nat.zero_lt_succ _)) | exact ⟨rfl, rfl, fun _ _ => .refl _⟩ | exact embV_le (le_len (by simp)) rfl | exact ⟨rfl, rfl, rfl, by simp, nofun⟩ | exact ⟨rfl, by simp, le_app rfl (.refl _)⟩ | (refine ⟨rfl, ?_⟩; dsimp only; simp; done) | (refine ⟨rfl, ?_⟩; dsimp only; omega) | (refine ⟨rfl, ?_⟩; dsimp only; simp; omega) | refine ⟨?_, ?_⟩ | refine ⟨?_, ?_, ?_⟩)), by (repeat' (first | exact trivial | exact rfl | exact ⟨rfl, rfl⟩ | exact ⟨rfl, trivial⟩ | exact ⟨rfl, LeL.refl _, trivial⟩ | exact ⟨rfl, LeL.refl _, LeL.refl _, trivial⟩ | exact embV_le (.refl _) rfl | exact embV_leV (.refl _) rfl (Nat.lt_of_sub_pos (by exact Nat.zero_lt_succ _)) | exact ⟨rfl, rfl, rfl, rfl⟩ | exact ⟨rfl, rfl, rfl, rfl, id⟩ | exact ⟨rfl, rfl, rfl, rfl, rfl⟩ | exact ⟨rfl, rfl, rfl, rfl, nofun⟩ | exact tape_emb rfl | exact embO_le (LeL.refl _) rfl (Nat.lt_of_sub_pos (by exact Nat.zero_lt_succ _)) | exact ⟨rfl, rfl, fun _ _ => .refl _⟩ | exact embV_le (le_len (by simp)) rfl | exact ⟨rfl, rfl, rfl, by simp, nofun⟩ | exact ⟨rfl, by simp, le_app rfl (.refl _)⟩ | (refine ⟨rfl, ?_⟩; dsimp only; simp; done) | (refine ⟨rfl, ?_⟩; dsimp only; omega) | (refine ⟨rfl, ?_⟩; dsimp only; simp; omega) | refine ⟨?_, ?_⟩ | refine ⟨?_, ?_, ?_⟩)), by (repeat' (first | exact trivial | exact rfl | exact ⟨rfl, rfl⟩ | exact ⟨rfl, trivial⟩ | exact ⟨rfl, LeL.refl _, trivial⟩ | exact ⟨rfl, LeL.refl _, LeL.refl _, trivial⟩ | exact embV_le (.refl _) rfl | exact embV_leV (.refl _) rfl (Nat.lt_of_sub_pos (by exact Nat.zero_lt_succ _)) | exact ⟨rfl, rfl, rfl, rfl⟩ | exact ⟨rfl, rfl, rfl, rfl, id⟩ | exact ⟨rfl, rfl, rfl, rfl, rfl⟩ | exact ⟨rfl, rfl, rfl, rfl, nofun⟩ | exact tape_emb rfl | exact embO_le (LeL.refl _) rfl (Nat.lt_of_sub_pos (by exact Nat.zero_lt_succ _)) | exact ⟨rfl, rfl, fun _ _ => .refl _⟩ | exact embV_le (le_len (by simp)) rfl | exact ⟨rfl, rfl, rfl, by simp, nofun⟩ | exact ⟨rfl, by simp, le_app rfl (.refl _)⟩ | (refine ⟨rfl, ?_⟩; dsimp only; simp; done) | (refine ⟨rfl, ?_⟩; dsimp only; omega) | (refine ⟨rfl, ?_⟩; dsimp only; simp; omega) | refine ⟨?_, ?_⟩ | refine ⟨?_, ?_, ?_⟩)), by (repeat' (first | exact trivial | exact rfl | exact ⟨rfl, rfl⟩ | exact ⟨rfl, trivial⟩ | exact ⟨rfl, LeL.refl _, trivial⟩ | exact ⟨rfl, LeL.refl _, LeL.refl _, trivial⟩ | exact embV_le (.refl _) rfl | exact embV_leV (.refl _) rfl (Nat.lt_of_sub_pos (by exact Nat.zero_lt_succ _)) | exact ⟨rfl, rfl, rfl, rfl⟩ | exact ⟨rfl, rfl, rfl, rfl, id⟩ | exact ⟨rfl, rfl, rfl, rfl, rfl⟩ | exact ⟨rfl, rfl, rfl, rfl, nofun⟩ | exact tape_emb rfl | exact embO_le (LeL.refl _) rfl (Nat.lt_of_sub_pos (by exact Nat.zero_lt_succ _)) | exact ⟨rfl, rfl, fun _ _ => .refl _⟩ | exact embV_le (le_len (by simp)) rfl | exact ⟨rfl, rfl, rfl, by simp, nofun⟩ | exact ⟨rfl, by simp, le_app rfl (.refl _)⟩ | (refine ⟨rfl, ?_⟩; dsimp only; simp; done) | (refine ⟨rfl, ?_⟩; dsimp only; omega) | (refine ⟨rfl, ?_⟩; dsimp only; simp; omega) | refine ⟨?_, ?_⟩ | refine ⟨?_, ?_, ?_⟩)), ⟨rfl, by simp, fun j _ => .refl _⟩, ⟨rfl, by simp, fun j _ => .refl _⟩, trivial⟩⟩⟩
    · intro ⟨t3, on⟩ ⟨ht3, hon⟩
      have ht3 : t3.ok := ht3
      have hon : on.length = l.length := hon
      (conv => whnf)
      (refine ⟨by intros; first | omega | (unfold InI64; omega) | (unfold big; omega) | contradiction | (dsimp only at *; omega) | (dsimp only at *; unfold InI64; omega) | (dsimp only at *; unfold big; omega) | (simp only [Int.toNat_natCast]; omega) | (simp only [List.length_append, List.length_cons, List.length_nil, List.length_set]; omega), ?_⟩; conv => whnf)
      obtain ⟨q, t4, ht4, hq1, _, hs4⟩ := n_ex ht3 (l.getD k sup0).lev.length (by unfold InI64; omega)
      refine ⟨_, _, hs4, ?_⟩; conv => whnf
      (refine ⟨by intros; first | omega | (unfold InI64; omega) | (unfold big; omega) | contradiction | (dsimp only at *; omega) | (dsimp only at *; unfold InI64; omega) | (dsimp only at *; unfold big; omega) | (simp only [Int.toNat_natCast]; omega) | (simp only [List.length_append, List.length_cons, List.length_nil, List.length_set]; omega), ?_⟩; conv => whnf)
      refine ⟨_, _, (rMeets_spec l (by omega) ⟨on, r.lev.set k q⟩ d (by omega)).le ⟨.refl _, Le.aggL ⟨.refl _, .sl (by simp) (fun _ => rfl) nofun (fun j _ => le_set (l := r.lev) (i := k) (v := q) (by omega) rfl (.refl _) j), trivial⟩, .refl _, trivial⟩ trivial, ?_⟩; conv => whnf
      refine bcase_of (fun h4 => ?_) (fun h4 => ?_)
      · have h4 : meetsF l ⟨on, r.lev.set k q⟩ d = true := h4
        (conv => whnf)
        refine ⟨by show InI64 ((i : Int) - 1); unfold InI64; omega, ?_⟩; conv => whnf
        refine ⟨(i - 1, t4, ⟨on, r.lev.set k q⟩), [(0, some 0), (1, some 1), (2, some 2)], [4, 5], ⟨by show i - 1 ≤ _; omega, ht4, h4⟩, by show i - 1 < i; omega, ⟨rfl, by (repeat' (first | exact trivial | exact rfl | exact ⟨rfl, rfl⟩ | exact ⟨rfl, trivial⟩ | exact ⟨rfl, LeL.refl _, trivial⟩ | exact ⟨rfl, LeL.refl _, LeL.refl _, trivial⟩ | exact embV_le (.refl _) rfl | exact embV_leV (.refl _) rfl (Nat.lt_of_sub_pos (by exact Nat.zero_lt_succ _)) | exact ⟨rfl, rfl, rfl, rfl⟩ | exact ⟨rfl, rfl, rfl, rfl, id⟩ | exact ⟨rfl, rfl, rfl, rfl, rfl⟩ | exact ⟨rfl, rfl, rfl, rfl, nofun⟩ | exact tape_emb rfl | exact embO_le (LeL.refl _) rfl (Nat.lt_of_sub_pos (by exact Nat.zero_lt_succ _)) | exact ⟨rfl, rfl, fun _ _ => .refl _⟩ | exact embV_le (le_len (by simp)) rfl | exact ⟨rfl, rfl, rfl, by simp, nofun⟩ | exact ⟨rfl, by simp, le_app rfl (.refl _)⟩ | (refine ⟨rfl, ?_⟩; dsimp only; simp; done) | (refine ⟨rfl, ?_⟩; dsimp only; omega) | (refine ⟨rfl, ?_⟩; dsimp only; simp; omega) | refine ⟨?_, ?_⟩ | refine ⟨?_, ?_, ?_⟩)), ?_⟩⟩
        refine ⟨by (repeat' (first | exact trivial | exact rfl | exact ⟨rfl, rfl⟩ | exact ⟨rfl, trivial⟩ | exact ⟨rfl, LeL.refl _, trivial⟩ | exact ⟨rfl, LeL.refl _, LeL.refl _, trivial⟩ | exact embV_le (.refl _) rfl | exact embV_leV (.refl _) rfl (Nat.lt_of_sub_pos (by exact Nat.zero_lt_succ _)) | exact ⟨rfl, rfl, rfl, rfl⟩ | exact ⟨rfl, rfl, rfl, rfl, id⟩ | exact ⟨rfl, rfl, rfl, rfl, rfl⟩ | exact ⟨rfl, rfl, rfl, rfl, nofun⟩ | exact tape_emb rfl | exact embO_le (LeL.refl _) rfl (Nat.lt_of_sub_pos (by exact Nat.zero_lt_succ _)) | exact ⟨rfl, rfl, fun _ _ => .refl _⟩ | exact embV_le (le_len (by simp)) rfl | exact ⟨rfl, rfl, rfl, by simp, nofun⟩ | exact ⟨rfl, by simp, le_app rfl (.refl _)⟩ | (refine ⟨rfl, ?_⟩; dsimp only; simp; done) | (refine ⟨rfl, ?_⟩; dsimp only; omega) | (refine ⟨rfl, ?_⟩; dsimp only; simp; omega) | refine ⟨?_, ?_⟩ | refine ⟨?_, ?_, ?_⟩)), by (repeat' (first | exact trivial | exact rfl | exact ⟨rfl, rfl⟩ | exact ⟨rfl, trivial⟩ | exact ⟨rfl, LeL.refl _, trivial⟩ | exact ⟨rfl, LeL.refl _, LeL.refl _, trivial⟩ | exact embV_le (.refl _) rfl | exact embV_leV (.refl _) rfl (Nat.lt_of_sub_pos (by exact Nat.zero_lt_succ _)) | exact ⟨rfl, rfl, rfl, rfl⟩ | exact ⟨rfl, rfl, rfl, rfl, id⟩ | exact ⟨rfl, rfl, rfl, rfl, rfl⟩ | exact ⟨rfl, rfl, rfl, rfl, nofun⟩ | exact tape_emb rfl | exact embO_le (LeL.refl _) rfl (Nat.lt_of_sub_pos (by exact Nat.zero_lt_succ _)) | exact ⟨rfl, rfl, fun _ _ => .refl _⟩ | exact embV_le (le_len (by simp)) rfl | exact ⟨rfl, rfl, rfl, by simp, nofun⟩ | exact ⟨rfl, by simp, le_app rfl (.refl _)⟩ | (refine ⟨rfl, ?_⟩; dsimp only; simp; done) | (refine ⟨rfl, ?_⟩; dsimp only; omega) | (refine ⟨rfl, ?_⟩; dsimp only; simp; omega) | refine ⟨?_, ?_⟩ | refine ⟨?_, ?_, ?_⟩)), ⟨embV_le (.refl _) rfl, embV_le (.sl (by simp) (fun _ => rfl) nofun (fun j _ => le_set (l := r.lev) (i := k) (v := q) (by omega) rfl (.refl _) j)) rfl, trivial⟩, trivial⟩
      · (conv => whnf)
        refine ⟨by show InI64 ((i : Int) - 1); unfold InI64; omega, ?_⟩; conv => whnf
        refine ⟨(i - 1, t4, r), [(0, some 0), (1, some 1), (2, some 2)], [], ⟨by show i - 1 ≤ _; omega, ht4, g3⟩, by show i - 1 < i; omega, ⟨rfl, by (repeat' (first | exact trivial | exact rfl | exact ⟨rfl, rfl⟩ | exact ⟨rfl, trivial⟩ | exact ⟨rfl, LeL.refl _, trivial⟩ | exact ⟨rfl, LeL.refl _, LeL.refl _, trivial⟩ | exact embV_le (.refl _) rfl | exact embV_leV (.refl _) rfl (Nat.lt_of_sub_pos (by exact Nat.zero_lt_succ _)) | exact ⟨rfl, rfl, rfl, rfl⟩ | exact ⟨rfl, rfl, rfl, rfl, id⟩ | exact ⟨rfl, rfl, rfl, rfl, rfl⟩ | exact ⟨rfl, rfl, rfl, rfl, nofun⟩ | exact tape_emb rfl | exact embO_le (LeL.refl _) rfl (Nat.lt_of_sub_pos (by exact Nat.zero_lt_succ _)) | exact ⟨rfl, rfl, fun _ _ => .refl _⟩ | exact embV_le (le_len (by simp)) rfl | exact ⟨rfl, rfl, rfl, by simp, nofun⟩ | exact ⟨rfl, by simp, le_app rfl (.refl _)⟩ | (refine ⟨rfl, ?_⟩; dsimp only; simp; done) | (refine ⟨rfl, ?_⟩; dsimp only; omega) | (refine ⟨rfl, ?_⟩; dsimp only; simp; omega) | refine ⟨?_, ?_⟩ | refine ⟨?_, ?_, ?_⟩)), by (repeat' (first | exact trivial | exact rfl | exact ⟨rfl, rfl⟩ | exact ⟨rfl, trivial⟩ | exact ⟨rfl, LeL.refl _, trivial⟩ | exact ⟨rfl, LeL.refl _, LeL.refl _, trivial⟩ | exact embV_le (.refl _) rfl | exact embV_leV (.refl _) rfl (Nat.lt_of_sub_pos (by exact Nat.zero_lt_succ _)) | exact ⟨rfl, rfl, rfl, rfl⟩ | exact ⟨rfl, rfl, rfl, rfl, id⟩ | exact ⟨rfl, rfl, rfl, rfl, rfl⟩ | exact ⟨rfl, rfl, rfl, rfl, nofun⟩ | exact tape_emb rfl | exact embO_le (LeL.refl _) rfl (Nat.lt_of_sub_pos (by exact Nat.zero_lt_succ _)) | exact ⟨rfl, rfl, fun _ _ => .refl _⟩ | exact embV_le (le_len (by simp)) rfl | exact ⟨rfl, rfl, rfl, by simp, nofun⟩ | exact ⟨rfl, by simp, le_app rfl (.refl _)⟩ | (refine ⟨rfl, ?_⟩; dsimp only; simp; done) | (refine ⟨rfl, ?_⟩; dsimp only; omega) | (refine ⟨rfl, ?_⟩; dsimp only; simp; omega) | refine ⟨?_, ?_⟩ | refine ⟨?_, ?_, ?_⟩))⟩⟩
  · have h2 : decide ((0 : Int) < (i : Int)) = false := h2
    (conv => whnf)
    refine ⟨_, _, ⟨r, true, t, rfl, rfl, g2, h'.symm, fun _ => g3, nofun⟩, Nat.le_refl _, ?_⟩
    (conv => whnf)
    (repeat' (first | exact trivial | exact rfl | exact ⟨rfl, rfl⟩ | exact ⟨rfl, trivial⟩ | exact ⟨rfl, LeL.refl _, trivial⟩ | exact ⟨rfl, LeL.refl _, LeL.refl _, trivial⟩ | exact embV_le (.refl _) rfl | exact embV_leV (.refl _) rfl (Nat.lt_of_sub_pos (by exact Nat.zero_lt_succ _)) | exact ⟨rfl, rfl, rfl, rfl⟩ | exact ⟨rfl, rfl, rfl, rfl, id⟩ | exact ⟨rfl, rfl, rfl, rfl, rfl⟩ | exact ⟨rfl, rfl, rfl, rfl, nofun⟩ | exact tape_emb rfl | exact embO_le (LeL.refl _) rfl (Nat.lt_of_sub_pos (by exact Nat.zero_lt_succ _)) | exact ⟨rfl, rfl, fun _ _ => .refl _⟩ | exact embV_le (le_len (by simp)) rfl | exact ⟨rfl, rfl, rfl, by simp, nofun⟩ | exact ⟨rfl, by simp, le_app rfl (.refl _)⟩ | (refine ⟨rfl, ?_⟩; dsimp only; simp; done) | (refine ⟨rfl, ?_⟩; dsimp only; omega) | (refine ⟨rfl, ?_⟩; dsimp only; simp; omega) | refine ⟨?_, ?_⟩ | refine ⟨?_, ?_, ?_⟩))

theorem near_ex {t : Tp} (ht : t.ok) {l : List Sup} (hl : GoodS l) (hl1 : 1 ≤ l.length ∧ l.length ≤ 16) {d : List Drw} (hd : GoodD l d) (hd1 : d.length ≤ 32) : ∃ q ok t', t'.ok ∧ NearOk l d q ok ∧ S 12 [.ptr 0 0 0, supsV l, drwsV d] [tapeO t] (.tup [rlsV q, .bool ok]) [tapeO t'] := by
  obtain ⟨r, o, ⟨q, ok, t', rfl, rfl, h1, h2⟩, h⟩ := near_E t ht l hl hl1 d hd hd1
  exact ⟨q, ok, t', h1, h2, h⟩

def twoL : List Sup := [⟨-1, [3000, 5000], 0, 100, false⟩, ⟨0, [1800, 2700], 500, 100, false⟩]

theorem two_spec : S 43 [] [] (supsV twoL) [] := by
  refine spec_of_x (ct := []) cfgOK Try.func43 rfl rfl (Nat.le_of_ble_eq_true rfl) (by decide +kernel) (Nat.zero_le _) ?_; conv => whnf
  refine ⟨embV_le (.sl rfl (fun _ => rfl) nofun (fun i hi => ?_)) rfl, trivial⟩
  match i, hi with
  | 0, _ => exact Le.aggL ⟨.refl _, le_ints [3000, 5000] rfl, .refl _, .refl _, .refl _, trivial⟩
  | 1, _ => exact Le.aggL ⟨.refl _, le_ints [1800, 2700] rfl, .refl _, .refl _, .refl _, trivial⟩

def awk1 : List Drw := [⟨1, 2000, 3000, 0⟩]
def awk2 : List Drw := [⟨1, 2000, 3000, 0⟩, ⟨0, 0, 3300, 0⟩]

theorem awk_facts : (leastF twoL awk1).2 = 0 ∧ (leastF twoL awk1).1.lev = [1, 1] ∧ (explainF twoL awk2).2 = 0 ∧ (explainF twoL awk2).1.sups = [1, 0] ∧ rchkF twoL awk2 (explainF twoL awk2).1 = true := by
  decide +kernel

theorem awake_spec : S 13 [] [] (.bool true) [] := by
  obtain ⟨f1, f2, f3, f4, f5⟩ := awk_facts
  refine spec_of_x (ct := [2]) cfgOK Try.func13 rfl rfl (Nat.le_of_ble_eq_true rfl) (by decide +kernel) (Nat.le_refl _) ?_
  (conv => whnf)
  refine cut_freeze (ct := []) (ct' := []) cfgOK (by decide +kernel) (by decide +kernel) (fun _ : Unit => ⟨[(1, .sl 4 1 true (rowG drwV drw0 awk1))], [], 1⟩) (fun _ => True) ?_ ?_
  · (conv => whnf)
    refine ⟨(), [], 2, trivial, ⟨rfl, ⟨⟨rfl, fun _ => rfl, id, fun i hi => ?_⟩, trivial⟩, trivial⟩⟩
    match i, hi with
    | 0, _ => exact .refl _
  intro _ _
  (conv => whnf)
  refine ⟨_, _, two_spec, ?_⟩; conv => whnf
  refine ⟨_, _, (least_spec twoL (by decide) awk1 (by decide)).le ⟨.refl _, .sl rfl (fun _ => rfl) nofun (fun _ _ => .refl _), trivial⟩ trivial, ?_⟩; conv => whnf
  refine ⟨by show (1 + 1) * 32 ≤ 140737488355328; omega, ?_⟩; conv => whnf
  refine ⟨_, _, two_spec, ?_⟩; conv => whnf
  refine ⟨_, _, (explain_spec twoL (by decide) awk2 (by decide)).le ⟨.refl _, .sl rfl (fun _ => rfl) nofun (fun i hi => by match i, hi with | 0, _ => exact .refl _ | 1, _ => exact .refl _), trivial⟩ trivial, ?_⟩; conv => whnf
  refine ⟨_, _, fun _ => (ints_spec (leastF twoL awk1).1.lev [1, 1] (by rw [f2]; decide)).le ⟨.refl _, le_ints [1, 1] rfl, trivial⟩ trivial, ?_⟩; conv => whnf
  refine ⟨_, _, two_spec, ?_⟩; conv => whnf
  refine ⟨_, _, fun _ => (rchain_spec twoL (by decide) awk2 (by decide) (explainF twoL awk2).1 (by rw [f4]; decide)).le ⟨.refl _, .sl rfl (fun _ => rfl) nofun (fun i hi => by match i, hi with | 0, _ => exact .refl _ | 1, _ => exact .refl _), .refl _, trivial⟩ trivial, ?_⟩; conv => whnf
  refine ⟨_, _, fun _ => (ints_spec (explainF twoL awk2).1.sups [1, 0] (by rw [f4]; decide)).le ⟨.refl _, le_ints [1, 0] rfl, trivial⟩ trivial, ?_⟩; conv => whnf
  refine ⟨?_, trivial⟩
  show (((((leastF twoL awk1).2 == 0) && ((explainF twoL awk2).2 == 0)) && ((leastF twoL awk1).1.lev == [1, 1])) && rchkF twoL awk2 (explainF twoL awk2).1 && ((explainF twoL awk2).1.sups == [1, 0])) = true
  rw [f1, f2, f3, f4, f5]
  rfl

end Go.Proofs.Ytjmhlbogkeohpaa

namespace Go.Proofs.Ytjmhlbogkeohpaa
open Go.Ab
set_option maxRecDepth 100000

/-! Small supplies -/
def smallN (l : List Sup) : Nat → Int
  | 0 => l.length
  | i + 1 => smallN l i + (l.getD i sup0).lev.length

theorem smallN_mono (l : List Sup) (i j : Nat) (h : i ≤ j) : smallN l i ≤ smallN l j := by
  induction j with
  | zero => obtain rfl : i = 0 := by omega
            exact Int.le_refl _
  | succ j ih =>
    by_cases hij : i = j + 1
    · subst hij; exact Int.le_refl _
    · have := ih (by omega)
      rw [smallN]
      omega

theorem smallN_len (l : List Sup) (i : Nat) : (l.length : Int) ≤ smallN l i := smallN_mono l 0 i (Nat.zero_le _)

theorem small_spec (l : List Sup) (hl : l.length ≤ 1000000000) (hb : ∀ i : Nat, i < l.length → (l.getD i sup0).lev.length ≤ 1000000000) :
    ∃ b, (b = true → l.length ≤ 300) ∧ S 25 [supsV l] [] (.bool b) [] := by
  by_cases hs : ∃ i, i ≤ l.length ∧ (∀ j, j < i → smallN l j < 900) ∧ (i = l.length ∨ 900 ≤ smallN l i)
  · obtain ⟨n, h1, h2, h3⟩ := hs
    refine ⟨decide (smallN l n ≤ 300), fun h => ?_, ?_⟩
    · have h := of_decide_eq_true h
      have := smallN_len l n
      omega
    · refine spec_of_x (ct := []) cfgOK Try.func25 rfl rfl (Nat.le_of_ble_eq_true rfl) (by decide +kernel) (Nat.le_refl _) ?_
      conv => whnf
      refine loops_intro (ct := []) cfgOK (by decide +kernel) (fun i : Nat => ⟨[(0, supsV l), (3, iV (smallN l i)), (4, iV i)], [], 1⟩)
        (fun i => i ≤ n) (fun i => n - i) 0 [] (Nat.zero_le _)
        ⟨rfl, ⟨embV_le (.refl _) rfl, ⟨rfl, rfl⟩, ⟨rfl, rfl⟩, trivial⟩, trivial⟩ ?_
      intro i hi
      conv => whnf
      refine bcase_of (fun h4 => ?_) (fun h4 => ?_)
      · have h4 : (decide ((i : Int) < l.length) && decide (smallN l i < 900)) = true := h4
        rw [Bool.and_eq_true] at h4
        have h5 := of_decide_eq_true h4.1
        have h6 := of_decide_eq_true h4.2
        have hlt : i < n := by
          rcases Nat.lt_or_ge i n with h | h
          · exact h
          · obtain rfl : i = n := by omega
            omega
        have hb2 := hb i (by omega)
        have hsm := smallN_len l i
        conv => whnf
        refine ⟨by omega, ?_⟩
        conv => whnf
        refine ⟨by show InI64 (smallN l i + ((l.getD i sup0).lev.length : Int)); unfold InI64; omega, ?_⟩
        conv => whnf
        refine ⟨by unfold InI64; omega, ?_⟩
        conv => whnf
        exact ⟨i + 1, [], hlt, by omega, ⟨rfl, ⟨embV_le (.refl _) rfl, ⟨rfl, rfl⟩, ⟨rfl, by simp⟩, trivial⟩, trivial⟩⟩
      · have h4 : (decide ((i : Int) < l.length) && decide (smallN l i < 900)) = false := h4
        have hin : i = n := by
          rcases Nat.lt_or_ge i n with h | h
          · have := h2 i h
            rw [decide_eq_true this, decide_eq_true (by omega)] at h4
            cases h4
          · omega
        subst hin
        conv => whnf
        exact ⟨rfl, trivial⟩
  · exfalso
    have key : ∀ n, n ≤ l.length → (∀ j, j < n → smallN l j < 900) := by
      intro n
      induction n with
      | zero => intro _ j hj; omega
      | succ n ih =>
        intro hn j hj
        have h1 := ih (by omega)
        by_cases hjn : j = n
        · subst hjn
          rcases Int.lt_or_le (smallN l j) 900 with h | h
          · exact h
          · exact absurd ⟨j, by omega, h1, .inr h⟩ hs
        · exact h1 j (by omega)
    exact hs ⟨l.length, Nat.le_refl _, key _ (Nat.le_refl _), .inl rfl⟩

end Go.Proofs.Ytjmhlbogkeohpaa
