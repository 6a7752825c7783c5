/- Contracts of the program's functions, shown by walks of that machine, and the plain laws. -/
import Derived.Test.YtjmhlbogkeohpaaD4
import Derived.Test.YtjmhlbogkeohpaaL4
namespace Go.Proofs.Ytjmhlbogkeohpaa
open Go.Ab
set_option maxRecDepth 100000


theorem n_ex {t : Tp} (ht : t.ok) (n : Int) (hn : InI64 n) : ∃ v t', t'.ok ∧ 0 ≤ v ∧ (0 < n → v < n) ∧ S 40 [.ptr 0 0 0, iV n] [tapeO t] (iV v) [tapeO t'] :=
  ⟨_, _, Tp.n_ok ht n, (Tp.n_lt t n).1, (Tp.n_lt t n).2.1, n_spec t ht n hn⟩

theorem range_ex {t : Tp} (ht : t.ok) (lo hi : Int) (h : -1000000 ≤ lo ∧ lo ≤ hi ∧ hi ≤ 1000000) : ∃ v t', t'.ok ∧ lo ≤ v ∧ v ≤ hi ∧ S 41 [.ptr 0 0 0, iV lo, iV hi] [tapeO t] (iV v) [tapeO t'] :=
  ⟨(t.range lo hi).1, (t.range lo hi).2, Tp.n_ok ht (hi - lo + 1), (Tp.range_lt t lo hi).1, (Tp.range_lt t lo hi).2.1 h.2.1, range_spec t ht lo hi (by omega)⟩

theorem pick_ex {t : Tp} (ht : t.ok) (l : List Int) (hl : l.length ≠ 0 ∧ l.length ≤ 1000000) {n : Nat} {b : Bool} (hn : n = l.length) : ∃ v t', t'.ok ∧ v ∈ l ∧ S 42 [.ptr 0 0 0, .sl 1 n b (listG (l.map iV))] [tapeO t] (iV v) [tapeO t'] :=
  ⟨(t.pick l).1, (t.pick l).2, Tp.n_ok ht l.length, Tp.pick_mem t hl.1, (pick_spec t ht l hl).le ⟨.refl _, le_ints l hn, trivial⟩ ⟨LeL.refl _, trivial⟩⟩

/-- Supplies that are valid, one after the other. -/
def GoodS (l : List Sup) : Prop := ∀ j, j < l.length → validS (l.getD j sup0) j = true ∧ (l.getD j sup0).lev.length ≤ 16

theorem goodS_snoc {l : List Sup} {s : Sup} (h : GoodS l) (h1 : validS s l.length = true) (h2 : s.lev.length ≤ 16) : GoodS (l ++ [s]) := by
  intro j hj
  rw [List.length_append] at hj
  simp only [List.length_singleton] at hj
  by_cases hl : j < l.length
  · rw [getD_app_l _ hl]; exact h j hl
  · have : j = l.length := by omega
    subst this
    rw [getD_app_r _ rfl]
    exact ⟨h1, h2⟩

theorem valN_of {l : List Sup} {k : Nat} (h : ∀ j, j < l.length → validS (l.getD j sup0) ((k + j : Nat) : Int) = true) : valN k l = true := by
  induction l generalizing k with
  | nil => rfl
  | cons s l ih =>
    rw [valN, Bool.and_eq_true]
    refine ⟨h 0 (by simp), ih fun j hj => ?_⟩
    have := h (j + 1) (by simpa using hj)
    rw [show k + (j + 1) = k + 1 + j by omega] at this
    exact this

theorem goodS_check {l : List Sup} (h : GoodS l) (hl : l.length ≤ 16) : checkF l = 0 := by
  unfold checkF
  have h1 : decide (16 < (l.length : Int)) = false := decide_eq_false (by omega)
  have h2 : l.any bigS = false := by
    rw [List.any_eq_false]
    intro s hs
    obtain ⟨j, hj, e⟩ := List.mem_iff_getElem.1 hs
    have := (h j hj).2
    have e2 : s = l.getD j sup0 := by rw [List.getD_eq_getElem?_getD, List.getElem?_eq_getElem hj, e]; rfl
    rw [e2]
    unfold bigS
    simp only [decide_eq_true_eq]
    omega
  have h3 : valN 0 l = true := valN_of fun j hj => by rw [Nat.zero_add]; exact (h j hj).1
  rw [h1, h2, h3]
  rfl

theorem asc_snoc {p v : Int} {lev : List Int} (h : ascB p lev = true) (h1 : ∀ x ∈ lev, x < v) (h2 : p < v) (h3 : 1 ≤ v ∧ v ≤ 5000) : ascB p (lev ++ [v]) = true := by
  induction lev generalizing p with
  | nil =>
    rw [List.nil_append, ascB, ascB]
    have : withinF v 1 5000 = true := withinF_iff.2 h3
    rw [this, decide_eq_false (by omega)]
    rfl
  | cons x l ih =>
    rw [List.cons_append, ascB]
    rw [ascB, Bool.and_eq_true] at h
    rw [h.1, Bool.true_and]
    exact ih h.2 (fun y hy => h1 y (List.mem_cons_of_mem _ hy)) (h1 x (List.mem_cons_self ..))

theorem valid_mk {p : Int} {lev : List Int} {dr cap : Int} {al : Bool} {k : Int} (h1 : -1 ≤ p ∧ p < k) (h2 : lev ≠ []) (h3 : ascB 0 lev = true) (h4 : 0 ≤ dr ∧ dr ≤ 5000) (h5 : p < 0 → dr = 0) (h6 : 0 ≤ cap ∧ cap ≤ 10000) : validS ⟨p, lev, dr, cap, al⟩ k = true := by
  unfold validS headB
  have a1 : withinF p (-1) (k - 1) = true := withinF_iff.2 (by omega)
  have a2 : withinF dr 0 5000 = true := withinF_iff.2 (by omega)
  have a3 : withinF cap 0 10000 = true := withinF_iff.2 (by omega)
  have a4 : ((lev.length : Int) == 0) = false := by
    rw [beq_eq_false_iff_ne]
    intro e
    exact h2 (List.length_eq_zero_iff.1 (by omega))
  have a5 : (decide (p < 0) && (dr != 0)) = false := by
    by_cases hp : p < 0
    · rw [h5 hp]; simp
    · rw [decide_eq_false hp]; rfl
  simp only [a1, a2, a3, a4, a5, h3]
  rfl

set_option maxHeartbeats 4000000 in
theorem supplies_E (t : Tp) (ht : t.ok) (n : Nat) (hn : 1 ≤ n ∧ n ≤ 16) : SpecE Try.prog cfg 10 [.ptr 0 0 0, iV n] [tapeO t] (fun r obs' => ∃ l t', r = supsV l ∧ obs' = [tapeO t'] ∧ t'.ok ∧ GoodS l ∧ 1 ≤ l.length ∧ l.length ≤ n) := by
  refine spec_ex (ct := []) cfgOK Try.func10 rfl rfl (Nat.le_of_ble_eq_true rfl) (by decide +kernel) ?_; conv => whnf
  obtain ⟨i0, t1, ht1, hi1, hi2, hs⟩ := range_ex ht 1 n (by omega)
  refine ⟨_, _, hs, ?_⟩; conv => whnf
  refine loops_introE (ct := []) cfgOK (by decide +kernel) (fun g : Nat × Tp × List Sup => ⟨[(0, .ptr 0 0 0), (5, .osl 1 0 g.2.2.length false), (6, iV g.1)], [(0, some (tapeO g.2.1)), (1, some (.row 5 g.2.2.length (rowG supV sup0 g.2.2)))], 2⟩)
    (fun g => g.2.1.ok ∧ GoodS g.2.2 ∧ g.1 + g.2.2.length ≤ n ∧ 1 ≤ g.1 + g.2.2.length) (fun g => g.1) (i0.toNat, t1, []) [(0, some 0), (1, none)] ⟨ht1, fun j hj => absurd hj (by simp), by show i0.toNat + 0 ≤ n; omega, by show 1 ≤ i0.toNat + 0; omega⟩ ?_ ?_
  · refine ⟨rfl, ⟨by (repeat' first | exact trivial | exact rfl | exact ⟨rfl, rfl⟩ | exact ⟨rfl, trivial⟩ | exact ⟨rfl, LeL.refl _, trivial⟩ | exact ⟨rfl, LeL.refl _, LeL.refl _, trivial⟩ | exact embV_le (.refl _) rfl | exact embV_leV (.refl _) rfl (Nat.lt_of_sub_pos (by exact Nat.zero_lt_succ _)) | exact ⟨rfl, rfl, rfl, rfl⟩ | exact ⟨rfl, rfl, rfl, rfl, id⟩ | exact ⟨rfl, rfl, rfl, rfl, rfl⟩ | exact ⟨rfl, rfl, rfl, rfl, nofun⟩ | exact tape_emb rfl | exact embO_le (LeL.refl _) rfl (Nat.lt_of_sub_pos (by exact Nat.zero_lt_succ _)) | exact ⟨rfl, rfl, fun _ _ => .refl _⟩ | (refine ⟨rfl, ?_⟩; simp; done) | (refine ⟨rfl, ?_⟩; omega) | refine ⟨?_, ?_⟩ | refine ⟨?_, ?_, ?_⟩), by (repeat' first | exact trivial | exact rfl | exact ⟨rfl, rfl⟩ | exact ⟨rfl, trivial⟩ | exact ⟨rfl, LeL.refl _, trivial⟩ | exact ⟨rfl, LeL.refl _, LeL.refl _, trivial⟩ | exact embV_le (.refl _) rfl | exact embV_leV (.refl _) rfl (Nat.lt_of_sub_pos (by exact Nat.zero_lt_succ _)) | exact ⟨rfl, rfl, rfl, rfl⟩ | exact ⟨rfl, rfl, rfl, rfl, id⟩ | exact ⟨rfl, rfl, rfl, rfl, rfl⟩ | exact ⟨rfl, rfl, rfl, rfl, nofun⟩ | exact tape_emb rfl | exact embO_le (LeL.refl _) rfl (Nat.lt_of_sub_pos (by exact Nat.zero_lt_succ _)) | exact ⟨rfl, rfl, fun _ _ => .refl _⟩ | (refine ⟨rfl, ?_⟩; simp; done) | (refine ⟨rfl, ?_⟩; omega) | refine ⟨?_, ?_⟩ | refine ⟨?_, ?_, ?_⟩), ⟨rfl, by show i0 = ((i0.toNat : Nat) : Int); omega⟩, trivial⟩, ⟨by (repeat' first | exact trivial | exact rfl | exact ⟨rfl, rfl⟩ | exact ⟨rfl, trivial⟩ | exact ⟨rfl, LeL.refl _, trivial⟩ | exact ⟨rfl, LeL.refl _, LeL.refl _, trivial⟩ | exact embV_le (.refl _) rfl | exact embV_leV (.refl _) rfl (Nat.lt_of_sub_pos (by exact Nat.zero_lt_succ _)) | exact ⟨rfl, rfl, rfl, rfl⟩ | exact ⟨rfl, rfl, rfl, rfl, id⟩ | exact ⟨rfl, rfl, rfl, rfl, rfl⟩ | exact ⟨rfl, rfl, rfl, rfl, nofun⟩ | exact tape_emb rfl | exact embO_le (LeL.refl _) rfl (Nat.lt_of_sub_pos (by exact Nat.zero_lt_succ _)) | exact ⟨rfl, rfl, fun _ _ => .refl _⟩ | (refine ⟨rfl, ?_⟩; simp; done) | (refine ⟨rfl, ?_⟩; omega) | refine ⟨?_, ?_⟩ | refine ⟨?_, ?_, ?_⟩), by (repeat' first | exact trivial | exact rfl | exact ⟨rfl, rfl⟩ | exact ⟨rfl, trivial⟩ | exact ⟨rfl, LeL.refl _, trivial⟩ | exact ⟨rfl, LeL.refl _, LeL.refl _, trivial⟩ | exact embV_le (.refl _) rfl | exact embV_leV (.refl _) rfl (Nat.lt_of_sub_pos (by exact Nat.zero_lt_succ _)) | exact ⟨rfl, rfl, rfl, rfl⟩ | exact ⟨rfl, rfl, rfl, rfl, id⟩ | exact ⟨rfl, rfl, rfl, rfl, rfl⟩ | exact ⟨rfl, rfl, rfl, rfl, nofun⟩ | exact tape_emb rfl | exact embO_le (LeL.refl _) rfl (Nat.lt_of_sub_pos (by exact Nat.zero_lt_succ _)) | exact ⟨rfl, rfl, fun _ _ => .refl _⟩ | (refine ⟨rfl, ?_⟩; simp; done) | (refine ⟨rfl, ?_⟩; omega) | refine ⟨?_, ?_⟩ | refine ⟨?_, ?_, ?_⟩), trivial⟩⟩
  intro ⟨i, t, l⟩ ⟨g1, g2, g3, g4⟩
  have g1 : t.ok := g1
  have g2 : GoodS l := g2
  have g3 : i + l.length ≤ n := g3
  have g4 : 1 ≤ i + l.length := g4
  (conv => whnf)
  refine bcase_of (fun h => ?_) (fun h => ?_)
  · have h : decide ((0 : Int) < (i : Int)) = true := h
    have h0 := of_decide_eq_true h
    (conv => whnf)
    (refine ⟨by intros; first | omega | (unfold InI64; omega) | (simp only [List.length_append, List.length_cons, List.length_nil, List.length_set]; omega), ?_⟩; conv => whnf)
    obtain ⟨p, t2, ht2, hp1, hp2, hs2⟩ := range_ex g1 (-1) (l.length - 1) (by omega)
    refine ⟨_, _, hs2, ?_⟩; conv => whnf
    obtain ⟨cap, t3, ht3, hcap, hs3⟩ := pick_ex ht2 [0, 100, 500, 1000, 10000] (by decide) (n := 5) (b := true) rfl
    refine ⟨_, _, hs3, ?_⟩; conv => whnf
    obtain ⟨al, t4, ht4, _, _, hs4⟩ := n_ex ht3 6 (by unfold InI64; omega)
    refine ⟨_, _, hs4, ?_⟩; conv => whnf
    obtain ⟨v, t5, ht5, hv, hs5⟩ := pick_ex ht4 [600, 800, 1100, 1800, 3000] (by decide) (n := 5) (b := true) rfl
    refine ⟨_, _, hs5, ?_⟩; conv => whnf
    obtain ⟨k0, t6, ht6, hk1, hk2, hs6⟩ := range_ex ht5 1 5 (by omega)
    refine ⟨_, _, hs6, ?_⟩; conv => whnf
    have hv' : 600 ≤ v ∧ v ≤ 3000 := by
      simp only [List.mem_cons, List.not_mem_nil, or_false] at hv
      omega
    have hcap' : 0 ≤ cap ∧ cap ≤ 10000 := by
      simp only [List.mem_cons, List.not_mem_nil, or_false] at hcap
      omega
    refine loops_introE (ct := []) cfgOK (by decide +kernel) (fun g : Nat × Tp × Int × List Int => ⟨[(0, .ptr 0 0 0), (5, .osl 1 0 l.length false), (6, iV i), (7, .ptr 2 0 0), (8, iV g.2.2.1), (9, iV g.1)], [(0, some (tapeO g.2.1)), (1, some (.row 5 l.length (rowG supV sup0 l))), (2, some (.box [iV p, .osl 3 0 g.2.2.2.length false, iV 0, iV cap, .bool (al == 0)])), (3, some (.row 1 g.2.2.2.length (rowG iV 0 g.2.2.2)))], 4⟩)
      (fun g => g.2.1.ok ∧ ascB 0 g.2.2.2 = true ∧ (∀ x ∈ g.2.2.2, x < g.2.2.1) ∧ (600 ≤ g.2.2.1 ∧ g.2.2.1 ≤ 5700) ∧ g.2.2.2.length + g.1 ≤ 5 ∧ (g.2.2.2 = [] → 1 ≤ g.1 ∧ g.2.2.1 ≤ 3000)) (fun g => g.1) (k0.toNat, t6, v, []) [(0, some 0), (1, some 1), (2, some 16), (3, none)]
      ⟨ht6, rfl, fun x hx => absurd hx (by simp), by show 600 ≤ v ∧ v ≤ 5700; omega, by show 0 + k0.toNat ≤ 5; omega, fun _ => by show 1 ≤ k0.toNat ∧ v ≤ 3000; omega⟩ ?_ ?_
    · refine ⟨rfl, ⟨by (repeat' first | exact trivial | exact rfl | exact ⟨rfl, rfl⟩ | exact ⟨rfl, trivial⟩ | exact ⟨rfl, LeL.refl _, trivial⟩ | exact ⟨rfl, LeL.refl _, LeL.refl _, trivial⟩ | exact embV_le (.refl _) rfl | exact embV_leV (.refl _) rfl (Nat.lt_of_sub_pos (by exact Nat.zero_lt_succ _)) | exact ⟨rfl, rfl, rfl, rfl⟩ | exact ⟨rfl, rfl, rfl, rfl, id⟩ | exact ⟨rfl, rfl, rfl, rfl, rfl⟩ | exact ⟨rfl, rfl, rfl, rfl, nofun⟩ | exact tape_emb rfl | exact embO_le (LeL.refl _) rfl (Nat.lt_of_sub_pos (by exact Nat.zero_lt_succ _)) | exact ⟨rfl, rfl, fun _ _ => .refl _⟩ | (refine ⟨rfl, ?_⟩; simp; done) | (refine ⟨rfl, ?_⟩; omega) | refine ⟨?_, ?_⟩ | refine ⟨?_, ?_, ?_⟩), by (repeat' first | exact trivial | exact rfl | exact ⟨rfl, rfl⟩ | exact ⟨rfl, trivial⟩ | exact ⟨rfl, LeL.refl _, trivial⟩ | exact ⟨rfl, LeL.refl _, LeL.refl _, trivial⟩ | exact embV_le (.refl _) rfl | exact embV_leV (.refl _) rfl (Nat.lt_of_sub_pos (by exact Nat.zero_lt_succ _)) | exact ⟨rfl, rfl, rfl, rfl⟩ | exact ⟨rfl, rfl, rfl, rfl, id⟩ | exact ⟨rfl, rfl, rfl, rfl, rfl⟩ | exact ⟨rfl, rfl, rfl, rfl, nofun⟩ | exact tape_emb rfl | exact embO_le (LeL.refl _) rfl (Nat.lt_of_sub_pos (by exact Nat.zero_lt_succ _)) | exact ⟨rfl, rfl, fun _ _ => .refl _⟩ | (refine ⟨rfl, ?_⟩; simp; done) | (refine ⟨rfl, ?_⟩; omega) | refine ⟨?_, ?_⟩ | refine ⟨?_, ?_, ?_⟩), by (repeat' first | exact trivial | exact rfl | exact ⟨rfl, rfl⟩ | exact ⟨rfl, trivial⟩ | exact ⟨rfl, LeL.refl _, trivial⟩ | exact ⟨rfl, LeL.refl _, LeL.refl _, trivial⟩ | exact embV_le (.refl _) rfl | exact embV_leV (.refl _) rfl (Nat.lt_of_sub_pos (by exact Nat.zero_lt_succ _)) | exact ⟨rfl, rfl, rfl, rfl⟩ | exact ⟨rfl, rfl, rfl, rfl, id⟩ | exact ⟨rfl, rfl, rfl, rfl, rfl⟩ | exact ⟨rfl, rfl, rfl, rfl, nofun⟩ | exact tape_emb rfl | exact embO_le (LeL.refl _) rfl (Nat.lt_of_sub_pos (by exact Nat.zero_lt_succ _)) | exact ⟨rfl, rfl, fun _ _ => .refl _⟩ | (refine ⟨rfl, ?_⟩; simp; done) | (refine ⟨rfl, ?_⟩; omega) | refine ⟨?_, ?_⟩ | refine ⟨?_, ?_, ?_⟩), by (repeat' first | exact trivial | exact rfl | exact ⟨rfl, rfl⟩ | exact ⟨rfl, trivial⟩ | exact ⟨rfl, LeL.refl _, trivial⟩ | exact ⟨rfl, LeL.refl _, LeL.refl _, trivial⟩ | exact embV_le (.refl _) rfl | exact embV_leV (.refl _) rfl (Nat.lt_of_sub_pos (by exact Nat.zero_lt_succ _)) | exact ⟨rfl, rfl, rfl, rfl⟩ | exact ⟨rfl, rfl, rfl, rfl, id⟩ | exact ⟨rfl, rfl, rfl, rfl, rfl⟩ | exact ⟨rfl, rfl, rfl, rfl, nofun⟩ | exact tape_emb rfl | exact embO_le (LeL.refl _) rfl (Nat.lt_of_sub_pos (by exact Nat.zero_lt_succ _)) | exact ⟨rfl, rfl, fun _ _ => .refl _⟩ | (refine ⟨rfl, ?_⟩; simp; done) | (refine ⟨rfl, ?_⟩; omega) | refine ⟨?_, ?_⟩ | refine ⟨?_, ?_, ?_⟩), by (repeat' first | exact trivial | exact rfl | exact ⟨rfl, rfl⟩ | exact ⟨rfl, trivial⟩ | exact ⟨rfl, LeL.refl _, trivial⟩ | exact ⟨rfl, LeL.refl _, LeL.refl _, trivial⟩ | exact embV_le (.refl _) rfl | exact embV_leV (.refl _) rfl (Nat.lt_of_sub_pos (by exact Nat.zero_lt_succ _)) | exact ⟨rfl, rfl, rfl, rfl⟩ | exact ⟨rfl, rfl, rfl, rfl, id⟩ | exact ⟨rfl, rfl, rfl, rfl, rfl⟩ | exact ⟨rfl, rfl, rfl, rfl, nofun⟩ | exact tape_emb rfl | exact embO_le (LeL.refl _) rfl (Nat.lt_of_sub_pos (by exact Nat.zero_lt_succ _)) | exact ⟨rfl, rfl, fun _ _ => .refl _⟩ | (refine ⟨rfl, ?_⟩; simp; done) | (refine ⟨rfl, ?_⟩; omega) | refine ⟨?_, ?_⟩ | refine ⟨?_, ?_, ?_⟩), ⟨rfl, by show k0 = ((k0.toNat : Nat) : Int); omega⟩, trivial⟩, ⟨by (repeat' first | exact trivial | exact rfl | exact ⟨rfl, rfl⟩ | exact ⟨rfl, trivial⟩ | exact ⟨rfl, LeL.refl _, trivial⟩ | exact ⟨rfl, LeL.refl _, LeL.refl _, trivial⟩ | exact embV_le (.refl _) rfl | exact embV_leV (.refl _) rfl (Nat.lt_of_sub_pos (by exact Nat.zero_lt_succ _)) | exact ⟨rfl, rfl, rfl, rfl⟩ | exact ⟨rfl, rfl, rfl, rfl, id⟩ | exact ⟨rfl, rfl, rfl, rfl, rfl⟩ | exact ⟨rfl, rfl, rfl, rfl, nofun⟩ | exact tape_emb rfl | exact embO_le (LeL.refl _) rfl (Nat.lt_of_sub_pos (by exact Nat.zero_lt_succ _)) | exact ⟨rfl, rfl, fun _ _ => .refl _⟩ | (refine ⟨rfl, ?_⟩; simp; done) | (refine ⟨rfl, ?_⟩; omega) | refine ⟨?_, ?_⟩ | refine ⟨?_, ?_, ?_⟩), by (repeat' first | exact trivial | exact rfl | exact ⟨rfl, rfl⟩ | exact ⟨rfl, trivial⟩ | exact ⟨rfl, LeL.refl _, trivial⟩ | exact ⟨rfl, LeL.refl _, LeL.refl _, trivial⟩ | exact embV_le (.refl _) rfl | exact embV_leV (.refl _) rfl (Nat.lt_of_sub_pos (by exact Nat.zero_lt_succ _)) | exact ⟨rfl, rfl, rfl, rfl⟩ | exact ⟨rfl, rfl, rfl, rfl, id⟩ | exact ⟨rfl, rfl, rfl, rfl, rfl⟩ | exact ⟨rfl, rfl, rfl, rfl, nofun⟩ | exact tape_emb rfl | exact embO_le (LeL.refl _) rfl (Nat.lt_of_sub_pos (by exact Nat.zero_lt_succ _)) | exact ⟨rfl, rfl, fun _ _ => .refl _⟩ | (refine ⟨rfl, ?_⟩; simp; done) | (refine ⟨rfl, ?_⟩; omega) | refine ⟨?_, ?_⟩ | refine ⟨?_, ?_, ?_⟩), by (repeat' first | exact trivial | exact rfl | exact ⟨rfl, rfl⟩ | exact ⟨rfl, trivial⟩ | exact ⟨rfl, LeL.refl _, trivial⟩ | exact ⟨rfl, LeL.refl _, LeL.refl _, trivial⟩ | exact embV_le (.refl _) rfl | exact embV_leV (.refl _) rfl (Nat.lt_of_sub_pos (by exact Nat.zero_lt_succ _)) | exact ⟨rfl, rfl, rfl, rfl⟩ | exact ⟨rfl, rfl, rfl, rfl, id⟩ | exact ⟨rfl, rfl, rfl, rfl, rfl⟩ | exact ⟨rfl, rfl, rfl, rfl, nofun⟩ | exact tape_emb rfl | exact embO_le (LeL.refl _) rfl (Nat.lt_of_sub_pos (by exact Nat.zero_lt_succ _)) | exact ⟨rfl, rfl, fun _ _ => .refl _⟩ | (refine ⟨rfl, ?_⟩; simp; done) | (refine ⟨rfl, ?_⟩; omega) | refine ⟨?_, ?_⟩ | refine ⟨?_, ?_, ?_⟩), by (repeat' first | exact trivial | exact rfl | exact ⟨rfl, rfl⟩ | exact ⟨rfl, trivial⟩ | exact ⟨rfl, LeL.refl _, trivial⟩ | exact ⟨rfl, LeL.refl _, LeL.refl _, trivial⟩ | exact embV_le (.refl _) rfl | exact embV_leV (.refl _) rfl (Nat.lt_of_sub_pos (by exact Nat.zero_lt_succ _)) | exact ⟨rfl, rfl, rfl, rfl⟩ | exact ⟨rfl, rfl, rfl, rfl, id⟩ | exact ⟨rfl, rfl, rfl, rfl, rfl⟩ | exact ⟨rfl, rfl, rfl, rfl, nofun⟩ | exact tape_emb rfl | exact embO_le (LeL.refl _) rfl (Nat.lt_of_sub_pos (by exact Nat.zero_lt_succ _)) | exact ⟨rfl, rfl, fun _ _ => .refl _⟩ | (refine ⟨rfl, ?_⟩; simp; done) | (refine ⟨rfl, ?_⟩; omega) | refine ⟨?_, ?_⟩ | refine ⟨?_, ?_, ?_⟩), trivial⟩⟩
    intro ⟨k, t, v, lev⟩ ⟨q1, q2, q3, q4, q5, q6⟩
    have q1 : t.ok := q1
    have q2 : ascB 0 lev = true := q2
    have q3 : ∀ x ∈ lev, x < v := q3
    have q4 : 600 ≤ v ∧ v ≤ 5700 := q4
    have q5 : lev.length + k ≤ 5 := q5
    have q6 : lev = [] → 1 ≤ k ∧ v ≤ 3000 := q6
    (conv => whnf)
    refine bcase_of (fun hk => ?_) (fun hk => ?_)
    · have hk : (decide ((0 : Int) < (k : Int)) && decide (v ≤ 5000)) = true := hk
      simp only [Bool.and_eq_true, decide_eq_true_eq] at hk
      (conv => whnf)
      (refine ⟨by intros; first | omega | (unfold InI64; omega) | (unfold big; omega) | contradiction | (dsimp only at *; omega) | (dsimp only at *; unfold InI64; omega) | (dsimp only at *; unfold big; omega) | (simp only [Int.toNat_natCast]; omega) | (simp only [List.length_append, List.length_cons, List.length_nil, List.length_set]; omega), ?_⟩; conv => whnf)
      obtain ⟨st, t7, ht7, hst, hs7⟩ := pick_ex q1 [50, 100, 300, 700] (by decide) (n := 4) (b := true) rfl
      refine ⟨_, _, hs7, ?_⟩; conv => whnf
      have hst' : 50 ≤ st ∧ st ≤ 700 := by
        simp only [List.mem_cons, List.not_mem_nil, or_false] at hst
        omega
      refine ⟨by show InI64 (v + st); unfold InI64; omega, ?_⟩; conv => whnf
      refine ⟨by show InI64 ((k : Int) - 1); unfold InI64; omega, ?_⟩; conv => whnf
      refine ⟨(k - 1, t7, v + st, lev ++ [v]), [(0, some 0), (1, some 1), (2, some 2), (3, some 14)], ⟨ht7, asc_snoc q2 q3 (by omega) (by omega), fun x hx => ?_, by show 600 ≤ v + st ∧ v + st ≤ 5700; omega, by show (lev ++ [v]).length + (k - 1) ≤ 5; rw [List.length_append]; simp only [List.length_singleton]; omega, fun h => by simp at h⟩, by show k - 1 < k; omega, ?_⟩
      · rw [List.mem_append, List.mem_singleton] at hx
        show x < v + st
        rcases hx with hx | hx
        · have := q3 x hx; omega
        · omega
      · (repeat' (first | exact trivial | exact rfl | exact ⟨rfl, rfl⟩ | exact ⟨rfl, trivial⟩ | exact ⟨rfl, LeL.refl _, trivial⟩ | exact ⟨rfl, LeL.refl _, LeL.refl _, trivial⟩ | exact embV_le (.refl _) rfl | exact embV_leV (.refl _) rfl (Nat.lt_of_sub_pos (by exact Nat.zero_lt_succ _)) | exact ⟨rfl, rfl, rfl, rfl⟩ | exact ⟨rfl, rfl, rfl, rfl, id⟩ | exact ⟨rfl, rfl, rfl, rfl, rfl⟩ | exact ⟨rfl, rfl, rfl, rfl, nofun⟩ | exact tape_emb rfl | exact embO_le (LeL.refl _) rfl (Nat.lt_of_sub_pos (by exact Nat.zero_lt_succ _)) | exact ⟨rfl, rfl, fun _ _ => .refl _⟩ | exact embV_le (le_len (by simp)) rfl | exact ⟨rfl, rfl, rfl, by simp, nofun⟩ | exact ⟨rfl, by simp, le_app rfl (.refl _)⟩ | (refine ⟨rfl, ?_⟩; dsimp only; simp; done) | (refine ⟨rfl, ?_⟩; dsimp only; omega) | (refine ⟨rfl, ?_⟩; dsimp only; simp; omega) | refine ⟨?_, ?_⟩ | refine ⟨?_, ?_, ?_⟩))
    · (conv => whnf)
      have hk : (decide ((0 : Int) < (k : Int)) && decide (v ≤ 5000)) = false := hk
      have hne : lev ≠ [] := fun e => by
        have := q6 e
        rw [decide_eq_true (by omega : (0 : Int) < (k : Int)), decide_eq_true (by omega : v ≤ 5000)] at hk
        cases hk
      have hlast : ∀ dr : Int, (0 ≤ dr ∧ dr ≤ 5000) → (p < 0 → dr = 0) → GoodS (l ++ [⟨p, lev, dr, cap, al == 0⟩]) := fun dr h1 h2 => goodS_snoc g2 (valid_mk (by omega) hne q2 h1 h2 hcap') (by show lev.length ≤ 16; omega)
      refine bcase_of (fun hp => ?_) (fun hp => ?_)
      · (conv => whnf)
        have hp : decide (0 ≤ p) = true := hp
        have hp0 := of_decide_eq_true hp
        obtain ⟨dr, t8, ht8, hdr, hs8⟩ := pick_ex q1 [0, 0, 100, 300] (by decide) (n := 4) (b := true) rfl
        refine ⟨_, _, hs8, ?_⟩; conv => whnf
        have hdr' : 0 ≤ dr ∧ dr ≤ 300 := by
          simp only [List.mem_cons, List.not_mem_nil, or_false] at hdr
          omega
        refine ⟨by show (l.length + 1) * 56 ≤ 140737488355328; omega, ?_⟩; conv => whnf
        (refine ⟨by intros; first | omega | (unfold InI64; omega) | (simp only [List.length_append, List.length_cons, List.length_nil, List.length_set]; omega), ?_⟩; conv => whnf)
        refine ⟨(i - 1, t8, l ++ [⟨p, lev, dr, cap, al == 0⟩]), [(0, some 0), (1, some 21)], ⟨ht8, hlast dr (by omega) (by omega), ?_, ?_⟩, by show i - 1 < i; omega, ?_⟩
        · show i - 1 + (l ++ _).length ≤ n
          rw [List.length_append]
          simp only [List.length_singleton]
          omega
        · show 1 ≤ i - 1 + (l ++ _).length
          rw [List.length_append]
          simp only [List.length_singleton]
          omega
        · (repeat' (first | exact trivial | exact rfl | exact ⟨rfl, rfl⟩ | exact ⟨rfl, trivial⟩ | exact ⟨rfl, LeL.refl _, trivial⟩ | exact ⟨rfl, LeL.refl _, LeL.refl _, trivial⟩ | exact embV_le (.refl _) rfl | exact embV_leV (.refl _) rfl (Nat.lt_of_sub_pos (by exact Nat.zero_lt_succ _)) | exact ⟨rfl, rfl, rfl, rfl⟩ | exact ⟨rfl, rfl, rfl, rfl, id⟩ | exact ⟨rfl, rfl, rfl, rfl, rfl⟩ | exact ⟨rfl, rfl, rfl, rfl, nofun⟩ | exact tape_emb rfl | exact embO_le (LeL.refl _) rfl (Nat.lt_of_sub_pos (by exact Nat.zero_lt_succ _)) | exact ⟨rfl, rfl, fun _ _ => .refl _⟩ | exact embV_le (le_len (by simp)) rfl | exact ⟨rfl, rfl, rfl, by simp, nofun⟩ | exact ⟨rfl, by simp, le_app rfl (.refl _)⟩ | (refine ⟨rfl, ?_⟩; dsimp only; simp; done) | (refine ⟨rfl, ?_⟩; dsimp only; omega) | (refine ⟨rfl, ?_⟩; dsimp only; simp; omega) | refine ⟨?_, ?_⟩ | refine ⟨?_, ?_, ?_⟩))
      · (conv => whnf)
        have hp : decide (0 ≤ p) = false := hp
        have hp0 := of_decide_eq_false hp
        refine ⟨by show (l.length + 1) * 56 ≤ 140737488355328; omega, ?_⟩; conv => whnf
        (refine ⟨by intros; first | omega | (unfold InI64; omega) | (simp only [List.length_append, List.length_cons, List.length_nil, List.length_set]; omega), ?_⟩; conv => whnf)
        refine ⟨(i - 1, t, l ++ [⟨p, lev, 0, cap, al == 0⟩]), [(0, some 0), (1, some 16)], ⟨q1, hlast 0 (by omega) (by omega), ?_, ?_⟩, by show i - 1 < i; omega, ?_⟩
        · show i - 1 + (l ++ _).length ≤ n
          rw [List.length_append]
          simp only [List.length_singleton]
          omega
        · show 1 ≤ i - 1 + (l ++ _).length
          rw [List.length_append]
          simp only [List.length_singleton]
          omega
        · (repeat' (first | exact trivial | exact rfl | exact ⟨rfl, rfl⟩ | exact ⟨rfl, trivial⟩ | exact ⟨rfl, LeL.refl _, trivial⟩ | exact ⟨rfl, LeL.refl _, LeL.refl _, trivial⟩ | exact embV_le (.refl _) rfl | exact embV_leV (.refl _) rfl (Nat.lt_of_sub_pos (by exact Nat.zero_lt_succ _)) | exact ⟨rfl, rfl, rfl, rfl⟩ | exact ⟨rfl, rfl, rfl, rfl, id⟩ | exact ⟨rfl, rfl, rfl, rfl, rfl⟩ | exact ⟨rfl, rfl, rfl, rfl, nofun⟩ | exact tape_emb rfl | exact embO_le (LeL.refl _) rfl (Nat.lt_of_sub_pos (by exact Nat.zero_lt_succ _)) | exact ⟨rfl, rfl, fun _ _ => .refl _⟩ | exact embV_le (le_len (by simp)) rfl | exact ⟨rfl, rfl, rfl, by simp, nofun⟩ | exact ⟨rfl, by simp, le_app rfl (.refl _)⟩ | (refine ⟨rfl, ?_⟩; dsimp only; simp; done) | (refine ⟨rfl, ?_⟩; dsimp only; omega) | (refine ⟨rfl, ?_⟩; dsimp only; simp; omega) | refine ⟨?_, ?_⟩ | refine ⟨?_, ?_, ?_⟩))
  · (conv => whnf)
    have h : decide ((0 : Int) < (i : Int)) = false := h
    have h0 := of_decide_eq_false h
    refine ⟨_, _, ⟨l, t, rfl, rfl, g1, g2, by omega, by omega⟩, Nat.le_refl _, ?_⟩
    (conv => whnf)
    (repeat' (first | exact trivial | exact rfl | exact ⟨rfl, rfl⟩ | exact ⟨rfl, trivial⟩ | exact ⟨rfl, LeL.refl _, trivial⟩ | exact ⟨rfl, LeL.refl _, LeL.refl _, trivial⟩ | exact embV_le (.refl _) rfl | exact embV_leV (.refl _) rfl (Nat.lt_of_sub_pos (by exact Nat.zero_lt_succ _)) | exact ⟨rfl, rfl, rfl, rfl⟩ | exact ⟨rfl, rfl, rfl, rfl, id⟩ | exact ⟨rfl, rfl, rfl, rfl, rfl⟩ | exact ⟨rfl, rfl, rfl, rfl, nofun⟩ | exact tape_emb rfl | exact embO_le (LeL.refl _) rfl (Nat.lt_of_sub_pos (by exact Nat.zero_lt_succ _)) | exact ⟨rfl, rfl, fun _ _ => .refl _⟩ | exact embV_le (le_len (by simp)) rfl | exact ⟨rfl, rfl, rfl, by simp, nofun⟩ | exact ⟨rfl, by simp, le_app rfl (.refl _)⟩ | (refine ⟨rfl, ?_⟩; dsimp only; simp; done) | (refine ⟨rfl, ?_⟩; dsimp only; omega) | (refine ⟨rfl, ?_⟩; dsimp only; simp; omega) | refine ⟨?_, ?_⟩ | refine ⟨?_, ?_, ?_⟩))

end Go.Proofs.Ytjmhlbogkeohpaa

namespace Go.Proofs.Ytjmhlbogkeohpaa
open Go.Ab
set_option maxRecDepth 100000

theorem rUsed_spec (l : List Sup) (hl : l.length ≤ 1000000) (d : List Drw) (hd : d.length ≤ 1000000) : S 34 [supsV l, drwsV d] [] (boolsV (usedR l d)) [] := by
  refine spec_of_x (ct := []) cfgOK Try.func34 rfl rfl (Nat.le_of_ble_eq_true rfl) (by decide +kernel) (Nat.zero_le _) ?_; conv => whnf
  refine ⟨_, _, rdraws_spec l hl d hd, ?_⟩; conv => whnf
  unfold usedR
  refine bcase_of (fun h => ?_) (fun h => ?_)
  · have h : (!drawsF l d) = true := h
    (conv => whnf)
    rw [h]
    exact ⟨embV_le le_nil rfl, trivial⟩
  · have h : (!drawsF l d) = false := h
    (conv => whnf)
    refine ⟨_, _, rused_spec l d (vld_of (by simpa using h)), ?_⟩; conv => whnf
    rw [h]
    exact ⟨embV_le (.refl _) rfl, trivial⟩

theorem rLoads_spec (l : List Sup) (hl : l.length ≤ 1000000) (d : List Drw) (hd : d.length ≤ 1000000) : S 29 [supsV l, drwsV d] [] (.tup [intsV (loadsR l d), iV (beginF l d)]) [] := by
  refine spec_of_x (ct := []) cfgOK Try.func29 rfl rfl (Nat.le_of_ble_eq_true rfl) (by decide +kernel) (Nat.zero_le _) ?_; conv => whnf
  refine ⟨_, _, rbegin_spec l hl d hd, ?_⟩; conv => whnf
  unfold loadsR
  refine bcase_of (fun h => ?_) (fun h => ?_)
  · have h : (beginF l d != 0) = true := h
    (conv => whnf)
    rw [h]
    exact ⟨⟨embV_le le_nil rfl, by (repeat' first | exact trivial | exact rfl | exact ⟨rfl, rfl⟩ | exact ⟨rfl, trivial⟩ | exact ⟨rfl, LeL.refl _, trivial⟩ | exact ⟨rfl, LeL.refl _, LeL.refl _, trivial⟩ | exact embV_le (.refl _) rfl | exact embV_leV (.refl _) rfl (Nat.lt_of_sub_pos (by exact Nat.zero_lt_succ _)) | exact ⟨rfl, rfl, rfl, rfl⟩ | exact ⟨rfl, rfl, rfl, rfl, id⟩ | exact ⟨rfl, rfl, rfl, rfl, rfl⟩ | exact ⟨rfl, rfl, rfl, rfl, nofun⟩ | exact tape_emb rfl | exact embO_le (LeL.refl _) rfl (Nat.lt_of_sub_pos (by exact Nat.zero_lt_succ _)) | exact ⟨rfl, rfl, fun _ _ => .refl _⟩ | (refine ⟨rfl, ?_⟩; simp; done) | (refine ⟨rfl, ?_⟩; omega) | refine ⟨?_, ?_⟩ | refine ⟨?_, ?_, ?_⟩), trivial⟩, trivial⟩
  · have h : (beginF l d != 0) = false := h
    have h0 : beginF l d = 0 := by simpa using h
    (conv => whnf)
    refine ⟨_, _, rloads_spec l d (vld_of (begin_ok h0)), ?_⟩; conv => whnf
    rw [h, h0]
    exact ⟨⟨embV_le (.refl _) rfl, by (repeat' first | exact trivial | exact rfl | exact ⟨rfl, rfl⟩ | exact ⟨rfl, trivial⟩ | exact ⟨rfl, LeL.refl _, trivial⟩ | exact ⟨rfl, LeL.refl _, LeL.refl _, trivial⟩ | exact embV_le (.refl _) rfl | exact embV_leV (.refl _) rfl (Nat.lt_of_sub_pos (by exact Nat.zero_lt_succ _)) | exact ⟨rfl, rfl, rfl, rfl⟩ | exact ⟨rfl, rfl, rfl, rfl, id⟩ | exact ⟨rfl, rfl, rfl, rfl, rfl⟩ | exact ⟨rfl, rfl, rfl, rfl, nofun⟩ | exact tape_emb rfl | exact embO_le (LeL.refl _) rfl (Nat.lt_of_sub_pos (by exact Nat.zero_lt_succ _)) | exact ⟨rfl, rfl, fun _ _ => .refl _⟩ | (refine ⟨rfl, ?_⟩; simp; done) | (refine ⟨rfl, ?_⟩; omega) | refine ⟨?_, ?_⟩ | refine ⟨?_, ?_, ?_⟩), trivial⟩, trivial⟩

theorem sameUsed_spec (a b : List Bool) (hl : a.length ≤ 1000000) : S 33 [boolsV a, boolsV b] [] (.bool (a == b)) [] := by
  refine spec_of_x (ct := []) cfgOK Try.func33 rfl rfl (Nat.le_of_ble_eq_true rfl) (by decide +kernel) (Nat.le_refl _) ?_; conv => whnf
  refine ⟨_, _, rbools_spec a b hl, ?_⟩; conv => whnf
  exact ⟨rfl, trivial⟩

def hasF (d : List Drw) (draw sup : Int) : Bool := (draw == -1) || (withinF draw 0 (d.length - 1) && ((d.getD draw.toNat drw0).sup == sup))

theorem has_spec (d : List Drw) (hd : d.length ≤ 1000000) (draw sup : Int) : S 73 [iV draw, iV sup, .ro [drwsV d]] [] (.bool (hasF d draw sup)) [] := by
  refine spec_of_x (ct := []) cfgOK Try.func73 rfl rfl (Nat.le_of_ble_eq_true rfl) (by decide +kernel) (Nat.le_refl _) ?_; conv => whnf
  (refine ⟨by intros; first | omega | (unfold InI64; omega) | (simp only [List.length_append, List.length_cons, List.length_nil, List.length_set]; omega), ?_⟩; conv => whnf)
  refine ⟨_, _, fun _ => within_spec draw 0 (d.length - 1), ?_⟩; conv => whnf
  refine ⟨fun _ h => by
    have h : withinF draw 0 (d.length - 1) = true := h
    have := withinF_iff.1 h
    show 0 ≤ draw ∧ draw < (d.length : Int)
    omega, ?_⟩; conv => whnf
  exact ⟨rfl, trivial⟩

def pjoinF (l : List Sup) (d : List Drw) (c : Chn) : Bool :=
  bif !jnAll l (usedF l d) c.sups then false else (decide ((0 : Int) < c.sups.length) && hasF d c.first (c.sups.getD 0 0)) && hasF d c.last (c.sups.getD (c.sups.length - 1) 0)

set_option maxHeartbeats 4000000 in
theorem joined_spec (l : List Sup) (d : List Drw) (hv : Vld l d) (c : Chn) (hcl : c.sups.length ≤ 1000000) : S 56 [supsV l, drwsV d, chnV c] [] (.bool (pjoinF l d c)) [] := by
  have hul := usedF_len l d
  have hvl := hv.len
  have hvd := hv.dlen
  refine spec_of_x (ct := []) cfgOK Try.func56 rfl rfl (Nat.le_of_ble_eq_true rfl) (by decide +kernel) (Nat.le_refl _) ?_; conv => whnf
  refine ⟨_, _, used_spec l d hv, ?_⟩; conv => whnf
  unfold pjoinF
  generalize hu : usedF l d = u at hul
  refine loops_intro (ct := []) cfgOK (by decide +kernel) (fun i : Nat => ⟨[(0, supsV l), (4, .ptr 0 0 0), (5, .ptr 1 0 0), (7, boolsV u), (15, intsV c.sups), (16, iV c.sups.length), (17, iV i)], [(0, some (.box [drwsV d])), (1, some (.box (chnV c).cells))], 2⟩) (fun i => i ≤ c.sups.length ∧ ∀ j, j < i → jnB l u c.sups j = false) (fun i => c.sups.length - i) 0 [(0, some 0), (1, some 1)] ⟨Nat.zero_le _, fun j hj => absurd hj (Nat.not_lt_zero j)⟩ (by (repeat' (first | exact trivial | exact rfl | exact ⟨rfl, rfl⟩ | exact ⟨rfl, trivial⟩ | exact ⟨rfl, LeL.refl _, trivial⟩ | exact ⟨rfl, LeL.refl _, LeL.refl _, trivial⟩ | exact embV_le (.refl _) rfl | exact embV_leV (.refl _) rfl (Nat.lt_of_sub_pos (by exact Nat.zero_lt_succ _)) | exact ⟨rfl, rfl, rfl, rfl⟩ | exact ⟨rfl, rfl, rfl, rfl, id⟩ | exact ⟨rfl, rfl, rfl, rfl, rfl⟩ | exact ⟨rfl, rfl, rfl, rfl, nofun⟩ | exact tape_emb rfl | exact embO_le (LeL.refl _) rfl (Nat.lt_of_sub_pos (by exact Nat.zero_lt_succ _)) | exact ⟨rfl, rfl, fun _ _ => .refl _⟩ | exact embV_le (le_len (by simp)) rfl | exact ⟨rfl, rfl, rfl, by simp, nofun⟩ | exact ⟨rfl, by simp, le_app rfl (.refl _)⟩ | (refine ⟨rfl, ?_⟩; dsimp only; simp; done) | (refine ⟨rfl, ?_⟩; dsimp only; omega) | (refine ⟨rfl, ?_⟩; dsimp only; simp; omega) | refine ⟨?_, ?_⟩ | refine ⟨?_, ?_, ?_⟩))) ?_
  intro i ⟨hi1, hi2⟩
  (conv => whnf)
  refine bcase_of (fun h2 => ?_) (fun h2 => ?_)
  · have hlt : i < c.sups.length := by have := of_decide_eq_true h2; omega
    have hpr : ((i : Int) - 1).toNat = i - 1 := by omega
    (conv => whnf)
    (refine ⟨by intros; first | omega | (unfold InI64; omega) | (simp only [List.length_append, List.length_cons, List.length_nil, List.length_set]; omega), ?_⟩; conv => whnf)
    (refine ⟨by intros; first | omega | (unfold InI64; omega) | (simp only [List.length_append, List.length_cons, List.length_nil, List.length_set]; omega), ?_⟩; conv => whnf)
    refine ⟨_, _, within_spec (c.sups.getD i 0) 0 (l.length - 1), ?_⟩; conv => whnf
    refine ⟨fun h => by
      have h : (!withinF (c.sups.getD i 0) 0 (l.length - 1)) = false := h
      have := withinF_iff.1 (by rwa [Bool.not_eq_false'] at h)
      show 0 ≤ c.sups.getD i 0 ∧ c.sups.getD i 0 < (u.length : Int)
      omega, ?_⟩; conv => whnf
    (refine ⟨by intros; first | omega | (unfold InI64; omega) | (simp only [List.length_append, List.length_cons, List.length_nil, List.length_set]; omega), ?_⟩; conv => whnf)
    refine ⟨fun _ h => by
      have h : decide ((0 : Int) < (i : Int)) = true := h
      have := of_decide_eq_true h
      show 0 ≤ (i : Int) - 1 ∧ (i : Int) - 1 < (c.sups.length : Int)
      omega, ?_⟩; conv => whnf
    refine ⟨fun _ h => by
      have h : decide ((0 : Int) < (i : Int)) = true := h
      have := of_decide_eq_true h
      have := jn_of (hi2 (i - 1) (by omega))
      show 0 ≤ c.sups.getD ((i : Int) - 1).toNat 0 ∧ c.sups.getD ((i : Int) - 1).toNat 0 < (l.length : Int)
      rw [hpr]
      omega, ?_⟩; conv => whnf
    refine bcase_of (fun h3 => ?_) (fun h3 => ?_)
    · have h3 : ((!withinF (c.sups.getD i 0) 0 (l.length - 1) || !u.getD (c.sups.getD i 0).toNat false) || (decide ((0 : Int) < (i : Int)) && ((l.getD (c.sups.getD ((i : Int) - 1).toNat 0).toNat sup0).par != c.sups.getD i 0))) = true := h3
      rw [hpr] at h3
      have h3 : jnB l u c.sups i = true := h3
      (conv => whnf)
      refine ⟨?_, trivial⟩
      show false = _
      have hj : jnAll l u c.sups = false := by
        unfold jnAll
        exact all_range_false hlt (by rw [h3]; rfl)
      rw [hj]
      rfl
    · have h3 : ((!withinF (c.sups.getD i 0) 0 (l.length - 1) || !u.getD (c.sups.getD i 0).toNat false) || (decide ((0 : Int) < (i : Int)) && ((l.getD (c.sups.getD ((i : Int) - 1).toNat 0).toNat sup0).par != c.sups.getD i 0))) = false := h3
      rw [hpr] at h3
      have h3 : jnB l u c.sups i = false := h3
      (conv => whnf)
      (refine ⟨by intros; first | omega | (unfold InI64; omega) | (simp only [List.length_append, List.length_cons, List.length_nil, List.length_set]; omega), ?_⟩; conv => whnf)
      refine ⟨i + 1, [(0, some 0), (1, some 1)], ⟨hlt, fun j hj => ?_⟩, by omega, by (repeat' (first | exact trivial | exact rfl | exact ⟨rfl, rfl⟩ | exact ⟨rfl, trivial⟩ | exact ⟨rfl, LeL.refl _, trivial⟩ | exact ⟨rfl, LeL.refl _, LeL.refl _, trivial⟩ | exact embV_le (.refl _) rfl | exact embV_leV (.refl _) rfl (Nat.lt_of_sub_pos (by exact Nat.zero_lt_succ _)) | exact ⟨rfl, rfl, rfl, rfl⟩ | exact ⟨rfl, rfl, rfl, rfl, id⟩ | exact ⟨rfl, rfl, rfl, rfl, rfl⟩ | exact ⟨rfl, rfl, rfl, rfl, nofun⟩ | exact tape_emb rfl | exact embO_le (LeL.refl _) rfl (Nat.lt_of_sub_pos (by exact Nat.zero_lt_succ _)) | exact ⟨rfl, rfl, fun _ _ => .refl _⟩ | exact embV_le (le_len (by simp)) rfl | exact ⟨rfl, rfl, rfl, by simp, nofun⟩ | exact ⟨rfl, by simp, le_app rfl (.refl _)⟩ | (refine ⟨rfl, ?_⟩; dsimp only; simp; done) | (refine ⟨rfl, ?_⟩; dsimp only; omega) | (refine ⟨rfl, ?_⟩; dsimp only; simp; omega) | refine ⟨?_, ?_⟩ | refine ⟨?_, ?_, ?_⟩))⟩
      by_cases hji : j = i
      · subst hji; exact h3
      · exact hi2 j (by omega)
  · have hil : i = c.sups.length := by have := of_decide_eq_false h2; omega
    have hj : jnAll l u c.sups = true := by
      unfold jnAll
      exact all_range_true fun j hj => by rw [hi2 j (by omega)]; rfl
    rw [hj]
    (conv => whnf)
    refine ⟨fun h => by
      have h : decide ((0 : Int) < (c.sups.length : Int)) = true := h
      have := of_decide_eq_true h
      show (0 : Int) ≤ 0 ∧ (0 : Int) < (c.sups.length : Int)
      omega, ?_⟩; conv => whnf
    generalize hh1 : hasF d c.first (c.sups.getD 0 0) = b1
    generalize hh2 : hasF d c.last (c.sups.getD (c.sups.length - 1) 0) = b2
    generalize hcb : decide ((0 : Int) < (c.sups.length : Int)) = b0
    cases b0 with
    | false =>
      (conv => whnf)
      refine ⟨rfl, ?_⟩; conv => whnf
      (refine ⟨by intros; first | omega | (unfold InI64; omega) | (unfold big; omega) | contradiction | (dsimp only at *; omega) | (dsimp only at *; unfold InI64; omega) | (dsimp only at *; unfold big; omega) | (simp only [Int.toNat_natCast]; omega) | (simp only [List.length_append, List.length_cons, List.length_nil, List.length_set]; omega), ?_⟩; conv => whnf)
      (refine ⟨by intros; first | omega | (unfold InI64; omega) | (unfold big; omega) | contradiction | (dsimp only at *; omega) | (dsimp only at *; unfold InI64; omega) | (dsimp only at *; unfold big; omega) | (simp only [Int.toNat_natCast]; omega) | (simp only [List.length_append, List.length_cons, List.length_nil, List.length_set]; omega), ?_⟩; conv => whnf)
      refine ⟨rfl, ?_⟩; conv => whnf
      exact ⟨rfl, trivial⟩
    | true =>
      have hpos := of_decide_eq_true hcb
      (conv => whnf)
      refine ⟨_, _, has_spec d (by omega) c.first (c.sups.getD 0 0), ?_⟩; conv => whnf
      rw [hh1]
      cases b1 with
      | false =>
        (conv => whnf)
        (refine ⟨by intros; first | omega | (unfold InI64; omega) | (unfold big; omega) | contradiction | (dsimp only at *; omega) | (dsimp only at *; unfold InI64; omega) | (dsimp only at *; unfold big; omega) | (simp only [Int.toNat_natCast]; omega) | (simp only [List.length_append, List.length_cons, List.length_nil, List.length_set]; omega), ?_⟩; conv => whnf)
        (refine ⟨by intros; first | omega | (unfold InI64; omega) | (unfold big; omega) | contradiction | (dsimp only at *; omega) | (dsimp only at *; unfold InI64; omega) | (dsimp only at *; unfold big; omega) | (simp only [Int.toNat_natCast]; omega) | (simp only [List.length_append, List.length_cons, List.length_nil, List.length_set]; omega), ?_⟩; conv => whnf)
        refine ⟨rfl, ?_⟩; conv => whnf
        exact ⟨rfl, trivial⟩
      | true =>
        (conv => whnf)
        (refine ⟨by intros; first | omega | (unfold InI64; omega) | (unfold big; omega) | contradiction | (dsimp only at *; omega) | (dsimp only at *; unfold InI64; omega) | (dsimp only at *; unfold big; omega) | (simp only [Int.toNat_natCast]; omega) | (simp only [List.length_append, List.length_cons, List.length_nil, List.length_set]; omega), ?_⟩; conv => whnf)
        (refine ⟨by intros; first | omega | (unfold InI64; omega) | (unfold big; omega) | contradiction | (dsimp only at *; omega) | (dsimp only at *; unfold InI64; omega) | (dsimp only at *; unfold big; omega) | (simp only [Int.toNat_natCast]; omega) | (simp only [List.length_append, List.length_cons, List.length_nil, List.length_set]; omega), ?_⟩; conv => whnf)
        refine ⟨_, _, has_spec d (by omega) c.last (c.sups.getD ((c.sups.length : Int) - 1).toNat 0), ?_⟩; conv => whnf
        refine ⟨?_, trivial⟩
        show hasF d c.last (c.sups.getD ((c.sups.length : Int) - 1).toNat 0) = b2
        rw [show ((c.sups.length : Int) - 1).toNat = c.sups.length - 1 by omega]
        exact hh2

def pwN (l : List Sup) (d : List Drw) (last : Int) : List Int → Int → Int → Bool
  | [], _, ndv => decide (0 ≤ last) && decide ((d.getD last.toNat drw0).high < ndv)
  | k :: t, v, _ => bif !okK l k v then t.isEmpty && (last == -1) else pwN l d last t (voK l k v + (l.getD k.toNat sup0).drop) (voK l k v)
def pchkF (l : List Sup) (d : List Drw) (c : Chn) : Bool :=
  bif !drawsF l d || !pjoinF l d c then false
  else bif c.over then ovB l d c
  else pwN l d c.last c.sups (bif decide (0 ≤ c.first) then (d.getD c.first.toNat drw0).low else 0) 0

theorem has_lt {d : List Drw} {draw sup : Int} (h : hasF d draw sup = true) (h0 : 0 ≤ draw) : draw < d.length ∧ (d.getD draw.toNat drw0).sup = sup := by
  unfold hasF at h
  rw [show (draw == -1) = false by rw [beq_eq_false_iff_ne]; omega, Bool.false_or, Bool.and_eq_true, withinF_iff, beq_iff_eq] at h
  exact ⟨by omega, h.2⟩

theorem has_ge {d : List Drw} {draw sup : Int} (h : hasF d draw sup = true) : -1 ≤ draw ∧ draw < d.length := by
  unfold hasF at h
  rw [Bool.or_eq_true, beq_iff_eq, Bool.and_eq_true, withinF_iff] at h
  omega

theorem pjoin_of {l : List Sup} {d : List Drw} {c : Chn} (h : pjoinF l d c = true) : jnAll l (usedF l d) c.sups = true ∧ 0 < c.sups.length ∧ hasF d c.first (c.sups.getD 0 0) = true ∧ hasF d c.last (c.sups.getD (c.sups.length - 1) 0) = true := by
  unfold pjoinF at h
  cases hj : jnAll l (usedF l d) c.sups with
  | false => rw [hj] at h; cases h
  | true =>
    rw [hj] at h
    simp only [Bool.not_true, cond_false, Bool.and_eq_true, decide_eq_true_eq] at h
    exact ⟨rfl, by omega, h.1.2, h.2⟩

/-- The two walks of a chain agree. -/
theorem pw_rw {l : List Sup} {d : List Drw} {last : Int} : ∀ (c : List Int) (v ndv : Int), c ≠ [] → -1 ≤ last → (0 ≤ last → (d.getD last.toNat drw0).sup = c.getD (c.length - 1) 0) → pwN l d last c v ndv = rwN l d last c v := by
  intro c
  induction c with
  | nil => intro v ndv h; exact absurd rfl h
  | cons k t ih =>
    intro v ndv _ h0 h1
    rw [pwN, rwN]
    cases t with
    | nil =>
      simp only [List.isEmpty_nil, Bool.not_true, cond_false, Bool.true_and]
      cases hk : okK l k v with
      | false =>
        simp only [Bool.not_false, cond_true, Bool.true_or, Bool.true_and]
        by_cases hl : last = -1
        · subst hl; rfl
        · rw [show (last == -1) = false by simpa using hl, decide_eq_false (by omega)]
      | true =>
        simp only [Bool.not_true, cond_false, Bool.false_or, Bool.false_and]
        rw [pwN]
        by_cases hl : last < 0
        · rw [decide_eq_true hl, decide_eq_false (by omega)]; rfl
        · have := h1 (by omega)
          rw [decide_eq_false hl, decide_eq_true (by omega), show ((d.getD last.toNat drw0).sup == k) = true by rw [beq_iff_eq]; exact this]
          rfl
    | cons k' t =>
      simp only [List.isEmpty_cons, Bool.not_false, cond_true, Bool.false_and]
      cases hk : okK l k v with
      | false => rfl
      | true =>
        simp only [Bool.not_true, cond_false]
        exact ih _ _ (by simp) h0 (fun h => by rw [h1 h]; simp)

theorem pchk_eq (l : List Sup) (d : List Drw) (c : Chn) : pchkF l d c = rchkF l d c := by
  unfold pchkF rchkF
  cases hd : drawsF l d with
  | false =>
    have hb : beginF l d ≠ 0 := fun h => by rw [begin_ok h] at hd; cases hd
    rw [show (beginF l d != 0) = true by simpa using hb]
    rfl
  | true =>
    rw [begin_draws hd]
    simp only [Bool.not_true, Bool.false_or, bne_self_eq_false]
    by_cases hc : c.sups = []
    · have h1 : pjoinF l d c = false := by
        unfold pjoinF
        rw [hc]
        rfl
      rw [h1, hc]
      rfl
    · have hl : ((c.sups.length : Int) == 0) = false := by
        rw [beq_eq_false_iff_ne]
        intro e
        exact hc (List.length_eq_zero_iff.1 (by omega))
      have hl0 : 0 < c.sups.length := by
        rcases Nat.eq_zero_or_pos c.sups.length with h | h
        · exact absurd (List.length_eq_zero_iff.1 h) hc
        · exact h
      rw [hl]
      simp only [cond_false]
      cases hj : jnAll l (usedF l d) c.sups with
      | false =>
        have h1 : pjoinF l d c = false := by unfold pjoinF; rw [hj]; rfl
        rw [h1]
        rfl
      | true =>
        have hpj : pjoinF l d c = (hasF d c.first (c.sups.getD 0 0) && hasF d c.last (c.sups.getD (c.sups.length - 1) 0)) := by
          unfold pjoinF
          rw [hj, decide_eq_true (by omega)]
          rfl
        rw [hpj]
        simp only [Bool.not_true, cond_false]
        cases ho : c.over with
        | true =>
          simp only [cond_true]
          unfold ovB
          by_cases h1 : c.first = -1
          · by_cases h2 : c.last = -1
            · have a : ∀ s, hasF d (-1) s = true := fun s => rfl
              rw [h1, h2, a, a]
              rfl
            · rw [show (c.last == -1) = false by simpa using h2]
              simp only [Bool.and_false, Bool.false_and]
              cases hasF d c.first (c.sups.getD 0 0) && hasF d c.last (c.sups.getD (c.sups.length - 1) 0) <;> rfl
          · rw [show (c.first == -1) = false by simpa using h1]
            simp only [Bool.and_false, Bool.false_and]
            cases hasF d c.first (c.sups.getD 0 0) && hasF d c.last (c.sups.getD (c.sups.length - 1) 0) <;> rfl
        | false =>
          simp only [cond_false]
          cases hf : hasF d c.first (c.sups.getD 0 0) with
          | false =>
            simp only [Bool.false_and, Bool.not_false, cond_true]
            cases w1 : withinF c.first (-1) (d.length - 1) with
            | false => rfl
            | true =>
              simp only [Bool.not_true, Bool.false_or]
              have hw := withinF_iff.1 w1
              unfold hasF at hf
              simp only [Bool.or_eq_false_iff, beq_eq_false_iff_ne, Bool.and_eq_false_iff] at hf
              have h0 : 0 ≤ c.first := by omega
              have hne : ((d.getD c.first.toNat drw0).sup != c.sups.getD 0 0) = true := by
                rcases hf.2 with h | h
                · rw [withinF_iff.2 (by omega)] at h; cases h
                · simpa using h
              cases withinF c.last (-1) (d.length - 1) with
              | false => rfl
              | true =>
                rw [decide_eq_true h0, hne]
                rfl
          | true =>
            simp only [Bool.true_and]
            have hfw : withinF c.first (-1) (d.length - 1) = true := withinF_iff.2 (by have := has_ge hf; omega)
            rw [hfw]
            simp only [Bool.not_true, Bool.false_or]
            cases hl2 : hasF d c.last (c.sups.getD (c.sups.length - 1) 0) with
            | false =>
              simp only [Bool.not_false, cond_true]
              cases w2 : withinF c.last (-1) (d.length - 1) with
              | false => rfl
              | true =>
                simp only [Bool.not_true, cond_false]
                have hw := withinF_iff.1 w2
                unfold hasF at hl2
                simp only [Bool.or_eq_false_iff, beq_eq_false_iff_ne, Bool.and_eq_false_iff] at hl2
                have h0 : 0 ≤ c.last := by omega
                have hne : (d.getD c.last.toNat drw0).sup ≠ c.sups.getD (c.sups.length - 1) 0 := by
                  rcases hl2.2 with h | h
                  · rw [withinF_iff.2 (by omega)] at h; cases h
                  · simpa using h
                have key : ∀ (s : List Int) (v : Int), s ≠ [] → (d.getD c.last.toNat drw0).sup ≠ s.getD (s.length - 1) 0 → rwN l d c.last s v = false := by
                  intro s
                  induction s with
                  | nil => intro v h; exact absurd rfl h
                  | cons k t ih =>
                    intro v _ hk
                    rw [rwN]
                    cases t with
                    | nil =>
                      simp only [List.isEmpty_nil, Bool.not_true, cond_false]
                      rw [decide_eq_false (by omega : ¬ c.last < 0), show ((d.getD c.last.toNat drw0).sup == k) = false by rw [beq_eq_false_iff_ne]; exact hk]
                      cases okK l k v <;> rfl
                    | cons k' t =>
                      simp only [List.isEmpty_cons, Bool.not_false, cond_true]
                      rw [ih _ (by simp) (by simpa using hk)]
                      cases okK l k v <;> rfl
                rw [key _ _ hc hne, key _ _ hc hne]
                cases decide (0 ≤ c.first) with
                | false => rfl
                | true => cases (d.getD c.first.toNat drw0).sup != c.sups.getD 0 0 <;> rfl
            | true =>
              have hlw : withinF c.last (-1) (d.length - 1) = true := withinF_iff.2 (by have := has_ge hl2; omega)
              rw [hlw]
              simp only [Bool.not_true, cond_false]
              by_cases h0 : 0 ≤ c.first
              · rw [decide_eq_true h0, show ((d.getD c.first.toNat drw0).sup != c.sups.getD 0 0) = false by simpa using (has_lt hf h0).2]
                simp only [cond_true, cond_false]
                exact pw_rw _ _ _ hc (has_ge hl2).1 (fun h => (has_lt hl2 h).2)
              · rw [decide_eq_false h0]
                simp only [cond_false]
                exact pw_rw _ _ _ hc (has_ge hl2).1 (fun h => (has_lt hl2 h).2)

end Go.Proofs.Ytjmhlbogkeohpaa

namespace Go.Proofs.Ytjmhlbogkeohpaa
open Go.Ab
set_option maxRecDepth 100000

def vols (a : List Dem) : List Int := a.map Dem.volt

theorem vols_get (a : List Dem) (j : Nat) : (vols a).getD j 0 = (a.getD j dem0).volt := by
  unfold vols
  rw [List.getD_eq_getElem?_getD, List.getElem?_map, List.getD_eq_getElem?_getD]
  cases a[j]? <;> rfl

theorem vols_set (a : List Dem) (j : Nat) (x : Dem) : vols (a.set j x) = (vols a).set j x.volt := by
  unfold vols
  rw [List.map_set]

theorem vols_len (a : List Dem) : (vols a).length = a.length := by simp [vols]

theorem set_self (a : List Int) (j : Nat) : a.set j (a.getD j 0) = a := by
  refine ext_getD 0 (by simp) fun k hk => ?_
  rw [getD_set]
  split
  · rename_i h; rw [h.1]
  · rfl

theorem set_same (a : List Int) (j : Nat) (v : Int) (h : v = a.getD j 0) : a.set j v = a := by
  rw [h, set_self]

theorem vols_dInit (n : Nat) (d : List Drw) (i : Nat) : vols (dInit n d (i + 1)) = (vols (dInit n d i)).set (d.getD i drw0).sup.toNat (if (d.getD i drw0).low > (vols (dInit n d i)).getD (d.getD i drw0).sup.toNat 0 then (d.getD i drw0).low else (vols (dInit n d i)).getD (d.getD i drw0).sup.toNat 0) := by
  rw [dInit, vols_get]
  by_cases h : ((dInit n d i).getD (d.getD i drw0).sup.toNat dem0).volt < (d.getD i drw0).low
  · rw [decide_eq_true h, cond_true, vols_set, if_pos h]
  · rw [decide_eq_false h, cond_false, if_neg h, set_same _ _ _ (vols_get _ _).symm]

theorem lv_rok {l : List Sup} {u : List Bool} {s : DS} (hu : u.length = l.length) (h : DOk l s) (hl : LvOk l s) : Rok l ⟨u, s.lv⟩ :=
  ⟨hu, h.ll, fun i hi => by
    have := hl i hi
    show 0 ≤ s.lv.getD i 0 ∧ (s.lv.getD i 0).toNat < _ ∧ s.lv.getD i 0 < _
    omega⟩

theorem dOne_lv {l : List Sup} {u : List Bool} {k : Nat} {s : DS} (hf : dFail l u k s = false) (h : LvOk l s) : LvOk l (dOne l u k s) := by
  intro j hj
  unfold dOne
  cases hu : u.getD k false with
  | false => exact h j hj
  | true =>
    unfold dFail at hf
    rw [hu, Bool.true_and, Bool.not_eq_false'] at hf
    have := of_decide_eq_true hf
    show 0 ≤ (s.lv.set k (lvOf l k s)).getD j 0 ∧ (s.lv.set k (lvOf l k s)).getD j 0 < _
    rw [getD_set]
    split
    · rename_i hjk; rw [hjk.1]; omega
    · exact h j hj

theorem addN_z (m : Nat) : addN 0 m = m := rfl

set_option maxHeartbeats 8000000 in
theorem rleast_spec (l : List Sup) (hl : l.length ≤ 1000000) (d : List Drw) (hd : d.length ≤ 1000000) : S 30 [supsV l, drwsV d] [] (.tup [rlsV (leastF l d).1, iV (leastF l d).2]) [] := by
  refine spec_of_x (ct := []) cfgOK Try.func30 rfl rfl (Nat.le_of_ble_eq_true rfl) (by decide +kernel) (Nat.zero_le _) ?_; conv => whnf
  refine ⟨_, _, rbegin_spec l hl d hd, ?_⟩; conv => whnf
  unfold leastF
  refine bcase_of (fun h => ?_) (fun h => ?_)
  · have h : (beginF l d != 0) = true := h
    (conv => whnf)
    rw [h]
    exact ⟨⟨⟨embV_le le_nil rfl, embV_le le_nil rfl, trivial⟩, ⟨rfl, rfl⟩, trivial⟩, trivial⟩
  have h : (beginF l d != 0) = false := h
  have h0 : beginF l d = 0 := by simpa using h
  have hdr := begin_ok h0
  have hv := vld_of hdr
  rw [h]
  have hvl := hv.len
  have hvd := hv.dlen
  have hul := usedF_len l d
  (conv => whnf)
  refine ⟨_, _, rused_spec l d hv, ?_⟩; conv => whnf
  refine ⟨⟨by omega, by show (l.length : Int) * 8 ≤ 140737488355328; omega⟩, ?_⟩; conv => whnf
  refine ⟨⟨by omega, by show (l.length : Int) * 8 ≤ 140737488355328; omega⟩, ?_⟩; conv => whnf
  have hu : usedF l d = usedF l d := rfl
  generalize hu : usedF l d = u at hul
  refine loops_intro (ct := [12]) cfgOK (by decide +kernel) (fun i : Nat => ⟨[(0, supsV l), (1, drwsV d), (4, .ptr 0 0 0), (7, boolsV u), (8, .ptr 1 0 0), (9, .osl 3 0 l.length true), (32, drwsV d), (33, iV d.length), (34, iV i)], [(0, some (.box [.sl 0 0 true nilG, .sl 0 0 true nilG])), (1, some (.box [boolsV u, .osl 2 0 l.length true])), (2, some (.row 1 l.length (rowG iV 0 (List.replicate l.length 0)))), (3, some (.row 1 l.length (rowG iV 0 (vols (dInit l.length d i)))))], 4⟩) (fun i => i ≤ d.length) (fun i => d.length - i) 0 [(0, some 0), (1, some 17), (2, some 15), (3, some 21)] (Nat.zero_le _) ?_ ?_
  · refine ⟨rfl, by (repeat' (first | exact trivial | exact rfl | exact ⟨rfl, rfl⟩ | exact ⟨rfl, trivial⟩ | exact ⟨rfl, LeL.refl _, trivial⟩ | exact ⟨rfl, LeL.refl _, LeL.refl _, trivial⟩ | exact embV_le (.refl _) rfl | exact embV_leV (.refl _) rfl (Nat.lt_of_sub_pos (by exact Nat.zero_lt_succ _)) | exact ⟨rfl, rfl, rfl, rfl⟩ | exact ⟨rfl, rfl, rfl, rfl, id⟩ | exact ⟨rfl, rfl, rfl, rfl, rfl⟩ | exact ⟨rfl, rfl, rfl, rfl, nofun⟩ | exact tape_emb rfl | exact embO_le (LeL.refl _) rfl (Nat.lt_of_sub_pos (by exact Nat.zero_lt_succ _)) | exact ⟨rfl, rfl, fun _ _ => .refl _⟩ | exact embV_le (le_len (by simp)) rfl | exact ⟨rfl, rfl, rfl, by simp, nofun⟩ | exact ⟨rfl, by simp, le_app rfl (.refl _)⟩ | (refine ⟨rfl, ?_⟩; dsimp only; simp; done) | (refine ⟨rfl, ?_⟩; dsimp only; omega) | (refine ⟨rfl, ?_⟩; dsimp only; simp; omega) | refine ⟨?_, ?_⟩ | refine ⟨?_, ?_, ?_⟩)), ⟨by (repeat' (first | exact trivial | exact rfl | exact ⟨rfl, rfl⟩ | exact ⟨rfl, trivial⟩ | exact ⟨rfl, LeL.refl _, trivial⟩ | exact ⟨rfl, LeL.refl _, LeL.refl _, trivial⟩ | exact embV_le (.refl _) rfl | exact embV_leV (.refl _) rfl (Nat.lt_of_sub_pos (by exact Nat.zero_lt_succ _)) | exact ⟨rfl, rfl, rfl, rfl⟩ | exact ⟨rfl, rfl, rfl, rfl, id⟩ | exact ⟨rfl, rfl, rfl, rfl, rfl⟩ | exact ⟨rfl, rfl, rfl, rfl, nofun⟩ | exact tape_emb rfl | exact embO_le (LeL.refl _) rfl (Nat.lt_of_sub_pos (by exact Nat.zero_lt_succ _)) | exact ⟨rfl, rfl, fun _ _ => .refl _⟩ | exact embV_le (le_len (by simp)) rfl | exact ⟨rfl, rfl, rfl, by simp, nofun⟩ | exact ⟨rfl, by simp, le_app rfl (.refl _)⟩ | (refine ⟨rfl, ?_⟩; dsimp only; simp; done) | (refine ⟨rfl, ?_⟩; dsimp only; omega) | (refine ⟨rfl, ?_⟩; dsimp only; simp; omega) | refine ⟨?_, ?_⟩ | refine ⟨?_, ?_, ?_⟩)), by (repeat' (first | exact trivial | exact rfl | exact ⟨rfl, rfl⟩ | exact ⟨rfl, trivial⟩ | exact ⟨rfl, LeL.refl _, trivial⟩ | exact ⟨rfl, LeL.refl _, LeL.refl _, trivial⟩ | exact embV_le (.refl _) rfl | exact embV_leV (.refl _) rfl (Nat.lt_of_sub_pos (by exact Nat.zero_lt_succ _)) | exact ⟨rfl, rfl, rfl, rfl⟩ | exact ⟨rfl, rfl, rfl, rfl, id⟩ | exact ⟨rfl, rfl, rfl, rfl, rfl⟩ | exact ⟨rfl, rfl, rfl, rfl, nofun⟩ | exact tape_emb rfl | exact embO_le (LeL.refl _) rfl (Nat.lt_of_sub_pos (by exact Nat.zero_lt_succ _)) | exact ⟨rfl, rfl, fun _ _ => .refl _⟩ | exact embV_le (le_len (by simp)) rfl | exact ⟨rfl, rfl, rfl, by simp, nofun⟩ | exact ⟨rfl, by simp, le_app rfl (.refl _)⟩ | (refine ⟨rfl, ?_⟩; dsimp only; simp; done) | (refine ⟨rfl, ?_⟩; dsimp only; omega) | (refine ⟨rfl, ?_⟩; dsimp only; simp; omega) | refine ⟨?_, ?_⟩ | refine ⟨?_, ?_, ?_⟩)), ⟨rfl, rfl, fun k _ => ?_⟩, ⟨rfl, rfl, fun k _ => ?_⟩, trivial⟩⟩
    · show Le (iV 0) (iV ((List.replicate l.length 0).getD k 0))
      rw [rep_getD]
      exact .refl _
    · show Le (iV 0) (iV ((vols (dInit l.length d 0)).getD k 0))
      have : (vols (dInit l.length d 0)).getD k 0 = 0 := by
        show (vols (List.replicate l.length (⟨0, -1, -1⟩ : Dem))).getD k 0 = 0
        rw [show vols (List.replicate l.length (⟨0, -1, -1⟩ : Dem)) = List.replicate l.length 0 by unfold vols; rw [List.map_replicate]]
        exact rep_getD _ _ _
      rw [this]
      exact .refl _
  intro i hi
  (conv => whnf)
  refine bcase_of (fun h2 => ?_) (fun h2 => ?_)
  · have hlt : i < d.length := by have := of_decide_eq_true h2; omega
    have hx := hv.drw _ (getD_mem drw0 hlt)
    (conv => whnf)
    (refine ⟨by intros; first | omega | (unfold InI64; omega) | (simp only [List.length_append, List.length_cons, List.length_nil, List.length_set]; omega), ?_⟩; conv => whnf)
    refine ⟨⟨hx.1, by show (d.getD i drw0).sup < (l.length : Int); omega⟩, ?_⟩; conv => whnf
    refine ⟨⟨hx.1, by show (d.getD i drw0).sup < (l.length : Int); omega⟩, ?_⟩; conv => whnf
    (refine ⟨by intros; first | omega | (unfold InI64; omega) | (simp only [List.length_append, List.length_cons, List.length_nil, List.length_set]; omega), ?_⟩; conv => whnf)
    refine ⟨i + 1, [(0, some 0), (1, some 1), (2, some 2), (3, some 3)], hlt, by omega, ⟨rfl, by (repeat' (first | exact trivial | exact rfl | exact ⟨rfl, rfl⟩ | exact ⟨rfl, trivial⟩ | exact ⟨rfl, LeL.refl _, trivial⟩ | exact ⟨rfl, LeL.refl _, LeL.refl _, trivial⟩ | exact embV_le (.refl _) rfl | exact embV_leV (.refl _) rfl (Nat.lt_of_sub_pos (by exact Nat.zero_lt_succ _)) | exact ⟨rfl, rfl, rfl, rfl⟩ | exact ⟨rfl, rfl, rfl, rfl, id⟩ | exact ⟨rfl, rfl, rfl, rfl, rfl⟩ | exact ⟨rfl, rfl, rfl, rfl, nofun⟩ | exact tape_emb rfl | exact embO_le (LeL.refl _) rfl (Nat.lt_of_sub_pos (by exact Nat.zero_lt_succ _)) | exact ⟨rfl, rfl, fun _ _ => .refl _⟩ | exact embV_le (le_len (by simp)) rfl | exact ⟨rfl, rfl, rfl, by simp, nofun⟩ | exact ⟨rfl, by simp, le_app rfl (.refl _)⟩ | (refine ⟨rfl, ?_⟩; dsimp only; simp; done) | (refine ⟨rfl, ?_⟩; dsimp only; omega) | (refine ⟨rfl, ?_⟩; dsimp only; simp; omega) | refine ⟨?_, ?_⟩ | refine ⟨?_, ?_, ?_⟩)), ⟨by (repeat' (first | exact trivial | exact rfl | exact ⟨rfl, rfl⟩ | exact ⟨rfl, trivial⟩ | exact ⟨rfl, LeL.refl _, trivial⟩ | exact ⟨rfl, LeL.refl _, LeL.refl _, trivial⟩ | exact embV_le (.refl _) rfl | exact embV_leV (.refl _) rfl (Nat.lt_of_sub_pos (by exact Nat.zero_lt_succ _)) | exact ⟨rfl, rfl, rfl, rfl⟩ | exact ⟨rfl, rfl, rfl, rfl, id⟩ | exact ⟨rfl, rfl, rfl, rfl, rfl⟩ | exact ⟨rfl, rfl, rfl, rfl, nofun⟩ | exact tape_emb rfl | exact embO_le (LeL.refl _) rfl (Nat.lt_of_sub_pos (by exact Nat.zero_lt_succ _)) | exact ⟨rfl, rfl, fun _ _ => .refl _⟩ | exact embV_le (le_len (by simp)) rfl | exact ⟨rfl, rfl, rfl, by simp, nofun⟩ | exact ⟨rfl, by simp, le_app rfl (.refl _)⟩ | (refine ⟨rfl, ?_⟩; dsimp only; simp; done) | (refine ⟨rfl, ?_⟩; dsimp only; omega) | (refine ⟨rfl, ?_⟩; dsimp only; simp; omega) | refine ⟨?_, ?_⟩ | refine ⟨?_, ?_, ?_⟩)), by (repeat' (first | exact trivial | exact rfl | exact ⟨rfl, rfl⟩ | exact ⟨rfl, trivial⟩ | exact ⟨rfl, LeL.refl _, trivial⟩ | exact ⟨rfl, LeL.refl _, LeL.refl _, trivial⟩ | exact embV_le (.refl _) rfl | exact embV_leV (.refl _) rfl (Nat.lt_of_sub_pos (by exact Nat.zero_lt_succ _)) | exact ⟨rfl, rfl, rfl, rfl⟩ | exact ⟨rfl, rfl, rfl, rfl, id⟩ | exact ⟨rfl, rfl, rfl, rfl, rfl⟩ | exact ⟨rfl, rfl, rfl, rfl, nofun⟩ | exact tape_emb rfl | exact embO_le (LeL.refl _) rfl (Nat.lt_of_sub_pos (by exact Nat.zero_lt_succ _)) | exact ⟨rfl, rfl, fun _ _ => .refl _⟩ | exact embV_le (le_len (by simp)) rfl | exact ⟨rfl, rfl, rfl, by simp, nofun⟩ | exact ⟨rfl, by simp, le_app rfl (.refl _)⟩ | (refine ⟨rfl, ?_⟩; dsimp only; simp; done) | (refine ⟨rfl, ?_⟩; dsimp only; omega) | (refine ⟨rfl, ?_⟩; dsimp only; simp; omega) | refine ⟨?_, ?_⟩ | refine ⟨?_, ?_, ?_⟩)), by (repeat' (first | exact trivial | exact rfl | exact ⟨rfl, rfl⟩ | exact ⟨rfl, trivial⟩ | exact ⟨rfl, LeL.refl _, trivial⟩ | exact ⟨rfl, LeL.refl _, LeL.refl _, trivial⟩ | exact embV_le (.refl _) rfl | exact embV_leV (.refl _) rfl (Nat.lt_of_sub_pos (by exact Nat.zero_lt_succ _)) | exact ⟨rfl, rfl, rfl, rfl⟩ | exact ⟨rfl, rfl, rfl, rfl, id⟩ | exact ⟨rfl, rfl, rfl, rfl, rfl⟩ | exact ⟨rfl, rfl, rfl, rfl, nofun⟩ | exact tape_emb rfl | exact embO_le (LeL.refl _) rfl (Nat.lt_of_sub_pos (by exact Nat.zero_lt_succ _)) | exact ⟨rfl, rfl, fun _ _ => .refl _⟩ | exact embV_le (le_len (by simp)) rfl | exact ⟨rfl, rfl, rfl, by simp, nofun⟩ | exact ⟨rfl, by simp, le_app rfl (.refl _)⟩ | (refine ⟨rfl, ?_⟩; dsimp only; simp; done) | (refine ⟨rfl, ?_⟩; dsimp only; omega) | (refine ⟨rfl, ?_⟩; dsimp only; simp; omega) | refine ⟨?_, ?_⟩ | refine ⟨?_, ?_, ?_⟩)), ⟨rfl, rfl, fun k _ => ?_⟩, trivial⟩⟩⟩
    rw [vols_dInit]
    exact le_set (l := vols (dInit l.length d i)) (i := (d.getD i drw0).sup.toNat) (by rw [vols_len, dInit_len]; omega) rfl (.refl _) k
  have hid : i = d.length := by have := of_decide_eq_false h2; omega
  subst hid
  (conv => whnf)
  (refine ⟨by intros; first | omega | (unfold InI64; omega) | (simp only [List.length_append, List.length_cons, List.length_nil, List.length_set]; omega), ?_⟩; conv => whnf)
  refine loops_intro (ct := [17]) cfgOK (by decide +kernel) (fun g : Nat × DS => ⟨[(0, supsV l), (1, drwsV d), (4, .ptr 0 0 0), (7, boolsV u), (8, .ptr 1 0 0), (9, .osl 3 0 l.length true), (12, iV ((g.1 : Int) - 1))], [(0, some (.box [.sl 0 0 true nilG, .sl 0 0 true nilG])), (1, some (.box [boolsV u, .osl 2 0 l.length true])), (2, some (.row 1 l.length (rowG iV 0 g.2.lv))), (3, some (.row 1 l.length (rowG iV 0 (vols g.2.a))))], 4⟩) (fun g => g.1 ≤ l.length ∧ DOk l g.2 ∧ LvOk l g.2 ∧ demN l u g.1 g.2 = demF l d) (fun g => g.1) (l.length, ds0 l d) [(0, some 0), (1, some 1), (2, some 2), (3, some 3)] ⟨Nat.le_refl _, ds0_ok l d, fun j hj => ?_, by unfold demF; rw [hu]⟩ (by (repeat' (first | exact trivial | exact rfl | exact ⟨rfl, rfl⟩ | exact ⟨rfl, trivial⟩ | exact ⟨rfl, LeL.refl _, trivial⟩ | exact ⟨rfl, LeL.refl _, LeL.refl _, trivial⟩ | exact embV_le (.refl _) rfl | exact embV_leV (.refl _) rfl (Nat.lt_of_sub_pos (by exact Nat.zero_lt_succ _)) | exact ⟨rfl, rfl, rfl, rfl⟩ | exact ⟨rfl, rfl, rfl, rfl, id⟩ | exact ⟨rfl, rfl, rfl, rfl, rfl⟩ | exact ⟨rfl, rfl, rfl, rfl, nofun⟩ | exact tape_emb rfl | exact embO_le (LeL.refl _) rfl (Nat.lt_of_sub_pos (by exact Nat.zero_lt_succ _)) | exact ⟨rfl, rfl, fun _ _ => .refl _⟩ | exact embV_le (le_len (by simp)) rfl | exact ⟨rfl, rfl, rfl, by simp, nofun⟩ | exact ⟨rfl, by simp, le_app rfl (.refl _)⟩ | (refine ⟨rfl, ?_⟩; dsimp only; simp; done) | (refine ⟨rfl, ?_⟩; dsimp only; omega) | (refine ⟨rfl, ?_⟩; dsimp only; simp; omega) | refine ⟨?_, ?_⟩ | refine ⟨?_, ?_, ?_⟩))) ?_
  · show 0 ≤ (List.replicate l.length (0 : Int)).getD j 0 ∧ (List.replicate l.length (0 : Int)).getD j 0 < _
    rw [rep_getD]
    have := (hv.sup j hj).2.2.1
    omega
  intro ⟨m, s⟩ ⟨g1, g2, g3, g4⟩
  have g1 : m ≤ l.length := g1
  have g2 : DOk l s := g2
  have g3 : LvOk l s := g3
  have g4 : demN l u m s = demF l d := g4
  cases m with
  | zero =>
    · (conv => whnf)
      have hrok := lv_rok (u := u) hul g2 g3
      refine ⟨_, _, (rmeets_spec l ⟨u, s.lv⟩ d hv hrok).le ⟨.refl _, Le.aggL ⟨.refl _, le_len g2.ll.symm, trivial⟩, .refl _, trivial⟩ trivial, ?_⟩; conv => whnf
      have g4 : (s, (-1 : Int)) = demF l d := g4
      have hmf : meetsF l ⟨u, s.lv⟩ d = meets0 l ⟨u, s.lv⟩ d := by
        unfold meetsF
        rw [rails_iff.2 ⟨draws_check hdr, hrok⟩, hdr]
        rfl
      rw [← g4]
      simp only [show decide ((0 : Int) ≤ -1) = false from rfl, Bool.false_or, hmf, cond_false]
      refine bcase_of (fun h5 => ?_) (fun h5 => ?_)
      · have h5 : (!meets0 l ⟨u, s.lv⟩ d) = true := h5
        (conv => whnf)
        rw [h5]
        exact ⟨⟨⟨embV_le le_nil rfl, embV_le le_nil rfl, trivial⟩, ⟨rfl, rfl⟩, trivial⟩, trivial⟩
      · have h5 : (!meets0 l ⟨u, s.lv⟩ d) = false := h5
        (conv => whnf)
        rw [h5]
        exact ⟨⟨⟨embV_le (.refl _) rfl, embV_le (le_len g2.ll.symm) rfl, trivial⟩, ⟨rfl, rfl⟩, trivial⟩, trivial⟩
  | succ m =>
    have hm : (((m + 1 : Nat) : Int) - 1) = (m : Int) := by omega
    have hs := hv.sup m (by omega)
    have hlv := hv.lev m (by omega)
    have hal : s.a.length = l.length := g2.al
    have hll : s.lv.length = l.length := g2.ll
    rw [demN] at g4
    dsimp only
    rw [hm]
    · (conv => whnf)
      refine ⟨by show 0 ≤ (m : Int) ∧ (m : Int) < (u.length : Int); omega, ?_⟩; conv => whnf
      refine bcase_of (fun h4 => ?_) (fun h4 => ?_)
      · have h4 : (!u.getD m false) = true := h4
        have h4' : u.getD m false = false := by simpa using h4
        have hf : dFail l u m s = false := by unfold dFail; rw [h4']; rfl
        have ho : dOne l u m s = s := by unfold dOne; rw [h4']; rfl
        rw [hf, ho] at g4
        (conv => whnf)
        (refine ⟨by intros; first | omega | (unfold InI64; omega) | (unfold big; omega) | contradiction | (dsimp only at *; omega) | (dsimp only at *; unfold InI64; omega) | (dsimp only at *; unfold big; omega) | (simp only [Int.toNat_natCast]; omega) | (simp only [List.length_append, List.length_cons, List.length_nil, List.length_set]; omega), ?_⟩; conv => whnf)
        refine ⟨(m, s), [(0, some 0), (1, some 1), (2, some 2), (3, some 3)], ⟨by show m ≤ _; omega, g2, g3, g4⟩, by show m < m + 1; omega, ?_⟩
        (repeat' (first | exact trivial | exact rfl | exact ⟨rfl, rfl⟩ | exact ⟨rfl, trivial⟩ | exact ⟨rfl, LeL.refl _, trivial⟩ | exact ⟨rfl, LeL.refl _, LeL.refl _, trivial⟩ | exact embV_le (.refl _) rfl | exact embV_leV (.refl _) rfl (Nat.lt_of_sub_pos (by exact Nat.zero_lt_succ _)) | exact ⟨rfl, rfl, rfl, rfl⟩ | exact ⟨rfl, rfl, rfl, rfl, id⟩ | exact ⟨rfl, rfl, rfl, rfl, rfl⟩ | exact ⟨rfl, rfl, rfl, rfl, nofun⟩ | exact tape_emb rfl | exact embO_le (LeL.refl _) rfl (Nat.lt_of_sub_pos (by exact Nat.zero_lt_succ _)) | exact ⟨rfl, rfl, fun _ _ => .refl _⟩ | exact embV_le (le_len (by simp)) rfl | exact ⟨rfl, rfl, rfl, by simp, nofun⟩ | exact ⟨rfl, by simp, le_app rfl (.refl _)⟩ | (refine ⟨rfl, ?_⟩; dsimp only; simp; done) | (refine ⟨rfl, ?_⟩; dsimp only; omega) | (refine ⟨rfl, ?_⟩; dsimp only; simp; omega) | refine ⟨?_, ?_⟩ | refine ⟨?_, ?_, ?_⟩))
      · have h4 : (!u.getD m false) = false := h4
        have h4' : u.getD m false = true := by simpa using h4
        (conv => whnf)
        have hlo : lvN (l.getD m sup0).lev (s.a.getD m dem0).volt = lvOf l m s := rfl
        have hvo : (vols s.a).getD m 0 = (s.a.getD m dem0).volt := vols_get _ _
        refine cut_intro (ct := []) (ct' := []) cfgOK (by decide +kernel) (by decide +kernel) (fun _ : Unit => ⟨[(0, supsV l), (1, drwsV d), (4, .ptr 0 0 0), (7, boolsV u), (8, .ptr 1 0 0), (9, .osl 3 0 l.length true), (12, iV m)], [(0, some (.box [.sl 0 0 true nilG, .sl 0 0 true nilG])), (1, some (.box [boolsV u, .osl 2 0 l.length true])), (2, some (.row 1 l.length (rowG iV 0 (s.lv.set m (bif decide (lvOf l m s < (l.getD m sup0).lev.length) then (lvOf l m s : Int) else -1))))), (3, some (.row 1 l.length (rowG iV 0 (vols s.a))))], 4⟩) (fun _ => True) ?_ ?_
        · (conv => whnf)
          (refine ⟨by intros; first | omega | (unfold InI64; omega) | (unfold big; omega) | contradiction | (dsimp only at *; omega) | (dsimp only at *; unfold InI64; omega) | (dsimp only at *; unfold big; omega) | (simp only [Int.toNat_natCast]; omega) | (simp only [List.length_append, List.length_cons, List.length_nil, List.length_set]; omega), ?_⟩; conv => whnf)
          (refine ⟨by intros; first | omega | (unfold InI64; omega) | (unfold big; omega) | contradiction | (dsimp only at *; omega) | (dsimp only at *; unfold InI64; omega) | (dsimp only at *; unfold big; omega) | (simp only [Int.toNat_natCast]; omega) | (simp only [List.length_append, List.length_cons, List.length_nil, List.length_set]; omega), ?_⟩; conv => whnf)
          refine ⟨_, _, rlevel_spec (l.getD m sup0) (by omega) ((vols s.a).getD m 0), ?_⟩; conv => whnf
          rw [hvo, hlo]
          (refine ⟨by intros; first | omega | (unfold InI64; omega) | (unfold big; omega) | contradiction | (dsimp only at *; omega) | (dsimp only at *; unfold InI64; omega) | (dsimp only at *; unfold big; omega) | (simp only [Int.toNat_natCast]; omega) | (simp only [List.length_append, List.length_cons, List.length_nil, List.length_set]; omega), ?_⟩; conv => whnf)
          refine ⟨(), [(0, some 0), (1, some 1), (2, some 2), (3, some 3)], trivial, ⟨rfl, by (repeat' (first | exact trivial | exact rfl | exact ⟨rfl, rfl⟩ | exact ⟨rfl, trivial⟩ | exact ⟨rfl, LeL.refl _, trivial⟩ | exact ⟨rfl, LeL.refl _, LeL.refl _, trivial⟩ | exact embV_le (.refl _) rfl | exact embV_leV (.refl _) rfl (Nat.lt_of_sub_pos (by exact Nat.zero_lt_succ _)) | exact ⟨rfl, rfl, rfl, rfl⟩ | exact ⟨rfl, rfl, rfl, rfl, id⟩ | exact ⟨rfl, rfl, rfl, rfl, rfl⟩ | exact ⟨rfl, rfl, rfl, rfl, nofun⟩ | exact tape_emb rfl | exact embO_le (LeL.refl _) rfl (Nat.lt_of_sub_pos (by exact Nat.zero_lt_succ _)) | exact ⟨rfl, rfl, fun _ _ => .refl _⟩ | exact embV_le (le_len (by simp)) rfl | exact ⟨rfl, rfl, rfl, by simp, nofun⟩ | exact ⟨rfl, by simp, le_app rfl (.refl _)⟩ | (refine ⟨rfl, ?_⟩; dsimp only; simp; done) | (refine ⟨rfl, ?_⟩; dsimp only; omega) | (refine ⟨rfl, ?_⟩; dsimp only; simp; omega) | refine ⟨?_, ?_⟩ | refine ⟨?_, ?_, ?_⟩)), ⟨by (repeat' (first | exact trivial | exact rfl | exact ⟨rfl, rfl⟩ | exact ⟨rfl, trivial⟩ | exact ⟨rfl, LeL.refl _, trivial⟩ | exact ⟨rfl, LeL.refl _, LeL.refl _, trivial⟩ | exact embV_le (.refl _) rfl | exact embV_leV (.refl _) rfl (Nat.lt_of_sub_pos (by exact Nat.zero_lt_succ _)) | exact ⟨rfl, rfl, rfl, rfl⟩ | exact ⟨rfl, rfl, rfl, rfl, id⟩ | exact ⟨rfl, rfl, rfl, rfl, rfl⟩ | exact ⟨rfl, rfl, rfl, rfl, nofun⟩ | exact tape_emb rfl | exact embO_le (LeL.refl _) rfl (Nat.lt_of_sub_pos (by exact Nat.zero_lt_succ _)) | exact ⟨rfl, rfl, fun _ _ => .refl _⟩ | exact embV_le (le_len (by simp)) rfl | exact ⟨rfl, rfl, rfl, by simp, nofun⟩ | exact ⟨rfl, by simp, le_app rfl (.refl _)⟩ | (refine ⟨rfl, ?_⟩; dsimp only; simp; done) | (refine ⟨rfl, ?_⟩; dsimp only; omega) | (refine ⟨rfl, ?_⟩; dsimp only; simp; omega) | refine ⟨?_, ?_⟩ | refine ⟨?_, ?_, ?_⟩)), by (repeat' (first | exact trivial | exact rfl | exact ⟨rfl, rfl⟩ | exact ⟨rfl, trivial⟩ | exact ⟨rfl, LeL.refl _, trivial⟩ | exact ⟨rfl, LeL.refl _, LeL.refl _, trivial⟩ | exact embV_le (.refl _) rfl | exact embV_leV (.refl _) rfl (Nat.lt_of_sub_pos (by exact Nat.zero_lt_succ _)) | exact ⟨rfl, rfl, rfl, rfl⟩ | exact ⟨rfl, rfl, rfl, rfl, id⟩ | exact ⟨rfl, rfl, rfl, rfl, rfl⟩ | exact ⟨rfl, rfl, rfl, rfl, nofun⟩ | exact tape_emb rfl | exact embO_le (LeL.refl _) rfl (Nat.lt_of_sub_pos (by exact Nat.zero_lt_succ _)) | exact ⟨rfl, rfl, fun _ _ => .refl _⟩ | exact embV_le (le_len (by simp)) rfl | exact ⟨rfl, rfl, rfl, by simp, nofun⟩ | exact ⟨rfl, by simp, le_app rfl (.refl _)⟩ | (refine ⟨rfl, ?_⟩; dsimp only; simp; done) | (refine ⟨rfl, ?_⟩; dsimp only; omega) | (refine ⟨rfl, ?_⟩; dsimp only; simp; omega) | refine ⟨?_, ?_⟩ | refine ⟨?_, ?_, ?_⟩)), ⟨rfl, rfl, fun k _ => ?_⟩, by (repeat' (first | exact trivial | exact rfl | exact ⟨rfl, rfl⟩ | exact ⟨rfl, trivial⟩ | exact ⟨rfl, LeL.refl _, trivial⟩ | exact ⟨rfl, LeL.refl _, LeL.refl _, trivial⟩ | exact embV_le (.refl _) rfl | exact embV_leV (.refl _) rfl (Nat.lt_of_sub_pos (by exact Nat.zero_lt_succ _)) | exact ⟨rfl, rfl, rfl, rfl⟩ | exact ⟨rfl, rfl, rfl, rfl, id⟩ | exact ⟨rfl, rfl, rfl, rfl, rfl⟩ | exact ⟨rfl, rfl, rfl, rfl, nofun⟩ | exact tape_emb rfl | exact embO_le (LeL.refl _) rfl (Nat.lt_of_sub_pos (by exact Nat.zero_lt_succ _)) | exact ⟨rfl, rfl, fun _ _ => .refl _⟩ | exact embV_le (le_len (by simp)) rfl | exact ⟨rfl, rfl, rfl, by simp, nofun⟩ | exact ⟨rfl, by simp, le_app rfl (.refl _)⟩ | (refine ⟨rfl, ?_⟩; dsimp only; simp; done) | (refine ⟨rfl, ?_⟩; dsimp only; omega) | (refine ⟨rfl, ?_⟩; dsimp only; simp; omega) | refine ⟨?_, ?_⟩ | refine ⟨?_, ?_, ?_⟩)), trivial⟩⟩⟩
          exact le_set (l := s.lv) (i := m) (v := (bif decide (lvOf l m s < (l.getD m sup0).lev.length) then (lvOf l m s : Int) else -1)) (by omega) (by show addN 0 m = m; exact addN_z m) (.refl _) k
        · intro _ _
          (conv => whnf)
          (refine ⟨by intros; first | omega | (unfold InI64; omega) | (unfold big; omega) | contradiction | (dsimp only at *; omega) | (dsimp only at *; unfold InI64; omega) | (dsimp only at *; unfold big; omega) | (simp only [Int.toNat_natCast]; omega) | (simp only [List.length_append, List.length_cons, List.length_nil, List.length_set]; omega), ?_⟩; conv => whnf)
          have hgs : ∀ x : Int, (s.lv.set m x).getD m 0 = x := fun x => by rw [getD_set, if_pos ⟨rfl, by omega⟩]
          cases hok : decide (lvOf l m s < (l.getD m sup0).lev.length) with
          | false =>
            have hf : dFail l u m s = true := by
              unfold dFail
              rw [h4']
              have := of_decide_eq_false hok
              rw [decide_eq_false (by omega)]
              rfl
            rw [hf] at g4
            have g4 : (s, (m : Int)) = demF l d := g4
            refine bcase_of (fun h5 => ?_) (fun h5 => ?_)
            · (conv => whnf)
              rw [← g4, decide_eq_true (by show (0 : Int) ≤ (m : Int); omega)]
              exact ⟨⟨⟨embV_le le_nil rfl, embV_le le_nil rfl, trivial⟩, ⟨rfl, rfl⟩, trivial⟩, trivial⟩
            · have h5 : decide ((s.lv.set m (-1)).getD m 0 < 0) = false := h5
              rw [hgs] at h5
              exact absurd h5 (by decide)
          | true =>
            have hok' := of_decide_eq_true hok
            have hf : dFail l u m s = false := by
              unfold dFail
              rw [h4', decide_eq_true (by omega)]
              rfl
            rw [hf] at g4
            have ho : dOne l u m s = ⟨bif decide (0 ≤ (l.getD m sup0).par) && decide ((s.a.getD (l.getD m sup0).par.toNat dem0).volt < needOf l m s) then s.a.set (l.getD m sup0).par.toNat ⟨needOf l m s, -1, m⟩ else s.a, s.lv.set m (lvOf l m s)⟩ := by
              unfold dOne
              rw [h4']
              rfl
            have hdo := dOne_ok (u := u) (i := m) g2
            have hlo2 := dOne_lv hf g3
            have hrok : Rok l ⟨u, s.lv.set m (lvOf l m s)⟩ := by
              have := lv_rok (u := u) hul hdo hlo2
              rw [ho] at this
              exact this
            refine bcase_of (fun h5 => ?_) (fun h5 => ?_)
            · have h5 : decide ((s.lv.set m (lvOf l m s)).getD m 0 < 0) = true := h5
              rw [hgs] at h5
              have := of_decide_eq_true h5
              omega
            · (conv => whnf)
              (refine ⟨by intros; first | omega | (unfold InI64; omega) | (unfold big; omega) | contradiction | (dsimp only at *; omega) | (dsimp only at *; unfold InI64; omega) | (dsimp only at *; unfold big; omega) | (simp only [Int.toNat_natCast]; omega) | (simp only [List.length_append, List.length_cons, List.length_nil, List.length_set]; omega), ?_⟩; conv => whnf)
              refine bcase_of (fun h6 => ?_) (fun h6 => ?_)
              · have h6 : decide (0 ≤ (l.getD m sup0).par) = true := h6
                have hp := of_decide_eq_true h6
                have hvolt : voltF l ⟨u, s.lv.set m (lvOf l m s)⟩ m = (l.getD m sup0).lev.getD (lvOf l m s) 0 := by
                  unfold voltF
                  show (l.getD m sup0).lev.getD ((s.lv.set m (lvOf l m s)).getD m 0).toNat 0 = _
                  rw [hgs]
                  rfl
                have hvb := volt_bnd hv hrok m (by omega)
                (conv => whnf)
                refine ⟨by show 0 ≤ (l.getD m sup0).par ∧ (l.getD m sup0).par < (l.length : Int); omega, ?_⟩; conv => whnf
                refine ⟨_, _, (volts_spec l ⟨u, s.lv.set m (lvOf l m s)⟩ hrok m (by omega)).le ⟨.refl _, Le.aggL ⟨.refl _, le_len (by rw [List.length_set]; exact g2.ll.symm), trivial⟩, .refl _, trivial⟩ trivial, ?_⟩; conv => whnf
                (refine ⟨by intros; first | omega | (unfold InI64; omega) | (unfold big; omega) | contradiction | (dsimp only at *; omega) | (dsimp only at *; unfold InI64; omega) | (dsimp only at *; unfold big; omega) | (simp only [Int.toNat_natCast]; omega) | (simp only [List.length_append, List.length_cons, List.length_nil, List.length_set]; omega), ?_⟩; conv => whnf)
                refine ⟨by show InI64 (voltF l ⟨u, s.lv.set m (lvOf l m s)⟩ m + (l.getD m sup0).drop); unfold InI64; omega, ?_⟩; conv => whnf
                refine ⟨by show 0 ≤ (l.getD m sup0).par ∧ (l.getD m sup0).par < (l.length : Int); omega, ?_⟩; conv => whnf
                (refine ⟨by intros; first | omega | (unfold InI64; omega) | (unfold big; omega) | contradiction | (dsimp only at *; omega) | (dsimp only at *; unfold InI64; omega) | (dsimp only at *; unfold big; omega) | (simp only [Int.toNat_natCast]; omega) | (simp only [List.length_append, List.length_cons, List.length_nil, List.length_set]; omega), ?_⟩; conv => whnf)
                refine ⟨(m, dOne l u m s), [(0, some 0), (1, some 1), (2, some 2), (3, some 3)], ⟨by show m ≤ _; omega, hdo, hlo2, g4⟩, by show m < m + 1; omega, ⟨rfl, by (repeat' (first | exact trivial | exact rfl | exact ⟨rfl, rfl⟩ | exact ⟨rfl, trivial⟩ | exact ⟨rfl, LeL.refl _, trivial⟩ | exact ⟨rfl, LeL.refl _, LeL.refl _, trivial⟩ | exact embV_le (.refl _) rfl | exact embV_leV (.refl _) rfl (Nat.lt_of_sub_pos (by exact Nat.zero_lt_succ _)) | exact ⟨rfl, rfl, rfl, rfl⟩ | exact ⟨rfl, rfl, rfl, rfl, id⟩ | exact ⟨rfl, rfl, rfl, rfl, rfl⟩ | exact ⟨rfl, rfl, rfl, rfl, nofun⟩ | exact tape_emb rfl | exact embO_le (LeL.refl _) rfl (Nat.lt_of_sub_pos (by exact Nat.zero_lt_succ _)) | exact ⟨rfl, rfl, fun _ _ => .refl _⟩ | exact embV_le (le_len (by simp)) rfl | exact ⟨rfl, rfl, rfl, by simp, nofun⟩ | exact ⟨rfl, by simp, le_app rfl (.refl _)⟩ | (refine ⟨rfl, ?_⟩; dsimp only; simp; done) | (refine ⟨rfl, ?_⟩; dsimp only; omega) | (refine ⟨rfl, ?_⟩; dsimp only; simp; omega) | refine ⟨?_, ?_⟩ | refine ⟨?_, ?_, ?_⟩)), ⟨by (repeat' (first | exact trivial | exact rfl | exact ⟨rfl, rfl⟩ | exact ⟨rfl, trivial⟩ | exact ⟨rfl, LeL.refl _, trivial⟩ | exact ⟨rfl, LeL.refl _, LeL.refl _, trivial⟩ | exact embV_le (.refl _) rfl | exact embV_leV (.refl _) rfl (Nat.lt_of_sub_pos (by exact Nat.zero_lt_succ _)) | exact ⟨rfl, rfl, rfl, rfl⟩ | exact ⟨rfl, rfl, rfl, rfl, id⟩ | exact ⟨rfl, rfl, rfl, rfl, rfl⟩ | exact ⟨rfl, rfl, rfl, rfl, nofun⟩ | exact tape_emb rfl | exact embO_le (LeL.refl _) rfl (Nat.lt_of_sub_pos (by exact Nat.zero_lt_succ _)) | exact ⟨rfl, rfl, fun _ _ => .refl _⟩ | exact embV_le (le_len (by simp)) rfl | exact ⟨rfl, rfl, rfl, by simp, nofun⟩ | exact ⟨rfl, by simp, le_app rfl (.refl _)⟩ | (refine ⟨rfl, ?_⟩; dsimp only; simp; done) | (refine ⟨rfl, ?_⟩; dsimp only; omega) | (refine ⟨rfl, ?_⟩; dsimp only; simp; omega) | refine ⟨?_, ?_⟩ | refine ⟨?_, ?_, ?_⟩)), by (repeat' (first | exact trivial | exact rfl | exact ⟨rfl, rfl⟩ | exact ⟨rfl, trivial⟩ | exact ⟨rfl, LeL.refl _, trivial⟩ | exact ⟨rfl, LeL.refl _, LeL.refl _, trivial⟩ | exact embV_le (.refl _) rfl | exact embV_leV (.refl _) rfl (Nat.lt_of_sub_pos (by exact Nat.zero_lt_succ _)) | exact ⟨rfl, rfl, rfl, rfl⟩ | exact ⟨rfl, rfl, rfl, rfl, id⟩ | exact ⟨rfl, rfl, rfl, rfl, rfl⟩ | exact ⟨rfl, rfl, rfl, rfl, nofun⟩ | exact tape_emb rfl | exact embO_le (LeL.refl _) rfl (Nat.lt_of_sub_pos (by exact Nat.zero_lt_succ _)) | exact ⟨rfl, rfl, fun _ _ => .refl _⟩ | exact embV_le (le_len (by simp)) rfl | exact ⟨rfl, rfl, rfl, by simp, nofun⟩ | exact ⟨rfl, by simp, le_app rfl (.refl _)⟩ | (refine ⟨rfl, ?_⟩; dsimp only; simp; done) | (refine ⟨rfl, ?_⟩; dsimp only; omega) | (refine ⟨rfl, ?_⟩; dsimp only; simp; omega) | refine ⟨?_, ?_⟩ | refine ⟨?_, ?_, ?_⟩)), ⟨rfl, rfl, fun k _ => ?_⟩, ⟨rfl, rfl, fun k _ => ?_⟩, trivial⟩⟩⟩
                · rw [ho]; exact .refl _
                · have hnd : voltF l ⟨u, s.lv.set m (lvOf l m s)⟩ m + (l.getD m sup0).drop = needOf l m s := by rw [hvolt]; rfl
                  have hva : vols (dOne l u m s).a = (vols s.a).set (l.getD m sup0).par.toNat (if needOf l m s > (vols s.a).getD (l.getD m sup0).par.toNat 0 then needOf l m s else (vols s.a).getD (l.getD m sup0).par.toNat 0) := by
                    rw [ho, h6]
                    simp only [Bool.true_and]
                    rw [vols_get]
                    by_cases hb : (s.a.getD (l.getD m sup0).par.toNat dem0).volt < needOf l m s
                    · rw [decide_eq_true hb, cond_true, vols_set, if_pos hb]
                    · rw [decide_eq_false hb, cond_false, if_neg hb, set_same _ _ _ (vols_get _ _).symm]
                  show Le _ (rowG iV 0 (vols (dOne l u m s).a) k)
                  rw [hva, ← hnd]
                  exact le_set (l := vols s.a) (i := (l.getD m sup0).par.toNat) (by rw [vols_len]; omega) rfl (.refl _) k
              · have h6 : decide (0 ≤ (l.getD m sup0).par) = false := h6
                (conv => whnf)
                (refine ⟨by intros; first | omega | (unfold InI64; omega) | (unfold big; omega) | contradiction | (dsimp only at *; omega) | (dsimp only at *; unfold InI64; omega) | (dsimp only at *; unfold big; omega) | (simp only [Int.toNat_natCast]; omega) | (simp only [List.length_append, List.length_cons, List.length_nil, List.length_set]; omega), ?_⟩; conv => whnf)
                refine ⟨(m, dOne l u m s), [(0, some 0), (1, some 1), (2, some 2), (3, some 3)], ⟨by show m ≤ _; omega, hdo, hlo2, g4⟩, by show m < m + 1; omega, ⟨rfl, by (repeat' (first | exact trivial | exact rfl | exact ⟨rfl, rfl⟩ | exact ⟨rfl, trivial⟩ | exact ⟨rfl, LeL.refl _, trivial⟩ | exact ⟨rfl, LeL.refl _, LeL.refl _, trivial⟩ | exact embV_le (.refl _) rfl | exact embV_leV (.refl _) rfl (Nat.lt_of_sub_pos (by exact Nat.zero_lt_succ _)) | exact ⟨rfl, rfl, rfl, rfl⟩ | exact ⟨rfl, rfl, rfl, rfl, id⟩ | exact ⟨rfl, rfl, rfl, rfl, rfl⟩ | exact ⟨rfl, rfl, rfl, rfl, nofun⟩ | exact tape_emb rfl | exact embO_le (LeL.refl _) rfl (Nat.lt_of_sub_pos (by exact Nat.zero_lt_succ _)) | exact ⟨rfl, rfl, fun _ _ => .refl _⟩ | exact embV_le (le_len (by simp)) rfl | exact ⟨rfl, rfl, rfl, by simp, nofun⟩ | exact ⟨rfl, by simp, le_app rfl (.refl _)⟩ | (refine ⟨rfl, ?_⟩; dsimp only; simp; done) | (refine ⟨rfl, ?_⟩; dsimp only; omega) | (refine ⟨rfl, ?_⟩; dsimp only; simp; omega) | refine ⟨?_, ?_⟩ | refine ⟨?_, ?_, ?_⟩)), ⟨by (repeat' (first | exact trivial | exact rfl | exact ⟨rfl, rfl⟩ | exact ⟨rfl, trivial⟩ | exact ⟨rfl, LeL.refl _, trivial⟩ | exact ⟨rfl, LeL.refl _, LeL.refl _, trivial⟩ | exact embV_le (.refl _) rfl | exact embV_leV (.refl _) rfl (Nat.lt_of_sub_pos (by exact Nat.zero_lt_succ _)) | exact ⟨rfl, rfl, rfl, rfl⟩ | exact ⟨rfl, rfl, rfl, rfl, id⟩ | exact ⟨rfl, rfl, rfl, rfl, rfl⟩ | exact ⟨rfl, rfl, rfl, rfl, nofun⟩ | exact tape_emb rfl | exact embO_le (LeL.refl _) rfl (Nat.lt_of_sub_pos (by exact Nat.zero_lt_succ _)) | exact ⟨rfl, rfl, fun _ _ => .refl _⟩ | exact embV_le (le_len (by simp)) rfl | exact ⟨rfl, rfl, rfl, by simp, nofun⟩ | exact ⟨rfl, by simp, le_app rfl (.refl _)⟩ | (refine ⟨rfl, ?_⟩; dsimp only; simp; done) | (refine ⟨rfl, ?_⟩; dsimp only; omega) | (refine ⟨rfl, ?_⟩; dsimp only; simp; omega) | refine ⟨?_, ?_⟩ | refine ⟨?_, ?_, ?_⟩)), by (repeat' (first | exact trivial | exact rfl | exact ⟨rfl, rfl⟩ | exact ⟨rfl, trivial⟩ | exact ⟨rfl, LeL.refl _, trivial⟩ | exact ⟨rfl, LeL.refl _, LeL.refl _, trivial⟩ | exact embV_le (.refl _) rfl | exact embV_leV (.refl _) rfl (Nat.lt_of_sub_pos (by exact Nat.zero_lt_succ _)) | exact ⟨rfl, rfl, rfl, rfl⟩ | exact ⟨rfl, rfl, rfl, rfl, id⟩ | exact ⟨rfl, rfl, rfl, rfl, rfl⟩ | exact ⟨rfl, rfl, rfl, rfl, nofun⟩ | exact tape_emb rfl | exact embO_le (LeL.refl _) rfl (Nat.lt_of_sub_pos (by exact Nat.zero_lt_succ _)) | exact ⟨rfl, rfl, fun _ _ => .refl _⟩ | exact embV_le (le_len (by simp)) rfl | exact ⟨rfl, rfl, rfl, by simp, nofun⟩ | exact ⟨rfl, by simp, le_app rfl (.refl _)⟩ | (refine ⟨rfl, ?_⟩; dsimp only; simp; done) | (refine ⟨rfl, ?_⟩; dsimp only; omega) | (refine ⟨rfl, ?_⟩; dsimp only; simp; omega) | refine ⟨?_, ?_⟩ | refine ⟨?_, ?_, ?_⟩)), ⟨rfl, rfl, fun k _ => ?_⟩, ⟨rfl, rfl, fun k _ => ?_⟩, trivial⟩⟩⟩
                · rw [ho]; exact .refl _
                · rw [ho, h6]; exact .refl _


theorem explained_spec (l : List Sup) (hl : l.length ≤ 1000000) (d : List Drw) (hd : d.length ≤ 1000000) : S 36 [supsV l, drwsV d] [] (iV (explainedF l d)) [] := by
  refine spec_of_x (ct := []) cfgOK Try.func36 rfl rfl (Nat.le_of_ble_eq_true rfl) (by decide +kernel) (Nat.le_refl _) ?_; conv => whnf
  refine ⟨_, _, rleast_spec l hl d hd, ?_⟩; conv => whnf
  unfold explainedF
  refine bcase_of (fun h => ?_) (fun h => ?_)
  · have h : ((leastF l d).2 == 0) = true := h
    (conv => whnf)
    rw [h]
    exact ⟨⟨rfl, rfl⟩, trivial⟩
  · have h : ((leastF l d).2 == 0) = false := h
    (conv => whnf)
    rw [h]
    refine bcase_of (fun h2 => ?_) (fun h2 => ?_)
    · have h2 : ((leastF l d).2 == 9) = true := h2
      (conv => whnf)
      rw [h2]
      exact ⟨⟨rfl, rfl⟩, trivial⟩
    · have h2 : ((leastF l d).2 == 9) = false := h2
      (conv => whnf)
      rw [h2]
      exact ⟨⟨rfl, rfl⟩, trivial⟩


end Go.Proofs.Ytjmhlbogkeohpaa
