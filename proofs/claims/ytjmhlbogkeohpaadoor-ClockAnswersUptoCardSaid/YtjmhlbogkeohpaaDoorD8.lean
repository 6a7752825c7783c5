/- Contracts of the program's functions, shown by walks of that machine, and the plain laws. -/
import Derived.Test.YtjmhlbogkeohpaaDoorD7
namespace Go.Proofs.YtjmhlbogkeohpaaDoor
open Go.Ab
set_option maxRecDepth 100000
set_option maxHeartbeats 4000000

theorem chOK_set {l : List Clk} {k : Nat} {c : Clk} (hl : ∀ i : Nat, i < l.length → (l.getD i clk0).ch.length ≤ 8) (hc : c.ch.length ≤ 9) : ChOK (l.set k c) := by
  intro i hi
  rw [List.length_set] at hi
  rw [List.getD_eq_getElem?_getD, List.getElem?_set]
  split
  · rename_i h
    subst h
    rw [if_pos hi]
    show c.ch.length ≤ 1000000
    omega
  · rw [← List.getD_eq_getElem?_getD]
    have := hl i hi
    omega

theorem bent_all (t : Tp) (ht : t.ok) (l : List Clk) (h1 : 1 ≤ l.length) (h2 : l.length ≤ 11) (hf : Fine l) : ∃ e : List Clk × Tp, e.2.ok ∧ e.1.length ≤ 17 ∧ ChOK e.1 ∧ S 22 [.ptr 0 0 0, clksV l] [tapeO t] (clksV e.1) [tapeO e.2] := by
  have hb := Tp.n_lt t l.length
  have hk : (t.n l.length).1 = ((t.n l.length).1.toNat : Nat) := by omega
  have hkl : (t.n l.length).1.toNat < l.length := by omega
  have ok2 := Tp.n_ok (Tp.n_ok ht l.length) 7
  have hch : ∀ i : Nat, i < l.length → (l.getD i clk0).ch.length ≤ 8 := fun i hi => (hf.big i hi).2
  refine ⟨_, ?_, ?_, ?_, bent_spec t ht l h1 h2 hf _ hk _ rfl⟩
  · generalize ((t.n l.length).2.n 7).1 = w
    generalize ((t.n l.length).2.n 7).2 = t2 at ok2
    unfold bentG
    cases w == 0 with
    | true => exact Tp.range_ok ok2 0 6
    | false =>
      cases w == 1 with
      | true => exact Tp.range_ok ok2 (-1) l.length
      | false =>
        cases w == 2 with
        | true => exact Tp.pick_ok ok2 [0, 1, 64, 65, 2]
        | false =>
          cases w == 3 with
          | true => exact Tp.pick_ok ok2 [-1, 0, (l.getD (t.n l.length).1.toNat clk0).high + 1]
          | false =>
            cases w == 4 with
            | true => exact Tp.pick_ok ok2 [-1, 0, 4000000000, 4000000001]
            | false =>
              cases w == 5 with
              | true => exact ok2
              | false => exact ok2
  · generalize ((t.n l.length).2.n 7).1 = w
    generalize ((t.n l.length).2.n 7).2 = t2
    unfold bentG
    cases w == 0 <;> cases w == 1 <;> cases w == 2 <;> cases w == 3 <;> cases w == 4 <;> cases w == 5 <;> simp <;> omega
  · generalize ((t.n l.length).2.n 7).1 = w
    generalize ((t.n l.length).2.n 7).2 = t2
    have hc := hch _ hkl
    generalize l.getD (t.n l.length).1.toNat clk0 = c at hc
    have h9 : c.ch.length ≤ 9 := by omega
    unfold bentG
    cases w == 0 with
    | true => exact chOK_set hch h9
    | false =>
      cases w == 1 with
      | true => exact chOK_set hch h9
      | false =>
        cases w == 2 with
        | true => exact chOK_set hch (by simp; omega)
        | false =>
          cases w == 3 with
          | true => exact chOK_set hch h9
          | false =>
            cases w == 4 with
            | true => exact chOK_set hch h9
            | false =>
              cases w == 5 with
              | true => exact chOK_set hch (by simp)
              | false =>
                intro i hi
                show ((moreC l).getD i clk0).ch.length ≤ 1000000
                have hi : i < (moreC l).length := hi
                rw [moreC_len] at hi
                by_cases hil : i < l.length
                · rw [moreC_l l hil]; have := hch i hil; omega
                · rw [moreC_r l (by omega) (by omega)]; decide

theorem le_setI {a : List Int} {j : Nat} {v : Int} (hj : j < a.length) : ∀ i, i < 0 + a.length → Le (setG (rowG iV 0 a) j (iV v) i) (rowG iV 0 (a.set j v) i) := by
  intro i hi
  unfold rowG
  by_cases hij : i = j
  · subst hij
    rw [setG_self, List.getD_eq_getElem?_getD, List.getElem?_set_self hj]
    exact .refl _
  · rw [setG_ne _ _ hij, List.getD_eq_getElem?_getD (l := a.set j v), List.getElem?_set_ne (fun e => hij e.symm), ← List.getD_eq_getElem?_getD]
    exact .refl _

theorem ar3 {p : Nat → Prop} (a : p 0) (b : p 1) (c : p 2) : ∀ k, k < 3 → p k
  | 0, _ => a
  | 1, _ => b
  | 2, _ => c
  | k + 3, h => absurd h (by omega)
theorem ar2 {p : Nat → Prop} (a : p 0) (b : p 1) : ∀ k, k < 2 → p k
  | 0, _ => a
  | 1, _ => b
  | k + 2, h => absurd h (by omega)
def okX (x : List Clk) : Prop := x.length ≤ 1000000 ∧ ChOK x
theorem okX_get {X : List (List Clk)} (h : ∀ x ∈ X, okX x) {i : Nat} (hi : i < X.length) : okX (X.getD i []) := by
  rw [List.getD_eq_getElem?_getD, List.getElem?_eq_getElem hi]
  exact h _ (List.getElem_mem hi)
theorem ne_self {α : Type} [BEq α] [LawfulBEq α] {x : α} : ¬ (x != x) = true := by simp

theorem ratesE_len {l : List Clk} {s : List Int} (h : l.length ≤ 1000000) : (ratesE l s).1.length ≤ 1000000 := by
  unfold ratesE
  cases checkF l != 0 with
  | true => simp
  | false =>
    cases !settB l s with
    | true => simp
    | false =>
      show (ratesN l s l.length).length ≤ 1000000
      rw [ratesN_len]
      exact h

theorem wayE_len {l : List Clk} {s : List Int} {k : Int} (h : l.length ≤ 1000000) : (wayE l s k).length ≤ 1000000 := by
  unfold wayE
  cases hb : ((checkF l == 0) && settB l s) && withinF k 0 ((l.length : Int) - 1) with
  | false => simp
  | true =>
    rw [Bool.and_eq_true] at hb
    have h2 := hb.2
    unfold withinF at h2
    simp at h2
    have := wayF_len l s (k.toNat + 1) k
    show (wayF l s (k.toNat + 1) k).length ≤ 1000000
    omega

/-! The law -/
theorem law_spec (t : List Int) (ht : I64 t) (raw : List Clk) (hraw : raw.length ≤ 1000000000) (hrb : ∀ i : Nat, i < raw.length → (raw.getD i clk0).par.length ≤ 1000000000 ∧ (raw.getD i clk0).ch.length ≤ 1000000000) (s : List Int) (m : List Lim) (k : Int) :
    S 5 [intsV t, clksV raw, intsV s, limsV m, iV k] [] (.bool true) [] := by
  obtain ⟨b0, hb0, s0⟩ := small_spec raw hraw hrb
  refine spec_of_x (ct := [9]) cfgOK Tryd.func5 rfl rfl (Nat.le_of_ble_eq_true rfl) (by decide +kernel) (Nat.le_refl _) ?_
  conv => whnf
  refine ⟨_, _, s0, ?_⟩
  conv => whnf
  refine bcase_of (fun h => ?_) (fun h => ?_)
  · conv => whnf
    refine ⟨_, _, awake_spec, ?_⟩
    conv => whnf
    exact ⟨rfl, trivial⟩
  · have h : ((!b0 || decide (40 < (s.length : Int))) || decide (60 < (m.length : Int))) = false := h
    rw [Bool.or_eq_false_iff, Bool.or_eq_false_iff] at h
    have hb0 := hb0 (by simpa using h.1.1)
    have hs40 := of_decide_eq_false h.1.2
    have hm60 := of_decide_eq_false h.2
    conv => whnf
    refine ⟨_, _, new_spec t, ?_⟩
    conv => whnf
    have ok0 := new_ok ht
    have s1 := clocks_spec ⟨t.take 500, 0⟩ ok0 10 4096 (by decide) (by decide)
    obtain ⟨m1, ok1, len1⟩ := cloF_made ⟨t.take 500, 0⟩ ok0 10 4096 (by decide)
    generalize cloF ⟨t.take 500, 0⟩ 10 4096 = c at s1 m1 ok1 len1
    obtain ⟨l, t1⟩ := c
    have m1 : Made l := m1
    have ok1 : t1.ok := ok1
    have len1 : l.length ≤ 11 := len1
    have hf := fine_of m1.ok
    have hpos := m1.pos
    refine ⟨_, _, s1, ?_⟩
    conv => whnf
    have s2 := setg_spec t1 ok1 l (by omega) (chOK_fine hf)
    have hsl : (setF l t1).1.length = l.length := setN_len l t1 l.length
    have ok2 : (setF l t1).2.ok := setN_ok l ok1 l.length
    generalize setF l t1 = c at s2 hsl ok2
    obtain ⟨a, t2⟩ := c
    have hsl : a.length = l.length := hsl
    have ok2 : t2.ok := ok2
    refine ⟨_, _, s2, ?_⟩
    conv => whnf
    refine ⟨by show (0 + a.length) * 8 ≤ 140737488355328; omega, ?_⟩
    conv => whnf
    have hn3 := Tp.n_lt t2 ((0 + a.length : Nat) : Int)
    have ok3 := Tp.n_ok ok2 ((0 + a.length : Nat) : Int)
    refine ⟨_, _, n_spec t2 ok2 ((0 + a.length : Nat) : Int) (by unfold InI64; omega), ?_⟩
    conv => whnf
    generalize t2.n ((0 + a.length : Nat) : Int) = e3 at hn3 ok3
    obtain ⟨k3, t3⟩ := e3
    have hn3 : 0 ≤ k3 ∧ (0 < ((0 + a.length : Nat) : Int) → k3 < ((0 + a.length : Nat) : Int)) ∧ _ := hn3
    have ok3 : t3.ok := ok3
    have ok4 := Tp.range_ok ok3 (-1) 8
    refine ⟨_, _, range_spec t3 ok3 (-1) 8 (by decide), ?_⟩
    conv => whnf
    generalize t3.range (-1) 8 = e4 at ok4
    obtain ⟨v4, t4⟩ := e4
    have ok4 : t4.ok := ok4
    refine ⟨by show 0 ≤ k3 ∧ k3 < ((0 + a.length : Nat) : Int); omega, ?_⟩
    conv => whnf
    have hk3 : k3.toNat < a.length := by omega
    have s5 := limits_gen_spec t4 ok4 l hf hpos 4 (by decide)
    obtain ⟨_, lm2, ok5⟩ := lmsF_get hpos ok4 4 (by decide)
    generalize lmsF l t4 4 = c at s5 lm2 ok5
    obtain ⟨n, t5⟩ := c
    have lm2 : (n.length : Int) ≤ 4 := lm2
    have ok5 : t5.ok := ok5
    refine cut_freeze (ct := []) (ct' := []) cfgOK (by decide +kernel) (by decide +kernel) (fun _ : Unit => ⟨[(1, clksV raw), (2, intsV s), (3, limsV m), (4, iV k), (11, .ptr 0 0 0), (12, clksV l), (13, intsV a), (14, intsV (a.set k3.toNat v4)), (15, limsV n)], [(0, some (tapeO t5))], 1⟩) (fun _ => True) ?_ ?_
    · conv => whnf
      refine ⟨_, _, s5, ?_⟩
      conv => whnf
      exact ⟨(), [(0, some 15)], 26, trivial, ⟨rfl, ⟨embV_le (.refl _) rfl, embV_le (.refl _) rfl, embV_le (.refl _) rfl, ⟨rfl, rfl⟩, ⟨rfl, rfl, rfl, rfl⟩, embV_le (.refl _) rfl, embV_le (.refl _) rfl,
        ⟨by simp, fun _ => rfl, nofun, le_setI hk3⟩, embV_le (.refl _) rfl, trivial⟩, ⟨tape_emb rfl, trivial⟩⟩⟩
    · intro _ _
      obtain ⟨e, okb, hbl, hbc, sb⟩ := bent_all t5 ok5 l hpos len1 hf
      obtain ⟨b, t6⟩ := e
      have okb : t6.ok := okb
      have hbl : b.length ≤ 17 := hbl
      have hbc : ChOK b := hbc
      conv => whnf
      refine ⟨_, _, sb, ?_⟩
      conv => whnf
      have hX : ∀ x ∈ [raw, l, b], okX x := by
        intro x hx
        simp only [List.mem_cons, List.not_mem_nil, or_false] at hx
        rcases hx with rfl | rfl | rfl
        · exact ⟨by have := hb0.len; omega, fun i hi => by have := (hb0.par i hi).2; omega⟩
        · exact ⟨by omega, chOK_fine hf⟩
        · exact ⟨by omega, hbc⟩
      generalize hod : a.set k3.toNat v4 = od
      refine loops_intro (ct := []) cfgOK (by decide +kernel) (fun g : Nat × Tp => ⟨[(2, intsV s), (3, limsV m), (4, iV k), (11, .ptr 0 0 0), (13, intsV a), (14, intsV od), (15, limsV n), (68, .osl 1 0 3 true), (69, iV 3), (70, iV g.1)], [(0, some (tapeO g.2)), (1, some (.row 1 3 (rowG clksV [] [raw, l, b])))], 2⟩)
        (fun g => g.1 ≤ 3 ∧ g.2.ok) (fun g => 3 - g.1) (0, t6) [(1, some 6)] ⟨Nat.zero_le _, okb⟩
        ⟨rfl, ⟨embV_le (.refl _) rfl, embV_le (.refl _) rfl, ⟨rfl, rfl⟩, ⟨rfl, rfl, rfl, rfl⟩, embV_le (.refl _) rfl, embV_le (.refl _) rfl, embV_le (.refl _) rfl, ⟨rfl, rfl, rfl, rfl, fun h => h⟩, ⟨rfl, rfl⟩, ⟨rfl, rfl⟩, trivial⟩,
          ⟨tape_emb rfl, ⟨rfl, rfl, ar3 (.refl _) (.refl _) (.refl _)⟩, trivial⟩⟩ ?_
      have hXl : [raw, l, b].length = 3 := rfl
      generalize [raw, l, b] = X at hX hXl
      clear s1 s2 s5 sb
      intro g hg
      obtain ⟨i, tp⟩ := g
      obtain ⟨hi, hp⟩ : i ≤ 3 ∧ tp.ok := hg
      conv => whnf
      refine bcase_of (fun h3 => ?_) (fun h3 => ?_)
      · have hlt : i < 3 := by have := of_decide_eq_true h3; omega
        conv => whnf
        refine ⟨by omega, ?_⟩
        have hx := okX_get hX (show i < X.length by omega)
        conv => whnf
        refine ⟨_, _, check_spec (X.getD i []) hx.1, ?_⟩
        conv => whnf
        refine ⟨_, _, rcheck_spec (X.getD i []) hx.1, ?_⟩
        conv => whnf
        refine bcase_of (fun h4 => absurd h4 ne_self) (fun _ => ?_)
        conv => whnf
        refine loops_intro (ct := []) cfgOK (by decide +kernel) (fun g : Nat × Tp => ⟨[(2, intsV s), (3, limsV m), (4, iV k), (11, .ptr 0 0 0), (13, intsV a), (14, intsV od), (15, limsV n), (68, .osl 1 0 3 true), (69, iV 3), (70, iV i), (17, clksV (X.getD i [])), (82, .osl 2 0 3 true), (83, iV 3), (84, iV g.1)], [(0, some (tapeO g.2)), (1, some (.row 1 3 (rowG clksV [] X))), (2, some (.row 1 3 (rowG intsV [] [s, a, od])))], 3⟩)
          (fun g => g.1 ≤ 3 ∧ g.2.ok) (fun g => 3 - g.1) (0, tp) [(2, some 14)] ⟨Nat.zero_le _, hp⟩
          ⟨rfl, ⟨embV_le (.refl _) rfl, embV_le (.refl _) rfl, ⟨rfl, rfl⟩, ⟨rfl, rfl, rfl, rfl⟩, embV_le (.refl _) rfl, embV_le (.refl _) rfl, embV_le (.refl _) rfl, ⟨rfl, rfl, rfl, rfl, fun h => h⟩, ⟨rfl, rfl⟩, ⟨rfl, rfl⟩, embV_le (.refl _) rfl, ⟨rfl, rfl, rfl, rfl, fun h => h⟩, ⟨rfl, rfl⟩, ⟨rfl, rfl⟩, trivial⟩,
            ⟨tape_emb rfl, ⟨rfl, rfl, fun _ _ => .refl _⟩, ⟨rfl, rfl, ar3 (.refl _) (.refl _) (.refl _)⟩, trivial⟩⟩ ?_
        intro g hg
        obtain ⟨j, tq⟩ := g
        obtain ⟨hj, hq⟩ : j ≤ 3 ∧ tq.ok := hg
        conv => whnf
        refine bcase_of (fun h5 => ?_) (fun h5 => ?_)
        · have hlt5 : j < 3 := by have := of_decide_eq_true h5; omega
          conv => whnf
          refine ⟨by omega, ?_⟩
          conv => whnf
          refine ⟨_, _, rates_all_spec (X.getD i []) ([s, a, od].getD j []) hx.1, ?_⟩
          conv => whnf
          refine ⟨_, _, rrates_spec (X.getD i []) ([s, a, od].getD j []) hx.1 hx.2, ?_⟩
          conv => whnf
          refine ⟨_, _, setting_all_spec (X.getD i []) ([s, a, od].getD j []) hx.1 hx.2, ?_⟩
          conv => whnf
          refine ⟨_, _, rsetting_spec (X.getD i []) ([s, a, od].getD j []) hx.1 hx.2, ?_⟩
          conv => whnf
          refine ⟨_, _, fun _ => same_spec (ratesE (X.getD i []) ([s, a, od].getD j [])).1 (ratesE (X.getD i []) ([s, a, od].getD j [])).1 (ratesE_len hx.1), ?_⟩
          conv => whnf
          refine bcase_of (fun h6 => absurd h6 (by simp)) (fun _ => ?_)
          conv => whnf
          refine loops_intro (ct := []) cfgOK (by decide +kernel) (fun z : Nat => ⟨[(2, intsV s), (3, limsV m), (4, iV k), (11, .ptr 0 0 0), (13, intsV a), (14, intsV od), (15, limsV n), (68, .osl 1 0 3 true), (69, iV 3), (70, iV i), (17, clksV (X.getD i [])), (82, .osl 2 0 3 true), (83, iV 3), (84, iV j), (19, intsV ([s, a, od].getD j [])), (120, .osl 3 0 2 true), (121, iV 2), (122, iV z)], [(0, some (tapeO tq)), (1, some (.row 1 3 (rowG clksV [] X))), (2, some (.row 1 3 (rowG intsV [] [s, a, od]))), (3, some (.row 1 2 (rowG limsV [] [m, n])))], 4⟩)
            (fun z => z ≤ 2) (fun z => 2 - z) 0 [(3, some 43)] (Nat.zero_le _)
            ⟨rfl, ⟨embV_le (.refl _) rfl, embV_le (.refl _) rfl, ⟨rfl, rfl⟩, ⟨rfl, rfl, rfl, rfl⟩, embV_le (.refl _) rfl, embV_le (.refl _) rfl, embV_le (.refl _) rfl, ⟨rfl, rfl, rfl, rfl, fun h => h⟩, ⟨rfl, rfl⟩, ⟨rfl, rfl⟩, embV_le (.refl _) rfl, ⟨rfl, rfl, rfl, rfl, fun h => h⟩, ⟨rfl, rfl⟩, ⟨rfl, rfl⟩, embV_le (.refl _) rfl, ⟨rfl, rfl, rfl, rfl, fun h => h⟩, ⟨rfl, rfl⟩, ⟨rfl, rfl⟩, trivial⟩,
              ⟨tape_emb rfl, ⟨rfl, rfl, fun _ _ => .refl _⟩, ⟨rfl, rfl, fun _ _ => .refl _⟩, ⟨rfl, rfl, ar2 (.refl _) (.refl _)⟩, trivial⟩⟩ ?_
          intro z hz
          conv => whnf
          refine bcase_of (fun h7 => ?_) (fun h7 => ?_)
          · have hlt7 : z < 2 := by have := of_decide_eq_true h7; omega
            have hml : ([m, n].getD z []).length ≤ 1000000 := ar2 (p := fun z => ([m, n].getD z []).length ≤ 1000000) (by show m.length ≤ 1000000; omega) (by show n.length ≤ 1000000; omega) z hlt7
            conv => whnf
            refine ⟨by omega, ?_⟩
            conv => whnf
            refine ⟨_, _, limits_spec (X.getD i []) ([m, n].getD z []) hx.1 hml, ?_⟩
            conv => whnf
            refine ⟨_, _, rlimits_spec (X.getD i []) ([m, n].getD z []) hx.1, ?_⟩
            conv => whnf
            refine ⟨_, _, fun _ => meets_spec (X.getD i []) ([s, a, od].getD j []) ([m, n].getD z []) hx.1 hml hx.2, ?_⟩
            conv => whnf
            refine ⟨_, _, fun _ => rmeets_spec (X.getD i []) ([s, a, od].getD j []) ([m, n].getD z []) hx.1 hx.2, ?_⟩
            conv => whnf
            refine bcase_of (fun h8 => absurd h8 (by simp)) (fun _ => ?_)
            conv => whnf
            refine ⟨by unfold InI64; omega, ?_⟩
            conv => whnf
            exact ⟨z + 1, [], hlt7, by show 2 - (z + 1) < 2 - z; omega, ⟨rfl, ⟨embV_le (.refl _) rfl, embV_le (.refl _) rfl, ⟨rfl, rfl⟩, ⟨rfl, rfl, rfl, rfl⟩, embV_le (.refl _) rfl, embV_le (.refl _) rfl, embV_le (.refl _) rfl, ⟨rfl, rfl, rfl, rfl, fun h => h⟩, ⟨rfl, rfl⟩, ⟨rfl, rfl⟩, embV_le (.refl _) rfl, ⟨rfl, rfl, rfl, rfl, fun h => h⟩, ⟨rfl, rfl⟩, ⟨rfl, rfl⟩, embV_le (.refl _) rfl, ⟨rfl, rfl, rfl, rfl, fun h => h⟩, ⟨rfl, rfl⟩, ⟨rfl, by simp⟩, trivial⟩, ⟨tape_emb rfl, ⟨rfl, rfl, fun _ _ => .refl _⟩, ⟨rfl, rfl, fun _ _ => .refl _⟩, ⟨rfl, rfl, fun _ _ => .refl _⟩, trivial⟩⟩⟩
          · have okr := Tp.range_ok hq (-1) 10
            conv => whnf
            refine ⟨_, _, range_spec tq hq (-1) 10 (by decide), ?_⟩
            conv => whnf
            generalize tq.range (-1) 10 = er at okr
            obtain ⟨kr, tr⟩ := er
            have okr : tr.ok := okr
            refine loops_intro (ct := []) cfgOK (by decide +kernel) (fun z : Nat => ⟨[(2, intsV s), (3, limsV m), (4, iV k), (11, .ptr 0 0 0), (13, intsV a), (14, intsV od), (15, limsV n), (68, .osl 1 0 3 true), (69, iV 3), (70, iV i), (17, clksV (X.getD i [])), (82, .osl 2 0 3 true), (83, iV 3), (84, iV j), (19, intsV ([s, a, od].getD j [])), (148, .osl 3 0 2 true), (149, iV 2), (150, iV z)], [(0, some (tapeO tr)), (1, some (.row 1 3 (rowG clksV [] X))), (2, some (.row 1 3 (rowG intsV [] [s, a, od]))), (3, some (.row 1 2 (rowG iV 0 [k, kr])))], 4⟩)
              (fun z => z ≤ 2) (fun z => 2 - z) 0 [(3, some 8)] (Nat.zero_le _)
              ⟨rfl, ⟨embV_le (.refl _) rfl, embV_le (.refl _) rfl, ⟨rfl, rfl⟩, ⟨rfl, rfl, rfl, rfl⟩, embV_le (.refl _) rfl, embV_le (.refl _) rfl, embV_le (.refl _) rfl, ⟨rfl, rfl, rfl, rfl, fun h => h⟩, ⟨rfl, rfl⟩, ⟨rfl, rfl⟩, embV_le (.refl _) rfl, ⟨rfl, rfl, rfl, rfl, fun h => h⟩, ⟨rfl, rfl⟩, ⟨rfl, rfl⟩, embV_le (.refl _) rfl, ⟨rfl, rfl, rfl, rfl, fun h => h⟩, ⟨rfl, rfl⟩, ⟨rfl, rfl⟩, trivial⟩,
                ⟨tape_emb rfl, ⟨rfl, rfl, fun _ _ => .refl _⟩, ⟨rfl, rfl, fun _ _ => .refl _⟩, ⟨rfl, rfl, ar2 (.refl _) (.refl _)⟩, trivial⟩⟩ ?_
            intro z hz
            conv => whnf
            refine bcase_of (fun h7 => ?_) (fun h7 => ?_)
            · have hlt7 : z < 2 := by have := of_decide_eq_true h7; omega
              conv => whnf
              refine ⟨by omega, ?_⟩
              conv => whnf
              refine ⟨_, _, way_spec (X.getD i []) ([s, a, od].getD j []) ([k, kr].getD z 0) hx.1 hx.2, ?_⟩
              conv => whnf
              refine ⟨_, _, rway_spec (X.getD i []) ([s, a, od].getD j []) ([k, kr].getD z 0) hx.1 hx.2, ?_⟩
              conv => whnf
              refine ⟨_, _, ints_spec (wayE (X.getD i []) ([s, a, od].getD j []) ([k, kr].getD z 0)) (wayE (X.getD i []) ([s, a, od].getD j []) ([k, kr].getD z 0)) (wayE_len hx.1), ?_⟩
              conv => whnf
              refine bcase_of (fun h8 => absurd h8 (by simp)) (fun _ => ?_)
              conv => whnf
              refine ⟨by unfold InI64; omega, ?_⟩
              conv => whnf
              exact ⟨z + 1, [], hlt7, by show 2 - (z + 1) < 2 - z; omega, ⟨rfl, ⟨embV_le (.refl _) rfl, embV_le (.refl _) rfl, ⟨rfl, rfl⟩, ⟨rfl, rfl, rfl, rfl⟩, embV_le (.refl _) rfl, embV_le (.refl _) rfl, embV_le (.refl _) rfl, ⟨rfl, rfl, rfl, rfl, fun h => h⟩, ⟨rfl, rfl⟩, ⟨rfl, rfl⟩, embV_le (.refl _) rfl, ⟨rfl, rfl, rfl, rfl, fun h => h⟩, ⟨rfl, rfl⟩, ⟨rfl, rfl⟩, embV_le (.refl _) rfl, ⟨rfl, rfl, rfl, rfl, fun h => h⟩, ⟨rfl, rfl⟩, ⟨rfl, by simp⟩, trivial⟩, ⟨tape_emb rfl, ⟨rfl, rfl, fun _ _ => .refl _⟩, ⟨rfl, rfl, fun _ _ => .refl _⟩, ⟨rfl, rfl, fun _ _ => .refl _⟩, trivial⟩⟩⟩
            · conv => whnf
              refine ⟨by unfold InI64; omega, ?_⟩
              conv => whnf
              exact ⟨(j + 1, tr), [], ⟨hlt5, okr⟩, by show 3 - (j + 1) < 3 - j; omega, ⟨rfl, ⟨embV_le (.refl _) rfl, embV_le (.refl _) rfl, ⟨rfl, rfl⟩, ⟨rfl, rfl, rfl, rfl⟩, embV_le (.refl _) rfl, embV_le (.refl _) rfl, embV_le (.refl _) rfl, ⟨rfl, rfl, rfl, rfl, fun h => h⟩, ⟨rfl, rfl⟩, ⟨rfl, rfl⟩, embV_le (.refl _) rfl, ⟨rfl, rfl, rfl, rfl, fun h => h⟩, ⟨rfl, rfl⟩, ⟨rfl, by simp⟩, trivial⟩, ⟨tape_emb rfl, ⟨rfl, rfl, fun _ _ => .refl _⟩, ⟨rfl, rfl, fun _ _ => .refl _⟩, trivial⟩⟩⟩
        · conv => whnf
          refine ⟨by unfold InI64; omega, ?_⟩
          conv => whnf
          exact ⟨(i + 1, tq), [], ⟨hlt, hq⟩, by show 3 - (i + 1) < 3 - i; omega,
            ⟨rfl, ⟨embV_le (.refl _) rfl, embV_le (.refl _) rfl, ⟨rfl, rfl⟩, ⟨rfl, rfl, rfl, rfl⟩, embV_le (.refl _) rfl, embV_le (.refl _) rfl, embV_le (.refl _) rfl, ⟨rfl, rfl, rfl, rfl, fun h => h⟩, ⟨rfl, rfl⟩, ⟨rfl, by simp⟩, trivial⟩,
              ⟨tape_emb rfl, ⟨rfl, rfl, fun _ _ => .refl _⟩, trivial⟩⟩⟩
      · conv => whnf
        refine ⟨_, _, awake_spec, ?_⟩
        conv => whnf
        exact ⟨rfl, trivial⟩

end Go.Proofs.YtjmhlbogkeohpaaDoor
