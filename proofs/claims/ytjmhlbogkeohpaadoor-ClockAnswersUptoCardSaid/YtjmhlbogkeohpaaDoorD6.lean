/- Contracts of the program's functions, shown by walks of that machine, and the plain laws. -/
import Derived.Test.YtjmhlbogkeohpaaDoorD5
namespace Go.Proofs.YtjmhlbogkeohpaaDoor
open Go.Ab
set_option maxRecDepth 100000

theorem meets_one {l : List Clk} {s : List Int} (k : Int) (h : meetsF l s [⟨k, 0, 4000000000⟩] = true) : isOff ((ratesF l s).getD k.toNat rt0) = false := by
  have := (meets_get h).2.2.2 0 (by simp)
  unfold offL at this
  rw [Bool.or_eq_false_iff] at this
  exact this.1

theorem ways_law_spec (t : List Int) (ht : I64 t) : S 6 [intsV t] [] (.bool true) [] := by
  refine spec_of_x (ct := []) cfgOK Tryd.func6 rfl rfl (Nat.le_of_ble_eq_true rfl) (by decide +kernel) (Nat.le_refl _) ?_
  conv => whnf
  refine ⟨_, _, new_spec t, ?_⟩
  conv => whnf
  have ok0 := new_ok ht
  have s1 := clocks_spec ⟨t.take 500, 0⟩ ok0 12 4096 (by decide) (by decide)
  obtain ⟨m1, ok1, len1⟩ := cloF_made ⟨t.take 500, 0⟩ ok0 12 4096 (by decide)
  generalize cloF ⟨t.take 500, 0⟩ 12 4096 = c at s1 m1 ok1 len1
  obtain ⟨l, t1⟩ := c
  have m1 : Made l := m1
  have ok1 : t1.ok := ok1
  have hf := fine_of m1.ok
  have hl := hf.len
  have hpos := m1.pos
  refine ⟨_, _, s1, ?_⟩
  conv => whnf
  have s2 := setg_spec t1 ok1 l (by omega) (chOK_fine hf)
  have hs : settB l (setF l t1).1 = true := setF_sett hf t1
  generalize setF l t1 = c at s2 hs
  obtain ⟨s, t2⟩ := c
  have hs : settB l s = true := hs
  have hg := good_of hf hs
  have hsl := hg.len
  refine ⟨_, _, s2, ?_⟩
  conv => whnf
  have e1 : ratesE l s = (ratesF l s, 0) := by unfold ratesE; rw [m1.ok, hs]; rfl
  have s3 := rates_all_spec l s (by omega)
  have hRl : (ratesF l s).length = l.length := ratesN_len ..
  rw [e1] at s3
  have hway := way_ok hf hs
  have hsame := st_same hf hs
  have hone := fun k => meets_one (l := l) (s := s) k
  have hmt := fun k : Int => meets_spec l s [⟨k, 0, 4000000000⟩] (by omega) (by simp) (chOK_fine hf)
  generalize ratesF l s = R at s3 hRl hway hsame hone
  refine ⟨_, _, s3, ?_⟩
  conv => whnf
  refine bcase_of (fun h3 => ?_) (fun h3 => ?_)
  · have h3 : ((0 : Int) != 0 || ((R.length : Int) != (l.length : Int))) = true := h3
    rw [hRl] at h3
    simp at h3
  conv => whnf
  refine loops_intro (ct := []) cfgOK (by decide +kernel) (fun k : Nat => ⟨[(4, clksV l), (5, intsV s), (6, rtsV R), (40, iV l.length), (41, iV k)], [], 1⟩)
    (fun k => k ≤ l.length) (fun k => l.length - k) 0 [] (Nat.zero_le _)
    ⟨rfl, ⟨embV_le (.refl _) rfl, embV_le (.refl _) rfl, embV_le (.refl _) rfl, ⟨rfl, rfl⟩, ⟨rfl, rfl⟩, trivial⟩, trivial⟩ ?_
  intro k hk
  conv => whnf
  refine bcase_of (fun h2 => ?_) (fun h2 => ?_)
  · have hlt : k < l.length := by have := of_decide_eq_true h2; omega
    conv => whnf
    refine ⟨_, _, way_spec l s k (by omega) (chOK_fine hf), ?_⟩
    conv => whnf
    have hwe : wayE l s k = wayF l s (k + 1) k := by
      unfold wayE
      rw [m1.ok, hs, (within_iff _ _ _).2 (by omega), Int.toNat_natCast]
      rfl
    obtain ⟨w1, w2, w3, w4, w5⟩ := hway k hlt (k + 1) (Nat.le_refl _)
    have wm := way_mem hg (k + 1) k (by omega)
    have wl := wayF_len l s (k + 1) k
    rw [← hwe] at w1 w2 w3 w4 w5 wm wl
    generalize wayE l s k = w at w1 w2 w3 w4 w5 wm wl
    have hin : ∀ i, i < w.length → 0 ≤ w.getD i 0 ∧ w.getD i 0 < l.length := fun i hi => wm _ (getD_mem 0 hi)
    refine loops_intro (ct := []) cfgOK (by decide +kernel) (fun i : Nat => ⟨[(4, clksV l), (5, intsV s), (6, rtsV R), (8, iV k), (9, intsV w), (40, iV l.length), (41, iV k), (48, intsV w), (49, iV w.length), (50, iV i)], [], 1⟩)
      (fun i => i ≤ w.length) (fun i => w.length - i) 0 [] (Nat.zero_le _)
      ⟨rfl, ⟨embV_le (.refl _) rfl, embV_le (.refl _) rfl, embV_le (.refl _) rfl, ⟨rfl, rfl⟩, embV_le (.refl _) rfl, ⟨rfl, rfl⟩, ⟨rfl, rfl⟩, embV_le (.refl _) rfl, ⟨rfl, rfl⟩, ⟨rfl, rfl⟩, trivial⟩, trivial⟩ ?_
    intro i hi
    conv => whnf
    refine bcase_of (fun h4 => ?_) (fun h4 => ?_)
    · have hil : i < w.length := by have := of_decide_eq_true h4; omega
      have hii := hin i hil
      conv => whnf
      refine ⟨by omega, ?_⟩
      conv => whnf
      refine bcase_of (fun h5 => ?_) (fun h5 => ?_)
      · have h5 : (decide (w.getD i 0 < 0) || decide ((l.length : Int) ≤ w.getD i 0)) = true := h5
        rw [decide_eq_false (by omega), decide_eq_false (by omega)] at h5
        cases h5
      conv => whnf
      refine ⟨by unfold InI64; omega, ?_⟩
      conv => whnf
      exact ⟨i + 1, [], hil, by omega, ⟨rfl, ⟨embV_le (.refl _) rfl, embV_le (.refl _) rfl, embV_le (.refl _) rfl, ⟨rfl, rfl⟩, embV_le (.refl _) rfl, ⟨rfl, rfl⟩, ⟨rfl, rfl⟩, embV_le (.refl _) rfl, ⟨rfl, rfl⟩, ⟨rfl, by simp⟩, trivial⟩, trivial⟩⟩
    · have hla := hin (w.length - 1) (by omega)
      have hkl := w1.last (w.length - 1) (by omega)
      have hchl := fine_ch hf (w.getD (w.length - 1) 0).toNat (by omega)
      have hwi : ((w.length : Int) - 1).toNat = w.length - 1 := by omega
      conv => whnf
      refine ⟨fun _ => by omega, ?_⟩
      conv => whnf
      refine ⟨fun _ => by unfold InI64; omega, ?_⟩
      conv => whnf
      refine ⟨fun _ => by omega, ?_⟩
      conv => whnf
      refine ⟨fun _ => by show 0 ≤ w.getD ((w.length : Int) - 1).toNat 0 ∧ w.getD ((w.length : Int) - 1).toNat 0 < (l.length : Int); rw [hwi]; exact hla, ?_⟩
      conv => whnf
      refine bcase_of (fun h5 => ?_) (fun h5 => ?_)
      · have h5 : ((((w.length : Int) == 0) || (w.getD 0 0 != (k : Int))) || ((l.getD (w.getD ((w.length : Int) - 1).toNat 0).toNat clk0).kind != 1)) = true := h5
        rw [hwi, hkl, w3] at h5
        have : ((w.length : Int) == 0) = false := by
          rw [← Bool.not_eq_true]
          intro e
          have := eq_of_beq e
          omega
        rw [this] at h5
        simp at h5
      conv => whnf
      refine ⟨by unfold InI64; omega, ?_⟩
      conv => whnf
      refine ⟨by omega, ?_⟩
      conv => whnf
      refine ⟨by show 0 ≤ w.getD ((w.length : Int) - 1).toNat 0 ∧ w.getD ((w.length : Int) - 1).toNat 0 < (l.length : Int); rw [hwi]; exact hla, ?_⟩
      conv => whnf
      refine ⟨by show (0 : Int) ≤ 0 ∧ (0 : Int) < ((l.getD (w.getD ((w.length : Int) - 1).toNat 0).toNat clk0).ch.length : Int); rw [hwi]; omega, ?_⟩
      conv => whnf
      refine ⟨by unfold InI64; omega, ?_⟩
      conv => whnf
      have hvl := vwF_last l s w w2
      refine loops_intro (ct := []) cfgOK (by decide +kernel) (fun j : Nat => ⟨[(4, clksV l), (5, intsV s), (6, rtsV R), (8, iV k), (9, intsV w), (12, .bool (vwF l s (w.drop j)).2), (13, .ptr 0 0 0), (14, iV ((j : Int) - 1)), (40, iV l.length), (41, iV k)], [(0, some (.box [iV (vwF l s (w.drop j)).1.num, iV (vwF l s (w.drop j)).1.den]))], 1⟩)
        (fun j => j + 1 ≤ w.length) (fun j => j) (w.length - 1) [(0, some 39)] (by omega)
        ⟨rfl, ⟨embV_le (.refl _) rfl, embV_le (.refl _) rfl, embV_le (.refl _) rfl, ⟨rfl, rfl⟩, embV_le (.refl _) rfl, ?_, ⟨rfl, rfl, rfl, rfl⟩, ⟨rfl, by show (w.length : Int) - 2 = ((w.length - 1 : Nat) : Int) - 1; omega⟩, ⟨rfl, rfl⟩, ⟨rfl, rfl⟩, trivial⟩, ⟨?_, trivial⟩⟩ ?_
      · rw [hvl]; rfl
      · rw [hvl, ← hwi]; exact embO_le (LeL.refl _) rfl (Nat.lt_of_sub_pos (by exact Nat.zero_lt_succ _))
      intro j hj
      conv => whnf
      refine bcase_of (fun h6 => ?_) (fun h6 => ?_)
      · have h6 : decide ((0 : Int) ≤ (j : Int) - 1) = true := h6
        have hj1 := of_decide_eq_true h6
        obtain ⟨j, rfl⟩ : ∃ j', j = j' + 1 := ⟨j - 1, by omega⟩
        have hz : ((j + 1 : Nat) : Int) - 1 = (j : Int) := by omega
        rw [hz]
        have hji := hin j (by omega)
        obtain ⟨hc1, hc2⟩ := w1.chain j hj
        have hvs := vwF_step l s w j hj
        have hst := (sett_get hs).2 (w.getD j 0).toNat (by omega)
        have hpm := par_mem (hf.valid (w.getD j 0).toNat (by omega)) hst hc1
        have hbig := (hf.big (w.getD j 0).toNat (by omega)).1
        conv => whnf
        refine ⟨by omega, ?_⟩
        conv => whnf
        refine ⟨hji, ?_⟩
        conv => whnf
        refine ⟨by omega, ?_⟩
        conv => whnf
        refine ⟨⟨hji.1, by show w.getD j 0 < (s.length : Int); omega⟩, ?_⟩
        conv => whnf
        refine ⟨hst, ?_⟩
        conv => whnf
        refine ⟨by unfold InI64; omega, ?_⟩
        conv => whnf
        refine ⟨by omega, ?_⟩
        conv => whnf
        refine ⟨_, _, in_spec (l.getD (w.getD j 0).toNat clk0).par (w.getD (j + 1) 0) (by omega), ?_⟩
        conv => whnf
        refine bcase_of (fun h7 => ?_) (fun h7 => ?_)
        · have h7 : (!(l.getD (w.getD j 0).toNat clk0).par.contains (w.getD (j + 1) 0)) = true := h7
          rw [hc2] at h7
          have : (l.getD (w.getD j 0).toNat clk0).par.contains (parF (l.getD (w.getD j 0).toNat clk0) (s.getD (w.getD j 0).toNat 0)) = true := List.contains_iff_mem.2 hpm.mem
          rw [this] at h7
          cases h7
        conv => whnf
        refine bcase_of (fun k2 => ?_) (fun k2 => ?_)
        · have k2 : ((l.getD (w.getD j 0).toNat clk0).kind == 2) = true := k2
          conv => whnf
          refine ⟨_, _, rover_spec (vwF l s (w.drop (j + 1))).1 ((l.getD (w.getD j 0).toNat clk0).ch.getD (s.getD (w.getD j 0).toNat 0).toNat 0), ?_⟩
          conv => whnf
          refine ⟨by unfold InI64; omega, ?_⟩
          conv => whnf
          have e : vwF l s (w.drop j) = ((overR (vwF l s (w.drop (j + 1))).1 ((l.getD (w.getD j 0).toNat clk0).ch.getD (s.getD (w.getD j 0).toNat 0).toNat 0)).1, (vwF l s (w.drop (j + 1))).2) := by rw [hvs]; unfold wstep; rw [k2]; rfl
          refine ⟨j, [], by omega, Nat.lt_succ_self j, ⟨rfl, ⟨embV_le (.refl _) rfl, embV_le (.refl _) rfl, embV_le (.refl _) rfl, ⟨rfl, rfl⟩, embV_le (.refl _) rfl, ?_, ⟨rfl, rfl, rfl, rfl⟩, ⟨rfl, rfl⟩, ⟨rfl, rfl⟩, ⟨rfl, rfl⟩, trivial⟩, ⟨?_, trivial⟩⟩⟩
          · rw [e]; rfl
          · rw [e]; exact embO_le (LeL.refl _) rfl (Nat.lt_of_sub_pos (by exact Nat.zero_lt_succ _))
        · have k2 : ((l.getD (w.getD j 0).toNat clk0).kind == 2) = false := k2
          conv => whnf
          refine bcase_of (fun k3 => ?_) (fun k3 => ?_)
          · have k3 : ((l.getD (w.getD j 0).toNat clk0).kind == 3) = true := k3
            conv => whnf
            refine ⟨_, _, rtimes_spec (vwF l s (w.drop (j + 1))).1 ((l.getD (w.getD j 0).toNat clk0).ch.getD (s.getD (w.getD j 0).toNat 0).toNat 0), ?_⟩
            conv => whnf
            refine ⟨by unfold InI64; omega, ?_⟩
            conv => whnf
            have e : vwF l s (w.drop j) = ((timesR (vwF l s (w.drop (j + 1))).1 ((l.getD (w.getD j 0).toNat clk0).ch.getD (s.getD (w.getD j 0).toNat 0).toNat 0)).1, (vwF l s (w.drop (j + 1))).2) := by rw [hvs]; unfold wstep; rw [k2, k3]; rfl
            refine ⟨j, [], by omega, Nat.lt_succ_self j, ⟨rfl, ⟨embV_le (.refl _) rfl, embV_le (.refl _) rfl, embV_le (.refl _) rfl, ⟨rfl, rfl⟩, embV_le (.refl _) rfl, ?_, ⟨rfl, rfl, rfl, rfl⟩, ⟨rfl, rfl⟩, ⟨rfl, rfl⟩, ⟨rfl, rfl⟩, trivial⟩, ⟨?_, trivial⟩⟩⟩
            · rw [e]; rfl
            · rw [e]; exact embO_le (LeL.refl _) rfl (Nat.lt_of_sub_pos (by exact Nat.zero_lt_succ _))
          · have k3 : ((l.getD (w.getD j 0).toNat clk0).kind == 3) = false := k3
            conv => whnf
            refine bcase_of (fun k5 => ?_) (fun k5 => ?_)
            · have k5 : ((l.getD (w.getD j 0).toNat clk0).kind == 5) = true := k5
              conv => whnf
              refine ⟨by unfold InI64; omega, ?_⟩
              conv => whnf
              have e : vwF l s (w.drop j) = ((vwF l s (w.drop (j + 1))).1, (vwF l s (w.drop (j + 1))).2 && (((l.getD (w.getD j 0).toNat clk0).ch.getD (s.getD (w.getD j 0).toNat 0).toNat 0) == 1)) := by rw [hvs]; unfold wstep; rw [k2, k3, k5]; rfl
              refine ⟨j, [], by omega, Nat.lt_succ_self j, ⟨rfl, ⟨embV_le (.refl _) rfl, embV_le (.refl _) rfl, embV_le (.refl _) rfl, ⟨rfl, rfl⟩, embV_le (.refl _) rfl, ?_, ⟨rfl, rfl, rfl, rfl⟩, ⟨rfl, rfl⟩, ⟨rfl, rfl⟩, ⟨rfl, rfl⟩, trivial⟩, ⟨?_, trivial⟩⟩⟩
              · rw [e]; rfl
              · rw [e]; exact embO_le (LeL.refl _) rfl (Nat.lt_of_sub_pos (by exact Nat.zero_lt_succ _))
            · have k5 : ((l.getD (w.getD j 0).toNat clk0).kind == 5) = false := k5
              conv => whnf
              refine ⟨by unfold InI64; omega, ?_⟩
              conv => whnf
              have e : vwF l s (w.drop j) = ((vwF l s (w.drop (j + 1))).1, (vwF l s (w.drop (j + 1))).2) := by rw [hvs]; unfold wstep; rw [k2, k3, k5]; rfl
              refine ⟨j, [], by omega, Nat.lt_succ_self j, ⟨rfl, ⟨embV_le (.refl _) rfl, embV_le (.refl _) rfl, embV_le (.refl _) rfl, ⟨rfl, rfl⟩, embV_le (.refl _) rfl, ?_, ⟨rfl, rfl, rfl, rfl⟩, ⟨rfl, rfl⟩, ⟨rfl, rfl⟩, ⟨rfl, rfl⟩, trivial⟩, ⟨?_, trivial⟩⟩⟩
              · rw [e]; rfl
              · rw [e]; exact embO_le (LeL.refl _) rfl (Nat.lt_of_sub_pos (by exact Nat.zero_lt_succ _))
      · have h6 : decide ((0 : Int) ≤ (j : Int) - 1) = false := h6
        have hj0 : j = 0 := by have := of_decide_eq_false h6; omega
        subst hj0
        rw [List.drop_zero]
        obtain ⟨_, _, hval, hoffR⟩ := hsame k hlt
        have hone := hone (k : Int)
        rw [Int.toNat_natCast] at hone
        conv => whnf
        refine ⟨by omega, ?_⟩
        conv => whnf
        refine ⟨_, _, rvalid_spec (R.getD k rt0), ?_⟩
        conv => whnf
        refine ⟨fun _ _ => by omega, ?_⟩
        conv => whnf
        refine ⟨fun _ _ => by omega, ?_⟩
        conv => whnf
        refine bcase_of (fun h7 => ?_) (fun h7 => ?_)
        · have h7 : (((!validR (R.getD k rt0)) || ((vwF l s w).2 && !(((R.getD k rt0).num == (vwF l s w).1.num) && (((R.getD k rt0).den == (vwF l s w).1.den) && true)))) || ((!(vwF l s w).2) && !(((R.getD k rt0).num == 0) && (((R.getD k rt0).den == 1) && true)))) = true := h7
          exfalso
          rw [hval] at h7
          cases ho : (vwF l s w).2 with
          | true =>
            rw [ho, w5 ho] at h7
            simp at h7
          | false =>
            rw [ho] at w4
            have hof : isOff (R.getD k rt0) = true := by simpa using w4.symm
            rw [ho, hoffR hof] at h7
            cases h7
        conv => whnf
        refine ⟨_, _, (hmt (k : Int)).le ⟨.refl _, .refl _, le_lim1 ⟨(k : Int), 0, 4000000000⟩ true, trivial⟩ trivial, ?_⟩
        conv => whnf
        refine bcase_of (fun h8 => ?_) (fun h8 => ?_)
        · have h8 : (meetsF l s [⟨(k : Int), 0, 4000000000⟩] && !(vwF l s w).2) = true := h8
          exfalso
          rw [Bool.and_eq_true] at h8
          have := hone h8.1
          rw [this] at w4
          rw [w4] at h8
          cases h8.2
        conv => whnf
        refine ⟨by unfold InI64; omega, ?_⟩
        conv => whnf
        exact ⟨k + 1, [], hlt, by omega, ⟨rfl, ⟨embV_le (.refl _) rfl, embV_le (.refl _) rfl, embV_le (.refl _) rfl, ⟨rfl, rfl⟩, ⟨rfl, by simp⟩, trivial⟩, trivial⟩⟩
  · conv => whnf
    refine ⟨_, _, awake_spec, ?_⟩
    conv => whnf
    exact ⟨rfl, trivial⟩

end Go.Proofs.YtjmhlbogkeohpaaDoor

namespace Go.Proofs.YtjmhlbogkeohpaaDoor
open Go.Ab
set_option maxRecDepth 100000

/-! The reference's own limits, rates and limits met -/

def ownS (l : List Clk) (r : List Rt) (on : List Bool) : Bool := (List.range l.length).all fun i => !((on.getD i false && ((l.getD i clk0).high != 0)) && !withinR (r.getD i rt0) (l.getD i clk0).low (l.getD i clk0).high)

theorem own_spec (l : List Clk) (r : List Rt) (on : List Bool) (hl : l.length ≤ 1000) (hr : r.length = l.length) (hon : on.length = l.length) : S 59 [clksV l, rtsV r, boolsV on] [] (.bool (ownS l r on)) [] := by
  refine spec_of_x (ct := []) cfgOK Tryd.func59 rfl rfl (Nat.le_of_ble_eq_true rfl) (by decide +kernel) (Nat.le_refl _) ?_
  conv => whnf
  refine loops_intro (ct := []) cfgOK (by decide +kernel) (fun i : Nat => ⟨[(1, rtsV r), (2, boolsV on), (9, clksV l), (10, iV l.length), (11, iV i)], [], 1⟩)
    (fun i => i ≤ l.length ∧ ∀ j : Nat, j < i → (!((on.getD j false && ((l.getD j clk0).high != 0)) && !withinR (r.getD j rt0) (l.getD j clk0).low (l.getD j clk0).high)) = true) (fun i => l.length - i) 0 [] ⟨Nat.zero_le _, fun j hj => absurd hj (Nat.not_lt_zero j)⟩
    ⟨rfl, ⟨embV_le (.refl _) rfl, embV_le (.refl _) rfl, embV_le (.refl _) rfl, ⟨rfl, rfl⟩, ⟨rfl, rfl⟩, trivial⟩, trivial⟩ ?_
  intro i ⟨hi1, hi2⟩
  conv => whnf
  refine bcase_of (fun h2 => ?_) (fun h2 => ?_)
  · have hlt : i < l.length := by have := of_decide_eq_true h2; omega
    conv => whnf
    refine ⟨by omega, ?_⟩
    conv => whnf
    refine ⟨by omega, ?_⟩
    conv => whnf
    refine ⟨fun _ => by omega, ?_⟩
    conv => whnf
    refine ⟨_, _, fun _ => rwithinr_spec (r.getD i rt0) (l.getD i clk0).low (l.getD i clk0).high, ?_⟩
    conv => whnf
    refine bcase_of (fun h3 => ?_) (fun h3 => ?_)
    · conv => whnf
      have h3 : ((on.getD i false && ((l.getD i clk0).high != 0)) && !withinR (r.getD i rt0) (l.getD i clk0).low (l.getD i clk0).high) = true := h3
      refine ⟨?_, trivial⟩
      show false = ownS l r on
      unfold ownS
      rw [rangeAll_false (i := i) hlt (by rw [h3]; rfl)]
    · conv => whnf
      have h3 : ((on.getD i false && ((l.getD i clk0).high != 0)) && !withinR (r.getD i rt0) (l.getD i clk0).low (l.getD i clk0).high) = false := h3
      refine ⟨by unfold InI64; omega, ?_⟩
      conv => whnf
      refine ⟨i + 1, [], ⟨hlt, fun j hj => ?_⟩, by omega, ⟨rfl, ⟨embV_le (.refl _) rfl, embV_le (.refl _) rfl, embV_le (.refl _) rfl, ⟨rfl, rfl⟩, ⟨rfl, by simp⟩, trivial⟩, trivial⟩⟩
      by_cases hji : j = i
      · subst hji; rw [h3]; rfl
      · exact hi2 j (by omega)
  · have hil : i = l.length := by have := of_decide_eq_false h2; omega
    subst hil
    conv => whnf
    refine ⟨?_, trivial⟩
    show true = ownS l r on
    unfold ownS
    rw [rangeAll_true hi2]

theorem own_eq {l : List Clk} {s : List Int} (hf : Fine l) (hs : settB l s = true) : ownS l (stF l s).1 (stF l s).2 = ownB l (ratesF l s) := by
  unfold ownS ownB
  rw [Bool.eq_iff_iff, List.all_eq_true, List.all_eq_true]
  refine forall_congr' fun i => ?_
  refine forall_congr' fun hi => ?_
  obtain ⟨h1, h2, _⟩ := st_same hf hs i (List.mem_range.1 hi)
  rw [h1, h2]
  exact Iff.rfl

theorem rrates_spec (l : List Clk) (s : List Int) (hl : l.length ≤ 1000000) (hc : ChOK l) : S 25 [clksV l, intsV s] [] (.tup [rtsV (ratesE l s).1, iV (ratesE l s).2]) [] := by
  refine spec_of_x (ct := []) cfgOK Tryd.func25 rfl rfl (Nat.le_of_ble_eq_true rfl) (by decide +kernel) (Nat.le_refl _) ?_
  conv => whnf
  refine ⟨_, _, rcheck_spec l hl, ?_⟩
  conv => whnf
  refine bcase_of (fun h => ?_) (fun h => ?_)
  · have h : (checkF l != 0) = true := h
    have e : ratesE l s = ([], checkF l) := by unfold ratesE; rw [h]; rfl
    rw [e]
    conv => whnf
    exact ⟨⟨⟨rfl, fun h => absurd rfl h, nofun, fun i hi => absurd hi (Nat.not_lt_zero i)⟩, ⟨rfl, rfl⟩, trivial⟩, trivial⟩
  · have h : (checkF l != 0) = false := h
    have h0 : checkF l = 0 := by simpa using h
    conv => whnf
    refine ⟨_, _, rsetting_spec l s hl hc, ?_⟩
    conv => whnf
    refine bcase_of (fun h2 => ?_) (fun h2 => ?_)
    · have h2 : (!((checkF l == 0) && settB l s)) = true := h2
      have hst : settB l s = false := by
        rw [h0] at h2
        cases h3 : settB l s with
        | false => rfl
        | true => rw [h3] at h2; cases h2
      have e : ratesE l s = ([], 1) := by unfold ratesE; rw [h, hst]; rfl
      rw [e]
      conv => whnf
      exact ⟨⟨⟨rfl, fun h => absurd rfl h, nofun, fun i hi => absurd hi (Nat.not_lt_zero i)⟩, ⟨rfl, rfl⟩, trivial⟩, trivial⟩
    · have h2 : (!((checkF l == 0) && settB l s)) = false := h2
      have hst : settB l s = true := by
        cases h3 : settB l s with
        | true => rfl
        | false => rw [h3, Bool.and_false] at h2; cases h2
      have hf := fine_of h0
      have e : ratesE l s = ((stF l s).1, 0) := by unfold ratesE; rw [h, hst, st_eq hf hst]; rfl
      rw [e]
      conv => whnf
      refine ⟨_, _, states_spec l s (good_of hf hst) (up_of hf hst), ?_⟩
      conv => whnf
      exact ⟨⟨embV_le (.refl _) rfl, ⟨rfl, rfl⟩, trivial⟩, trivial⟩

theorem rmeets_spec (l : List Clk) (s : List Int) (m : List Lim) (hl : l.length ≤ 1000000) (hc : ChOK l) : S 31 [clksV l, intsV s, limsV m] [] (.bool (meetsF l s m)) [] := by
  refine spec_of_x (ct := []) cfgOK Tryd.func31 rfl rfl (Nat.le_of_ble_eq_true rfl) (by decide +kernel) (Nat.le_refl _) ?_
  conv => whnf
  refine ⟨_, _, rsetting_spec l s hl hc, ?_⟩
  conv => whnf
  refine ⟨_, _, fun _ => rlimits_spec l m hl, ?_⟩
  conv => whnf
  refine bcase_of (fun h => ?_) (fun h => ?_)
  · conv => whnf
    have h : (!((checkF l == 0) && settB l s) || !limsB l m) = true := h
    refine ⟨?_, trivial⟩
    show false = meetsF l s m
    unfold meetsF
    have : (limsB l m && settB l s) = false := by
      unfold limsB at h ⊢
      cases h1 : checkF l == 0 <;> cases h2 : settB l s <;> rw [h1, h2] at h <;> simp at h ⊢
      intro h5
      rcases h with h | h
      · omega
      · exact h
    rw [this]
    rfl
  · conv => whnf
    have h : (!((checkF l == 0) && settB l s) || !limsB l m) = false := h
    rw [Bool.or_eq_false_iff] at h
    have hlm : limsB l m = true := by simpa using h.2
    have hst : settB l s = true := by have := h.1; simp at this; exact this.2
    obtain ⟨h0, h32, hbad⟩ := lims_get hlm
    have hf := fine_of h0
    have hg := good_of hf hst
    have hsm := hg.small
    have hs1 := (stN_len l s l.length).1
    have hs2 := (stN_len l s l.length).2
    have hme : meetsF l s m = (ownB l (ratesF l s) && !m.any (offL (ratesF l s))) := by unfold meetsF; rw [hlm, hst]; rfl
    rw [hme]
    refine ⟨_, _, states_spec l s hg (up_of hf hst), ?_⟩
    conv => whnf
    refine loops_intro (ct := []) cfgOK (by decide +kernel) (fun i : Nat => ⟨[(0, clksV l), (7, rtsV (stF l s).1), (8, boolsV (stF l s).2), (27, limsV m), (28, iV m.length), (29, iV i)], [], 1⟩)
      (fun i => i ≤ m.length ∧ ∀ j : Nat, j < i → offL (ratesF l s) (m.getD j lim0) = false) (fun i => m.length - i) 0 [] ⟨Nat.zero_le _, fun j hj => absurd hj (Nat.not_lt_zero j)⟩
      ⟨rfl, ⟨embV_le (.refl _) rfl, embV_le (.refl _) rfl, embV_le (.refl _) rfl, embV_le (.refl _) rfl, ⟨rfl, rfl⟩, ⟨rfl, rfl⟩, trivial⟩, trivial⟩ ?_
    intro i ⟨hi1, hi2⟩
    conv => whnf
    refine bcase_of (fun h2 => ?_) (fun h2 => ?_)
    · have hlt : i < m.length := by have := of_decide_eq_true h2; omega
      have hb := (badL_get (hbad i hlt)).1
      have hcl : (m.getD i lim0).clk.toNat < l.length := by omega
      obtain ⟨e1, e2, _⟩ := st_same hf hst _ hcl
      conv => whnf
      refine ⟨by omega, ?_⟩
      conv => whnf
      refine ⟨⟨hb.1, by show (m.getD i lim0).clk < ((stN l s l.length).2.length : Int); omega⟩, ?_⟩
      conv => whnf
      refine ⟨fun _ => ⟨hb.1, by show (m.getD i lim0).clk < ((stN l s l.length).1.length : Int); omega⟩, ?_⟩
      conv => whnf
      refine ⟨_, _, fun _ => rwithinr_spec ((stF l s).1.getD (m.getD i lim0).clk.toNat rt0) (m.getD i lim0).low (m.getD i lim0).high, ?_⟩
      conv => whnf
      refine bcase_of (fun h3 => ?_) (fun h3 => ?_)
      · conv => whnf
        have h3 : (!((stF l s).2.getD (m.getD i lim0).clk.toNat false) || !withinR ((stF l s).1.getD (m.getD i lim0).clk.toNat rt0) (m.getD i lim0).low (m.getD i lim0).high) = true := h3
        rw [e1, e2, Bool.not_not] at h3
        refine ⟨?_, trivial⟩
        show false = (ownB l (ratesF l s) && !m.any (offL (ratesF l s)))
        rw [any_true_get lim0 hlt h3]
        simp
      · conv => whnf
        have h3 : (!((stF l s).2.getD (m.getD i lim0).clk.toNat false) || !withinR ((stF l s).1.getD (m.getD i lim0).clk.toNat rt0) (m.getD i lim0).low (m.getD i lim0).high) = false := h3
        rw [e1, e2, Bool.not_not] at h3
        refine ⟨by unfold InI64; omega, ?_⟩
        conv => whnf
        refine ⟨i + 1, [], ⟨hlt, fun j hj => ?_⟩, by omega, ⟨rfl, ⟨embV_le (.refl _) rfl, embV_le (.refl _) rfl, embV_le (.refl _) rfl, embV_le (.refl _) rfl, ⟨rfl, rfl⟩, ⟨rfl, by simp⟩, trivial⟩, trivial⟩⟩
        by_cases hji : j = i
        · subst hji; exact h3
        · exact hi2 j (by omega)
    · have hil : i = m.length := by have := of_decide_eq_false h2; omega
      subst hil
      conv => whnf
      refine ⟨_, _, own_spec l (stF l s).1 (stF l s).2 hsm hs1 hs2, ?_⟩
      conv => whnf
      refine ⟨?_, trivial⟩
      show ownS l (stF l s).1 (stF l s).2 = (ownB l (ratesF l s) && _)
      rw [own_eq hf hst, any_none lim0 hi2]
      simp

/-! Lists of rates -/
theorem rt_ext {x y : Rt} (h1 : x.num = y.num) (h2 : x.den = y.den) : x = y := by
  obtain ⟨a, b⟩ := x
  obtain ⟨c, d⟩ := y
  cases h1
  cases h2
  rfl
theorem same_spec (a b : List Rt) (ha : a.length ≤ 1000000) : S 28 [rtsV a, rtsV b] [] (.bool (a == b)) [] := by
  refine spec_of_x (ct := []) cfgOK Tryd.func28 rfl rfl (Nat.le_of_ble_eq_true rfl) (by decide +kernel) (Nat.le_refl _) ?_
  conv => whnf
  refine bcase_of (fun h => ?_) (fun h => ?_)
  · conv => whnf
    have h : ((a.length : Int) != (b.length : Int)) = true := h
    refine ⟨?_, trivial⟩
    show false = (a == b)
    cases hab : a == b with
    | false => rfl
    | true => rw [eq_of_beq hab] at h; simp at h
  · conv => whnf
    have h : ((a.length : Int) != (b.length : Int)) = false := h
    have hlen : a.length = b.length := by have h := h; simp at h; omega
    refine loops_intro (ct := []) cfgOK (by decide +kernel) (fun i : Nat => ⟨[(0, rtsV a), (1, rtsV b), (12, iV a.length), (13, iV i)], [], 1⟩)
      (fun i => i ≤ a.length ∧ ∀ j : Nat, j < i → a.getD j rt0 = b.getD j rt0) (fun i => a.length - i) 0 [] ⟨Nat.zero_le _, fun j hj => absurd hj (Nat.not_lt_zero j)⟩
      ⟨rfl, ⟨embV_le (.refl _) rfl, embV_le (.refl _) rfl, ⟨rfl, rfl⟩, ⟨rfl, rfl⟩, trivial⟩, trivial⟩ ?_
    intro i ⟨hi1, hi2⟩
    conv => whnf
    refine bcase_of (fun h2 => ?_) (fun h2 => ?_)
    · have hlt : i < a.length := by have := of_decide_eq_true h2; omega
      conv => whnf
      refine ⟨by omega, ?_⟩
      conv => whnf
      refine ⟨by omega, ?_⟩
      conv => whnf
      refine bcase_of (fun h3 => ?_) (fun h3 => ?_)
      · conv => whnf
        refine ⟨?_, trivial⟩
        show false = (a == b)
        cases hab : a == b with
        | false => rfl
        | true => rw [eq_of_beq hab] at h3; simp at h3
      · conv => whnf
        refine ⟨by unfold InI64; omega, ?_⟩
        conv => whnf
        refine ⟨i + 1, [], ⟨hlt, fun j hj => ?_⟩, by omega, ⟨rfl, ⟨embV_le (.refl _) rfl, embV_le (.refl _) rfl, ⟨rfl, rfl⟩, ⟨rfl, by simp⟩, trivial⟩, trivial⟩⟩
        by_cases hji : j = i
        · subst hji
          simp at h3
          rw [List.getD_eq_getElem?_getD, List.getD_eq_getElem?_getD]
          exact rt_ext h3.1 h3.2
        · exact hi2 j (by omega)
    · have hil : i = a.length := by have := of_decide_eq_false h2; omega
      subst hil
      conv => whnf
      refine ⟨?_, trivial⟩
      show true = (a == b)
      rw [ext_getD rt0 hlen hi2]
      simp

/-! Small clocks -/
def smallN (l : List Clk) : Nat → Int
  | 0 => l.length
  | i + 1 => smallN l i + ((l.getD i clk0).par.length + (l.getD i clk0).ch.length)

theorem smallN_mono (l : List Clk) (i j : Nat) (h : i ≤ j) : smallN l i ≤ smallN l j := by
  induction j with
  | zero => obtain rfl : i = 0 := by omega
            exact Int.le_refl _
  | succ j ih =>
    by_cases hij : i = j + 1
    · subst hij; exact Int.le_refl _
    · have := ih (by omega)
      rw [smallN]
      omega

theorem smallN_len (l : List Clk) (i : Nat) : (l.length : Int) ≤ smallN l i := smallN_mono l 0 i (Nat.zero_le _)

/-- What small clocks are like. -/
structure SmallC (l : List Clk) : Prop where
  len : l.length ≤ 300
  par : ∀ i : Nat, i < l.length → (l.getD i clk0).par.length ≤ 300 ∧ (l.getD i clk0).ch.length ≤ 300

theorem smallC_of {l : List Clk} {i : Nat} (h : smallN l i ≤ 300) (hi : l.length ≤ i) : SmallC l := by
  refine ⟨by have := smallN_len l i; omega, fun j hj => ?_⟩
  have h1 := smallN_mono l (j + 1) i (by omega)
  have h2 := smallN_len l j
  rw [smallN] at h1
  omega

theorem small_spec (l : List Clk) (hl : l.length ≤ 1000000000) (hb : ∀ i : Nat, i < l.length → (l.getD i clk0).par.length ≤ 1000000000 ∧ (l.getD i clk0).ch.length ≤ 1000000000) :
    ∃ b, (b = true → SmallC l) ∧ S 20 [clksV l] [] (.bool b) [] := by
  by_cases hs : ∃ i, i ≤ l.length ∧ (∀ j, j < i → smallN l j < 900) ∧ (i = l.length ∨ 900 ≤ smallN l i)
  · obtain ⟨n, h1, h2, h3⟩ := hs
    refine ⟨decide (smallN l n ≤ 300), fun h => ?_, ?_⟩
    · have h := of_decide_eq_true h
      rcases h3 with h3 | h3
      · exact smallC_of h (by omega)
      · omega
    · refine spec_of_x (ct := []) cfgOK Tryd.func20 rfl rfl (Nat.le_of_ble_eq_true rfl) (by decide +kernel) (Nat.le_refl _) ?_
      conv => whnf
      refine loops_intro (ct := []) cfgOK (by decide +kernel) (fun i : Nat => ⟨[(0, clksV l), (3, iV (smallN l i)), (4, iV i)], [], 1⟩)
        (fun i => i ≤ n) (fun i => n - i) 0 [] (Nat.zero_le _)
        ⟨rfl, ⟨embV_le (.refl _) rfl, ⟨rfl, rfl⟩, ⟨rfl, rfl⟩, trivial⟩, trivial⟩ ?_
      intro i hi
      conv => whnf
      refine bcase_of (fun h4 => ?_) (fun h4 => ?_)
      · have h4 : (decide ((i : Int) < l.length) && decide (smallN l i < 900)) = true := h4
        rw [Bool.and_eq_true] at h4
        have h5 := of_decide_eq_true h4.1
        have h6 := of_decide_eq_true h4.2
        have hlt : i < n := by
          rcases Nat.lt_or_ge i n with h | h
          · exact h
          · obtain rfl : i = n := by omega
            omega
        have hb2 := hb i (by omega)
        have hsm := smallN_len l i
        conv => whnf
        refine ⟨by omega, ?_⟩
        conv => whnf
        refine ⟨by omega, ?_⟩
        conv => whnf
        refine ⟨by show InI64 (((l.getD i clk0).par.length : Int) + ((l.getD i clk0).ch.length : Int)); unfold InI64; omega, ?_⟩
        conv => whnf
        refine ⟨by show InI64 (smallN l i + (((l.getD i clk0).par.length : Int) + ((l.getD i clk0).ch.length : Int))); unfold InI64; omega, ?_⟩
        conv => whnf
        refine ⟨by unfold InI64; omega, ?_⟩
        conv => whnf
        exact ⟨i + 1, [], hlt, by omega, ⟨rfl, ⟨embV_le (.refl _) rfl, ⟨rfl, rfl⟩, ⟨rfl, by simp⟩, trivial⟩, trivial⟩⟩
      · have h4 : (decide ((i : Int) < l.length) && decide (smallN l i < 900)) = false := h4
        have hin : i = n := by
          rcases Nat.lt_or_ge i n with h | h
          · have := h2 i h
            rw [decide_eq_true this, decide_eq_true (by omega)] at h4
            cases h4
          · omega
        subst hin
        conv => whnf
        exact ⟨rfl, trivial⟩
  · exfalso
    have key : ∀ n, n ≤ l.length → (∀ j, j < n → smallN l j < 900) := by
      intro n
      induction n with
      | zero => intro _ j hj; omega
      | succ n ih =>
        intro hn j hj
        have h1 := ih (by omega)
        by_cases hjn : j = n
        · subst hjn
          rcases Int.lt_or_le (smallN l j) 900 with h | h
          · exact h
          · exact absurd ⟨j, by omega, h1, .inr h⟩ hs
        · exact h1 j (by omega)
    exact hs ⟨l.length, Nat.le_refl _, key _ (Nat.le_refl _), .inl rfl⟩

end Go.Proofs.YtjmhlbogkeohpaaDoor
