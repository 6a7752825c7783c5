/- Contracts of the program's functions, shown by walks of that machine, and the plain laws. -/
import Derived.Test.YtjmhlbogkeohpaaDoorD5
namespace Go.Proofs.YtjmhlbogkeohpaaDoor
open Go.Ab
set_option maxRecDepth 100000

theorem meets_one {l : List Clk} {s : List Int} (k : Int) (h : meetsF l s [⟨k, 0, 4000000000⟩] = true) : isOff ((ratesF l s).getD k.toNat rt0) = false := by
  have := (meets_get h).2.2.2 0 (by simp)
  unfold offL at this
  rw [Bool.or_eq_false_iff] at this
  exact this.1

theorem ways_law_spec (t : List Int) (ht : I64 t) : S 6 [intsV t] [] (.bool true) [] := by
  refine spec_of_x (ct := []) cfgOK Tryd.func6 rfl rfl (Nat.le_of_ble_eq_true rfl) (by decide +kernel) (Nat.le_refl _) ?_
  conv => whnf
  refine ⟨_, _, new_spec t, ?_⟩
  conv => whnf
  have ok0 := new_ok ht
  have s1 := clocks_spec ⟨t.take 500, 0⟩ ok0 12 4096 (by decide) (by decide)
  obtain ⟨m1, ok1, len1⟩ := cloF_made ⟨t.take 500, 0⟩ ok0 12 4096 (by decide)
  generalize cloF ⟨t.take 500, 0⟩ 12 4096 = c at s1 m1 ok1 len1
  obtain ⟨l, t1⟩ := c
  have m1 : Made l := m1
  have ok1 : t1.ok := ok1
  have hf := fine_of m1.ok
  have hl := hf.len
  have hpos := m1.pos
  refine ⟨_, _, s1, ?_⟩
  conv => whnf
  have s2 := setg_spec t1 ok1 l (by omega) (chOK_fine hf)
  have hs : settB l (setF l t1).1 = true := setF_sett hf t1
  generalize setF l t1 = c at s2 hs
  obtain ⟨s, t2⟩ := c
  have hs : settB l s = true := hs
  have hg := good_of hf hs
  have hsl := hg.len
  refine ⟨_, _, s2, ?_⟩
  conv => whnf
  have e1 : ratesE l s = (ratesF l s, 0) := by unfold ratesE; rw [m1.ok, hs]; rfl
  have s3 := rates_all_spec l s (by omega)
  have hRl : (ratesF l s).length = l.length := ratesN_len ..
  rw [e1] at s3
  have hway := way_ok hf hs
  have hsame := st_same hf hs
  have hone := fun k => meets_one (l := l) (s := s) k
  have hmt := fun k : Int => meets_spec l s [⟨k, 0, 4000000000⟩] (by omega) (by simp) (chOK_fine hf)
  generalize ratesF l s = R at s3 hRl hway hsame hone
  refine ⟨_, _, s3, ?_⟩
  conv => whnf
  refine bcase_of (fun h3 => ?_) (fun h3 => ?_)
  · have h3 : ((0 : Int) != 0 || ((R.length : Int) != (l.length : Int))) = true := h3
    rw [hRl] at h3
    simp at h3
  conv => whnf
  refine loops_intro (ct := []) cfgOK (by decide +kernel) (fun k : Nat => ⟨[(4, clksV l), (5, intsV s), (6, rtsV R), (40, iV l.length), (41, iV k)], [], 1⟩)
    (fun k => k ≤ l.length) (fun k => l.length - k) 0 [] (Nat.zero_le _)
    ⟨rfl, ⟨embV_le (.refl _) rfl, embV_le (.refl _) rfl, embV_le (.refl _) rfl, ⟨rfl, rfl⟩, ⟨rfl, rfl⟩, trivial⟩, trivial⟩ ?_
  intro k hk
  conv => whnf
  refine bcase_of (fun h2 => ?_) (fun h2 => ?_)
  · have hlt : k < l.length := by have := of_decide_eq_true h2; omega
    conv => whnf
    refine ⟨_, _, way_spec l s k (by omega) (chOK_fine hf), ?_⟩
    conv => whnf
    have hwe : wayE l s k = wayF l s (k + 1) k := by
      unfold wayE
      rw [m1.ok, hs, (within_iff _ _ _).2 (by omega), Int.toNat_natCast]
      rfl
    obtain ⟨w1, w2, w3, w4, w5⟩ := hway k hlt (k + 1) (Nat.le_refl _)
    have wm := way_mem hg (k + 1) k (by omega)
    have wl := wayF_len l s (k + 1) k
    rw [← hwe] at w1 w2 w3 w4 w5 wm wl
    generalize wayE l s k = w at w1 w2 w3 w4 w5 wm wl
    have hin : ∀ i, i < w.length → 0 ≤ w.getD i 0 ∧ w.getD i 0 < l.length := fun i hi => wm _ (getD_mem 0 hi)
    refine loops_intro (ct := []) cfgOK (by decide +kernel) (fun i : Nat => ⟨[(4, clksV l), (5, intsV s), (6, rtsV R), (8, iV k), (9, intsV w), (40, iV l.length), (41, iV k), (48, intsV w), (49, iV w.length), (50, iV i)], [], 1⟩)
      (fun i => i ≤ w.length) (fun i => w.length - i) 0 [] (Nat.zero_le _)
      ⟨rfl, ⟨embV_le (.refl _) rfl, embV_le (.refl _) rfl, embV_le (.refl _) rfl, ⟨rfl, rfl⟩, embV_le (.refl _) rfl, ⟨rfl, rfl⟩, ⟨rfl, rfl⟩, embV_le (.refl _) rfl, ⟨rfl, rfl⟩, ⟨rfl, rfl⟩, trivial⟩, trivial⟩ ?_
    intro i hi
    conv => whnf
    refine bcase_of (fun h4 => ?_) (fun h4 => ?_)
    · have hil : i < w.length := by have := of_decide_eq_true h4; omega
      have hii := hin i hil
      conv => whnf
      refine ⟨by omega, ?_⟩
      conv => whnf
      refine bcase_of (fun h5 => ?_) (fun h5 => ?_)
      · have h5 : (decide (w.getD i 0 < 0) || decide ((l.length : Int) ≤ w.getD i 0)) = true := h5
        rw [decide_eq_false (by omega), decide_eq_false (by omega)] at h5
        cases h5
      conv => whnf
      refine ⟨by unfold InI64; omega, ?_⟩
      conv => whnf
      exact ⟨i + 1, [], hil, by omega, ⟨rfl, ⟨embV_le (.refl _) rfl, embV_le (.refl _) rfl, embV_le (.refl _) rfl, ⟨rfl, rfl⟩, embV_le (.refl _) rfl, ⟨rfl, rfl⟩, ⟨rfl, rfl⟩, embV_le (.refl _) rfl, ⟨rfl, rfl⟩, ⟨rfl, by simp⟩, trivial⟩, trivial⟩⟩
    · have hla := hin (w.length - 1) (by omega)
      have hkl := w1.last (w.length - 1) (by omega)
      have hchl := fine_ch hf (w.getD (w.length - 1) 0).toNat (by omega)
      have hwi : ((w.length : Int) - 1).toNat = w.length - 1 := by omega
      conv => whnf
      refine ⟨fun _ => by omega, ?_⟩
      conv => whnf
      refine ⟨fun _ => by unfold InI64; omega, ?_⟩
      conv => whnf
      refine ⟨fun _ => by omega, ?_⟩
      conv => whnf
      refine ⟨fun _ => by show 0 ≤ w.getD ((w.length : Int) - 1).toNat 0 ∧ w.getD ((w.length : Int) - 1).toNat 0 < (l.length : Int); rw [hwi]; exact hla, ?_⟩
      conv => whnf
      refine bcase_of (fun h5 => ?_) (fun h5 => ?_)
      · have h5 : ((((w.length : Int) == 0) || (w.getD 0 0 != (k : Int))) || ((l.getD (w.getD ((w.length : Int) - 1).toNat 0).toNat clk0).kind != 1)) = true := h5
        rw [hwi, hkl, w3] at h5
        have : ((w.length : Int) == 0) = false := by
          rw [← Bool.not_eq_true]
          intro e
          have := eq_of_beq e
          omega
        rw [this] at h5
        simp at h5
      conv => whnf
      refine ⟨by unfold InI64; omega, ?_⟩
      conv => whnf
      refine ⟨by omega, ?_⟩
      conv => whnf
      refine ⟨by show 0 ≤ w.getD ((w.length : Int) - 1).toNat 0 ∧ w.getD ((w.length : Int) - 1).toNat 0 < (l.length : Int); rw [hwi]; exact hla, ?_⟩
      conv => whnf
      refine ⟨by show (0 : Int) ≤ 0 ∧ (0 : Int) < ((l.getD (w.getD ((w.length : Int) - 1).toNat 0).toNat clk0).ch.length : Int); rw [hwi]; omega, ?_⟩
      conv => whnf
      refine ⟨by unfold InI64; omega, ?_⟩
      conv => whnf
      have hvl := vwF_last l s w w2
      refine loops_intro (ct := []) cfgOK (by decide +kernel) (fun j : Nat => ⟨[(4, clksV l), (5, intsV s), (6, rtsV R), (8, iV k), (9, intsV w), (12, .bool (vwF l s (w.drop j)).2), (13, .ptr 0 0 0), (14, iV ((j : Int) - 1)), (40, iV l.length), (41, iV k)], [(0, some (.box [iV (vwF l s (w.drop j)).1.num, iV (vwF l s (w.drop j)).1.den]))], 1⟩)
        (fun j => j + 1 ≤ w.length) (fun j => j) (w.length - 1) [(0, some 39)] (by omega)
        ⟨rfl, ⟨embV_le (.refl _) rfl, embV_le (.refl _) rfl, embV_le (.refl _) rfl, ⟨rfl, rfl⟩, embV_le (.refl _) rfl, ?_, ⟨rfl, rfl, rfl, rfl⟩, ⟨rfl, by show (w.length : Int) - 2 = ((w.length - 1 : Nat) : Int) - 1; omega⟩, ⟨rfl, rfl⟩, ⟨rfl, rfl⟩, trivial⟩, ⟨?_, trivial⟩⟩ ?_
      · rw [hvl]; rfl
      · rw [hvl, ← hwi]; exact embO_le (LeL.refl _) rfl (Nat.lt_of_sub_pos (by exact Nat.zero_lt_succ _))
      intro j hj
      conv => whnf
      refine bcase_of (fun h6 => ?_) (fun h6 => ?_)
      · have h6 : decide ((0 : Int) ≤ (j : Int) - 1) = true := h6
        have hj1 := of_decide_eq_true h6
        obtain ⟨j, rfl⟩ : ∃ j', j = j' + 1 := ⟨j - 1, by omega⟩
        have hz : ((j + 1 : Nat) : Int) - 1 = (j : Int) := by omega
        rw [hz]
        have hji := hin j (by omega)
        obtain ⟨hc1, hc2⟩ := w1.chain j hj
        have hvs := vwF_step l s w j hj
        have hst := (sett_get hs).2 (w.getD j 0).toNat (by omega)
        have hpm := par_mem (hf.valid (w.getD j 0).toNat (by omega)) hst hc1
        have hbig := (hf.big (w.getD j 0).toNat (by omega)).1
        conv => whnf
        refine ⟨by omega, ?_⟩
        conv => whnf
        refine ⟨hji, ?_⟩
        conv => whnf
        refine ⟨by omega, ?_⟩
        conv => whnf
        refine ⟨⟨hji.1, by show w.getD j 0 < (s.length : Int); omega⟩, ?_⟩
        conv => whnf
        refine ⟨hst, ?_⟩
        conv => whnf
        refine ⟨by unfold InI64; omega, ?_⟩
        conv => whnf
        refine ⟨by omega, ?_⟩
        conv => whnf
        refine ⟨_, _, in_spec (l.getD (w.getD j 0).toNat clk0).par (w.getD (j + 1) 0) (by omega), ?_⟩
        conv => whnf
        refine bcase_of (fun h7 => ?_) (fun h7 => ?_)
        · have h7 : (!(l.getD (w.getD j 0).toNat clk0).par.contains (w.getD (j + 1) 0)) = true := h7
          rw [hc2] at h7
          have : (l.getD (w.getD j 0).toNat clk0).par.contains (parF (l.getD (w.getD j 0).toNat clk0) (s.getD (w.getD j 0).toNat 0)) = true := List.contains_iff_mem.2 hpm.mem
          rw [this] at h7
          cases h7
        conv => whnf
        refine bcase_of (fun k2 => ?_) (fun k2 => ?_)
        · have k2 : ((l.getD (w.getD j 0).toNat clk0).kind == 2) = true := k2
          conv => whnf
          refine ⟨_, _, rover_spec (vwF l s (w.drop (j + 1))).1 ((l.getD (w.getD j 0).toNat clk0).ch.getD (s.getD (w.getD j 0).toNat 0).toNat 0), ?_⟩
          conv => whnf
          refine ⟨by unfold InI64; omega, ?_⟩
          conv => whnf
          have e : vwF l s (w.drop j) = ((overR (vwF l s (w.drop (j + 1))).1 ((l.getD (w.getD j 0).toNat clk0).ch.getD (s.getD (w.getD j 0).toNat 0).toNat 0)).1, (vwF l s (w.drop (j + 1))).2) := by rw [hvs]; unfold wstep; rw [k2]; rfl
          refine ⟨j, [], by omega, Nat.lt_succ_self j, ⟨rfl, ⟨embV_le (.refl _) rfl, embV_le (.refl _) rfl, embV_le (.refl _) rfl, ⟨rfl, rfl⟩, embV_le (.refl _) rfl, ?_, ⟨rfl, rfl, rfl, rfl⟩, ⟨rfl, rfl⟩, ⟨rfl, rfl⟩, ⟨rfl, rfl⟩, trivial⟩, ⟨?_, trivial⟩⟩⟩
          · rw [e]; rfl
          · rw [e]; exact embO_le (LeL.refl _) rfl (Nat.lt_of_sub_pos (by exact Nat.zero_lt_succ _))
        · have k2 : ((l.getD (w.getD j 0).toNat clk0).kind == 2) = false := k2
          conv => whnf
          refine bcase_of (fun k3 => ?_) (fun k3 => ?_)
          · have k3 : ((l.getD (w.getD j 0).toNat clk0).kind == 3) = true := k3
            conv => whnf
            refine ⟨_, _, rtimes_spec (vwF l s (w.drop (j + 1))).1 ((l.getD (w.getD j 0).toNat clk0).ch.getD (s.getD (w.getD j 0).toNat 0).toNat 0), ?_⟩
            conv => whnf
            refine ⟨by unfold InI64; omega, ?_⟩
            conv => whnf
            have e : vwF l s (w.drop j) = ((timesR (vwF l s (w.drop (j + 1))).1 ((l.getD (w.getD j 0).toNat clk0).ch.getD (s.getD (w.getD j 0).toNat 0).toNat 0)).1, (vwF l s (w.drop (j + 1))).2) := by rw [hvs]; unfold wstep; rw [k2, k3]; rfl
            refine ⟨j, [], by omega, Nat.lt_succ_self j, ⟨rfl, ⟨embV_le (.refl _) rfl, embV_le (.refl _) rfl, embV_le (.refl _) rfl, ⟨rfl, rfl⟩, embV_le (.refl _) rfl, ?_, ⟨rfl, rfl, rfl, rfl⟩, ⟨rfl, rfl⟩, ⟨rfl, rfl⟩, ⟨rfl, rfl⟩, trivial⟩, ⟨?_, trivial⟩⟩⟩
            · rw [e]; rfl
            · rw [e]; exact embO_le (LeL.refl _) rfl (Nat.lt_of_sub_pos (by exact Nat.zero_lt_succ _))
          · have k3 : ((l.getD (w.getD j 0).toNat clk0).kind == 3) = false := k3
            conv => whnf
            refine bcase_of (fun k5 => ?_) (fun k5 => ?_)
            · have k5 : ((l.getD (w.getD j 0).toNat clk0).kind == 5) = true := k5
              conv => whnf
              refine ⟨by unfold InI64; omega, ?_⟩
              conv => whnf
              have e : vwF l s (w.drop j) = ((vwF l s (w.drop (j + 1))).1, (vwF l s (w.drop (j + 1))).2 && (((l.getD (w.getD j 0).toNat clk0).ch.getD (s.getD (w.getD j 0).toNat 0).toNat 0) == 1)) := by rw [hvs]; unfold wstep; rw [k2, k3, k5]; rfl
              refine ⟨j, [], by omega, Nat.lt_succ_self j, ⟨rfl, ⟨embV_le (.refl _) rfl, embV_le (.refl _) rfl, embV_le (.refl _) rfl, ⟨rfl, rfl⟩, embV_le (.refl _) rfl, ?_, ⟨rfl, rfl, rfl, rfl⟩, ⟨rfl, rfl⟩, ⟨rfl, rfl⟩, ⟨rfl, rfl⟩, trivial⟩, ⟨?_, trivial⟩⟩⟩
              · rw [e]; rfl
              · rw [e]; exact embO_le (LeL.refl _) rfl (Nat.lt_of_sub_pos (by exact Nat.zero_lt_succ _))
            · have k5 : ((l.getD (w.getD j 0).toNat clk0).kind == 5) = false := k5
              conv => whnf
              refine ⟨by unfold InI64; omega, ?_⟩
              conv => whnf
              have e : vwF l s (w.drop j) = ((vwF l s (w.drop (j + 1))).1, (vwF l s (w.drop (j + 1))).2) := by rw [hvs]; unfold wstep; rw [k2, k3, k5]; rfl
              refine ⟨j, [], by omega, Nat.lt_succ_self j, ⟨rfl, ⟨embV_le (.refl _) rfl, embV_le (.refl _) rfl, embV_le (.refl _) rfl, ⟨rfl, rfl⟩, embV_le (.refl _) rfl, ?_, ⟨rfl, rfl, rfl, rfl⟩, ⟨rfl, rfl⟩, ⟨rfl, rfl⟩, ⟨rfl, rfl⟩, trivial⟩, ⟨?_, trivial⟩⟩⟩
              · rw [e]; rfl
              · rw [e]; exact embO_le (LeL.refl _) rfl (Nat.lt_of_sub_pos (by exact Nat.zero_lt_succ _))
      · have h6 : decide ((0 : Int) ≤ (j : Int) - 1) = false := h6
        have hj0 : j = 0 := by have := of_decide_eq_false h6; omega
        subst hj0
        rw [List.drop_zero]
        obtain ⟨_, _, hval, hoffR⟩ := hsame k hlt
        have hone := hone (k : Int)
        rw [Int.toNat_natCast] at hone
        conv => whnf
        refine ⟨by omega, ?_⟩
        conv => whnf
        refine ⟨_, _, rvalid_spec (R.getD k rt0), ?_⟩
        conv => whnf
        refine ⟨fun _ _ => by omega, ?_⟩
        conv => whnf
        refine ⟨fun _ _ => by omega, ?_⟩
        conv => whnf
        refine bcase_of (fun h7 => ?_) (fun h7 => ?_)
        · have h7 : (((!validR (R.getD k rt0)) || ((vwF l s w).2 && !(((R.getD k rt0).num == (vwF l s w).1.num) && (((R.getD k rt0).den == (vwF l s w).1.den) && true)))) || ((!(vwF l s w).2) && !(((R.getD k rt0).num == 0) && (((R.getD k rt0).den == 1) && true)))) = true := h7
          exfalso
          rw [hval] at h7
          cases ho : (vwF l s w).2 with
          | true =>
            rw [ho, w5 ho] at h7
            simp at h7
          | false =>
            rw [ho] at w4
            have hof : isOff (R.getD k rt0) = true := by simpa using w4.symm
            rw [ho, hoffR hof] at h7
            cases h7
        conv => whnf
        refine ⟨_, _, (hmt (k : Int)).le ⟨.refl _, .refl _, le_lim1 ⟨(k : Int), 0, 4000000000⟩ true, trivial⟩ trivial, ?_⟩
        conv => whnf
        refine bcase_of (fun h8 => ?_) (fun h8 => ?_)
        · have h8 : (meetsF l s [⟨(k : Int), 0, 4000000000⟩] && !(vwF l s w).2) = true := h8
          exfalso
          rw [Bool.and_eq_true] at h8
          have := hone h8.1
          rw [this] at w4
          rw [w4] at h8
          cases h8.2
        conv => whnf
        refine ⟨by unfold InI64; omega, ?_⟩
        conv => whnf
        exact ⟨k + 1, [], hlt, by omega, ⟨rfl, ⟨embV_le (.refl _) rfl, embV_le (.refl _) rfl, embV_le (.refl _) rfl, ⟨rfl, rfl⟩, ⟨rfl, by simp⟩, trivial⟩, trivial⟩⟩
  · conv => whnf
    refine ⟨_, _, awake_spec, ?_⟩
    conv => whnf
    exact ⟨rfl, trivial⟩

end Go.Proofs.YtjmhlbogkeohpaaDoor
