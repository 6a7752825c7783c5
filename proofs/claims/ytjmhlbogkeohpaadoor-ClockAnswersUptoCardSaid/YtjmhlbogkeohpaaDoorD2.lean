/- Contracts of the program's functions, shown by walks of that machine, and the plain laws. -/
import Derived.Test.YtjmhlbogkeohpaaDoorD1
namespace Go.Proofs.YtjmhlbogkeohpaaDoor
open Go.Ab
set_option maxRecDepth 100000

def limsB (l : List Clk) (m : List Lim) : Bool := (checkF l == 0) && decide ((m.length : Int) ≤ 32) && !(m.any (badL l.length))

theorem limits_spec (l : List Clk) (m : List Lim) (hl : l.length ≤ 1000000) (hm : m.length ≤ 1000000) : S 29 [clksV l, limsV m] [] (.bool (limsB l m)) [] := by
  refine spec_of_x (ct := []) cfgOK Tryd.func29 rfl rfl (Nat.le_of_ble_eq_true rfl) (by decide +kernel) (Nat.le_refl _) ?_
  conv => whnf
  refine ⟨_, _, check_spec l hl, ?_⟩
  conv => whnf
  refine ⟨_, _, fun _ => badls_c l hl m hm, ?_⟩
  conv => whnf
  exact ⟨rfl, trivial⟩

theorem badL_iff (n : Int) (x : Lim) : badL n x = (decide (x.clk < 0) || decide (n ≤ x.clk) || decide (x.low < 0) || decide (x.high < x.low) || decide (4000000000 < x.high)) := by
  unfold badL
  by_cases hg : (0 ≤ x.clk ∧ x.clk ≤ n - 1) ∧ (0 ≤ x.high ∧ x.high ≤ 4000000000) ∧ (0 ≤ x.low ∧ x.low ≤ x.high)
  · rw [(within_iff _ _ _).2 hg.1, (within_iff _ _ _).2 hg.2.1, (within_iff _ _ _).2 hg.2.2, decide_eq_false (show ¬ x.clk < 0 by omega), decide_eq_false (show ¬ n ≤ x.clk by omega), decide_eq_false (show ¬ x.low < 0 by omega), decide_eq_false (show ¬ x.high < x.low by omega), decide_eq_false (show ¬ 4000000000 < x.high by omega)]
    rfl
  · have h1 : (!withinF x.clk 0 (n - 1) || !withinF x.high 0 4000000000 || !withinF x.low 0 x.high) = true := by
      simp only [Bool.or_eq_true, Bool.not_eq_true', ← Bool.not_eq_true, within_iff]
      omega
    have h2 : (decide (x.clk < 0) || decide (n ≤ x.clk) || decide (x.low < 0) || decide (x.high < x.low) || decide (4000000000 < x.high)) = true := by
      simp only [Bool.or_eq_true, decide_eq_true_eq]
      omega
    rw [h1, h2]

theorem rlimits_spec (l : List Clk) (m : List Lim) (hl : l.length ≤ 1000000) : S 30 [clksV l, limsV m] [] (.bool (limsB l m)) [] := by
  refine spec_of_x (ct := []) cfgOK Tryd.func30 rfl rfl (Nat.le_of_ble_eq_true rfl) (by decide +kernel) (Nat.le_refl _) ?_
  conv => whnf
  refine ⟨_, _, rcheck_spec l hl, ?_⟩
  conv => whnf
  refine bcase_of (fun h => ?_) (fun h => ?_)
  · conv => whnf
    have h : (checkF l != 0 || decide (32 < (m.length : Int))) = true := h
    refine ⟨?_, trivial⟩
    show false = limsB l m
    unfold limsB
    cases hc : checkF l == 0 with
    | false => rfl
    | true =>
      rw [bne, hc] at h
      have h : 32 < (m.length : Int) := by simpa using h
      rw [decide_eq_false (show ¬ (m.length : Int) ≤ 32 by omega)]
      rfl
  · conv => whnf
    have h : (checkF l != 0 || decide (32 < (m.length : Int))) = false := h
    have hce : (checkF l == 0) = true ∧ (m.length : Int) ≤ 32 := by
      rw [Bool.or_eq_false_iff, bne] at h
      exact ⟨by simpa using h.1, by have := of_decide_eq_false h.2; omega⟩
    have hm32 := hce.2
    refine loops_intro (ct := []) cfgOK (by decide +kernel) (fun i : Nat => ⟨[(0, clksV l), (15, limsV m), (16, iV m.length), (17, iV i)], [], 1⟩) (fun i => i ≤ m.length ∧ ∀ j : Nat, j < i → badL l.length (m.getD j lim0) = false) (fun i => m.length - i) 0 [] ⟨Nat.zero_le _, fun j hj => absurd hj (Nat.not_lt_zero j)⟩ ⟨rfl, ⟨embV_le (.refl _) rfl, embV_le (.refl _) rfl, ⟨rfl, rfl⟩, ⟨rfl, rfl⟩, trivial⟩, trivial⟩ ?_
    intro i ⟨hi1, hi2⟩
    conv => whnf
    refine bcase_of (fun h2 => ?_) (fun h2 => ?_)
    · have hlt : i < m.length := by have := of_decide_eq_true h2; omega
      conv => whnf
      refine ⟨by omega, ?_⟩
      conv => whnf
      refine bcase_of (fun h3 => ?_) (fun h3 => ?_)
      · conv => whnf
        refine ⟨?_, trivial⟩
        show false = limsB l m
        have hb : badL l.length (m.getD i lim0) = true := by rw [badL_iff]; exact h3
        unfold limsB
        rw [any_true_get lim0 hlt hb]
        simp
      · conv => whnf
        have hb : badL l.length (m.getD i lim0) = false := by rw [badL_iff]; exact h3
        refine ⟨by unfold InI64; omega, ?_⟩
        conv => whnf
        refine ⟨i + 1, [], ⟨hlt, fun j hj => ?_⟩, by omega, ⟨rfl, ⟨embV_le (.refl _) rfl, embV_le (.refl _) rfl, ⟨rfl, rfl⟩, ⟨rfl, by simp⟩, trivial⟩, trivial⟩⟩
        by_cases hji : j = i
        · subst hji; exact hb
        · exact hi2 j (by omega)
    · have hil : i = m.length := by have := of_decide_eq_false h2; omega
      subst hil
      conv => whnf
      refine ⟨?_, trivial⟩
      show true = limsB l m
      unfold limsB
      rw [hce.1, decide_eq_true hce.2, any_none lim0 hi2]
      rfl

/-- A clock whose parent can be told for a choice. -/
def PChOK (c : Clk) (k : Int) : Prop := (c.kind = 1) ∨ (c.kind = 4 ∧ 0 ≤ k ∧ k < c.ch.length ∧ 0 ≤ c.ch.getD k.toNat 0 ∧ c.ch.getD k.toNat 0 < c.par.length) ∨ (c.kind ≠ 4 ∧ 0 < c.par.length)

def parF (c : Clk) (k : Int) : Int := bif c.kind == 1 then -1 else bif c.kind == 4 then c.par.getD (c.ch.getD k.toNat 0).toNat 0 else c.par.getD 0 0

theorem rparent_spec (c : Clk) (k : Int) (h : PChOK c k) : S 47 [clkV c, iV k] [] (iV (parF c k)) [] := by
  refine spec_of_x (ct := []) cfgOK Tryd.func47 rfl rfl (Nat.le_of_ble_eq_true rfl) (by decide +kernel) (Nat.le_refl _) ?_
  conv => whnf
  refine bcase_of (fun h1 => ?_) (fun h1 => ?_)
  · conv => whnf
    refine ⟨⟨rfl, ?_⟩, trivial⟩
    unfold parF
    rw [h1]
    rfl
  · conv => whnf
    have n1 : c.kind ≠ 1 := by simpa using h1
    refine bcase_of (fun h4 => ?_) (fun h4 => ?_)
    · conv => whnf
      have n4 : c.kind = 4 := by simpa using h4
      have hh : 0 ≤ k ∧ k < c.ch.length ∧ 0 ≤ c.ch.getD k.toNat 0 ∧ c.ch.getD k.toNat 0 < c.par.length := by
        rcases h with h | h | h
        · exact absurd h n1
        · exact h.2
        · exact absurd n4 h.1
      refine ⟨⟨hh.1, hh.2.1⟩, ?_⟩
      conv => whnf
      refine ⟨hh.2.2, ?_⟩
      conv => whnf
      refine ⟨⟨rfl, ?_⟩, trivial⟩
      unfold parF
      rw [h1, h4]
      rfl
    · conv => whnf
      have n4 : c.kind ≠ 4 := by simpa using h4
      have hh : 0 < c.par.length := by
        rcases h with h | h | h
        · exact absurd h n1
        · exact absurd h.1 n4
        · exact h.2
      refine ⟨by omega, ?_⟩
      conv => whnf
      refine ⟨⟨rfl, ?_⟩, trivial⟩
      unfold parF
      rw [h1, h4]
      rfl

theorem parent_spec (l : List Clk) (s : List Int) (i : Nat) (hi : i < l.length) (his : i < s.length) (h : PChOK (l.getD i clk0) (s.getD i 0)) : S 60 [clksV l, intsV s, iV i] [] (iV (parF (l.getD i clk0) (s.getD i 0))) [] := by
  refine spec_of_x (ct := []) cfgOK Tryd.func60 rfl rfl (Nat.le_of_ble_eq_true rfl) (by decide +kernel) (Nat.le_refl _) ?_
  conv => whnf
  refine ⟨by omega, ?_⟩
  conv => whnf
  refine bcase_of (fun h1 => ?_) (fun h1 => ?_)
  · conv => whnf
    refine ⟨⟨rfl, ?_⟩, trivial⟩
    have h1 : ((l.getD i clk0).kind == 1) = true := h1
    unfold parF
    rw [h1]
    rfl
  · conv => whnf
    have h1 : ((l.getD i clk0).kind == 1) = false := h1
    have n1 : (l.getD i clk0).kind ≠ 1 := fun e => by rw [e] at h1; cases h1
    refine bcase_of (fun h4 => ?_) (fun h4 => ?_)
    · conv => whnf
      have h4 : ((l.getD i clk0).kind == 4) = true := h4
      have n4 : (l.getD i clk0).kind = 4 := eq_of_beq h4
      have hh : 0 ≤ s.getD i 0 ∧ s.getD i 0 < (l.getD i clk0).ch.length ∧ 0 ≤ (l.getD i clk0).ch.getD (s.getD i 0).toNat 0 ∧ (l.getD i clk0).ch.getD (s.getD i 0).toNat 0 < (l.getD i clk0).par.length := by
        rcases h with h | h | h
        · exact absurd h n1
        · exact h.2
        · exact absurd n4 h.1
      refine ⟨by omega, ?_⟩
      conv => whnf
      refine ⟨⟨hh.1, hh.2.1⟩, ?_⟩
      conv => whnf
      refine ⟨hh.2.2, ?_⟩
      conv => whnf
      refine ⟨⟨rfl, ?_⟩, trivial⟩
      unfold parF
      rw [h1, h4]
      rfl
    · conv => whnf
      have h4 : ((l.getD i clk0).kind == 4) = false := h4
      have n4 : (l.getD i clk0).kind ≠ 4 := fun e => by rw [e] at h4; cases h4
      have hh : 0 < (l.getD i clk0).par.length := by
        rcases h with h | h | h
        · exact absurd h n1
        · exact absurd h.1 n4
        · exact h.2
      refine ⟨⟨by omega, by show (0 : Int) < ((l.getD i clk0).par.length : Int); omega⟩, ?_⟩
      conv => whnf
      refine ⟨⟨rfl, ?_⟩, trivial⟩
      unfold parF
      rw [h1, h4]
      rfl

end Go.Proofs.YtjmhlbogkeohpaaDoor

namespace Go.Proofs.YtjmhlbogkeohpaaDoor
open Go.Ab
set_option maxRecDepth 100000

def offR : Rt := ⟨0, 1⟩
def isOff (r : Rt) : Bool := (r.num == 0) && ((r.den == 1) && true)
def rt1 (acc : List Rt) (c : Clk) (k : Int) : Rt :=
  bif decide (parF c k < 0) then ⟨c.ch.getD k.toNat 0, 1⟩ else
  bif isOff (acc.getD (parF c k).toNat rt0) || ((c.kind == 5) && (c.ch.getD k.toNat 0 == 0)) then offR else
  bif c.kind == 2 then (overR (acc.getD (parF c k).toNat rt0) (c.ch.getD k.toNat 0)).1 else
  bif c.kind == 3 then (timesR (acc.getD (parF c k).toNat rt0) (c.ch.getD k.toNat 0)).1 else acc.getD (parF c k).toNat rt0

def ratesN (l : List Clk) (s : List Int) : Nat → List Rt
  | 0 => []
  | i + 1 => ratesN l s i ++ [rt1 (ratesN l s i) (l.getD i clk0) (s.getD i 0)]
def ratesF (l : List Clk) (s : List Int) : List Rt := ratesN l s l.length

theorem ratesN_len (l : List Clk) (s : List Int) (i : Nat) : (ratesN l s i).length = i := by
  induction i with
  | zero => rfl
  | succ i ih => simp [ratesN, ih]

/-- Clocks with a setting whose parents can be told. -/
structure Good (l : List Clk) (s : List Int) : Prop where
  small : l.length ≤ 1000
  len : s.length = l.length
  ch : ∀ i, i < l.length → 0 ≤ s.getD i 0 ∧ s.getD i 0 < (l.getD i clk0).ch.length
  pch : ∀ i, i < l.length → PChOK (l.getD i clk0) (s.getD i 0)
  par : ∀ i, i < l.length → parF (l.getD i clk0) (s.getD i 0) < i

theorem rates_spec (l : List Clk) (s : List Int) (h : Good l s) : S 41 [clksV l, intsV s] [] (rtsV (ratesF l s)) [] := by
  refine spec_of_x (ct := []) cfgOK Tryd.func41 rfl rfl (Nat.le_of_ble_eq_true rfl) (by decide +kernel) (Nat.le_refl _) ?_
  have hsm := h.small
  have hsl := h.len
  conv => whnf
  refine ⟨⟨by omega, by show (l.length : Int) * 16 ≤ 140737488355328; omega⟩, ?_⟩
  conv => whnf
  refine loops_intro (ct := []) cfgOK (by decide +kernel) (fun i : Nat => ⟨[(0, clksV l), (1, intsV s), (5, .osl 0 0 l.length true), (13, clksV l), (14, iV l.length), (15, iV i)], [(0, some (.row 2 l.length (rowG rtV rt0 (ratesN l s i ++ List.replicate (l.length - i) rt0))))], 1⟩)
    (fun i => i ≤ l.length) (fun i => l.length - i) 0 [(0, some 3)] (Nat.zero_le _)
    ⟨rfl, ⟨embV_le (.refl _) rfl, embV_le (.refl _) rfl, ⟨rfl, rfl, rfl, rfl, id⟩, embV_le (.refl _) rfl, ⟨rfl, rfl⟩, ⟨rfl, rfl⟩, trivial⟩, ⟨⟨rfl, rfl, fun k hk => ?_⟩, trivial⟩⟩ ?_
  · have e : rowG rtV rt0 (ratesN l s 0 ++ List.replicate (l.length - 0) rt0) k = rtV rt0 := by
      unfold rowG
      congr 1
      show (List.replicate (l.length - 0) rt0).getD k rt0 = rt0
      rw [List.getD_eq_getElem?_getD, List.getElem?_replicate]
      split <;> rfl
    rw [e]
    exact .refl _
  intro i hi
  conv => whnf
  refine bcase_of (fun h2 => ?_) (fun h2 => ?_)
  · have hlt : i < l.length := by have := of_decide_eq_true h2; omega
    have hch := h.ch i hlt
    have hpar := h.par i hlt
    have hrl := ratesN_len l s i
    have hrep : List.replicate (l.length - i) rt0 = rt0 :: List.replicate (l.length - i - 1) rt0 := by
      rw [show l.length - i = (l.length - i - 1) + 1 by omega]
      rfl
    conv => whnf
    refine ⟨by omega, ?_⟩
    conv => whnf
    refine ⟨by omega, ?_⟩
    conv => whnf
    refine ⟨hch, ?_⟩
    conv => whnf
    refine ⟨_, _, parent_spec l s i hlt (by omega) (h.pch i hlt), ?_⟩
    conv => whnf
    have key : ∀ v, rt1 (ratesN l s i) (l.getD i clk0) (s.getD i 0) = v → ∀ k, Le (setG (rowG rtV rt0 (ratesN l s i ++ List.replicate (l.length - i) rt0)) i (rtV v) k) (rowG rtV rt0 (ratesN l s (i + 1) ++ List.replicate (l.length - (i + 1)) rt0) k) := by
      intro v e k
      have e2 : ratesN l s (i + 1) ++ List.replicate (l.length - (i + 1)) rt0 = ratesN l s i ++ v :: List.replicate (l.length - i - 1) rt0 := by
        rw [ratesN, e, List.append_assoc]
        rfl
      rw [e2, hrep]
      exact le_setG hrl.symm k
    refine bcase_of (fun p1 => ?_) (fun p1 => ?_)
    · conv => whnf
      refine ⟨by omega, ?_⟩
      conv => whnf
      refine ⟨by unfold InI64; omega, ?_⟩
      conv => whnf
      exact ⟨i + 1, [], hlt, by omega, ⟨rfl, ⟨embV_le (.refl _) rfl, embV_le (.refl _) rfl, ⟨rfl, rfl, rfl, rfl, id⟩, embV_le (.refl _) rfl, ⟨rfl, rfl⟩, ⟨rfl, by simp⟩, trivial⟩, ⟨⟨rfl, rfl, fun k _ => key ⟨(l.getD i clk0).ch.getD (s.getD i 0).toNat 0, 1⟩ (by unfold rt1; rw [p1]; rfl) k⟩, trivial⟩⟩⟩
    · conv => whnf
      have hp0 : ¬ parF (l.getD i clk0) (s.getD i 0) < 0 := of_decide_eq_false p1
      have hget : (ratesN l s i ++ List.replicate (l.length - i) rt0).getD (parF (l.getD i clk0) (s.getD i 0)).toNat rt0 = (ratesN l s i).getD (parF (l.getD i clk0) (s.getD i 0)).toNat rt0 := getD_app_l _ (by omega)
      refine ⟨by omega, ?_⟩
      conv => whnf
      refine bcase_of (fun p2 => ?_) (fun p2 => ?_)
      · conv => whnf
        have p2 : (isOff ((ratesN l s i ++ List.replicate (l.length - i) rt0).getD (parF (l.getD i clk0) (s.getD i 0)).toNat rt0) || (((l.getD i clk0).kind == 5) && ((l.getD i clk0).ch.getD (s.getD i 0).toNat 0 == 0))) = true := p2
        rw [hget] at p2
        refine ⟨by omega, ?_⟩
        conv => whnf
        refine ⟨by unfold InI64; omega, ?_⟩
        conv => whnf
        exact ⟨i + 1, [], hlt, by omega, ⟨rfl, ⟨embV_le (.refl _) rfl, embV_le (.refl _) rfl, ⟨rfl, rfl, rfl, rfl, id⟩, embV_le (.refl _) rfl, ⟨rfl, rfl⟩, ⟨rfl, by simp⟩, trivial⟩, ⟨⟨rfl, rfl, fun k _ => key offR (by unfold rt1; rw [p1, p2]; rfl) k⟩, trivial⟩⟩⟩
      · conv => whnf
        have p2 : (isOff ((ratesN l s i ++ List.replicate (l.length - i) rt0).getD (parF (l.getD i clk0) (s.getD i 0)).toNat rt0) || (((l.getD i clk0).kind == 5) && ((l.getD i clk0).ch.getD (s.getD i 0).toNat 0 == 0))) = false := p2
        rw [hget] at p2
        refine bcase_of (fun p3 => ?_) (fun p3 => ?_)
        · conv => whnf
          refine ⟨by omega, ?_⟩
          conv => whnf
          refine ⟨_, _, over_spec _ _, ?_⟩
          conv => whnf
          refine ⟨by omega, ?_⟩
          conv => whnf
          have p3 : ((l.getD i clk0).kind == 2) = true := p3
          refine ⟨by unfold InI64; omega, ?_⟩
          conv => whnf
          exact ⟨i + 1, [], hlt, by omega, ⟨rfl, ⟨embV_le (.refl _) rfl, embV_le (.refl _) rfl, ⟨rfl, rfl, rfl, rfl, id⟩, embV_le (.refl _) rfl, ⟨rfl, rfl⟩, ⟨rfl, by simp⟩, trivial⟩, ⟨⟨rfl, rfl, fun k _ => key _ (by unfold rt1; rw [p1, p2, p3, ← hget]; rfl) k⟩, trivial⟩⟩⟩
        · conv => whnf
          have p3 : ((l.getD i clk0).kind == 2) = false := p3
          refine bcase_of (fun p4 => ?_) (fun p4 => ?_)
          · conv => whnf
            refine ⟨by omega, ?_⟩
            conv => whnf
            refine ⟨_, _, times_spec _ _, ?_⟩
            conv => whnf
            refine ⟨by omega, ?_⟩
            conv => whnf
            have p4 : ((l.getD i clk0).kind == 3) = true := p4
            refine ⟨by unfold InI64; omega, ?_⟩
            conv => whnf
            exact ⟨i + 1, [], hlt, by omega, ⟨rfl, ⟨embV_le (.refl _) rfl, embV_le (.refl _) rfl, ⟨rfl, rfl, rfl, rfl, id⟩, embV_le (.refl _) rfl, ⟨rfl, rfl⟩, ⟨rfl, by simp⟩, trivial⟩, ⟨⟨rfl, rfl, fun k _ => key _ (by unfold rt1; rw [p1, p2, p3, p4, ← hget]; rfl) k⟩, trivial⟩⟩⟩
          · conv => whnf
            have p4 : ((l.getD i clk0).kind == 3) = false := p4
            refine ⟨by omega, ?_⟩
            conv => whnf
            refine ⟨by omega, ?_⟩
            conv => whnf
            refine ⟨by unfold InI64; omega, ?_⟩
            conv => whnf
            exact ⟨i + 1, [], hlt, by omega, ⟨rfl, ⟨embV_le (.refl _) rfl, embV_le (.refl _) rfl, ⟨rfl, rfl, rfl, rfl, id⟩, embV_le (.refl _) rfl, ⟨rfl, rfl⟩, ⟨rfl, by simp⟩, trivial⟩, ⟨⟨rfl, rfl, fun k _ => key _ (by unfold rt1; rw [p1, p2, p3, p4, ← hget]; rfl) k⟩, trivial⟩⟩⟩
  · have hil : i = l.length := by have := of_decide_eq_false h2; omega
    subst hil
    conv => whnf
    refine ⟨embV_le (le_row (ratesN_len l s l.length).symm fun k hk => ?_) rfl, trivial⟩
    rw [Nat.sub_self]
    show rtV ((ratesN l s l.length ++ []).getD k rt0) = _
    rw [List.append_nil]
    rfl

end Go.Proofs.YtjmhlbogkeohpaaDoor

namespace Go.Proofs.YtjmhlbogkeohpaaDoor
open Go.Ab
set_option maxRecDepth 100000

theorem diffG_all {lo hi : Int} : ∀ (l pre : List Int), diffG lo hi pre l = true → ∀ x ∈ l, lo ≤ x ∧ x ≤ hi := by
  intro l
  induction l with
  | nil => intro _ _ x hx; cases hx
  | cons n r ih =>
    intro pre h x hx
    cases hb : (!(withinF n lo hi) || pre.contains n) with
    | true => rw [diffG_f hb] at h; cases h
    | false =>
      rw [diffG_t hb] at h
      rcases List.mem_cons.1 hx with rfl | hx
      · rw [Bool.or_eq_false_iff] at hb
        have := hb.1
        simp only [Bool.not_eq_false'] at this
        exact (within_iff _ _ _).1 this
      · exact ih _ h x hx

theorem choicesB_cases {c : Clk} (h : choicesB c = true) :
    (c.kind = 1 ∧ c.par = [] ∧ c.ch.length = 1 ∧ 1 ≤ c.ch.getD 0 0 ∧ c.ch.getD 0 0 ≤ 4000000000) ∨ ((c.kind = 2 ∨ c.kind = 3) ∧ c.par.length = 1 ∧ 0 < c.ch.length ∧ ∀ x ∈ c.ch, 1 ≤ x ∧ x ≤ 64)
    ∨ (c.kind = 4 ∧ 0 < c.ch.length ∧ ∀ x ∈ c.ch, 0 ≤ x ∧ x ≤ (c.par.length : Int) - 1) ∨ (c.kind = 5 ∧ c.par.length = 1 ∧ c.ch = [0, 1]) := by
  unfold choicesB at h
  cases h1 : c.kind == 1 with
  | true =>
    rw [h1] at h
    simp only [cond_true, Bool.and_eq_true, within_iff] at h
    obtain ⟨⟨h2, h3⟩, h4⟩ := h
    left
    have h2 : c.par.length = 0 := by have := eq_of_beq h2; omega
    exact ⟨eq_of_beq h1, List.length_eq_zero_iff.1 h2, by have := eq_of_beq h3; omega, h4⟩
  | false =>
    rw [h1] at h
    cases h2 : (c.kind == 2 || c.kind == 3) with
    | true =>
      rw [h2] at h
      simp only [cond_true, cond_false, Bool.and_eq_true] at h
      obtain ⟨⟨h3, h4⟩, h5⟩ := h
      right; left
      refine ⟨?_, by have := eq_of_beq h3; omega, by have := of_decide_eq_true h4; omega, diffG_all _ _ h5⟩
      rw [Bool.or_eq_true] at h2
      exact h2.imp eq_of_beq eq_of_beq
    | false =>
      rw [h2] at h
      cases h3 : c.kind == 4 with
      | true =>
        rw [h3] at h
        simp only [cond_true, cond_false, Bool.and_eq_true] at h
        right; right; left
        exact ⟨eq_of_beq h3, by have := of_decide_eq_true h.1; omega, diffG_all _ _ h.2⟩
      | false =>
        rw [h3] at h
        cases h4 : c.kind == 5 with
        | true =>
          rw [h4] at h
          simp only [cond_true, cond_false, Bool.and_eq_true] at h
          right; right; right
          exact ⟨eq_of_beq h4, by have := eq_of_beq h.1; omega, eq_of_beq h.2⟩
        | false => rw [h4] at h; cases h

/-- Clocks without an error. -/
structure Fine (l : List Clk) : Prop where
  len : l.length ≤ 16
  big : ∀ i : Nat, i < l.length → (l.getD i clk0).par.length ≤ 8 ∧ (l.getD i clk0).ch.length ≤ 8
  valid : ∀ i : Nat, i < l.length → validC (l.getD i clk0) i = true
  prod : prodC l ≤ 4096
  facs : ∀ i : Nat, i < l.length → (facs l).getD i 0 ≤ 4

theorem fine_of {l : List Clk} (h : checkF l = 0) : Fine l := by
  unfold checkF at h
  cases h1 : (decide (16 < (l.length : Int)) || l.any bigC) with
  | true => rw [h1] at h; cases h
  | false =>
    rw [h1] at h
    cases h2 : allV l with
    | false => rw [h2] at h; cases h
    | true =>
      rw [h2] at h
      cases h3 : (decide (4096 < prodC l) || (facs l).any (fun n => decide (4 < n))) with
      | true => rw [h3] at h; cases h
      | false =>
        rw [Bool.or_eq_false_iff] at h1 h3
        refine ⟨by have := of_decide_eq_false h1.1; omega, fun i hi => bigC_len (any_false_get clk0 h1.2 i hi), allV_get h2, by have := of_decide_eq_false h3.1; omega, fun i hi => ?_⟩
        have := any_false_get 0 h3.2 i (by rw [(facs_len_bound l).1]; exact hi)
        have := of_decide_eq_false this
        omega

theorem of_fine {l : List Clk} (h : Fine l) : checkF l = 0 := by
  unfold checkF
  have h1 : l.any bigC = false := any_none clk0 fun i hi => by
    have := h.big i hi
    unfold bigC
    rw [decide_eq_false (by omega), decide_eq_false (by omega)]
    rfl
  have h2 : (facs l).any (fun n => decide (4 < n)) = false := any_none 0 fun i hi => by
    have := h.facs i (by rw [(facs_len_bound l).1] at hi; exact hi)
    exact decide_eq_false (by omega)
  have := h.len
  have := h.prod
  rw [h1, allV_true h.valid, h2, decide_eq_false (by omega), decide_eq_false (by omega)]
  rfl

theorem chOK_fine {l : List Clk} (h : Fine l) : ChOK l := fun i hi => by have := h.big i hi; omega

theorem sett_get {l : List Clk} {s : List Int} (h : settB l s = true) : s.length = l.length ∧ ∀ i : Nat, i < l.length → 0 ≤ s.getD i 0 ∧ s.getD i 0 < (l.getD i clk0).ch.length := by
  unfold settB at h
  rw [Bool.and_eq_true] at h
  have hl : s.length = l.length := by have := eq_of_beq h.1; omega
  refine ⟨hl, fun i hi => ?_⟩
  have := h.2
  rw [List.all_eq_true] at this
  have := this i (List.mem_range.2 (by omega))
  have := (within_iff _ _ _).1 this
  omega

theorem par_fine {c : Clk} {i : Nat} {k : Int} (hv : validC c i = true) (hk : 0 ≤ k ∧ k < c.ch.length) : PChOK c k ∧ parF c k < i := by
  have hp := validC_par hv
  unfold PChOK parF
  rcases choicesB_cases (validC_choices hv) with ⟨h1, h2, h3, h4⟩ | ⟨h1, h2, h3, h4⟩ | ⟨h1, h2, h3⟩ | ⟨h1, h2, h3⟩
  · refine ⟨.inl h1, ?_⟩
    rw [h1]
    show (-1 : Int) < i
    omega
  · have hn1 : (c.kind == 1) = false := by rcases h1 with h1 | h1 <;> rw [h1] <;> rfl
    have hn4 : (c.kind == 4) = false := by rcases h1 with h1 | h1 <;> rw [h1] <;> rfl
    refine ⟨.inr (.inr ⟨fun e => (by rw [e] at hn4; cases hn4), by omega⟩), ?_⟩
    rw [hn1, hn4]
    exact (hp _ (getD_mem 0 (by omega))).2
  · have hm := h3 _ (getD_mem 0 (i := k.toNat) (by omega))
    refine ⟨.inr (.inl ⟨h1, hk.1, hk.2, hm.1, by omega⟩), ?_⟩
    rw [h1]
    exact (hp _ (getD_mem 0 (i := (c.ch.getD k.toNat 0).toNat) (by omega))).2
  · refine ⟨.inr (.inr ⟨by rw [h1]; decide, by omega⟩), ?_⟩
    rw [h1]
    exact (hp _ (getD_mem 0 (i := 0) (by omega))).2

theorem good_of {l : List Clk} {s : List Int} (h : Fine l) (hs : settB l s = true) : Good l s := by
  obtain ⟨h1, h2⟩ := sett_get hs
  exact ⟨by have := h.len; omega, h1, h2, fun i hi => (par_fine (h.valid i hi) (h2 i hi)).1, fun i hi => (par_fine (h.valid i hi) (h2 i hi)).2⟩

def ratesE (l : List Clk) (s : List Int) : List Rt × Int := bif checkF l != 0 then ([], checkF l) else bif !settB l s then ([], 1) else (ratesF l s, 0)

theorem rates_all_spec (l : List Clk) (s : List Int) (hl : l.length ≤ 1000000) : S 18 [clksV l, intsV s] [] (.tup [rtsV (ratesE l s).1, iV (ratesE l s).2]) [] := by
  refine spec_of_x (ct := []) cfgOK Tryd.func18 rfl rfl (Nat.le_of_ble_eq_true rfl) (by decide +kernel) (Nat.le_refl _) ?_
  conv => whnf
  refine ⟨_, _, check_spec l hl, ?_⟩
  conv => whnf
  refine bcase_of (fun h => ?_) (fun h => ?_)
  · have h : (checkF l != 0) = true := h
    have e : ratesE l s = ([], checkF l) := by unfold ratesE; rw [h]; rfl
    rw [e]
    conv => whnf
    exact ⟨⟨embV_le le_nil rfl, ⟨rfl, rfl⟩, trivial⟩, trivial⟩
  · have h : (checkF l != 0) = false := h
    have hf := fine_of (l := l) (by simpa using h)
    conv => whnf
    refine ⟨_, _, setting_spec l s hl (chOK_fine hf), ?_⟩
    conv => whnf
    refine bcase_of (fun h2 => ?_) (fun h2 => ?_)
    · have h2 : (!settB l s) = true := h2
      have e : ratesE l s = ([], 1) := by unfold ratesE; rw [h, h2]; rfl
      rw [e]
      conv => whnf
      exact ⟨⟨embV_le le_nil rfl, ⟨rfl, rfl⟩, trivial⟩, trivial⟩
    · have h2 : (!settB l s) = false := h2
      have e : ratesE l s = (ratesF l s, 0) := by unfold ratesE; rw [h, h2]; rfl
      rw [e]
      conv => whnf
      refine ⟨_, _, rates_spec l s (good_of hf (by simpa using h2)), ?_⟩
      conv => whnf
      exact ⟨⟨embV_le (.refl _) rfl, ⟨rfl, rfl⟩, trivial⟩, trivial⟩

def offL (r : List Rt) (x : Lim) : Bool := isOff (r.getD x.clk.toNat rt0) || !withinR (r.getD x.clk.toNat rt0) x.low x.high

theorem meets1_spec (r : List Rt) (x : Lim) (hx : 0 ≤ x.clk ∧ x.clk < r.length) : S 44 [limV x, .ro [rtsV r]] [] (.bool (offL r x)) [] := by
  refine spec_of_x (ct := []) cfgOK Tryd.func44 rfl rfl (Nat.le_of_ble_eq_true rfl) (by decide +kernel) (Nat.le_refl _) ?_
  conv => whnf
  refine ⟨hx, ?_⟩
  conv => whnf
  refine ⟨fun _ => hx, ?_⟩
  conv => whnf
  refine ⟨_, _, fun _ => withinr_spec (r.getD x.clk.toNat rt0) x.low x.high, ?_⟩
  conv => whnf
  exact ⟨rfl, trivial⟩

theorem offs_i (r : List Rt) (l : List Lim) (hl : l.length ≤ 1000000) (hx : ∀ i, i < l.length → 0 ≤ (l.getD i lim0).clk ∧ (l.getD i lim0).clk < r.length) : S 65 [limsV l, .fn 44 [.ro [rtsV r]]] [] (iV (idxP (offL r) l 0)) [] := by
  refine spec_of_x (ct := []) cfgOK Tryd.func65 rfl rfl (Nat.le_of_ble_eq_true rfl) (by decide +kernel) (Nat.le_refl _) ?_
  conv => whnf
  refine loops_intro (ct := []) cfgOK (by decide +kernel) (fun i : Nat => ⟨[(0, limsV l), (1, .fn 44 [.ro [rtsV r]]), (7, iV l.length), (8, iV i)], [], 1⟩) (fun i => i ≤ l.length ∧ idxP (offL r) (l.drop i) i = idxP (offL r) l 0) (fun i => l.length - i) 0 [] ⟨Nat.zero_le _, rfl⟩ ⟨rfl, ⟨embV_leV (.refl _) rfl (by simp [AV.cells, limsV]), ⟨rfl, LeL.refl _, trivial⟩, ⟨rfl, rfl⟩, ⟨rfl, rfl⟩, trivial⟩, trivial⟩ ?_
  intro i ⟨hi1, hi2⟩
  conv => whnf
  refine bcase_of (fun h => ?_) (fun h => ?_)
  · have h := of_decide_eq_true h
    have hlt : i < l.length := by omega
    rw [drop_cons lim0 hlt] at hi2
    conv => whnf
    refine ⟨by omega, ?_⟩
    conv => whnf
    refine ⟨_, _, meets1_spec r (l.getD i lim0) (hx i hlt), ?_⟩
    conv => whnf
    refine bcase_of (fun h2 => ?_) (fun h2 => ?_)
    · conv => whnf
      have h2 : (offL r) (l.getD i lim0) = true := h2
      refine ⟨⟨rfl, ?_⟩, trivial⟩
      exact (idxP_t (p := (offL r)) (y := l.getD i lim0) h2).symm.trans hi2
    · conv => whnf
      have h2 : (offL r) (l.getD i lim0) = false := h2
      refine ⟨by unfold InI64; omega, ?_⟩
      conv => whnf
      refine ⟨i + 1, [], ⟨by omega, ?_⟩, by omega, ⟨rfl, ⟨embV_leV (.refl _) rfl (by simp [AV.cells, limsV]), ⟨rfl, LeL.refl _, trivial⟩, ⟨rfl, rfl⟩, ⟨rfl, by simp⟩, trivial⟩, trivial⟩⟩
      exact (idxP_f (p := (offL r)) (y := l.getD i lim0) h2).symm.trans hi2
  · have h := of_decide_eq_false h
    conv => whnf
    refine ⟨⟨rfl, ?_⟩, trivial⟩
    rw [← hi2, List.drop_eq_nil_of_le (by omega)]
    rfl

theorem offs_c (r : List Rt) (l : List Lim) (hl : l.length ≤ 1000000) (hx : ∀ i, i < l.length → 0 ≤ (l.getD i lim0).clk ∧ (l.getD i lim0).clk < r.length) : S 43 [limsV l, .fn 44 [.ro [rtsV r]]] [] (.bool (l.any (offL r))) [] := by
  refine spec_of_x (ct := []) cfgOK Tryd.func43 rfl rfl (Nat.le_of_ble_eq_true rfl) (by decide +kernel) (Nat.le_refl _) ?_
  conv => whnf
  refine ⟨_, _, offs_i r l hl hx, ?_⟩
  conv => whnf
  refine ⟨?_, trivial⟩
  show decide _ = _
  rw [idxP_any]



def ownX (r : Rt) (c : Clk) : Bool := ((!isOff r) && (c.high != 0)) && !withinR r c.low c.high
def ownB (l : List Clk) (r : List Rt) : Bool := (List.range l.length).all fun i => !ownX (r.getD i rt0) (l.getD i clk0)
def meetsF (l : List Clk) (s : List Int) (m : List Lim) : Bool := (limsB l m && settB l s) && (ownB l (ratesF l s) && !m.any (offL (ratesF l s)))

theorem lims_get {l : List Clk} {m : List Lim} (h : limsB l m = true) : checkF l = 0 ∧ m.length ≤ 32 ∧ ∀ i, i < m.length → badL l.length (m.getD i lim0) = false := by
  unfold limsB at h
  rw [Bool.and_eq_true, Bool.and_eq_true] at h
  exact ⟨eq_of_beq h.1.1, by have := of_decide_eq_true h.1.2; omega, fun i hi => any_false_get lim0 (by simpa using h.2) i hi⟩

theorem badL_get {n : Int} {x : Lim} (h : badL n x = false) : (0 ≤ x.clk ∧ x.clk < n) ∧ 0 ≤ x.low ∧ x.low ≤ x.high ∧ x.high ≤ 4000000000 := by
  rw [badL_iff] at h
  simp only [Bool.or_eq_false_iff, decide_eq_false_iff_not] at h
  omega

theorem meets_spec (l : List Clk) (s : List Int) (m : List Lim) (hl : l.length ≤ 1000000) (hm : m.length ≤ 1000000) (hc : ChOK l) : S 11 [clksV l, intsV s, limsV m] [] (.bool (meetsF l s m)) [] := by
  refine spec_of_x (ct := []) cfgOK Tryd.func11 rfl rfl (Nat.le_of_ble_eq_true rfl) (by decide +kernel) (Nat.le_refl _) ?_
  conv => whnf
  refine ⟨_, _, limits_spec l m hl hm, ?_⟩
  conv => whnf
  refine ⟨_, _, fun _ => setting_spec l s hl hc, ?_⟩
  conv => whnf
  refine bcase_of (fun h => ?_) (fun h => ?_)
  · conv => whnf
    have h : (!limsB l m || !settB l s) = true := h
    refine ⟨?_, trivial⟩
    show false = meetsF l s m
    unfold meetsF
    have : (limsB l m && settB l s) = false := by
      cases h1 : limsB l m <;> cases h2 : settB l s <;> rw [h1, h2] at h <;> first | rfl | cases h
    rw [this]
    rfl
  · conv => whnf
    have h : (!limsB l m || !settB l s) = false := h
    rw [Bool.or_eq_false_iff] at h
    have hlm : limsB l m = true := by simpa using h.1
    have hst : settB l s = true := by simpa using h.2
    obtain ⟨h0, h32, hbad⟩ := lims_get hlm
    have hg := good_of (fine_of h0) hst
    have hsm := hg.small
    have hrl := ratesN_len l s l.length
    have hme : meetsF l s m = (ownB l (ratesF l s) && !m.any (offL (ratesF l s))) := by unfold meetsF; rw [hlm, hst]; rfl
    rw [hme]
    refine ⟨_, _, rates_spec l s hg, ?_⟩
    conv => whnf
    refine loops_intro (ct := []) cfgOK (by decide +kernel) (fun i : Nat => ⟨[(2, limsV m), (7, .ptr 0 0 0), (23, clksV l), (24, iV l.length), (25, iV i)], [(0, some (.box [rtsV (ratesF l s)]))], 1⟩)
      (fun i => i ≤ l.length ∧ ∀ j : Nat, j < i → (!ownX ((ratesF l s).getD j rt0) (l.getD j clk0)) = true) (fun i => l.length - i) 0 [(0, some 14)] ⟨Nat.zero_le _, fun j hj => absurd hj (Nat.not_lt_zero j)⟩
      ⟨rfl, ⟨embV_le (.refl _) rfl, ⟨rfl, rfl, rfl, rfl⟩, embV_le (.refl _) rfl, ⟨rfl, rfl⟩, ⟨rfl, rfl⟩, trivial⟩, ⟨embO_le (LeL.refl _) rfl (Nat.lt_of_sub_pos (by exact Nat.zero_lt_succ _)), trivial⟩⟩ ?_
    intro i ⟨hi1, hi2⟩
    conv => whnf
    refine bcase_of (fun h2 => ?_) (fun h2 => ?_)
    · have hlt : i < l.length := by have := of_decide_eq_true h2; omega
      conv => whnf
      refine ⟨by omega, ?_⟩
      conv => whnf
      refine ⟨⟨by omega, by show (i : Int) < ((ratesN l s l.length).length : Int); omega⟩, ?_⟩
      conv => whnf
      refine ⟨fun _ => ⟨by omega, by show (i : Int) < ((ratesN l s l.length).length : Int); omega⟩, ?_⟩
      conv => whnf
      refine ⟨_, _, fun _ => withinr_spec ((ratesF l s).getD i rt0) (l.getD i clk0).low (l.getD i clk0).high, ?_⟩
      conv => whnf
      refine bcase_of (fun h3 => ?_) (fun h3 => ?_)
      · conv => whnf
        have h3 : ownX ((ratesF l s).getD i rt0) (l.getD i clk0) = true := h3
        refine ⟨?_, trivial⟩
        show false = (ownB l (ratesF l s) && _)
        unfold ownB
        rw [rangeAll_false (i := i) hlt (by rw [h3]; rfl)]
        rfl
      · conv => whnf
        have h3 : ownX ((ratesF l s).getD i rt0) (l.getD i clk0) = false := h3
        refine ⟨by unfold InI64; omega, ?_⟩
        conv => whnf
        refine ⟨i + 1, [], ⟨hlt, fun j hj => ?_⟩, by omega, ⟨rfl, ⟨embV_le (.refl _) rfl, ⟨rfl, rfl, rfl, rfl⟩, embV_le (.refl _) rfl, ⟨rfl, rfl⟩, ⟨rfl, by simp⟩, trivial⟩, ⟨embO_le (LeL.refl _) rfl (Nat.lt_of_sub_pos (by exact Nat.zero_lt_succ _)), trivial⟩⟩⟩
        by_cases hji : j = i
        · subst hji; rw [h3]; rfl
        · exact hi2 j (by omega)
    · have hil : i = l.length := by have := of_decide_eq_false h2; omega
      subst hil
      conv => whnf
      refine ⟨_, _, offs_c (ratesF l s) m hm (fun i hi => ?_), ?_⟩
      · have := (badL_get (hbad i hi)).1
        refine ⟨this.1, ?_⟩
        show _ < ((ratesN l s l.length).length : Int)
        omega
      conv => whnf
      refine ⟨?_, trivial⟩
      show (!m.any (offL (ratesF l s))) = (ownB l (ratesF l s) && _)
      unfold ownB
      rw [rangeAll_true hi2]
      rfl

end Go.Proofs.YtjmhlbogkeohpaaDoor

namespace Go.Proofs.YtjmhlbogkeohpaaDoor
open Go.Ab
set_option maxRecDepth 100000

theorem le_lit (l : List Int) (f : Bool) : Le (.sl 1 l.length f (listG (l.map iV))) (intsV l) :=
  le_row rfl fun i hi => by
    show nth (l.map iV) i = iV (l.getD i 0)
    induction l generalizing i with
    | nil => cases hi
    | cons x l ih => cases i with
      | zero => rfl
      | succ i => exact ih i (by simpa using hi)

theorem Tp.range_ok {t : Tp} (h : t.ok) (lo hi : Int) : (t.range lo hi).2.ok := Tp.n_ok h (hi - lo + 1)
theorem Tp.pick_ok {t : Tp} (h : t.ok) (l : List Int) : (t.pick l).2.ok := Tp.n_ok h l.length
theorem Tp.pick_mem (t : Tp) (l : List Int) (hl : 0 < l.length) : (t.pick l).1 ∈ l := by
  have := Tp.n_lt t l.length
  exact getD_mem 0 (by omega)
theorem Tp.range_mem (t : Tp) (lo hi : Int) (h : lo ≤ hi) : lo ≤ (t.range lo hi).1 ∧ (t.range lo hi).1 ≤ hi := by
  have := Tp.n_lt t (hi - lo + 1)
  unfold Tp.range
  simp only
  omega

theorem shiftG_eq (i : Nat) (g : Nat → AV) (j : Nat) : shiftG i g j = g (i + j) := by
  cases i with
  | zero => rw [Nat.zero_add]; rfl
  | succ n => rfl

theorem appG_l {n j : Nat} {g h : Nat → AV} (hj : j < n) : appG n g h j = g j := by
  have : Nat.blt j n = true := by simpa using hj
  simp [appG, this]

theorem appG_r {n j : Nat} {g h : Nat → AV} (hj : n ≤ j) : appG n g h j = h (j - n) := by
  have : Nat.blt j n = false := blt_false (by omega)
  simp [appG, this]

theorem getD_app_r2 {α : Type} {l m : List α} {i : Nat} (d : α) (h : l.length ≤ i) : (l ++ m).getD i d = m.getD (i - l.length) d := by
  rw [List.getD_eq_getElem?_getD, List.getElem?_append_right h, List.getD_eq_getElem?_getD]

theorem le_ins {acc : List Int} {x : Int} {k : Nat} (hk : k ≤ acc.length) {h : Nat → AV} (h0 : h 0 = iV x) (j : Nat) : Le (appG k (rowG iV 0 acc) (appG 1 h (shiftG (0 + k) (rowG iV 0 acc))) j) (rowG iV 0 (acc.take k ++ x :: acc.drop k) j) := by
  have e : appG k (rowG iV 0 acc) (appG 1 h (shiftG (0 + k) (rowG iV 0 acc))) j = rowG iV 0 (acc.take k ++ x :: acc.drop k) j := by
    unfold rowG
    by_cases h1 : j < k
    · rw [appG_l h1, getD_app_l 0 (by rw [take_len hk]; exact h1), getD_take acc 0 h1]
    · rw [appG_r (by omega)]
      by_cases h2 : j = k
      · subst h2
        rw [appG_l (by omega), Nat.sub_self, h0, getD_app_r 0 (take_len hk).symm]
      · rw [appG_r (by omega), shiftG_eq, getD_app_r2 0 (by rw [take_len hk]; omega), take_len hk, show j - k = (j - k - 1) + 1 by omega, List.getD_cons_succ, getD_drop, Nat.zero_add]
        rfl
  rw [e]
  exact .refl _

def ordG : Nat → Int → List Int → Tp → List Int × Tp
  | 0, _, acc, t => (acc, t)
  | r + 1, i, acc, t => ordG r (i + 1) (acc.take (t.n (acc.length + 1)).1.toNat ++ i :: acc.drop (t.n (acc.length + 1)).1.toNat) (t.n (acc.length + 1)).2

theorem order_spec (t : Tp) (ht : t.ok) (n : Nat) (hn : n ≤ 1000) : S 61 [.ptr 0 0 0, iV n] [tapeO t] (intsV (ordG n 0 [] t).1) [tapeO (ordG n 0 [] t).2] := by
  refine spec_of_x (ct := []) cfgOK Tryd.func61 rfl rfl (Nat.le_of_ble_eq_true rfl) (by decide +kernel) (Nat.le_refl _) ?_
  conv => whnf
  refine loops_intro (ct := []) cfgOK (by decide +kernel) (fun g : Nat × List Int × Tp => ⟨[(0, .ptr 0 0 0), (1, iV n), (5, .osl 1 0 g.1 false), (6, iV g.1)], [(0, some (tapeO g.2.2)), (1, some (.row 1 g.1 (rowG iV 0 g.2.1)))], 2⟩)
    (fun g => g.1 ≤ n ∧ g.2.1.length = g.1 ∧ g.2.2.ok ∧ ordG (n - g.1) g.1 g.2.1 g.2.2 = ordG n 0 [] t) (fun g => n - g.1) (0, [], t) [(1, none)] ⟨Nat.zero_le _, rfl, ht, rfl⟩
    ⟨rfl, ⟨⟨rfl, rfl, rfl, rfl⟩, ⟨rfl, rfl⟩, ⟨rfl, rfl, rfl, rfl, rfl⟩, ⟨rfl, rfl⟩, trivial⟩, ⟨tape_emb rfl, rfl, trivial⟩⟩ ?_
  intro ⟨i, acc, t2⟩ ⟨hi, hl, ht2, hg⟩
  have hi : i ≤ n := hi
  have hl : acc.length = i := hl
  have ht2 : t2.ok := ht2
  have hg : ordG (n - i) i acc t2 = ordG n 0 [] t := hg
  conv => whnf
  refine bcase_of (fun h2 => ?_) (fun h2 => ?_)
  · have hlt : i < n := by have := of_decide_eq_true h2; simp at this; omega
    conv => whnf
    refine ⟨by show InI64 ((i : Int) + 1); unfold InI64; omega, ?_⟩
    conv => whnf
    refine ⟨_, _, n_spec t2 ht2 (i + 1) (by unfold InI64; omega), ?_⟩
    have hb := Tp.n_lt t2 (i + 1)
    conv => whnf
    refine ⟨⟨hb.1, by show (t2.n (i + 1)).1 ≤ (i : Int); omega⟩, ?_⟩
    conv => whnf
    refine ⟨by show (1 + (i - (t2.n (i + 1)).1.toNat)) * 8 ≤ 140737488355328; omega, ?_⟩
    conv => whnf
    refine ⟨rfl, ?_⟩
    conv => whnf
    refine ⟨⟨hb.1, by show (t2.n (i + 1)).1 ≤ (i : Int); omega⟩, ?_⟩
    conv => whnf
    refine ⟨by show ((t2.n (i + 1)).1.toNat + (1 + (i - (t2.n (i + 1)).1.toNat))) * 8 ≤ 140737488355328; omega, ?_⟩
    conv => whnf
    refine ⟨by show InI64 ((i : Int) + 1); unfold InI64; omega, ?_⟩
    conv => whnf
    have e1 : ordG (n - (i + 1)) ((i + 1 : Nat) : Int) (acc.take (t2.n (i + 1)).1.toNat ++ (i : Int) :: acc.drop (t2.n (i + 1)).1.toNat) (t2.n (i + 1)).2 = ordG n 0 [] t := by
      rw [← hg, show n - i = (n - (i + 1)) + 1 by omega, ordG, hl]
      rfl
    refine ⟨(i + 1, acc.take (t2.n (i + 1)).1.toNat ++ (i : Int) :: acc.drop (t2.n (i + 1)).1.toNat, (t2.n (i + 1)).2), [(1, some 23)], ⟨hlt, by simp; omega, Tp.n_ok ht2 (i + 1), e1⟩, by show n - (i + 1) < n - i; omega, ⟨rfl, ⟨⟨rfl, rfl, rfl, rfl⟩, ⟨rfl, rfl⟩, ?_, ⟨rfl, by simp⟩, trivial⟩, ⟨tape_emb rfl, ?_, trivial⟩⟩⟩
    · exact ⟨rfl, rfl, rfl, by show (t2.n (i + 1)).1.toNat + (1 + (i - (t2.n (i + 1)).1.toNat)) = i + 1; omega, nofun⟩
    · exact ⟨rfl, by show (t2.n (i + 1)).1.toNat + (1 + (i - (t2.n (i + 1)).1.toNat)) = i + 1; omega, fun j _ => le_ins (by omega) rfl j⟩
  · have hil : i = n := by have := of_decide_eq_false h2; simp at this; omega
    subst hil
    conv => whnf
    rw [Nat.sub_self] at hg
    rw [← hg]
    exact ⟨embV_le (le_row hl.symm fun i hi => rfl) rfl, tape_emb rfl, trivial⟩

def setN (l : List Clk) (t : Tp) : Nat → List Int × Tp
  | 0 => ([], t)
  | i + 1 => ((setN l t i).1 ++ [((setN l t i).2.n (l.getD i clk0).ch.length).1], ((setN l t i).2.n (l.getD i clk0).ch.length).2)
def setF (l : List Clk) (t : Tp) : List Int × Tp := setN l t l.length

theorem setN_len (l : List Clk) (t : Tp) (i : Nat) : (setN l t i).1.length = i := by
  induction i with
  | zero => rfl
  | succ i ih => simp [setN, ih]

theorem setN_ok (l : List Clk) {t : Tp} (ht : t.ok) (i : Nat) : (setN l t i).2.ok := by
  induction i with
  | zero => exact ht
  | succ i ih => exact Tp.n_ok ih (l.getD i clk0).ch.length

theorem setg_spec (t : Tp) (ht : t.ok) (l : List Clk) (hl : l.length ≤ 1000) (hc : ChOK l) : S 9 [.ptr 0 0 0, clksV l] [tapeO t] (intsV (setF l t).1) [tapeO (setF l t).2] := by
  refine spec_of_x (ct := []) cfgOK Tryd.func9 rfl rfl (Nat.le_of_ble_eq_true rfl) (by decide +kernel) (Nat.le_refl _) ?_
  conv => whnf
  refine loops_intro (ct := []) cfgOK (by decide +kernel) (fun i : Nat => ⟨[(0, .ptr 0 0 0), (5, .osl 1 0 i false), (8, clksV l), (9, iV l.length), (10, iV i)], [(0, some (tapeO (setN l t i).2)), (1, some (.row 1 i (rowG iV 0 (setN l t i).1)))], 2⟩)
    (fun i => i ≤ l.length) (fun i => l.length - i) 0 [(1, none)] (Nat.zero_le _)
    ⟨rfl, ⟨⟨rfl, rfl, rfl, rfl⟩, ⟨rfl, rfl, rfl, rfl, rfl⟩, embV_le (.refl _) rfl, ⟨rfl, rfl⟩, ⟨rfl, rfl⟩, trivial⟩, ⟨tape_emb rfl, rfl, trivial⟩⟩ ?_
  intro i hi
  conv => whnf
  refine bcase_of (fun h2 => ?_) (fun h2 => ?_)
  · have hlt : i < l.length := by have := of_decide_eq_true h2; omega
    have hci := hc i hlt
    conv => whnf
    refine ⟨by omega, ?_⟩
    conv => whnf
    refine ⟨_, _, n_spec (setN l t i).2 (setN_ok l ht i) (l.getD i clk0).ch.length (by unfold InI64; omega), ?_⟩
    conv => whnf
    refine ⟨by show (i + 1) * 8 ≤ 140737488355328; omega, ?_⟩
    conv => whnf
    refine ⟨by unfold InI64; omega, ?_⟩
    conv => whnf
    exact ⟨i + 1, [(1, some 14)], hlt, by omega, ⟨rfl, ⟨⟨rfl, rfl, rfl, rfl⟩, ⟨rfl, rfl, rfl, rfl, nofun⟩, embV_le (.refl _) rfl, ⟨rfl, rfl⟩, ⟨rfl, by simp⟩, trivial⟩, ⟨tape_emb rfl, ⟨rfl, rfl, le_app (setN_len l t i).symm (.refl _)⟩, trivial⟩⟩⟩
  · have hil : i = l.length := by have := of_decide_eq_false h2; omega
    subst hil
    conv => whnf
    exact ⟨embV_le (le_row (setN_len l t l.length).symm fun i hi => rfl) rfl, tape_emb rfl, trivial⟩

end Go.Proofs.YtjmhlbogkeohpaaDoor
