/- Contracts of the program's functions, shown by walks of that machine, and the plain laws. -/
import Derived.Test.YtjmhlbogkeohpaaDoorD0
namespace Go.Proofs.YtjmhlbogkeohpaaDoor
open Go.Ab
set_option maxRecDepth 100000

theorem equal_spec (a b : List Int) (hl : a.length ≤ 1000000) : S 70 [intsV a, intsV b] [] (.bool (a == b)) [] := by
  refine spec_of_x (ct := []) cfgOK Tryd.func70 rfl rfl (Nat.le_of_ble_eq_true rfl) (by decide +kernel) (Nat.le_refl _) ?_
  conv => whnf
  refine bcase_of (fun h => ?_) (fun h => ?_)
  · conv => whnf
    refine ⟨?_, trivial⟩
    show false = (a == b)
    have h : ¬ a.length = b.length := by
      intro e
      rw [e] at h
      simp at h
    symm
    simp
    intro e
    rw [e] at h
    exact h rfl
  · conv => whnf
    have h : a.length = b.length := by
      have : ((a.length : Int) != b.length) = false := h
      simp at this
      omega
    refine loops_intro (ct := []) cfgOK (by decide +kernel) (fun i : Nat => ⟨[(0, intsV a), (1, intsV b), (12, iV a.length), (13, iV i)], [], 1⟩) (fun i => i ≤ a.length ∧ (a.drop i == b.drop i) = (a == b)) (fun i => a.length - i) 0 [] ⟨Nat.zero_le _, rfl⟩ ⟨rfl, ⟨embV_le (.refl _) rfl, embV_le (.refl _) rfl, ⟨rfl, rfl⟩, ⟨rfl, rfl⟩, trivial⟩, trivial⟩ ?_
    intro i ⟨hi1, hi2⟩
    conv => whnf
    refine bcase_of (fun h3 => ?_) (fun h3 => ?_)
    · have h3 := of_decide_eq_true h3
      conv => whnf
      refine ⟨by omega, ?_⟩
      conv => whnf
      refine ⟨by omega, ?_⟩
      conv => whnf
      rw [drop_cons 0 (l := a) (i := i) (by omega), drop_cons 0 (l := b) (i := i) (by omega)] at hi2
      refine bcase_of (fun h2 => ?_) (fun h2 => ?_)
      · conv => whnf
        have h2 : (a.getD i 0 != b.getD i 0) = true := h2
        refine ⟨?_, trivial⟩
        show false = (a == b)
        rw [← hi2]
        symm
        simpa using fun e => absurd e (by simpa using h2)
      · conv => whnf
        have h2 : (a.getD i 0 != b.getD i 0) = false := h2
        refine ⟨by unfold InI64; omega, ?_⟩
        conv => whnf
        refine ⟨i + 1, [], ⟨by omega, ?_⟩, by omega, ⟨rfl, ⟨embV_le (.refl _) rfl, embV_le (.refl _) rfl, ⟨rfl, rfl⟩, ⟨rfl, by simp⟩, trivial⟩, trivial⟩⟩
        rw [← hi2]
        have : a.getD i 0 = b.getD i 0 := by simpa using h2
        rw [this]
        simp
    · have h3 := of_decide_eq_false h3
      conv => whnf
      refine ⟨?_, trivial⟩
      show true = (a == b)
      rw [← hi2, List.drop_eq_nil_of_le (by omega), List.drop_eq_nil_of_le (by omega)]
      rfl

def choicesB (c : Clk) : Bool :=
  bif c.kind == 1 then ((c.par.length : Int) == 0) && ((c.ch.length : Int) == 1) && withinF (c.ch.getD 0 0) 1 4000000000
  else bif c.kind == 2 || c.kind == 3 then ((c.par.length : Int) == 1) && decide (0 < (c.ch.length : Int)) && diffG 1 64 [] c.ch
  else bif c.kind == 4 then decide (0 < (c.ch.length : Int)) && diffG 0 ((c.par.length : Int) - 1) [] c.ch
  else bif c.kind == 5 then ((c.par.length : Int) == 1) && (c.ch == [0, 1])
  else false

def validC (c : Clk) (k : Int) : Bool := bif c.par.any (fun y => !withinF y 0 (k - 1)) || !withinF c.high 0 4000000000 || !withinF c.low 0 c.high then false else choicesB c

theorem valid_clk_spec (c : Clk) (k : Int) (hk : -1000000 ≤ k ∧ k ≤ 1000000) (hp : c.par.length ≤ 1000000) (hc : c.ch.length ≤ 1000000) : S 54 [clkV c, iV k] [] (.bool (validC c k)) [] := by
  refine spec_of_x (ct := []) cfgOK Tryd.func54 rfl rfl (Nat.le_of_ble_eq_true rfl) (by decide +kernel) (Nat.le_refl _) ?_
  conv => whnf
  refine ⟨_, _, parents_c k c.par hp hk, ?_⟩
  conv => whnf
  refine ⟨_, _, fun _ => within_spec c.high 0 4000000000, ?_⟩
  conv => whnf
  refine ⟨_, _, fun _ => within_spec c.low 0 c.high, ?_⟩
  conv => whnf
  refine bcase_of (fun h => ?_) (fun h => ?_)
  · conv => whnf
    refine ⟨?_, trivial⟩
    show false = validC c k
    unfold validC
    rw [h]
    rfl
  · have hv : validC c k = choicesB c := by unfold validC; rw [h]; rfl
    rw [hv]
    conv => whnf
    refine bcase_of (fun k1 => ?_) (fun k1 => ?_)
    · conv => whnf
      refine ⟨fun h => by simp at h; omega, ?_⟩
      conv => whnf
      refine ⟨_, _, fun _ => within_spec (c.ch.getD 0 0) 1 4000000000, ?_⟩
      conv => whnf
      refine ⟨?_, trivial⟩
      show _ = choicesB c
      unfold choicesB
      rw [k1]
      rfl
    · conv => whnf
      refine bcase_of (fun k2 => ?_) (fun k2 => ?_)
      · rw [k2]
        conv => whnf
        refine ⟨_, _, fun _ => different_spec c.ch 1 64 hc, ?_⟩
        conv => whnf
        refine ⟨?_, trivial⟩
        show _ = choicesB c
        unfold choicesB
        rw [k1, k2]
        rfl
      · rw [k2]
        conv => whnf
        refine bcase_of (fun k3 => ?_) (fun k3 => ?_)
        · conv => whnf
          refine ⟨_, _, fun _ => different_spec c.ch 1 64 hc, ?_⟩
          conv => whnf
          refine ⟨?_, trivial⟩
          show _ = choicesB c
          unfold choicesB
          rw [k1, k2, k3]
          rfl
        · conv => whnf
          refine bcase_of (fun k4 => ?_) (fun k4 => ?_)
          · conv => whnf
            refine ⟨fun _ => by unfold InI64; omega, ?_⟩
            conv => whnf
            refine ⟨_, _, fun _ => different_spec c.ch 0 ((c.par.length : Int) - 1) hc, ?_⟩
            conv => whnf
            refine ⟨?_, trivial⟩
            show _ = choicesB c
            unfold choicesB
            rw [k1, k2, k3, k4]
            rfl
          · conv => whnf
            refine bcase_of (fun k5 => ?_) (fun k5 => ?_)
            · conv => whnf
              refine bcase_of (fun h1 => ?_) (fun h1 => ?_)
              · conv => whnf
                refine ⟨_, _, fun _ => (equal_spec c.ch [0, 1] hc).le ⟨.refl _, le_row rfl (fun i hi => ?_), trivial⟩ trivial, ?_⟩
                · match i, hi with
                  | 0, _ => rfl
                  | 1, _ => rfl
                conv => whnf
                refine ⟨?_, trivial⟩
                show _ = choicesB c
                unfold choicesB
                rw [k1, k2, k3, k4, k5]
                rfl
              · conv => whnf
                refine ⟨.bool false, [], fun h2 => ?_, ?_⟩
                · rw [h2] at h1; cases h1
                conv => whnf
                refine ⟨?_, trivial⟩
                show _ = choicesB c
                unfold choicesB
                rw [k1, k2, k3, k4, k5]
                have h1 : (((c.par.length : Int) == 1) == true) = false := h1
                have h1 : ((c.par.length : Int) == 1) = false := by simpa using h1
                rw [h1]
                rfl
            · conv => whnf
              refine ⟨?_, trivial⟩
              show _ = choicesB c
              unfold choicesB
              rw [k1, k2, k3, k4, k5]
              rfl

theorem diff_ne (l : List Int) (hi : Int) (h : diffG 0 hi [] l = true) (hl : 0 < l.length) : 0 ≤ hi := by
  cases l with
  | nil => simp at hl
  | cons n l =>
    cases hw : withinF n 0 hi with
    | true => simp [withinF] at hw; omega
    | false =>
      rw [diffG_f (by rw [hw]; rfl)] at h
      cases h

theorem choices_spec (c : Clk) (hp : c.par.length ≤ 1000000) (hc : c.ch.length ≤ 1000000) : S 55 [clkV c] [] (.bool (choicesB c)) [] := by
  refine spec_of_x (ct := []) cfgOK Tryd.func55 rfl rfl (Nat.le_of_ble_eq_true rfl) (by decide +kernel) (Nat.le_refl _) ?_
  conv => whnf
  refine bcase_of (fun k1 => ?_) (fun k1 => ?_)
  · conv => whnf
    refine ⟨fun h => by simp at h; omega, ?_⟩
    conv => whnf
    refine ⟨fun h => by simp at h; omega, ?_⟩
    conv => whnf
    refine ⟨?_, trivial⟩
    show _ = choicesB c
    unfold choicesB
    rw [k1]
    simp [withinF, Bool.and_assoc]
  · conv => whnf
    refine bcase_of (fun k2 => ?_) (fun k2 => ?_)
    · rw [k2]
      conv => whnf
      refine ⟨_, _, fun _ => rdifferent_spec c.ch 1 64 hc, ?_⟩
      conv => whnf
      refine ⟨?_, trivial⟩
      show _ = choicesB c
      unfold choicesB
      rw [k1, k2]
      have e1 : decide (1 ≤ (c.ch.length : Int)) = decide (0 < (c.ch.length : Int)) := by congr 1
      rw [e1]
      rfl
    · rw [k2]
      conv => whnf
      refine bcase_of (fun k3 => ?_) (fun k3 => ?_)
      · conv => whnf
        refine ⟨_, _, fun _ => rdifferent_spec c.ch 1 64 hc, ?_⟩
        conv => whnf
        refine ⟨?_, trivial⟩
        show _ = choicesB c
        unfold choicesB
        rw [k1, k2, k3]
        have e1 : decide (1 ≤ (c.ch.length : Int)) = decide (0 < (c.ch.length : Int)) := by congr 1
        rw [e1]
        rfl
      · conv => whnf
        refine bcase_of (fun k4 => ?_) (fun k4 => ?_)
        · conv => whnf
          refine ⟨fun _ => by unfold InI64; omega, ?_⟩
          conv => whnf
          refine ⟨_, _, fun _ => rdifferent_spec c.ch 0 ((c.par.length : Int) - 1) hc, ?_⟩
          conv => whnf
          refine ⟨?_, trivial⟩
          show _ = choicesB c
          unfold choicesB
          rw [k1, k2, k3, k4]
          have e1 : decide (1 ≤ (c.ch.length : Int)) = decide (0 < (c.ch.length : Int)) := by congr 1
          show ((decide (1 ≤ (c.par.length : Int)) && decide (1 ≤ (c.ch.length : Int))) && diffG 0 ((c.par.length : Int) - 1) [] c.ch) = (decide (0 < (c.ch.length : Int)) && diffG 0 ((c.par.length : Int) - 1) [] c.ch)
          rw [e1]
          cases hd : diffG 0 ((c.par.length : Int) - 1) [] c.ch with
          | false => simp
          | true =>
            by_cases hch : 0 < c.ch.length
            · have := diff_ne _ _ hd hch
              simp
              omega
            · simp
              omega
        · conv => whnf
          refine bcase_of (fun k5 => ?_) (fun k5 => ?_)
          · conv => whnf
            refine bcase_of (fun h1 => ?_) (fun h1 => ?_)
            · conv => whnf
              refine ⟨_, _, fun _ => (ints_spec c.ch [0, 1] hc).le ⟨.refl _, le_row rfl (fun i hi => ?_), trivial⟩ trivial, ?_⟩
              · match i, hi with
                | 0, _ => rfl
                | 1, _ => rfl
              conv => whnf
              refine ⟨?_, trivial⟩
              show _ = choicesB c
              unfold choicesB
              rw [k1, k2, k3, k4, k5]
              rfl
            · conv => whnf
              refine ⟨.bool false, [], fun h2 => ?_, ?_⟩
              · rw [h2] at h1; cases h1
              conv => whnf
              refine ⟨?_, trivial⟩
              show _ = choicesB c
              unfold choicesB
              rw [k1, k2, k3, k4, k5]
              have h1 : (((c.par.length : Int) == 1) == true) = false := h1
              have h1 : ((c.par.length : Int) == 1) = false := by simpa using h1
              rw [h1]
              rfl
          · conv => whnf
            refine ⟨?_, trivial⟩
            show _ = choicesB c
            unfold choicesB
            rw [k1, k2, k3, k4, k5]
            rfl

end Go.Proofs.YtjmhlbogkeohpaaDoor

namespace Go.Proofs.YtjmhlbogkeohpaaDoor
open Go.Ab
set_option maxRecDepth 100000

def maxI (a b : Int) : Int := if b > a then b else a
def isDM (c : Clk) : Bool := c.kind == 2 || c.kind == 3
def parMax (acc : List Int) (l : List Int) : Int := l.foldl (fun n p => maxI n (acc.getD p.toNat 0)) 0
def fac1 (acc : List Int) (c : Clk) : Int := bif isDM c then parMax acc c.par + 1 else parMax acc c.par
def facs (l : List Clk) : List Int := l.foldl (fun acc c => acc ++ [fac1 acc c]) []

theorem facs_snoc (l : List Clk) (c : Clk) : facs (l ++ [c]) = facs l ++ [fac1 (facs l) c] := by
  unfold facs
  rw [List.foldl_append]
  rfl

def ParOK (l : List Clk) : Prop := ∀ i, i < l.length → (l.getD i clk0).par.length ≤ 1000000 ∧ ∀ p ∈ (l.getD i clk0).par, 0 ≤ p ∧ p < i

theorem parMax_bound (acc : List Int) (b : Int) (hb0 : 0 ≤ b) (hb : ∀ j : Nat, 0 ≤ acc.getD j 0 ∧ acc.getD j 0 ≤ b) (l : List Int) : 0 ≤ parMax acc l ∧ parMax acc l ≤ b := by
  have : ∀ (l : List Int) (n : Int), 0 ≤ n ∧ n ≤ b → 0 ≤ l.foldl (fun n p => maxI n (acc.getD p.toNat 0)) n ∧ l.foldl (fun n p => maxI n (acc.getD p.toNat 0)) n ≤ b := by
    intro l
    induction l with
    | nil => exact fun n h => h
    | cons p r ih =>
      intro n hn
      refine ih _ ?_
      show 0 ≤ maxI n (acc.getD p.toNat 0) ∧ maxI n (acc.getD p.toNat 0) ≤ b
      unfold maxI
      have := hb p.toNat
      split <;> omega
  exact this l 0 (by omega)

theorem facs_len_bound (l : List Clk) : (facs l).length = l.length ∧ ∀ j : Nat, 0 ≤ (facs l).getD j 0 ∧ (facs l).getD j 0 ≤ l.length := by
  induction l using snocInd with
  | nil => exact ⟨rfl, fun j => by rw [getD_out]; simp; exact Nat.zero_le _⟩
  | append_singleton l c ih =>
    obtain ⟨h1, h2⟩ := ih
    rw [facs_snoc]
    have hb := parMax_bound (facs l) l.length (by omega) h2 c.par
    have hf : 0 ≤ fac1 (facs l) c ∧ fac1 (facs l) c ≤ l.length + 1 := by
      unfold fac1
      cases isDM c <;> simp only [cond_true, cond_false] <;> omega
    refine ⟨by rw [List.length_append, List.length_append, h1]; rfl, fun j => ?_⟩
    have hlen : ((l ++ [c]).length : Int) = l.length + 1 := by rw [List.length_append]; rfl
    rw [hlen]
    by_cases hj : j < l.length
    · rw [getD_app_l 0 (by omega)]
      have := h2 j
      omega
    · by_cases hj2 : j = l.length
      · rw [getD_app_r 0 (by omega)]; exact hf
      · rw [getD_out 0 (by rw [List.length_append, h1]; simp; omega)]
        omega

theorem factors_spec (l : List Clk) (hl : l.length ≤ 1000) (hp : ParOK l) : S 56 [clksV l] [] (intsV (facs l)) [] := by
  refine spec_of_x (ct := []) cfgOK Tryd.func56 rfl rfl (Nat.le_of_ble_eq_true rfl) (by decide +kernel) (Nat.le_refl _) ?_
  conv => whnf
  refine loops_intro (ct := []) cfgOK (by decide +kernel) (fun i : Nat => ⟨[(0, clksV l), (3, .osl 0 0 i false), (9, clksV l), (10, iV l.length), (11, iV i)], [(0, some (.row 1 i (rowG iV 0 (facs (l.take i)))))], 1⟩) (fun i => i ≤ l.length) (fun i => l.length - i) 0 [(0, none)] (Nat.zero_le _) ⟨rfl, ⟨embV_le (.refl _) rfl, ⟨rfl, rfl, rfl, rfl, rfl⟩, embV_le (.refl _) rfl, ⟨rfl, rfl⟩, ⟨rfl, rfl⟩, trivial⟩, ⟨rfl, trivial⟩⟩ ?_
  intro i hi
  conv => whnf
  refine bcase_of (fun h => ?_) (fun h => ?_)
  · have h := of_decide_eq_true h
    have hlt : i < l.length := by omega
    conv => whnf
    refine ⟨by omega, ?_⟩
    conv => whnf
    obtain ⟨hfl, hb⟩ := facs_len_bound (l.take i)
    rw [take_len hi] at hfl hb
    have hpi := hp i hlt
    have hsn : facs (l.take (i + 1)) = facs (l.take i) ++ [fac1 (facs (l.take i)) (l.getD i clk0)] := by rw [take_snoc clk0 hlt, facs_snoc]
    have hpm := parMax_bound (facs (l.take i)) i (by omega) hb
    refine loops_intro (ct := []) cfgOK (by decide +kernel) (fun j : Nat => ⟨[(0, clksV l), (3, .osl 0 0 i false), (5, .ptr 4 0 0), (6, iV (parMax (facs (l.take i)) ((l.getD i clk0).par.take j))), (9, clksV l), (10, iV l.length), (11, iV i), (16, intsV (l.getD i clk0).par), (17, iV (l.getD i clk0).par.length), (18, iV j)], [(4, some (.box (clkV (l.getD i clk0)).cells)), (0, some (.row 1 i (rowG iV 0 (facs (l.take i)))))], 20⟩)
      (fun j => j ≤ (l.getD i clk0).par.length) (fun j => (l.getD i clk0).par.length - j) 0 [] (Nat.zero_le _)
      ⟨rfl, ⟨embV_le (.refl _) rfl, ⟨rfl, rfl, rfl, rfl, id⟩, ⟨rfl, rfl, rfl, rfl⟩, ⟨rfl, rfl⟩, embV_le (.refl _) rfl, ⟨rfl, rfl⟩, ⟨rfl, rfl⟩, embV_le (.refl _) rfl, ⟨rfl, rfl⟩, ⟨rfl, rfl⟩, trivial⟩, ⟨embO_le (LeL.refl _) rfl (Nat.lt_of_sub_pos (by exact Nat.zero_lt_succ _)), ⟨rfl, rfl, fun _ _ => .refl _⟩, trivial⟩⟩ ?_
    intro j hj
    conv => whnf
    refine bcase_of (fun h2 => ?_) (fun h2 => ?_)
    · have h2 := of_decide_eq_true h2
      have hjl : j < (l.getD i clk0).par.length := by omega
      have hin := hpi.2 ((l.getD i clk0).par.getD j 0) (getD_mem 0 hjl)
      conv => whnf
      refine ⟨by omega, ?_⟩
      conv => whnf
      refine ⟨hin, ?_⟩
      conv => whnf
      refine ⟨by unfold InI64; omega, ?_⟩
      conv => whnf
      refine ⟨j + 1, [], hjl, by omega,
        ⟨rfl, ⟨embV_le (.refl _) rfl, ⟨rfl, rfl, rfl, rfl, id⟩, ⟨rfl, rfl, rfl, rfl⟩, ⟨rfl, ?_⟩, embV_le (.refl _) rfl, ⟨rfl, rfl⟩, ⟨rfl, rfl⟩, embV_le (.refl _) rfl, ⟨rfl, rfl⟩, ⟨rfl, by simp⟩, trivial⟩, ⟨embO_le (LeL.refl _) rfl (Nat.lt_of_sub_pos (by exact Nat.zero_lt_succ _)), ⟨rfl, rfl, fun _ _ => .refl _⟩, trivial⟩⟩⟩
      unfold parMax
      rw [foldl_take _ _ 0 hjl]
      rfl
    · have h2 := of_decide_eq_false h2
      have hje : j = (l.getD i clk0).par.length := by omega
      have hpj := hpm ((l.getD i clk0).par.take j)
      have hpe : (l.getD i clk0).par.take j = (l.getD i clk0).par := List.take_of_length_le (by omega)
      conv => whnf
      refine bcase_of (fun h3 => ?_) (fun h3 => ?_)
      · conv => whnf
        refine ⟨by unfold InI64; omega, ?_⟩
        conv => whnf
        refine ⟨by show (i + 1) * 8 ≤ 140737488355328; omega, ?_⟩
        conv => whnf
        refine ⟨by unfold InI64; omega, ?_⟩
        conv => whnf
        refine ⟨i + 1, [(0, some 35)], hlt, by omega, ⟨rfl, ⟨embV_le (.refl _) rfl, ⟨rfl, rfl, rfl, rfl, nofun⟩, embV_le (.refl _) rfl, ⟨rfl, rfl⟩, ⟨rfl, by simp⟩, trivial⟩, ⟨⟨rfl, rfl, ?_⟩, trivial⟩⟩⟩
        rw [hsn]
        have e : fac1 (facs (l.take i)) (l.getD i clk0) = parMax (facs (l.take i)) ((l.getD i clk0).par.take j) + 1 := by unfold fac1 isDM; rw [h3, hpe]; rfl
        rw [e]
        exact le_app hfl.symm (.refl _)
      · conv => whnf
        refine ⟨by show (i + 1) * 8 ≤ 140737488355328; omega, ?_⟩
        conv => whnf
        refine ⟨by unfold InI64; omega, ?_⟩
        conv => whnf
        refine ⟨i + 1, [(0, some 32)], hlt, by omega, ⟨rfl, ⟨embV_le (.refl _) rfl, ⟨rfl, rfl, rfl, rfl, nofun⟩, embV_le (.refl _) rfl, ⟨rfl, rfl⟩, ⟨rfl, by simp⟩, trivial⟩, ⟨⟨rfl, rfl, ?_⟩, trivial⟩⟩⟩
        rw [hsn]
        have e : fac1 (facs (l.take i)) (l.getD i clk0) = parMax (facs (l.take i)) ((l.getD i clk0).par.take j) := by unfold fac1 isDM; rw [h3, hpe]; rfl
        rw [e]
        exact le_app hfl.symm (.refl _)
  · have h := of_decide_eq_false h
    have : i = l.length := by omega
    subst this
    conv => whnf
    rw [List.take_length]
    exact ⟨embV_le (le_row (facs_len_bound l).1.symm fun i hi => rfl) rfl, trivial⟩

end Go.Proofs.YtjmhlbogkeohpaaDoor

namespace Go.Proofs.YtjmhlbogkeohpaaDoor
open Go.Ab
set_option maxRecDepth 100000

def minI (a b : Int) : Int := if b < a then b else a
def prodC (l : List Clk) : Int := l.foldl (fun p c => minI (p * c.ch.length) 1099511627776) 1
def allV (l : List Clk) : Bool := (List.range l.length).all fun i => validC (l.getD i clk0) i
def checkF (l : List Clk) : Int := bif decide (16 < (l.length : Int)) || l.any bigC then 3 else bif !allV l then 1 else bif decide (4096 < prodC l) || (facs l).any (fun n => decide (4 < n)) then 3 else 0

theorem allV_true {l : List Clk} (h : ∀ i : Nat, i < l.length → validC (l.getD i clk0) i = true) : allV l = true := by
  unfold allV
  rw [List.all_eq_true]
  intro i hi
  exact h i (List.mem_range.1 hi)

theorem allV_get {l : List Clk} (h : allV l = true) (i : Nat) (hi : i < l.length) : validC (l.getD i clk0) i = true := by
  unfold allV at h
  rw [List.all_eq_true] at h
  exact h i (List.mem_range.2 hi)

theorem allV_false {l : List Clk} {i : Nat} (hi : i < l.length) (h : validC (l.getD i clk0) i = false) : allV l = false := by
  cases hv : allV l with
  | false => rfl
  | true => rw [allV_get hv i hi] at h; cases h

theorem any_false_get {α : Type} {l : List α} {p : α → Bool} (d : α) (h : l.any p = false) (i : Nat) (hi : i < l.length) : p (l.getD i d) = false := by
  rw [List.any_eq_false] at h
  simpa using h _ (getD_mem d hi)

theorem any_true_get {α : Type} {l : List α} {p : α → Bool} (d : α) {i : Nat} (hi : i < l.length) (h : p (l.getD i d) = true) : l.any p = true := List.any_eq_true.2 ⟨_, getD_mem d hi, h⟩

theorem any_none {α : Type} {l : List α} {p : α → Bool} (d : α) (h : ∀ i, i < l.length → p (l.getD i d) = false) : l.any p = false := by
  rw [List.any_eq_false]
  intro x hx
  obtain ⟨i, hi, rfl⟩ := List.mem_iff_getElem.1 hx
  have := h i hi
  rw [List.getD_eq_getElem?_getD, List.getElem?_eq_getElem hi] at this
  simpa using this

theorem bigC_len {c : Clk} (h : bigC c = false) : c.par.length ≤ 8 ∧ c.ch.length ≤ 8 := by
  unfold bigC at h
  simp at h
  omega

theorem prodC_bound (l : List Clk) : 0 ≤ prodC l ∧ prodC l ≤ 1099511627776 := by
  unfold prodC
  induction l using snocInd with
  | nil => simp
  | append_singleton l c ih =>
    rw [List.foldl_append]
    show 0 ≤ minI (l.foldl _ 1 * c.ch.length) 1099511627776 ∧ minI (l.foldl _ 1 * c.ch.length) 1099511627776 ≤ 1099511627776
    have : 0 ≤ l.foldl (fun p c => minI (p * (c : Clk).ch.length) 1099511627776) 1 * (c.ch.length : Int) := Int.mul_nonneg ih.1 (by omega)
    generalize l.foldl (fun p c => minI (p * (c : Clk).ch.length) 1099511627776) 1 * (c.ch.length : Int) = q at this
    unfold minI
    split <;> omega

theorem prod_mul (l : List Clk) (n : Int) (h : 0 ≤ n ∧ n ≤ 8) : 0 ≤ prodC l * n ∧ prodC l * n ≤ 1099511627776 * 8 := by
  have hb := prodC_bound l
  exact ⟨Int.mul_nonneg hb.1 h.1, Int.mul_le_mul hb.2 h.2 h.1 (by omega)⟩

theorem within_iff (n lo hi : Int) : withinF n lo hi = true ↔ lo ≤ n ∧ n ≤ hi := by
  unfold withinF
  simp

theorem validC_false_par {c : Clk} {k : Int} {j : Nat} (hj : j < c.par.length) (h : withinF (c.par.getD j 0) 0 (k - 1) = false) : validC c k = false := by
  unfold validC
  have : c.par.any (fun y => !withinF y 0 (k - 1)) = true := any_true_get 0 hj (by show (!withinF (c.par.getD j 0) 0 (k - 1)) = true; rw [h]; rfl)
  rw [this]
  rfl

theorem validC_rest {c : Clk} {k : Int} (h : ∀ j, j < c.par.length → withinF (c.par.getD j 0) 0 (k - 1) = true) : validC c k = !(!choicesB c || decide (c.low < 0) || decide (c.high < c.low) || decide (4000000000 < c.high)) := by
  have e : c.par.any (fun y => !withinF y 0 (k - 1)) = false := any_none 0 fun j hj => by show (!withinF (c.par.getD j 0) 0 (k - 1)) = false; rw [h j hj]; rfl
  unfold validC
  rw [e]
  cases hc : choicesB c with
  | false => cases (false || !withinF c.high 0 4000000000 || !withinF c.low 0 c.high) <;> rfl
  | true =>
    by_cases hg : (0 ≤ c.low ∧ c.low ≤ c.high) ∧ c.high ≤ 4000000000
    · have h1 : withinF c.high 0 4000000000 = true := (within_iff _ _ _).2 (by omega)
      have h2 : withinF c.low 0 c.high = true := (within_iff _ _ _).2 (by omega)
      rw [h1, h2, decide_eq_false (show ¬ c.low < 0 by omega), decide_eq_false (show ¬ c.high < c.low by omega), decide_eq_false (show ¬ 4000000000 < c.high by omega)]
      rfl
    · have h1 : (false || !withinF c.high 0 4000000000 || !withinF c.low 0 c.high) = true := by
        simp only [Bool.false_or, Bool.or_eq_true, Bool.not_eq_true', ← Bool.not_eq_true, within_iff]
        omega
      have h2 : (!true || decide (c.low < 0) || decide (c.high < c.low) || decide (4000000000 < c.high)) = true := by
        simp only [Bool.not_true, Bool.false_or, Bool.or_eq_true, decide_eq_true_eq]
        omega
      rw [h1, h2]
      rfl

theorem validC_par {c : Clk} {k : Int} (h : validC c k = true) : ∀ p ∈ c.par, 0 ≤ p ∧ p < k := by
  intro p hp
  unfold validC at h
  cases ha : c.par.any (fun y => !withinF y 0 (k - 1)) with
  | true => rw [ha] at h; cases h
  | false =>
    rw [List.any_eq_false] at ha
    have := ha p hp
    simp only [Bool.not_eq_true, Bool.not_eq_false'] at this
    have := (within_iff _ _ _).1 this
    omega

theorem parOK_of {l : List Clk} (h : ∀ i : Nat, i < l.length → validC (l.getD i clk0) i = true) (hb : ∀ i : Nat, i < l.length → bigC (l.getD i clk0) = false) : ParOK l := fun i hi => ⟨by have := bigC_len (hb i hi); omega, validC_par (h i hi)⟩

theorem rcheck_spec (l : List Clk) (hl : l.length ≤ 1000000) : S 24 [clksV l] [] (iV (checkF l)) [] := by
  refine spec_of_x (ct := []) cfgOK Tryd.func24 rfl rfl (Nat.le_of_ble_eq_true rfl) (by decide +kernel) (Nat.le_refl _) ?_
  conv => whnf
  refine bcase_of (fun h => ?_) (fun h => ?_)
  · conv => whnf
    refine ⟨⟨rfl, ?_⟩, trivial⟩
    unfold checkF
    rw [h]
    rfl
  · conv => whnf
    have h16 := of_decide_eq_false h
    refine loops_intro (ct := []) cfgOK (by decide +kernel) (fun i : Nat => ⟨[(0, clksV l), (15, clksV l), (16, iV l.length), (17, iV i)], [], 1⟩) (fun i => i ≤ l.length ∧ ∀ j, j < i → bigC (l.getD j clk0) = false) (fun i => l.length - i) 0 [] ⟨Nat.zero_le _, fun j hj => absurd hj (Nat.not_lt_zero j)⟩ ⟨rfl, ⟨embV_le (.refl _) rfl, embV_le (.refl _) rfl, ⟨rfl, rfl⟩, ⟨rfl, rfl⟩, trivial⟩, trivial⟩ ?_
    intro i ⟨hi1, hi2⟩
    conv => whnf
    refine bcase_of (fun h2 => ?_) (fun h2 => ?_)
    · have hlt : i < l.length := by have := of_decide_eq_true h2; omega
      conv => whnf
      refine ⟨by omega, ?_⟩
      conv => whnf
      refine bcase_of (fun h3 => ?_) (fun h3 => ?_)
      · conv => whnf
        refine ⟨⟨rfl, ?_⟩, trivial⟩
        unfold checkF
        rw [any_true_get clk0 hlt (show bigC (l.getD i clk0) = true from h3), Bool.or_true]
        rfl
      · conv => whnf
        refine ⟨by unfold InI64; omega, ?_⟩
        conv => whnf
        refine ⟨i + 1, [], ⟨hlt, fun j hj => ?_⟩, by omega, ⟨rfl, ⟨embV_le (.refl _) rfl, embV_le (.refl _) rfl, ⟨rfl, rfl⟩, ⟨rfl, by simp⟩, trivial⟩, trivial⟩⟩
        by_cases hji : j = i
        · subst hji; exact h3
        · exact hi2 j (by omega)
    · have hil : i = l.length := by have := of_decide_eq_false h2; omega
      subst hil
      have hbig := any_none clk0 hi2
      conv => whnf
      refine loops_intro (ct := []) cfgOK (by decide +kernel) (fun i : Nat => ⟨[(0, clksV l), (5, iV (prodC (l.take i))), (32, clksV l), (33, iV l.length), (34, iV i)], [], 1⟩) (fun i => i ≤ l.length ∧ ∀ j : Nat, j < i → validC (l.getD j clk0) j = true) (fun i => l.length - i) 0 [] ⟨Nat.zero_le _, fun j hj => absurd hj (Nat.not_lt_zero j)⟩ ⟨rfl, ⟨embV_le (.refl _) rfl, ⟨rfl, rfl⟩, embV_le (.refl _) rfl, ⟨rfl, rfl⟩, ⟨rfl, rfl⟩, trivial⟩, trivial⟩ ?_
      intro i ⟨hj1, hj2⟩
      conv => whnf
      refine bcase_of (fun h3 => ?_) (fun h3 => ?_)
      · have hlt : i < l.length := by have := of_decide_eq_true h3; omega
        have hbl := bigC_len (hi2 i hlt)
        have hb3 : (decide (16 < (l.length : Int)) || l.any bigC) = false := by rw [h, hbig]; rfl
        conv => whnf
        refine ⟨by omega, ?_⟩
        conv => whnf
        refine loops_intro (ct := []) cfgOK (by decide +kernel) (fun j : Nat => ⟨[(0, clksV l), (5, iV (prodC (l.take i))), (6, iV i), (7, .ptr 5 0 0), (32, clksV l), (33, iV l.length), (34, iV i), (40, intsV (l.getD i clk0).par), (41, iV (l.getD i clk0).par.length), (42, iV j)], [(5, some (.box (clkV (l.getD i clk0)).cells))], 20⟩)
          (fun j => j ≤ (l.getD i clk0).par.length ∧ ∀ k, k < j → withinF ((l.getD i clk0).par.getD k 0) 0 (i - 1) = true) (fun j => (l.getD i clk0).par.length - j) 0 [] ⟨Nat.zero_le _, fun j hj => absurd hj (Nat.not_lt_zero j)⟩
          ⟨rfl, ⟨embV_le (.refl _) rfl, ⟨rfl, rfl⟩, ⟨rfl, rfl⟩, ⟨rfl, rfl, rfl, rfl⟩, embV_le (.refl _) rfl, ⟨rfl, rfl⟩, ⟨rfl, rfl⟩, embV_le (.refl _) rfl, ⟨rfl, rfl⟩, ⟨rfl, rfl⟩, trivial⟩, ⟨embO_le (LeL.refl _) rfl (Nat.lt_of_sub_pos (by exact Nat.zero_lt_succ _)), trivial⟩⟩ ?_
        intro j ⟨hk1, hk2⟩
        conv => whnf
        refine bcase_of (fun h4 => ?_) (fun h4 => ?_)
        · have hjl : j < (l.getD i clk0).par.length := by have := of_decide_eq_true h4; omega
          conv => whnf
          refine ⟨by omega, ?_⟩
          conv => whnf
          refine bcase_of (fun h5 => ?_) (fun h5 => ?_)
          · conv => whnf
            have h5 : (decide ((l.getD i clk0).par.getD j 0 < 0) || decide ((i : Int) ≤ (l.getD i clk0).par.getD j 0)) = true := h5
            have hw : withinF ((l.getD i clk0).par.getD j 0) 0 (i - 1) = false := by
              rw [← Bool.not_eq_true, within_iff]
              simp only [Bool.or_eq_true, decide_eq_true_eq] at h5
              omega
            refine ⟨⟨rfl, ?_⟩, trivial⟩
            unfold checkF
            rw [hb3, allV_false hlt (validC_false_par hjl hw)]
            rfl
          · conv => whnf
            have h5 : (decide ((l.getD i clk0).par.getD j 0 < 0) || decide ((i : Int) ≤ (l.getD i clk0).par.getD j 0)) = false := h5
            refine ⟨by unfold InI64; omega, ?_⟩
            conv => whnf
            refine ⟨j + 1, [], ⟨hjl, fun k hk => ?_⟩, by omega, ⟨rfl, ⟨embV_le (.refl _) rfl, ⟨rfl, rfl⟩, ⟨rfl, rfl⟩, ⟨rfl, rfl, rfl, rfl⟩, embV_le (.refl _) rfl, ⟨rfl, rfl⟩, ⟨rfl, rfl⟩, embV_le (.refl _) rfl, ⟨rfl, rfl⟩, ⟨rfl, by simp⟩, trivial⟩, ⟨embO_le (LeL.refl _) rfl (Nat.lt_of_sub_pos (by exact Nat.zero_lt_succ _)), trivial⟩⟩⟩
            by_cases hkj : k = j
            · subst hkj
              rw [within_iff]
              simp only [Bool.or_eq_false_iff, decide_eq_false_iff_not] at h5
              omega
            · exact hk2 k (by omega)
        · have hje : j = (l.getD i clk0).par.length := by have := of_decide_eq_false h4; omega
          subst hje
          have hv := validC_rest (k := (i : Int)) hk2
          conv => whnf
          refine ⟨_, _, choices_spec (l.getD i clk0) (by omega) (by omega), ?_⟩
          conv => whnf
          refine bcase_of (fun h5 => ?_) (fun h5 => ?_)
          · conv => whnf
            refine ⟨⟨rfl, ?_⟩, trivial⟩
            rw [show _ = true from h5] at hv
            unfold checkF
            rw [hb3, allV_false hlt hv]
            rfl
          · rw [show _ = false from h5] at hv
            have hpm := prod_mul (l.take i) (l.getD i clk0).ch.length (by omega)
            conv => whnf
            refine ⟨by unfold InI64; omega, ?_⟩
            conv => whnf
            refine ⟨by unfold InI64; omega, ?_⟩
            conv => whnf
            refine ⟨i + 1, [], ⟨hlt, fun k hk => ?_⟩, by omega, ⟨rfl, ⟨embV_le (.refl _) rfl, ⟨rfl, ?_⟩, embV_le (.refl _) rfl, ⟨rfl, rfl⟩, ⟨rfl, by simp⟩, trivial⟩, trivial⟩⟩
            · by_cases hki : k = i
              · subst hki; exact hv
              · exact hj2 k (by omega)
            · unfold prodC
              rw [foldl_take _ _ clk0 hlt]
              rfl
      · have hil : i = l.length := by have := of_decide_eq_false h3; omega
        subst hil
        have hall := allV_true hj2
        have hb3 : (decide (16 < (l.length : Int)) || l.any bigC) = false := by rw [h, hbig]; rfl
        conv => whnf
        rw [List.take_length]
        refine bcase_of (fun h4 => ?_) (fun h4 => ?_)
        · conv => whnf
          refine ⟨⟨rfl, ?_⟩, trivial⟩
          unfold checkF
          rw [hb3, hall, h4]
          rfl
        · conv => whnf
          refine ⟨_, _, factors_spec l (by omega) (parOK_of hj2 hi2), ?_⟩
          conv => whnf
          have hfl := (facs_len_bound l).1
          refine loops_intro (ct := []) cfgOK (by decide +kernel) (fun i : Nat => ⟨[(84, intsV (facs l)), (85, iV (facs l).length), (86, iV i)], [], 1⟩) (fun i => i ≤ (facs l).length ∧ ∀ j : Nat, j < i → (fun n => decide (4 < n)) ((facs l).getD j 0) = false) (fun i => (facs l).length - i) 0 [] ⟨Nat.zero_le _, fun j hj => absurd hj (Nat.not_lt_zero j)⟩ ⟨rfl, ⟨embV_le (.refl _) rfl, ⟨rfl, rfl⟩, ⟨rfl, rfl⟩, trivial⟩, trivial⟩ ?_
          intro i ⟨hk1, hk2⟩
          conv => whnf
          refine bcase_of (fun h5 => ?_) (fun h5 => ?_)
          · have hlt : i < (facs l).length := by have := of_decide_eq_true h5; omega
            conv => whnf
            refine ⟨by omega, ?_⟩
            conv => whnf
            refine bcase_of (fun h6 => ?_) (fun h6 => ?_)
            · conv => whnf
              refine ⟨⟨rfl, ?_⟩, trivial⟩
              unfold checkF
              rw [hb3, hall, any_true_get (p := fun n => decide (4 < n)) 0 hlt h6, Bool.or_true]
              rfl
            · conv => whnf
              refine ⟨by unfold InI64; omega, ?_⟩
              conv => whnf
              refine ⟨i + 1, [], ⟨hlt, fun j hj => ?_⟩, by omega, ⟨rfl, ⟨embV_le (.refl _) rfl, ⟨rfl, rfl⟩, ⟨rfl, by simp⟩, trivial⟩, trivial⟩⟩
              by_cases hji : j = i
              · subst hji; exact h6
              · exact hk2 j (by omega)
          · have hil : i = (facs l).length := by have := of_decide_eq_false h5; omega
            subst hil
            conv => whnf
            refine ⟨⟨rfl, ?_⟩, trivial⟩
            unfold checkF
            rw [hb3, hall, h4, any_none (p := fun n => decide (4 < n)) 0 hk2]
            rfl

end Go.Proofs.YtjmhlbogkeohpaaDoor

namespace Go.Proofs.YtjmhlbogkeohpaaDoor
open Go.Ab
set_option maxRecDepth 100000

theorem facs_take (l : List Clk) (k : Nat) : ∀ j, j < k → j < l.length → (facs l).getD j 0 = (facs (l.take k)).getD j 0 := by
  induction l using snocInd with
  | nil => intro j _ hj; cases hj
  | append_singleton l c ih =>
    intro j hjk hj
    have hlen := (facs_len_bound l).1
    by_cases hk : k ≤ l.length
    · rw [List.take_append_of_le_length hk, facs_snoc, getD_app_l 0 (by omega)]
      exact ih j hjk (by omega)
    · rw [List.take_of_length_le (l := l ++ [c]) (by rw [List.length_append]; simp; omega)]

theorem choices_pos {c : Clk} (h : choicesB c = true) : 1 ≤ c.ch.length := by
  cases hc : c.ch with
  | nil =>
    unfold choicesB at h
    rw [hc] at h
    cases h1 : c.kind == 1 <;> cases h2 : (c.kind == 2 || c.kind == 3) <;> cases h3 : c.kind == 4 <;> cases h4 : c.kind == 5 <;> rw [h1, h2, h3, h4] at h <;> simp at h
  | cons x r => simp

theorem validC_choices {c : Clk} {k : Int} (h : validC c k = true) : choicesB c = true := by
  unfold validC at h
  cases hb : (c.par.any (fun y => !withinF y 0 (k - 1)) || !withinF c.high 0 4000000000 || !withinF c.low 0 c.high) with
  | true => rw [hb] at h; cases h
  | false => rw [hb] at h; exact h

theorem prodC_snoc (l : List Clk) (c : Clk) : prodC (l ++ [c]) = minI (prodC l * c.ch.length) 1099511627776 := by
  unfold prodC
  rw [List.foldl_append]
  rfl

theorem prodC_mono (l : List Clk) : (∀ c ∈ l, 1 ≤ c.ch.length) → ∀ k, prodC (l.take k) ≤ prodC l := by
  induction l using snocInd with
  | nil => intro _ k; rw [List.take_nil]; exact Int.le_refl _
  | append_singleton l c ih =>
    intro h k
    by_cases hk : k ≤ l.length
    · rw [List.take_append_of_le_length hk, prodC_snoc]
      have h1 := ih (fun d hd => h d (List.mem_append_left _ hd)) k
      have hb := prodC_bound l
      have hc := h c (List.mem_append_right _ (List.mem_singleton.2 rfl))
      have : prodC l * 1 ≤ prodC l * c.ch.length := Int.mul_le_mul_of_nonneg_left (by omega) hb.1
      rw [Int.mul_one] at this
      generalize prodC l * (c.ch.length : Int) = q at *
      unfold minI
      split <;> omega
    · rw [List.take_of_length_le (l := l ++ [c]) (by rw [List.length_append]; simp; omega)]
      exact Int.le_refl _

theorem le_setG {α : Type} {f : α → AV} {d : α} {acc z : List α} {x v : α} {i : Nat} (hi : i = acc.length) (k : Nat) : Le (setG (rowG f d (acc ++ x :: z)) i (f v) k) (rowG f d (acc ++ v :: z) k) := by
  by_cases hk : k = i
  · subst hk
    have e1 : setG (rowG f d (acc ++ x :: z)) k (f v) k = f v := by simp [setG]
    have e2 : rowG f d (acc ++ v :: z) k = f v := by unfold rowG; rw [getD_app_r d hi]
    rw [e1, e2]
    exact .refl _
  · have e1 : setG (rowG f d (acc ++ x :: z)) i (f v) k = rowG f d (acc ++ x :: z) k := by
      have : Nat.beq k i = false := by
        cases hb : Nat.beq k i with
        | false => rfl
        | true => exact absurd (Nat.eq_of_beq_eq_true hb) hk
      simp [setG, this]
    have e2 : rowG f d (acc ++ v :: z) k = rowG f d (acc ++ x :: z) k := by
      unfold rowG
      congr 1
      by_cases hlt : k < acc.length
      · rw [getD_app_l d hlt, getD_app_l d hlt]
      · rw [List.getD_eq_getElem?_getD, List.getD_eq_getElem?_getD, List.getElem?_append_right (by omega), List.getElem?_append_right (by omega)]
        cases hkk : k - acc.length with
        | zero => omega
        | succ m => rfl
    rw [e1, e2]
    exact .refl _

theorem check_spec (l : List Clk) (hl : l.length ≤ 1000000) : S 23 [clksV l] [] (iV (checkF l)) [] := by
  refine spec_of_x (ct := []) cfgOK Tryd.func23 rfl rfl (Nat.le_of_ble_eq_true rfl) (by decide +kernel) (Nat.le_refl _) ?_
  conv => whnf
  refine ⟨_, _, fun _ => bigs_c l hl, ?_⟩
  conv => whnf
  refine bcase_of (fun h => ?_) (fun h => ?_)
  · conv => whnf
    refine ⟨⟨rfl, ?_⟩, trivial⟩
    unfold checkF
    rw [h]
    rfl
  · conv => whnf
    have hb3 : (decide (16 < (l.length : Int)) || l.any bigC) = false := h
    have h16 : l.length ≤ 16 := by simp at hb3; omega
    have hbig : ∀ i : Nat, i < l.length → bigC (l.getD i clk0) = false := any_false_get clk0 (by simp only [Bool.or_eq_false_iff] at hb3; exact hb3.2)
    refine loops_intro (ct := []) cfgOK (by decide +kernel) (fun i : Nat => ⟨[(0, clksV l), (18, clksV l), (19, iV l.length), (20, iV i)], [], 1⟩) (fun i => i ≤ l.length ∧ ∀ j : Nat, j < i → validC (l.getD j clk0) j = true) (fun i => l.length - i) 0 [] ⟨Nat.zero_le _, fun j hj => absurd hj (Nat.not_lt_zero j)⟩ ⟨rfl, ⟨embV_le (.refl _) rfl, embV_le (.refl _) rfl, ⟨rfl, rfl⟩, ⟨rfl, rfl⟩, trivial⟩, trivial⟩ ?_
    intro i ⟨hi1, hi2⟩
    conv => whnf
    refine bcase_of (fun h2 => ?_) (fun h2 => ?_)
    · have hlt : i < l.length := by have := of_decide_eq_true h2; omega
      have hbl := bigC_len (hbig i hlt)
      conv => whnf
      refine ⟨by omega, ?_⟩
      conv => whnf
      refine ⟨_, _, valid_clk_spec (l.getD i clk0) i (by omega) (by omega) (by omega), ?_⟩
      conv => whnf
      refine bcase_of (fun h3 => ?_) (fun h3 => ?_)
      · conv => whnf
        refine ⟨⟨rfl, ?_⟩, trivial⟩
        have h3 : (!validC (l.getD i clk0) i) = true := h3
        unfold checkF
        rw [hb3, allV_false hlt (by simpa using h3)]
        rfl
      · conv => whnf
        have h3 : (!validC (l.getD i clk0) i) = false := h3
        refine ⟨by unfold InI64; omega, ?_⟩
        conv => whnf
        refine ⟨i + 1, [], ⟨hlt, fun j hj => ?_⟩, by omega, ⟨rfl, ⟨embV_le (.refl _) rfl, embV_le (.refl _) rfl, ⟨rfl, rfl⟩, ⟨rfl, by simp⟩, trivial⟩, trivial⟩⟩
        by_cases hji : j = i
        · subst hji; simpa using h3
        · exact hi2 j (by omega)
    · have hil : i = l.length := by have := of_decide_eq_false h2; omega
      subst hil
      have hall := allV_true hi2
      conv => whnf
      refine ⟨⟨by omega, by show (l.length : Int) * 8 ≤ 140737488355328; omega⟩, ?_⟩
      conv => whnf
      refine loops_intro (ct := [21]) cfgOK (by decide +kernel) (fun i : Nat => ⟨[(0, clksV l), (5, iV (prodC (l.take i))), (6, .osl 0 0 l.length true), (33, clksV l), (34, iV l.length), (35, iV i)], [(0, some (.row 1 l.length (rowG iV 0 (facs (l.take i) ++ List.replicate (l.length - i) 0))))], 1⟩)
        (fun i => i ≤ l.length ∧ prodC (l.take i) ≤ 4096 ∧ ∀ j : Nat, j < i → (fun n => decide (4 < n)) ((facs l).getD j 0) = false) (fun i => l.length - i) 0 [(0, some 5)] ⟨Nat.zero_le _, by rw [List.take_zero]; decide, fun j hj => absurd hj (Nat.not_lt_zero j)⟩
        ⟨rfl, ⟨embV_le (.refl _) rfl, ⟨rfl, rfl⟩, ⟨rfl, rfl, rfl, rfl, id⟩, embV_le (.refl _) rfl, ⟨rfl, rfl⟩, ⟨rfl, rfl⟩, trivial⟩, ⟨⟨rfl, rfl, fun k hk => ?_⟩, trivial⟩⟩ ?_
      · have e : rowG iV 0 (facs (l.take 0) ++ List.replicate (l.length - 0) 0) k = iV 0 := by
          unfold rowG
          rw [List.take_zero]
          show iV ((List.replicate (l.length - 0) (0 : Int)).getD k 0) = iV 0
          congr 1
          rw [List.getD_eq_getElem?_getD, List.getElem?_replicate]
          split <;> rfl
        rw [e]
        exact .refl _
      intro i ⟨hj1, hj2, hj3⟩
      conv => whnf
      refine bcase_of (fun h3 => ?_) (fun h3 => ?_)
      · have hlt : i < l.length := by have := of_decide_eq_true h3; omega
        conv => whnf
        refine ⟨by omega, ?_⟩
        conv => whnf
        obtain ⟨hfl, hb⟩ := facs_len_bound (l.take i)
        rw [take_len hj1] at hfl hb
        have hpi := (parOK_of hi2 hbig) i hlt
        have hsn : facs (l.take (i + 1)) = facs (l.take i) ++ [fac1 (facs (l.take i)) (l.getD i clk0)] := by rw [take_snoc clk0 hlt, facs_snoc]
        have hpm := parMax_bound (facs (l.take i)) i (by omega) hb
        have hrep : List.replicate (l.length - i) (0 : Int) = 0 :: List.replicate (l.length - i - 1) 0 := by
          rw [show l.length - i = (l.length - i - 1) + 1 by omega]
          rfl
        refine loops_intro (ct := []) cfgOK (by decide +kernel) (fun j : Nat => ⟨[(0, clksV l), (5, iV (prodC (l.take i))), (6, .osl 0 0 l.length true), (7, iV i), (8, .ptr 5 0 0), (33, clksV l), (34, iV l.length), (35, iV i), (41, intsV (l.getD i clk0).par), (42, iV (l.getD i clk0).par.length), (43, iV j)], [(5, some (.box (clkV (l.getD i clk0)).cells)), (0, some (.row 1 l.length (rowG iV 0 (facs (l.take i) ++ parMax (facs (l.take i)) ((l.getD i clk0).par.take j) :: List.replicate (l.length - i - 1) 0))))], 20⟩)
          (fun j => j ≤ (l.getD i clk0).par.length) (fun j => (l.getD i clk0).par.length - j) 0 [] (Nat.zero_le _)
          ⟨rfl, ⟨embV_le (.refl _) rfl, ⟨rfl, rfl⟩, ⟨rfl, rfl, rfl, rfl, id⟩, ⟨rfl, rfl⟩, ⟨rfl, rfl, rfl, rfl⟩, embV_le (.refl _) rfl, ⟨rfl, rfl⟩, ⟨rfl, rfl⟩, embV_le (.refl _) rfl, ⟨rfl, rfl⟩, ⟨rfl, rfl⟩, trivial⟩, ⟨embO_le (LeL.refl _) rfl (Nat.lt_of_sub_pos (by exact Nat.zero_lt_succ _)), ⟨rfl, rfl, fun k _ => ?_⟩, trivial⟩⟩ ?_
        · rw [hrep]
          exact .refl _
        intro j hj
        conv => whnf
        refine bcase_of (fun h4 => ?_) (fun h4 => ?_)
        · have hjl : j < (l.getD i clk0).par.length := by have := of_decide_eq_true h4; omega
          have hin := hpi.2 ((l.getD i clk0).par.getD j 0) (getD_mem 0 hjl)
          conv => whnf
          refine ⟨by omega, ?_⟩
          conv => whnf
          refine ⟨by omega, ?_⟩
          conv => whnf
          refine ⟨⟨hin.1, Int.lt_trans hin.2 (by omega)⟩, ?_⟩
          conv => whnf
          refine ⟨by omega, ?_⟩
          conv => whnf
          refine ⟨by unfold InI64; omega, ?_⟩
          conv => whnf
          refine ⟨j + 1, [], hjl, by omega, ⟨rfl, ⟨embV_le (.refl _) rfl, ⟨rfl, rfl⟩, ⟨rfl, rfl, rfl, rfl, id⟩, ⟨rfl, rfl⟩, ⟨rfl, rfl, rfl, rfl⟩, embV_le (.refl _) rfl, ⟨rfl, rfl⟩, ⟨rfl, rfl⟩, embV_le (.refl _) rfl, ⟨rfl, rfl⟩, ⟨rfl, by simp⟩, trivial⟩, ⟨embO_le (LeL.refl _) rfl (Nat.lt_of_sub_pos (by exact Nat.zero_lt_succ _)), ⟨rfl, rfl, fun k _ => ?_⟩, trivial⟩⟩⟩
          have e : parMax (facs (l.take i)) ((l.getD i clk0).par.take (j + 1)) = maxI ((facs (l.take i) ++ parMax (facs (l.take i)) ((l.getD i clk0).par.take j) :: List.replicate (l.length - i - 1) 0).getD i 0) ((facs (l.take i) ++ parMax (facs (l.take i)) ((l.getD i clk0).par.take j) :: List.replicate (l.length - i - 1) 0).getD ((l.getD i clk0).par.getD j 0).toNat 0) := by
            rw [getD_app_r 0 hfl.symm, getD_app_l 0 (by omega)]
            unfold parMax
            rw [foldl_take _ _ 0 hjl]
          rw [e]
          exact le_setG hfl.symm k
        · have hje : j = (l.getD i clk0).par.length := by have := of_decide_eq_false h4; omega
          subst hje
          rw [List.take_length]
          conv => whnf
          have hpx := hpm (l.getD i clk0).par
          refine cut_intro (ct := []) (ct' := []) cfgOK (by decide +kernel) (by decide +kernel) (fun _ : Unit => ⟨[(0, clksV l), (5, iV (prodC (l.take i))), (6, .osl 0 0 l.length true), (7, iV i), (8, .ptr 5 0 0), (33, clksV l), (34, iV l.length), (35, iV i)], [(5, some (.box (clkV (l.getD i clk0)).cells)), (0, some (.row 1 l.length (rowG iV 0 (facs (l.take i) ++ fac1 (facs (l.take i)) (l.getD i clk0) :: List.replicate (l.length - i - 1) 0))))], 40⟩) (fun _ => True) ?_ ?_
          · conv => whnf
            refine bcase_of (fun h5 => ?_) (fun h5 => ?_)
            · conv => whnf
              refine ⟨by omega, ?_⟩
              conv => whnf
              refine ⟨by show InI64 ((facs (l.take i) ++ parMax (facs (l.take i)) (l.getD i clk0).par :: List.replicate (l.length - i - 1) 0).getD i 0 + 1); rw [getD_app_r 0 hfl.symm]; unfold InI64; omega, ?_⟩
              conv => whnf
              refine ⟨by omega, ?_⟩
              conv => whnf
              refine ⟨(), [], trivial, ⟨rfl, ⟨embV_le (.refl _) rfl, ⟨rfl, rfl⟩, ⟨rfl, rfl, rfl, rfl, id⟩, ⟨rfl, rfl⟩, ⟨rfl, rfl, rfl, rfl⟩, embV_le (.refl _) rfl, ⟨rfl, rfl⟩, ⟨rfl, rfl⟩, trivial⟩, ⟨embO_le (LeL.refl _) rfl (Nat.lt_of_sub_pos (by exact Nat.zero_lt_succ _)), ⟨rfl, rfl, fun k _ => ?_⟩, trivial⟩⟩⟩
              have e : fac1 (facs (l.take i)) (l.getD i clk0) = (facs (l.take i) ++ parMax (facs (l.take i)) (l.getD i clk0).par :: List.replicate (l.length - i - 1) 0).getD i 0 + 1 := by
                rw [getD_app_r 0 hfl.symm]
                unfold fac1 isDM
                rw [show _ = true from h5]
                rfl
              rw [e]
              exact le_setG hfl.symm k
            · conv => whnf
              refine ⟨(), [], trivial, ⟨rfl, ⟨embV_le (.refl _) rfl, ⟨rfl, rfl⟩, ⟨rfl, rfl, rfl, rfl, id⟩, ⟨rfl, rfl⟩, ⟨rfl, rfl, rfl, rfl⟩, embV_le (.refl _) rfl, ⟨rfl, rfl⟩, ⟨rfl, rfl⟩, trivial⟩, ⟨embO_le (LeL.refl _) rfl (Nat.lt_of_sub_pos (by exact Nat.zero_lt_succ _)), ⟨rfl, rfl, fun k _ => ?_⟩, trivial⟩⟩⟩
              have e : fac1 (facs (l.take i)) (l.getD i clk0) = parMax (facs (l.take i)) (l.getD i clk0).par := by
                unfold fac1 isDM
                rw [show _ = false from h5]
                rfl
              rw [e]
              exact .refl _
          · intro _ _
            have hbl := bigC_len (hbig i hlt)
            have hpb := prodC_bound (l.take i)
            have hpmul : 0 ≤ prodC (l.take i) * ((l.getD i clk0).ch.length : Int) ∧ prodC (l.take i) * ((l.getD i clk0).ch.length : Int) ≤ 4096 * 8 := ⟨Int.mul_nonneg hpb.1 (by omega), Int.mul_le_mul hj2 (by omega) (by omega) (by omega)⟩
            have hpe : prodC (l.take (i + 1)) = prodC (l.take i) * ((l.getD i clk0).ch.length : Int) := by
              rw [take_snoc clk0 hlt, prodC_snoc]
              unfold minI
              rw [if_neg (by omega)]
            have hfi : (facs l).getD i 0 = fac1 (facs (l.take i)) (l.getD i clk0) := by
              rw [facs_take l (i + 1) i (by omega) hlt, hsn, getD_app_r 0 hfl.symm]
            conv => whnf
            refine ⟨by unfold InI64; omega, ?_⟩
            conv => whnf
            refine ⟨fun _ => by omega, ?_⟩
            conv => whnf
            refine bcase_of (fun h5 => ?_) (fun h5 => ?_)
            · have h5 : (decide (4096 < prodC (l.take i) * ((l.getD i clk0).ch.length : Int)) || decide (4 < (facs (l.take i) ++ fac1 (facs (l.take i)) (l.getD i clk0) :: List.replicate (l.length - i - 1) 0).getD i 0)) = true := h5
              rw [getD_app_r 0 hfl.symm, ← hfi, ← hpe] at h5
              conv => whnf
              refine ⟨⟨rfl, ?_⟩, trivial⟩
              unfold checkF
              rw [hb3, hall]
              have : (decide (4096 < prodC l) || (facs l).any (fun n => decide (4 < n))) = true := by
                rw [Bool.or_eq_true] at h5 ⊢
                rcases h5 with h5 | h5
                · left
                  have h5 := of_decide_eq_true h5
                  have hm := prodC_mono l (fun c hc => by
                    obtain ⟨k, hk, rfl⟩ := List.mem_iff_getElem.1 hc
                    have := choices_pos (validC_choices (hi2 k hk))
                    rwa [List.getD_eq_getElem?_getD, List.getElem?_eq_getElem hk] at this) (i + 1)
                  exact decide_eq_true (by omega)
                · right
                  exact any_true_get (p := fun n => decide (4 < n)) 0 (by rw [(facs_len_bound l).1]; exact hlt) h5
              rw [this]
              rfl
            · have h5 : (decide (4096 < prodC (l.take i) * ((l.getD i clk0).ch.length : Int)) || decide (4 < (facs (l.take i) ++ fac1 (facs (l.take i)) (l.getD i clk0) :: List.replicate (l.length - i - 1) 0).getD i 0)) = false := h5
              rw [getD_app_r 0 hfl.symm, ← hfi, ← hpe] at h5
              conv => whnf
              refine ⟨by unfold InI64; omega, ?_⟩
              conv => whnf
              rw [Bool.or_eq_false_iff] at h5
              refine ⟨i + 1, [], ⟨hlt, by have := of_decide_eq_false h5.1; omega, fun j hj => ?_⟩, by omega, ⟨rfl, ⟨embV_le (.refl _) rfl, ⟨rfl, hpe.symm⟩, ⟨rfl, rfl, rfl, rfl, id⟩, embV_le (.refl _) rfl, ⟨rfl, rfl⟩, ⟨rfl, by simp⟩, trivial⟩, ⟨⟨rfl, rfl, fun k _ => ?_⟩, trivial⟩⟩⟩
              · by_cases hji : j = i
                · subst hji; exact h5.2
                · exact hj3 j (by omega)
              · rw [hsn, List.append_assoc, show l.length - (i + 1) = l.length - i - 1 by omega]
                exact .refl _
      · have hil : i = l.length := by have := of_decide_eq_false h3; omega
        subst hil
        conv => whnf
        refine ⟨⟨rfl, ?_⟩, trivial⟩
        rw [List.take_length] at hj2
        unfold checkF
        rw [hb3, hall, decide_eq_false (show ¬ 4096 < prodC l by omega), any_none (p := fun n => decide (4 < n)) 0 (by rw [(facs_len_bound l).1]; exact hj3)]
        rfl

end Go.Proofs.YtjmhlbogkeohpaaDoor

namespace Go.Proofs.YtjmhlbogkeohpaaDoor
open Go.Ab
set_option maxRecDepth 100000

def settB (l : List Clk) (s : List Int) : Bool := ((s.length : Int) == (l.length : Int)) && (List.range l.length).all fun i => withinF (s.getD i 0) 0 ((l.getD i clk0).ch.length - 1)

theorem rangeAll_true {n : Nat} {p : Nat → Bool} (h : ∀ i, i < n → p i = true) : (List.range n).all p = true := by
  rw [List.all_eq_true]
  intro i hi
  exact h i (List.mem_range.1 hi)

theorem rangeAll_get {n : Nat} {p : Nat → Bool} (h : (List.range n).all p = true) {i : Nat} (hi : i < n) : p i = true := by
  rw [List.all_eq_true] at h
  exact h i (List.mem_range.2 hi)

theorem rangeAll_false {n : Nat} {p : Nat → Bool} {i : Nat} (hi : i < n) (h : p i = false) : (List.range n).all p = false := by
  cases hv : (List.range n).all p with
  | false => rfl
  | true => rw [rangeAll_get hv hi] at h; cases h

def ChOK (l : List Clk) : Prop := ∀ i : Nat, i < l.length → (l.getD i clk0).ch.length ≤ 1000000

theorem setting_spec (l : List Clk) (s : List Int) (hl : l.length ≤ 1000000) (hc : ChOK l) : S 40 [clksV l, intsV s] [] (.bool (settB l s)) [] := by
  refine spec_of_x (ct := []) cfgOK Tryd.func40 rfl rfl (Nat.le_of_ble_eq_true rfl) (by decide +kernel) (Nat.le_refl _) ?_
  conv => whnf
  refine bcase_of (fun h => ?_) (fun h => ?_)
  · conv => whnf
    have h : ((s.length : Int) != (l.length : Int)) = true := h
    refine ⟨?_, trivial⟩
    show false = settB l s
    unfold settB
    cases he : ((s.length : Int) == (l.length : Int)) with
    | false => rfl
    | true => rw [bne, he] at h; cases h
  · conv => whnf
    have h : ((s.length : Int) != (l.length : Int)) = false := h
    have he : ((s.length : Int) == (l.length : Int)) = true := by
      cases he : ((s.length : Int) == (l.length : Int)) with
      | true => rfl
      | false => rw [bne, he] at h; cases h
    have hsl : s.length = l.length := by simp at he; omega
    refine loops_intro (ct := []) cfgOK (by decide +kernel) (fun i : Nat => ⟨[(0, clksV l), (1, intsV s), (12, intsV s), (13, iV s.length), (14, iV i)], [], 1⟩) (fun i => i ≤ s.length ∧ ∀ j : Nat, j < i → withinF (s.getD j 0) 0 ((l.getD j clk0).ch.length - 1) = true) (fun i => s.length - i) 0 [] ⟨Nat.zero_le _, fun j hj => absurd hj (Nat.not_lt_zero j)⟩ ⟨rfl, ⟨embV_le (.refl _) rfl, embV_le (.refl _) rfl, embV_le (.refl _) rfl, ⟨rfl, rfl⟩, ⟨rfl, rfl⟩, trivial⟩, trivial⟩ ?_
    intro i ⟨hi1, hi2⟩
    conv => whnf
    refine bcase_of (fun h2 => ?_) (fun h2 => ?_)
    · have hlt : i < s.length := by have := of_decide_eq_true h2; omega
      have hci := hc i (by omega)
      conv => whnf
      refine ⟨by omega, ?_⟩
      conv => whnf
      refine ⟨by omega, ?_⟩
      conv => whnf
      refine ⟨by show InI64 (((l.getD i clk0).ch.length : Int) - 1); unfold InI64; omega, ?_⟩
      conv => whnf
      refine ⟨_, _, within_spec (s.getD i 0) 0 ((l.getD i clk0).ch.length - 1), ?_⟩
      conv => whnf
      refine bcase_of (fun h3 => ?_) (fun h3 => ?_)
      · conv => whnf
        have h3 : (!withinF (s.getD i 0) 0 ((l.getD i clk0).ch.length - 1)) = true := h3
        refine ⟨?_, trivial⟩
        show false = settB l s
        unfold settB
        rw [he, rangeAll_false (i := i) (by omega) (by simpa using h3)]
        rfl
      · conv => whnf
        have h3 : (!withinF (s.getD i 0) 0 ((l.getD i clk0).ch.length - 1)) = false := h3
        refine ⟨by unfold InI64; omega, ?_⟩
        conv => whnf
        refine ⟨i + 1, [], ⟨hlt, fun j hj => ?_⟩, by omega, ⟨rfl, ⟨embV_le (.refl _) rfl, embV_le (.refl _) rfl, embV_le (.refl _) rfl, ⟨rfl, rfl⟩, ⟨rfl, by simp⟩, trivial⟩, trivial⟩⟩
        by_cases hji : j = i
        · subst hji; simpa using h3
        · exact hi2 j (by omega)
    · have hil : i = s.length := by have := of_decide_eq_false h2; omega
      subst hil
      conv => whnf
      refine ⟨?_, trivial⟩
      show true = settB l s
      unfold settB
      rw [he, rangeAll_true (fun i hi => hi2 i (by omega))]
      rfl

theorem rsetting_spec (l : List Clk) (s : List Int) (hl : l.length ≤ 1000000) (hc : ChOK l) : S 27 [clksV l, intsV s] [] (.bool ((checkF l == 0) && settB l s)) [] := by
  refine spec_of_x (ct := []) cfgOK Tryd.func27 rfl rfl (Nat.le_of_ble_eq_true rfl) (by decide +kernel) (Nat.le_refl _) ?_
  conv => whnf
  refine ⟨_, _, rcheck_spec l hl, ?_⟩
  conv => whnf
  refine bcase_of (fun h => ?_) (fun h => ?_)
  · conv => whnf
    have h : (checkF l != 0 || ((s.length : Int) != (l.length : Int))) = true := h
    refine ⟨?_, trivial⟩
    show false = _
    unfold settB
    cases hc : checkF l == 0 with
    | false => rfl
    | true =>
      cases he : ((s.length : Int) == (l.length : Int)) with
      | false => rfl
      | true => rw [bne, hc, bne, he] at h; cases h
  · conv => whnf
    have h : (checkF l != 0 || ((s.length : Int) != (l.length : Int))) = false := h
    have hce : (checkF l == 0) = true ∧ ((s.length : Int) == (l.length : Int)) = true := by
      rw [Bool.or_eq_false_iff, bne, bne] at h
      exact ⟨by simpa using h.1, by simpa using h.2⟩
    have hsl : s.length = l.length := by have := hce.2; simp at this; omega
    rw [hce.1]
    refine loops_intro (ct := []) cfgOK (by decide +kernel) (fun i : Nat => ⟨[(0, clksV l), (1, intsV s), (17, clksV l), (18, iV l.length), (19, iV i)], [], 1⟩) (fun i => i ≤ l.length ∧ ∀ j : Nat, j < i → withinF (s.getD j 0) 0 ((l.getD j clk0).ch.length - 1) = true) (fun i => l.length - i) 0 [] ⟨Nat.zero_le _, fun j hj => absurd hj (Nat.not_lt_zero j)⟩ ⟨rfl, ⟨embV_le (.refl _) rfl, embV_le (.refl _) rfl, embV_le (.refl _) rfl, ⟨rfl, rfl⟩, ⟨rfl, rfl⟩, trivial⟩, trivial⟩ ?_
    intro i ⟨hi1, hi2⟩
    conv => whnf
    refine bcase_of (fun h2 => ?_) (fun h2 => ?_)
    · have hlt : i < l.length := by have := of_decide_eq_true h2; omega
      have hci := hc i (by omega)
      conv => whnf
      refine ⟨by omega, ?_⟩
      conv => whnf
      refine ⟨by omega, ?_⟩
      conv => whnf
      refine ⟨fun _ => by omega, ?_⟩
      conv => whnf
      refine bcase_of (fun h3 => ?_) (fun h3 => ?_)
      · conv => whnf
        have h3 : (decide (s.getD i 0 < 0) || decide (((l.getD i clk0).ch.length : Int) ≤ s.getD i 0)) = true := h3
        have hw : withinF (s.getD i 0) 0 ((l.getD i clk0).ch.length - 1) = false := by
          rw [← Bool.not_eq_true, within_iff]
          simp only [Bool.or_eq_true, decide_eq_true_eq] at h3
          omega
        refine ⟨?_, trivial⟩
        show false = (true && settB l s)
        unfold settB
        rw [hce.2, rangeAll_false (i := i) hlt hw]
        rfl
      · conv => whnf
        have h3 : (decide (s.getD i 0 < 0) || decide (((l.getD i clk0).ch.length : Int) ≤ s.getD i 0)) = false := h3
        refine ⟨by unfold InI64; omega, ?_⟩
        conv => whnf
        refine ⟨i + 1, [], ⟨hlt, fun j hj => ?_⟩, by omega, ⟨rfl, ⟨embV_le (.refl _) rfl, embV_le (.refl _) rfl, embV_le (.refl _) rfl, ⟨rfl, rfl⟩, ⟨rfl, by simp⟩, trivial⟩, trivial⟩⟩
        by_cases hji : j = i
        · subst hji
          rw [within_iff]
          simp only [Bool.or_eq_false_iff, decide_eq_false_iff_not] at h3
          omega
        · exact hi2 j (by omega)
    · have hil : i = l.length := by have := of_decide_eq_false h2; omega
      subst hil
      conv => whnf
      refine ⟨?_, trivial⟩
      show true = (true && settB l s)
      unfold settB
      rw [hce.2, rangeAll_true hi2]
      rfl

theorem setting_all_spec (l : List Clk) (s : List Int) (hl : l.length ≤ 1000000) (hc : ChOK l) : S 26 [clksV l, intsV s] [] (.bool ((checkF l == 0) && settB l s)) [] := by
  refine spec_of_x (ct := []) cfgOK Tryd.func26 rfl rfl (Nat.le_of_ble_eq_true rfl) (by decide +kernel) (Nat.le_refl _) ?_
  conv => whnf
  refine ⟨_, _, check_spec l hl, ?_⟩
  conv => whnf
  refine ⟨_, _, fun _ => setting_spec l s hl hc, ?_⟩
  conv => whnf
  exact ⟨rfl, trivial⟩

end Go.Proofs.YtjmhlbogkeohpaaDoor
