/- Contracts of the program's functions, shown by walks of that machine, and the plain laws. -/
import Derived.Test.YtjmhlbogkeohpaaDoorD3
namespace Go.Proofs.YtjmhlbogkeohpaaDoor
open Go.Ab
set_option maxRecDepth 100000

/-! What is known of made clocks and settings -/

structure Made (l : List Clk) : Prop where
  ok : checkF l = 0
  pos : 1 ≤ l.length
  fix : ∀ i, i < l.length → (l.getD i clk0).kind = 1 → (l.getD i clk0).ch.getD 0 0 ≤ 24000000

theorem cloN_made (most : Int) : ∀ (r : Nat) (l : List Clk) (p : Int) (t : Tp), Made l → t.ok → Made (cloN most r l p t).1 ∧ (cloN most r l p t).2.ok ∧ (cloN most r l p t).1.length ≤ l.length + r := by
  intro r
  induction r with
  | zero => intro l p t h ht; exact ⟨h, ht, Nat.le_refl _⟩
  | succ r ih =>
    intro l p t h ht
    obtain ⟨_, _, h3, h4⟩ := one_get t l.length
    rw [cloN]
    generalize oneF t l.length = c at *
    cases decide (most < p * (c.1.ch.length : Int)) with
    | true => have := ih l p c.2 h (h3 ht); simp only [cond_true]; exact ⟨this.1, this.2.1, by omega⟩
    | false =>
      simp only [cond_false]
      cases hc : checkF (l ++ [c.1]) != 0 with
      | true => have := ih l p c.2 h (h3 ht); simp only [cond_true]; exact ⟨this.1, this.2.1, by omega⟩
      | false =>
        simp only [cond_false]
        have hm : Made (l ++ [c.1]) := by
          refine ⟨by simpa using hc, by simp, fun i hi hk => ?_⟩
          by_cases hil : i < l.length
          · rw [getD_app_l _ hil] at hk ⊢
            exact h.fix i hil hk
          · have : i = l.length := by simp at hi; omega
            subst this
            rw [getD_app_r _ rfl] at hk ⊢
            exact h4 hk
        have := ih _ (p * c.1.ch.length) c.2 hm (h3 ht)
        refine ⟨this.1, this.2.1, ?_⟩
        have := this.2.2
        simp at this
        omega

theorem cloF_made (t : Tp) (ht : t.ok) (n most : Int) (hn : 0 ≤ n) : Made (cloF t n most).1 ∧ (cloF t n most).2.ok ∧ (cloF t n most).1.length ≤ n.toNat + 1 := by
  unfold cloF
  have ha := Tp.pick_mem t [12, 24, 100, 24000000] (by decide)
  have hb := Tp.n_lt (t.pick [12, 24, 100, 24000000]).2 n
  have ob : ((t.pick [12, 24, 100, 24000000]).2.n n).2.ok := Tp.n_ok (Tp.pick_ok ht [12, 24, 100, 24000000]) n
  generalize (t.pick [12, 24, 100, 24000000]).2.n n = b at *
  generalize t.pick [12, 24, 100, 24000000] = a at *
  have hm : Made [⟨1, [], [a.1], 0, 0⟩] := by
    refine ⟨?_, Nat.le_refl _, fun i hi hk => ?_⟩
    · simp only [List.mem_cons, List.not_mem_nil, or_false] at ha
      rcases ha with h | h | h | h <;> rw [h] <;> decide +kernel
    · have : i = 0 := by simp at hi; omega
      subst this
      show a.1 ≤ 24000000
      simp only [List.mem_cons, List.not_mem_nil, or_false] at ha
      omega
  have := cloN_made most b.1.toNat _ 1 b.2 hm ob
  refine ⟨this.1, this.2.1, ?_⟩
  have := this.2.2
  simp at this
  omega

theorem fine_ch {l : List Clk} (h : Fine l) (i : Nat) (hi : i < l.length) : 0 < (l.getD i clk0).ch.length := choices_pos (validC_choices (h.valid i hi))

theorem setN_get (l : List Clk) (t : Tp) (n j : Nat) (h : j < n) : (setN l t n).1.getD j 0 = ((setN l t j).2.n (l.getD j clk0).ch.length).1 := by
  induction n with
  | zero => omega
  | succ n ih =>
    rw [setN]
    by_cases hj : j < n
    · rw [getD_app_l _ (by rw [setN_len]; exact hj)]
      exact ih hj
    · have : j = n := by omega
      subst this
      rw [getD_app_r _ (setN_len l t j).symm]

theorem setF_sett {l : List Clk} (h : Fine l) (t : Tp) : settB l (setF l t).1 = true := by
  unfold settB setF
  rw [setN_len]
  rw [beq_self_eq_true]
  refine rangeAll_true fun i hi => ?_
  rw [setN_get l t l.length i hi, within_iff]
  have := Tp.n_lt (setN l t i).2 (l.getD i clk0).ch.length
  have := fine_ch h i hi
  omega

/-! Doubled clocks -/

def dbl (c : Clk) : Clk := ⟨c.kind, c.par, bif c.kind == 1 then [2 * c.ch.getD 0 0] else c.ch, 0, 0⟩

theorem getD_map {α β : Type} (f : α → β) (l : List α) (i : Nat) (d : α) (d' : β) (h : i < l.length) : (l.map f).getD i d' = f (l.getD i d) := by
  rw [List.getD_eq_getElem?_getD, List.getD_eq_getElem?_getD, List.getElem?_map, List.getElem?_eq_getElem h]
  rfl

theorem dbl_facs (l : List Clk) : facs (l.map dbl) = facs l := by
  induction l using snocInd with
  | nil => rfl
  | append_singleton l c ih =>
    rw [List.map_append]
    show facs (l.map dbl ++ [dbl c]) = _
    rw [facs_snoc, facs_snoc, ih]
    rfl

theorem dbl_ch {c : Clk} (h : choicesB c = true) : (dbl c).ch.length = c.ch.length := by
  unfold dbl
  rcases choicesB_cases h with ⟨h1, h2, h3, h4⟩ | ⟨h1, h2, h3, h4⟩ | ⟨h1, h2, h3⟩ | ⟨h1, h2, h3⟩
  · simp only
    rw [h1, h3]
    rfl
  · rcases h1 with h1 | h1 <;> simp only <;> rw [h1] <;> rfl
  · simp only; rw [h1]; rfl
  · simp only; rw [h1]; rfl

theorem dbl_prod (l : List Clk) (h : ∀ c ∈ l, choicesB c = true) : prodC (l.map dbl) = prodC l := by
  induction l using snocInd with
  | nil => rfl
  | append_singleton l c ih =>
    rw [List.map_append]
    show prodC (l.map dbl ++ [dbl c]) = _
    rw [prodC_snoc, prodC_snoc, ih (fun d hd => h d (List.mem_append_left _ hd)), dbl_ch (h c (List.mem_append_right _ (List.mem_singleton.2 rfl)))]

theorem dbl_choices {c : Clk} (h : choicesB c = true) (hf : c.kind = 1 → c.ch.getD 0 0 ≤ 24000000) : choicesB (dbl c) = true := by
  cases hk : c.kind == 1 with
  | true =>
    have hk1 : c.kind = 1 := eq_of_beq hk
    have hf := hf hk1
    rcases choicesB_cases h with ⟨h1, h2, h3, h4⟩ | ⟨h1, h2, h3, h4⟩ | ⟨h1, h2, h3⟩ | ⟨h1, h2, h3⟩
    · have e : dbl c = ⟨1, [], [2 * c.ch.getD 0 0], 0, 0⟩ := by unfold dbl; rw [hk, h2, hk1]; rfl
      rw [e]
      show (true && true && withinF (2 * c.ch.getD 0 0) 1 4000000000) = true
      rw [(within_iff _ _ _).2 (by omega)]
      rfl
    · rcases h1 with h1 | h1 <;> omega
    · omega
    · omega
  | false =>
    have e : dbl c = ⟨c.kind, c.par, c.ch, 0, 0⟩ := by unfold dbl; rw [hk]; rfl
    rw [e]
    exact h

theorem dbl_valid {c : Clk} {k : Int} (h : validC c k = true) (hf : c.kind = 1 → c.ch.getD 0 0 ≤ 24000000) : validC (dbl c) k = true := by
  have hp : ∀ j, j < (dbl c).par.length → withinF ((dbl c).par.getD j 0) 0 (k - 1) = true := fun j hj => by
    have := validC_par h _ (getD_mem 0 hj)
    exact (within_iff _ _ _).2 (by
      show 0 ≤ c.par.getD j 0 ∧ c.par.getD j 0 ≤ k - 1
      have h2 : 0 ≤ c.par.getD j 0 ∧ c.par.getD j 0 < k := this
      omega)
  rw [validC_rest hp, dbl_choices (validC_choices h) hf]
  rfl

theorem dbl_fine {l : List Clk} (h : Made l) : Fine (l.map dbl) := by
  have hf := fine_of h.ok
  have hv : ∀ i, i < l.length → choicesB (l.getD i clk0) = true := fun i hi => validC_choices (hf.valid i hi)
  refine ⟨by rw [List.length_map]; exact hf.len, fun i hi => ?_, fun i hi => ?_, ?_, fun i hi => ?_⟩
  · rw [List.length_map] at hi
    rw [getD_map dbl l i clk0 clk0 hi, dbl_ch (hv i hi)]
    exact hf.big i hi
  · rw [List.length_map] at hi
    rw [getD_map dbl l i clk0 clk0 hi]
    exact dbl_valid (hf.valid i hi) (h.fix i hi)
  · rw [dbl_prod l fun c hc => ?_]
    · exact hf.prod
    · obtain ⟨k, hk, rfl⟩ := List.mem_iff_getElem.1 hc
      have := hv k hk
      rwa [List.getD_eq_getElem?_getD, List.getElem?_eq_getElem hk] at this
  · rw [List.length_map] at hi
    rw [dbl_facs]
    exact hf.facs i hi

theorem dbl_sett {l : List Clk} {s : List Int} (h : Made l) (hs : settB l s = true) : settB (l.map dbl) s = true := by
  have hf := fine_of h.ok
  obtain ⟨h1, h2⟩ := sett_get hs
  unfold settB
  rw [List.length_map, h1, beq_self_eq_true]
  refine rangeAll_true fun i hi => ?_
  rw [getD_map dbl l i clk0 clk0 hi, dbl_ch (validC_choices (hf.valid i hi)), within_iff]
  have := h2 i hi
  omega

/-- A rate that is a fraction within bounds, for a clock with at most 'f' factors on its way. -/
structure Frac (F a b : Nat) (f : Int) : Prop where
  a0 : 0 < a
  b0 : 0 < b
  f0 : 0 ≤ f
  al : a ≤ F * 64 ^ f.toNat
  bl : b ≤ 64 ^ f.toNat

theorem pow_le4 {f : Int} (h : f ≤ 4) : 64 ^ f.toNat ≤ 16777216 := by
  have : f.toNat ≤ 4 := by omega
  calc 64 ^ f.toNat ≤ 64 ^ 4 := Nat.pow_le_pow_right (by decide) this
    _ = 16777216 := by decide

theorem Frac.mono {F a b : Nat} {f g : Int} (h : Frac F a b f) (hfg : f ≤ g) : Frac F a b g := by
  have hf := h.f0
  have : 64 ^ f.toNat ≤ 64 ^ g.toNat := Nat.pow_le_pow_right (by decide) (by omega)
  exact ⟨h.a0, h.b0, by omega, Nat.le_trans h.al (Nat.mul_le_mul_left _ this), Nat.le_trans h.bl this⟩

theorem Frac.times {F a b : Nat} {f g : Int} (h : Frac F a b f) (hfg : f + 1 ≤ g) {k : Nat} (hk : 1 ≤ k ∧ k ≤ 64) : Frac F (a * k) b g := by
  have hf := h.f0
  have : 64 ^ f.toNat * 64 ≤ 64 ^ g.toNat := by
    rw [← Nat.pow_succ]
    exact Nat.pow_le_pow_right (by decide) (by omega)
  refine ⟨Nat.mul_pos h.a0 (by omega), h.b0, by omega, ?_, ?_⟩
  · calc a * k ≤ (F * 64 ^ f.toNat) * 64 := Nat.mul_le_mul h.al hk.2
      _ = F * (64 ^ f.toNat * 64) := Nat.mul_assoc _ _ _
      _ ≤ F * 64 ^ g.toNat := Nat.mul_le_mul_left _ this
  · exact Nat.le_trans h.bl (Nat.le_trans (Nat.le_mul_of_pos_right _ (by decide)) this)

theorem Frac.over {F a b : Nat} {f g : Int} (h : Frac F a b f) (hfg : f + 1 ≤ g) {k : Nat} (hk : 1 ≤ k ∧ k ≤ 64) : Frac F a (b * k) g := by
  have hf := h.f0
  have h1 : 64 ^ f.toNat * 64 ≤ 64 ^ g.toNat := by
    rw [← Nat.pow_succ]
    exact Nat.pow_le_pow_right (by decide) (by omega)
  have h2 : 64 ^ f.toNat ≤ 64 ^ g.toNat := Nat.pow_le_pow_right (by decide) (by omega)
  exact ⟨h.a0, Nat.mul_pos h.b0 (by omega), by omega, Nat.le_trans h.al (Nat.mul_le_mul_left _ h2), Nat.le_trans (Nat.mul_le_mul h.bl hk.2) h1⟩

theorem Frac.small {F a b : Nat} {f : Int} (h : Frac F a b f) (hf : f ≤ 4) (hF : F ≤ 4294967296) : a ≤ F * 16777216 ∧ a ≤ 144115188075855872 ∧ b ≤ 16777216 := by
  have hp := pow_le4 hf
  have h1 := Nat.le_trans h.al (Nat.mul_le_mul_left F hp)
  exact ⟨h1, Nat.le_trans h1 (Nat.le_trans (Nat.mul_le_mul_right 16777216 hF) (by decide)), Nat.le_trans h.bl hp⟩

end Go.Proofs.YtjmhlbogkeohpaaDoor

namespace Go.Proofs.YtjmhlbogkeohpaaDoor
open Go.Ab
set_option maxRecDepth 100000

/-- The choice of a clock. -/
def chF (c : Clk) (k : Int) : Int := c.ch.getD k.toNat 0
/-- The rate of the parent. -/
def upR (acc : List Rt) (c : Clk) (k : Int) : Rt := acc.getD (parF c k).toNat rt0

structure Step (c : Clk) (i : Nat) (k : Int) : Prop where
  p0 : 0 ≤ parF c k
  pi : parF c k < i
  mem : parF c k ∈ c.par
  n1 : c.kind ≠ 1

theorem par_mem {c : Clk} {i : Nat} {k : Int} (hv : validC c i = true) (hk : 0 ≤ k ∧ k < c.ch.length) (hn : c.kind ≠ 1) : Step c i k := by
  have hp := validC_par hv
  have key : parF c k ∈ c.par := by
    unfold parF
    rcases choicesB_cases (validC_choices hv) with ⟨h1, h2, h3, h4⟩ | ⟨h1, h2, h3, h4⟩ | ⟨h1, h2, h3⟩ | ⟨h1, h2, h3⟩
    · exact absurd h1 hn
    · have hn1 : (c.kind == 1) = false := by rcases h1 with h1 | h1 <;> rw [h1] <;> rfl
      have hn4 : (c.kind == 4) = false := by rcases h1 with h1 | h1 <;> rw [h1] <;> rfl
      rw [hn1, hn4]
      exact getD_mem 0 (by omega)
    · have hm := h3 _ (getD_mem 0 (i := k.toNat) (by omega))
      rw [h1]
      exact getD_mem 0 (i := (c.ch.getD k.toNat 0).toNat) (by omega)
    · rw [h1]
      exact getD_mem 0 (i := 0) (by omega)
  have := hp _ key
  exact ⟨this.1, this.2, key, hn⟩

theorem rt1_fix {c : Clk} {i : Nat} {k : Int} (hv : validC c i = true) (hk : 0 ≤ k ∧ k < c.ch.length) (h : c.kind = 1) (acc : List Rt) : chF c k = c.ch.getD 0 0 ∧ 1 ≤ chF c k ∧ chF c k ≤ 4000000000 ∧ rt1 acc c k = ⟨chF c k, 1⟩ ∧ parF c k = -1 := by
  rcases choicesB_cases (validC_choices hv) with ⟨h1, h2, h3, h4⟩ | ⟨h1, h2, h3, h4⟩ | ⟨h1, h2, h3⟩ | ⟨h1, h2, h3⟩
  · have e : chF c k = c.ch.getD 0 0 := by unfold chF; rw [show k.toNat = 0 by omega]
    have hp : parF c k = -1 := by unfold parF; rw [h]; rfl
    refine ⟨e, by omega, by omega, ?_, hp⟩
    unfold rt1
    rw [hp]
    rfl
  · rcases h1 with h1 | h1 <;> omega
  · omega
  · omega

/-- The rate of a clock that is not fixed. -/
theorem rt1_step {c : Clk} {i : Nat} {k : Int} (hv : validC c i = true) (hk : 0 ≤ k ∧ k < c.ch.length) (hn : c.kind ≠ 1) (acc : List Rt) :
    ((isOff (upR acc c k) = true ∨ (c.kind = 5 ∧ chF c k = 0)) ∧ rt1 acc c k = offR) ∨
    (isOff (upR acc c k) = false ∧ ((c.kind = 2 ∧ isDM c = true ∧ (1 ≤ chF c k ∧ chF c k ≤ 64) ∧ rt1 acc c k = (overR (upR acc c k) (chF c k)).1) ∨
      (c.kind = 3 ∧ isDM c = true ∧ (1 ≤ chF c k ∧ chF c k ≤ 64) ∧ rt1 acc c k = (timesR (upR acc c k) (chF c k)).1) ∨
      ((c.kind = 4 ∨ (c.kind = 5 ∧ chF c k = 1)) ∧ isDM c = false ∧ rt1 acc c k = upR acc c k))) := by
  have hs := par_mem hv hk hn
  have hp : decide (parF c k < 0) = false := decide_eq_false (by have := hs.p0; omega)
  have e0 : rt1 acc c k = bif isOff (upR acc c k) || ((c.kind == 5) && (chF c k == 0)) then offR else bif c.kind == 2 then (overR (upR acc c k) (chF c k)).1 else bif c.kind == 3 then (timesR (upR acc c k) (chF c k)).1 else upR acc c k := by
    unfold rt1
    rw [hp]
    rfl
  have hmem : chF c k ∈ c.ch := getD_mem 0 (by omega)
  cases ho : isOff (upR acc c k) with
  | true => left; exact ⟨.inl rfl, by rw [e0, ho]; rfl⟩
  | false =>
    rw [ho] at e0
    rcases choicesB_cases (validC_choices hv) with ⟨h1, h2, h3, h4⟩ | ⟨h1, h2, h3, h4⟩ | ⟨h1, h2, h3⟩ | ⟨h1, h2, h3⟩
    · exact absurd h1 hn
    · right
      refine ⟨rfl, ?_⟩
      rcases h1 with h1 | h1
      · left
        refine ⟨h1, by unfold isDM; rw [h1]; rfl, h4 _ hmem, ?_⟩
        rw [e0, h1]
        rfl
      · right; left
        refine ⟨h1, by unfold isDM; rw [h1]; rfl, h4 _ hmem, ?_⟩
        rw [e0, h1]
        rfl
    · right
      refine ⟨rfl, .inr (.inr ⟨.inl h1, by unfold isDM; rw [h1]; rfl, ?_⟩)⟩
      rw [e0, h1]
      rfl
    · rw [h3] at hmem
      by_cases hc : chF c k = 0
      · left
        refine ⟨.inr ⟨h1, hc⟩, ?_⟩
        rw [e0, h1, hc]
        rfl
      · have hc1 : chF c k = 1 := by simp at hmem; omega
        right
        refine ⟨rfl, .inr (.inr ⟨.inr ⟨h1, hc1⟩, by unfold isDM; rw [h1]; rfl, ?_⟩)⟩
        rw [e0, h1, hc1]
        rfl

theorem parOK_fine {l : List Clk} (h : Fine l) : ParOK l := fun i hi => ⟨by have := (h.big i hi).1; omega, validC_par (h.valid i hi)⟩

theorem dbl_rt1 {c : Clk} (hn : c.kind ≠ 1) (acc : List Rt) (k : Int) : rt1 acc (dbl c) k = rt1 acc c k ∧ parF (dbl c) k = parF c k := by
  have hk : (c.kind == 1) = false := by
    cases h : c.kind == 1 with
    | false => rfl
    | true => exact absurd (eq_of_beq h) hn
  have e : dbl c = ⟨c.kind, c.par, c.ch, 0, 0⟩ := by unfold dbl; rw [hk]; rfl
  rw [e]
  exact ⟨rfl, rfl⟩

/-- Rates of doubled clocks are doubled. -/
theorem dbl_rates {l : List Clk} {s : List Int} (h : Made l) (hs : settB l s = true) : ∀ j, j < l.length →
    ((ratesF l s).getD j rt0 = offR ∧ (ratesF (l.map dbl) s).getD j rt0 = offR) ∨
    ∃ a b, Frac 24000000 a b ((facs l).getD j 0) ∧ (ratesF l s).getD j rt0 = red a b ∧ (ratesF (l.map dbl) s).getD j rt0 = red (a * 2) b := by
  have hf := fine_of h.ok
  have hf2 := dbl_fine h
  have hg := good_of hf hs
  have hg2 := good_of hf2 (dbl_sett h hs)
  obtain ⟨_, hset⟩ := sett_get hs
  have hfac := fun j hj => facs_eq (parOK_fine hf) j hj
  have hfb := (facs_len_bound l).2
  generalize hA : ratesF l s = A
  generalize hB : ratesF (l.map dbl) s = B
  intro j
  induction j using Nat.strongRecOn with
  | ind j ih =>
    intro hj
    have eA := ratesF_eq hg j hj
    have eB := ratesF_eq hg2 j (by rw [List.length_map]; exact hj)
    rw [getD_map dbl l j clk0 clk0 hj] at eB
    rw [hA] at eA
    rw [hB] at eB
    have hv := hf.valid j hj
    have hk := hset j hj
    have hfj := hf.facs j hj
    have hfx := h.fix j hj
    have hfacj := hfac j hj
    generalize l.getD j clk0 = c at *
    generalize s.getD j 0 = k at *
    by_cases hk1 : c.kind = 1
    · right
      obtain ⟨e1, e2, e3, e4, _⟩ := rt1_fix hv hk hk1 A
      have hv2 := dbl_valid hv hfx
      have hk2 : 0 ≤ k ∧ k < (dbl c).ch.length := by rw [dbl_ch (validC_choices hv)]; exact hk
      obtain ⟨g1, g2, g3, g4, _⟩ := rt1_fix hv2 hk2 (show (dbl c).kind = 1 from hk1) B
      have g5 : (dbl c).ch.getD 0 0 = 2 * c.ch.getD 0 0 := by unfold dbl; rw [hk1]; rfl
      have hx := hfx hk1
      have hb := hfb j
      refine ⟨(chF c k).toNat, 1, ⟨by omega, by decide, by omega, ?_, Nat.pow_pos (by decide)⟩, ?_, ?_⟩
      · exact Nat.le_trans (show (chF c k).toNat ≤ 24000000 by omega) (Nat.le_mul_of_pos_right _ (Nat.pow_pos (by decide)))
      · rw [eA, e4, red_one]
        congr 1
        omega
      · rw [eB, g4, red_one]
        congr 1
        omega
    · have hst := par_mem hv hk hk1
      obtain ⟨d1, d2⟩ := dbl_rt1 hk1 B k
      rw [d1] at eB
      have hpl : (parF c k).toNat < l.length := by have := hst.p0; have := hst.pi; omega
      have hpf := hfacj _ hst.mem
      have ihp := ih (parF c k).toNat (by have := hst.p0; have := hst.pi; omega) hpl
      have uA : A.getD (parF c k).toNat rt0 = upR A c k := rfl
      have uB : B.getD (parF c k).toNat rt0 = upR B c k := rfl
      rw [uA, uB] at ihp
      rcases ihp with ⟨i1, i2⟩ | ⟨a, b, i0, i1, i2⟩
      · left
        rcases rt1_step hv hk hk1 A with ⟨_, q⟩ | ⟨q, _⟩
        · rcases rt1_step hv hk hk1 B with ⟨_, r⟩ | ⟨r, _⟩
          · exact ⟨by rw [eA, q], by rw [eB, r]⟩
          · rw [i2] at r; cases r
        · rw [i1] at q; cases q
      · have oA : isOff (upR A c k) = false := by rw [i1]; exact red_on a b i0.a0
        have oB : isOff (upR B c k) = false := by rw [i2]; exact red_on (a * 2) b (by have := i0.a0; omega)
        rcases rt1_step hv hk hk1 A with ⟨q0, q⟩ | ⟨_, q⟩
        · left
          rcases rt1_step hv hk hk1 B with ⟨_, r⟩ | ⟨_, r⟩
          · exact ⟨by rw [eA, q], by rw [eB, r]⟩
          · rw [oA] at q0
            rcases q0 with q0 | ⟨q0, q1⟩
            · cases q0
            · rcases r with ⟨r1, _⟩ | ⟨r1, _⟩ | ⟨r1 | ⟨_, r1⟩, _⟩ <;> omega
        · right
          rcases rt1_step hv hk hk1 B with ⟨r0, r⟩ | ⟨_, r⟩
          · rw [oB] at r0
            rcases r0 with r0 | ⟨r0, r1⟩
            · cases r0
            · rcases q with ⟨q1, _⟩ | ⟨q1, _⟩ | ⟨q1 | ⟨_, q1⟩, _⟩ <;> omega
          · have hsm := i0.small (f := (facs l).getD (parF c k).toNat 0) (by have : 0 ≤ (bif isDM c then (1 : Int) else 0) := (by cases isDM c <;> decide); omega) (by decide)
            have hn : ∀ n : Int, 1 ≤ n ∧ n ≤ 64 → 1 ≤ n.toNat ∧ n.toNat ≤ 64 := fun n hn => by omega
            rcases q with ⟨q1, q2, q3, q4⟩ | ⟨q1, q2, q3, q4⟩ | ⟨q1, q2, q3⟩
            · rcases r with ⟨_, _, _, r4⟩ | ⟨r1, _⟩ | ⟨r1 | ⟨r1, _⟩, _⟩
              · rw [q2] at hpf
                have hnew := i0.over hpf (hn _ q3)
                have hs2 := hnew.small hfj (by decide)
                refine ⟨a, b * (chF c k).toNat, hnew, ?_, ?_⟩
                · rw [eA, q4, i1, over_red a b _ i0.b0 q3 hs2.2.1 hs2.2.2]
                · rw [eB, r4, i2, over_red (a * 2) b _ i0.b0 q3 (by omega) hs2.2.2]
              · omega
              · omega
              · omega
            · rcases r with ⟨r1, _⟩ | ⟨_, _, _, r4⟩ | ⟨r1 | ⟨r1, _⟩, _⟩
              · omega
              · rw [q2] at hpf
                have hnew := i0.times hpf (hn _ q3)
                have hs2 := hnew.small hfj (by decide)
                refine ⟨a * (chF c k).toNat, b, hnew, ?_, ?_⟩
                · rw [eA, q4, i1, times_red a b _ i0.b0 q3 hs2.2.1 hs2.2.2]
                · have e : a * 2 * (chF c k).toNat = a * (chF c k).toNat * 2 := Nat.mul_right_comm _ _ _
                  rw [eB, r4, i2, times_red (a * 2) b _ i0.b0 q3 (by rw [e]; omega) hs2.2.2, e]
              · omega
              · omega
            · rcases r with ⟨r1, r2, _⟩ | ⟨r1, r2, _⟩ | ⟨_, _, r3⟩
              · rw [q2] at r2; cases r2
              · rw [q2] at r2; cases r2
              · rw [q2] at hpf
                exact ⟨a, b, i0.mono (by simpa using hpf), by rw [eA, q3, i1], by rw [eB, r3, i2]⟩

theorem scales_law {l : List Clk} {s : List Int} (h : Made l) (hs : settB l s = true) (j : Nat) (hj : j < l.length) : timesR ((ratesF l s).getD j rt0) 2 = ((ratesF (l.map dbl) s).getD j rt0, 0) := by
  have hf := fine_of h.ok
  rcases dbl_rates h hs j hj with ⟨h1, h2⟩ | ⟨a, b, h0, h1, h2⟩
  · rw [h1, h2]
    exact off_times 2 (by decide)
  · rw [h1, h2]
    have hs := h0.small (hf.facs j hj) (by decide)
    exact times_red a b 2 h0.b0 (by decide) (by show a * 2 ≤ _; omega) hs.2.2

end Go.Proofs.YtjmhlbogkeohpaaDoor

namespace Go.Proofs.YtjmhlbogkeohpaaDoor
open Go.Ab
set_option maxRecDepth 100000

theorem new_ok {t : List Int} (h : I64 t) : Tp.ok ⟨t.take 500, 0⟩ := ⟨fun x hx => h x (List.mem_of_mem_take hx), by show (t.take 500).length ≤ 500; simp; omega, Nat.zero_le _⟩

theorem map_take_snoc (l : List Clk) (i : Nat) (h : i < l.length) : (l.map dbl).take (i + 1) = (l.map dbl).take i ++ [dbl (l.getD i clk0)] := by
  rw [take_snoc clk0 (by rw [List.length_map]; exact h), getD_map dbl l i clk0 clk0 h]

theorem scales_spec (t : List Int) (ht : I64 t) : S 4 [intsV t] [] (.bool true) [] := by
  refine spec_of_x (ct := []) cfgOK Tryd.func4 rfl rfl (Nat.le_of_ble_eq_true rfl) (by decide +kernel) (Nat.le_refl _) ?_
  conv => whnf
  refine ⟨_, _, new_spec t, ?_⟩
  conv => whnf
  have ok0 := new_ok ht
  have s1 := clocks_spec ⟨t.take 500, 0⟩ ok0 10 4096 (by decide) (by decide)
  obtain ⟨m1, ok1, len1⟩ := cloF_made ⟨t.take 500, 0⟩ ok0 10 4096 (by decide)
  generalize cloF ⟨t.take 500, 0⟩ 10 4096 = c at s1 m1 ok1 len1
  obtain ⟨l, t1⟩ := c
  have m1 : Made l := m1
  have ok1 : t1.ok := ok1
  have hf := fine_of m1.ok
  have hl := hf.len
  refine ⟨_, _, s1, ?_⟩
  conv => whnf
  have s2 := setg_spec t1 ok1 l (by omega) (chOK_fine hf)
  have hs : settB l (setF l t1).1 = true := setF_sett hf t1
  generalize setF l t1 = c at s2 hs
  obtain ⟨s, t2⟩ := c
  have hs : settB l s = true := hs
  refine ⟨_, _, s2, ?_⟩
  conv => whnf
  have hml : (l.map dbl).length = l.length := List.length_map ..
  refine loops_intro (ct := []) cfgOK (by decide +kernel) (fun i : Nat => ⟨[(4, clksV l), (5, intsV s), (6, .osl 0 0 i false), (23, clksV l), (24, iV l.length), (25, iV i)], [(0, some (.row 5 i (rowG clkV clk0 ((l.map dbl).take i))))], 1⟩)
    (fun i => i ≤ l.length) (fun i => l.length - i) 0 [(0, none)] (Nat.zero_le _)
    ⟨rfl, ⟨embV_le (.refl _) rfl, embV_le (.refl _) rfl, ⟨rfl, rfl, rfl, rfl, rfl⟩, embV_le (.refl _) rfl, ⟨rfl, rfl⟩, ⟨rfl, rfl⟩, trivial⟩, ⟨rfl, trivial⟩⟩ ?_
  intro i hi
  conv => whnf
  refine bcase_of (fun h2 => ?_) (fun h2 => ?_)
  · have hlt : i < l.length := by have := of_decide_eq_true h2; omega
    have htl : ((l.map dbl).take i).length = i := take_len (by omega)
    have hch := fine_ch hf i hlt
    have hv := hf.valid i hlt
    have hfx := m1.fix i hlt
    have hsn := map_take_snoc l i hlt
    conv => whnf
    refine ⟨by omega, ?_⟩
    conv => whnf
    refine bcase_of (fun h3 => ?_) (fun h3 => ?_)
    · have h3 : ((l.getD i clk0).kind == 1) = true := h3
      have hr : 1 ≤ (l.getD i clk0).ch.getD 0 0 := by
        rcases choicesB_cases (validC_choices hv) with ⟨h1, h2, h3, h4⟩ | ⟨h1, h2, h4⟩ | ⟨h1, h2⟩ | ⟨h1, h2⟩
        · exact h4.1
        · have := eq_of_beq h3; omega
        · have := eq_of_beq h3; omega
        · have := eq_of_beq h3; omega
      have hr2 := hfx (eq_of_beq h3)
      conv => whnf
      refine ⟨by show (0 : Int) ≤ 0 ∧ (0 : Int) < ((l.getD i clk0).ch.length : Int); omega, ?_⟩
      conv => whnf
      refine ⟨by show InI64 (2 * (l.getD i clk0).ch.getD 0 0); unfold InI64; omega, ?_⟩
      conv => whnf
      refine ⟨by show (i + 1) * 72 ≤ 140737488355328; omega, ?_⟩
      conv => whnf
      refine ⟨by unfold InI64; omega, ?_⟩
      conv => whnf
      refine ⟨i + 1, [(0, some 24)], hlt, by omega, ⟨rfl, ⟨embV_le (.refl _) rfl, embV_le (.refl _) rfl, ⟨rfl, rfl, rfl, rfl, nofun⟩, embV_le (.refl _) rfl, ⟨rfl, rfl⟩, ⟨rfl, by simp⟩, trivial⟩, ⟨⟨rfl, rfl, ?_⟩, trivial⟩⟩⟩
      have e : dbl (l.getD i clk0) = ⟨(l.getD i clk0).kind, (l.getD i clk0).par, [2 * (l.getD i clk0).ch.getD 0 0], 0, 0⟩ := by unfold dbl; rw [h3]; rfl
      rw [hsn, e]
      exact le_app htl.symm (le_clk _ _ _ _ _ (.refl _) (le_lit1 _ true))
    · have h3 : ((l.getD i clk0).kind == 1) = false := h3
      conv => whnf
      refine ⟨by show (i + 1) * 72 ≤ 140737488355328; omega, ?_⟩
      conv => whnf
      refine ⟨by unfold InI64; omega, ?_⟩
      conv => whnf
      refine ⟨i + 1, [(0, some 16)], hlt, by omega, ⟨rfl, ⟨embV_le (.refl _) rfl, embV_le (.refl _) rfl, ⟨rfl, rfl, rfl, rfl, nofun⟩, embV_le (.refl _) rfl, ⟨rfl, rfl⟩, ⟨rfl, by simp⟩, trivial⟩, ⟨⟨rfl, rfl, ?_⟩, trivial⟩⟩⟩
      have e : dbl (l.getD i clk0) = ⟨(l.getD i clk0).kind, (l.getD i clk0).par, (l.getD i clk0).ch, 0, 0⟩ := by unfold dbl; rw [h3]; rfl
      rw [hsn, e]
      exact le_app htl.symm (le_clk _ _ _ _ _ (.refl _) (.refl _))
  · have hil : i = l.length := by have := of_decide_eq_false h2; omega
    subst hil
    have e1 : ratesE l s = (ratesF l s, 0) := by unfold ratesE; rw [m1.ok, hs]; rfl
    have e2 : ratesE (l.map dbl) s = (ratesF (l.map dbl) s, 0) := by unfold ratesE; rw [of_fine (dbl_fine m1), dbl_sett m1 hs]; rfl
    have s3 := rates_all_spec l s (by omega)
    have s4 := rates_all_spec (l.map dbl) s (by omega)
    have hsc := scales_law m1 hs
    have hA : (ratesF l s).length = l.length := ratesN_len ..
    have hB : (ratesF (l.map dbl) s).length = l.length := (ratesN_len ..).trans hml
    rw [e1] at s3
    rw [e2] at s4
    generalize ratesF l s = A at s3 hsc hA
    generalize ratesF (l.map dbl) s = B at s4 hsc hB
    conv => whnf
    refine ⟨_, _, s3, ?_⟩
    conv => whnf
    refine ⟨_, _, s4.le ⟨le_row hml.symm (fun i hi => by show clkV (((l.map dbl).take l.length).getD i clk0) = _; rw [List.take_of_length_le (by omega)]), .refl _, trivial⟩ trivial, ?_⟩
    conv => whnf
    have hAA : ((A.length : Int) != (l.length : Int)) = false := by rw [hA]; simp
    have hBB : ((B.length : Int) != (l.length : Int)) = false := by rw [hB]; simp
    refine bcase_of (fun h3 => ?_) (fun h3 => ?_)
    · have h3 : ((((0 : Int) != 0 || (0 : Int) != 0) || ((A.length : Int) != (l.length : Int))) || ((B.length : Int) != (l.length : Int))) = true := h3
      rw [hAA, hBB] at h3
      cases h3
    conv => whnf
    refine loops_intro (ct := []) cfgOK (by decide +kernel) (fun i : Nat => ⟨[(9, rtsV A), (11, rtsV B), (79, iV A.length), (80, iV i)], [], 1⟩)
      (fun i => i ≤ l.length) (fun i => l.length - i) 0 [] (Nat.zero_le _)
      ⟨rfl, ⟨embV_le (.refl _) rfl, embV_le (.refl _) rfl, ⟨rfl, rfl⟩, ⟨rfl, rfl⟩, trivial⟩, trivial⟩ ?_
    intro i hi
    conv => whnf
    refine bcase_of (fun h4 => ?_) (fun h4 => ?_)
    · have hlt : i < l.length := by have := of_decide_eq_true h4; omega
      have hi2 := hsc i hlt
      conv => whnf
      refine ⟨by omega, ?_⟩
      conv => whnf
      have s5 := rtimes_spec (A.getD i rt0) 2
      rw [hi2] at s5
      refine ⟨_, _, s5, ?_⟩
      conv => whnf
      refine ⟨fun _ => by omega, ?_⟩
      conv => whnf
      refine bcase_of (fun h5 => ?_) (fun h5 => ?_)
      · have h5 : ((0 : Int) != 0 || !(((B.getD i rt0).num == (B.getD i rt0).num) && (((B.getD i rt0).den == (B.getD i rt0).den) && true))) = true := h5
        simp at h5
      conv => whnf
      refine ⟨by unfold InI64; omega, ?_⟩
      conv => whnf
      exact ⟨i + 1, [], hlt, by omega, ⟨rfl, ⟨embV_le (.refl _) rfl, embV_le (.refl _) rfl, ⟨rfl, rfl⟩, ⟨rfl, by simp⟩, trivial⟩, trivial⟩⟩
    · conv => whnf
      refine ⟨_, _, awake_spec, ?_⟩
      conv => whnf
      exact ⟨rfl, trivial⟩

end Go.Proofs.YtjmhlbogkeohpaaDoor

namespace Go.Proofs.YtjmhlbogkeohpaaDoor
open Go.Ab
set_option maxRecDepth 100000

def st1 (acc : List Rt) (on : List Bool) (c : Clk) (k : Int) : Rt × Bool :=
  bif c.kind == 1 then (⟨c.ch.getD k.toNat 0, 1⟩, true) else
  bif c.kind == 2 then ((overR (acc.getD (parF c k).toNat rt0) (c.ch.getD k.toNat 0)).1, on.getD (parF c k).toNat false) else
  bif c.kind == 3 then ((timesR (acc.getD (parF c k).toNat rt0) (c.ch.getD k.toNat 0)).1, on.getD (parF c k).toNat false) else
  bif (c.kind == 5) && (c.ch.getD k.toNat 0 == 0) then (offR, false) else (acc.getD (parF c k).toNat rt0, on.getD (parF c k).toNat false)

def stN (l : List Clk) (s : List Int) : Nat → List Rt × List Bool
  | 0 => ([], [])
  | i + 1 => ((stN l s i).1 ++ [(st1 (stN l s i).1 (stN l s i).2 (l.getD i clk0) (s.getD i 0)).1], (stN l s i).2 ++ [(st1 (stN l s i).1 (stN l s i).2 (l.getD i clk0) (s.getD i 0)).2])
def stF (l : List Clk) (s : List Int) : List Rt × List Bool := stN l s l.length

theorem stN_len (l : List Clk) (s : List Int) (i : Nat) : (stN l s i).1.length = i ∧ (stN l s i).2.length = i := by
  induction i with
  | zero => exact ⟨rfl, rfl⟩
  | succ i ih => simp [stN, ih]

/-- The parent of a clock that is not fixed is one. -/
def Up (l : List Clk) (s : List Int) : Prop := ∀ i : Nat, i < l.length → (l.getD i clk0).kind ≠ 1 → 0 ≤ parF (l.getD i clk0) (s.getD i 0)

theorem states_spec (l : List Clk) (s : List Int) (h : Good l s) (hu : Up l s) : S 39 [clksV l, intsV s] [] (.tup [rtsV (stF l s).1, boolsV (stF l s).2]) [] := by
  refine spec_of_x (ct := []) cfgOK Tryd.func39 rfl rfl (Nat.le_of_ble_eq_true rfl) (by decide +kernel) (Nat.le_refl _) ?_
  have hsm := h.small
  have hsl := h.len
  conv => whnf
  refine loops_intro (ct := []) cfgOK (by decide +kernel) (fun i : Nat => ⟨[(0, clksV l), (1, intsV s), (6, .osl 0 0 i false), (7, .osl 1 0 i false), (14, clksV l), (15, iV l.length), (16, iV i)], [(0, some (.row 2 i (rowG rtV rt0 (stN l s i).1))), (1, some (.row 1 i (rowG AV.bool false (stN l s i).2)))], 2⟩)
    (fun i => i ≤ l.length) (fun i => l.length - i) 0 [(0, none), (1, none)] (Nat.zero_le _)
    ⟨rfl, ⟨embV_le (.refl _) rfl, embV_le (.refl _) rfl, ⟨rfl, rfl, rfl, rfl, rfl⟩, ⟨rfl, rfl, rfl, rfl, rfl⟩, embV_le (.refl _) rfl, ⟨rfl, rfl⟩, ⟨rfl, rfl⟩, trivial⟩, ⟨rfl, rfl, trivial⟩⟩ ?_
  intro i hi
  conv => whnf
  refine bcase_of (fun h2 => ?_) (fun h2 => ?_)
  · have hlt : i < l.length := by have := of_decide_eq_true h2; omega
    have hch := h.ch i hlt
    have hpar := h.par i hlt
    have hui := hu i hlt
    have hst := stN_len l s i
    conv => whnf
    refine ⟨by omega, ?_⟩
    conv => whnf
    refine ⟨by omega, ?_⟩
    conv => whnf
    refine ⟨_, _, rparent_spec (l.getD i clk0) (s.getD i 0) (h.pch i hlt), ?_⟩
    conv => whnf
    refine bcase_of (fun p1 => ?_) (fun p1 => ?_)
    · have p0 := of_decide_eq_true p1
      have k1 : ((l.getD i clk0).kind == 1) = false := by
        cases hk : (l.getD i clk0).kind == 1 with
        | false => rfl
        | true =>
          have : parF (l.getD i clk0) (s.getD i 0) = -1 := by unfold parF; rw [hk]; rfl
          omega
      conv => whnf
      refine ⟨by omega, ?_⟩
      conv => whnf
      refine ⟨by omega, ?_⟩
      conv => whnf
      refine ⟨by omega, ?_⟩
      conv => whnf
      refine ⟨hch, ?_⟩
      conv => whnf
      refine bcase_of (fun q1 => ?_) (fun _ => ?_)
      · have q1 : ((l.getD i clk0).kind == 1) = true := q1
        rw [k1] at q1
        cases q1
      conv => whnf
      refine bcase_of (fun k2 => ?_) (fun k2 => ?_)
      · have k2 : ((l.getD i clk0).kind == 2) = true := k2
        conv => whnf
        refine ⟨_, _, rover_spec ((stN l s i).1.getD (parF (l.getD i clk0) (s.getD i 0)).toNat rt0) ((l.getD i clk0).ch.getD (s.getD i 0).toNat 0), ?_⟩
        conv => whnf
        refine ⟨by show (i + 1) * 16 ≤ 140737488355328; omega, ?_⟩
        conv => whnf
        refine ⟨by show (i + 1) * 1 ≤ 140737488355328; omega, ?_⟩
        conv => whnf
        refine ⟨by unfold InI64; omega, ?_⟩
        conv => whnf
        have e : st1 (stN l s i).1 (stN l s i).2 (l.getD i clk0) (s.getD i 0) = ((overR ((stN l s i).1.getD (parF (l.getD i clk0) (s.getD i 0)).toNat rt0) ((l.getD i clk0).ch.getD (s.getD i 0).toNat 0)).1, ((stN l s i).2.getD (parF (l.getD i clk0) (s.getD i 0)).toNat false)) := by unfold st1; rw [k1, k2]; rfl
        refine ⟨i + 1, [(0, some 57), (1, some 61)], hlt, by omega, ⟨rfl, ⟨embV_le (.refl _) rfl, embV_le (.refl _) rfl, ⟨rfl, rfl, rfl, rfl, nofun⟩, ⟨rfl, rfl, rfl, rfl, nofun⟩, embV_le (.refl _) rfl, ⟨rfl, rfl⟩, ⟨rfl, by simp⟩, trivial⟩, ⟨⟨rfl, rfl, ?_⟩, ⟨rfl, rfl, ?_⟩, trivial⟩⟩⟩
        · rw [stN, e]
          exact le_app (stN_len l s i).1.symm (.refl _)
        · rw [stN, e]
          exact le_app (stN_len l s i).2.symm (.refl _)
      · have k2 : ((l.getD i clk0).kind == 2) = false := k2
        conv => whnf
        refine bcase_of (fun k3 => ?_) (fun k3 => ?_)
        · have k3 : ((l.getD i clk0).kind == 3) = true := k3
          conv => whnf
          refine ⟨_, _, rtimes_spec ((stN l s i).1.getD (parF (l.getD i clk0) (s.getD i 0)).toNat rt0) ((l.getD i clk0).ch.getD (s.getD i 0).toNat 0), ?_⟩
          conv => whnf
          refine ⟨by show (i + 1) * 16 ≤ 140737488355328; omega, ?_⟩
          conv => whnf
          refine ⟨by show (i + 1) * 1 ≤ 140737488355328; omega, ?_⟩
          conv => whnf
          refine ⟨by unfold InI64; omega, ?_⟩
          conv => whnf
          have e : st1 (stN l s i).1 (stN l s i).2 (l.getD i clk0) (s.getD i 0) = ((timesR ((stN l s i).1.getD (parF (l.getD i clk0) (s.getD i 0)).toNat rt0) ((l.getD i clk0).ch.getD (s.getD i 0).toNat 0)).1, ((stN l s i).2.getD (parF (l.getD i clk0) (s.getD i 0)).toNat false)) := by unfold st1; rw [k1, k2, k3]; rfl
          refine ⟨i + 1, [(0, some 59), (1, some 63)], hlt, by omega, ⟨rfl, ⟨embV_le (.refl _) rfl, embV_le (.refl _) rfl, ⟨rfl, rfl, rfl, rfl, nofun⟩, ⟨rfl, rfl, rfl, rfl, nofun⟩, embV_le (.refl _) rfl, ⟨rfl, rfl⟩, ⟨rfl, by simp⟩, trivial⟩, ⟨⟨rfl, rfl, ?_⟩, ⟨rfl, rfl, ?_⟩, trivial⟩⟩⟩
          · rw [stN, e]
            exact le_app (stN_len l s i).1.symm (.refl _)
          · rw [stN, e]
            exact le_app (stN_len l s i).2.symm (.refl _)
        · have k3 : ((l.getD i clk0).kind == 3) = false := k3
          conv => whnf
          refine bcase_of (fun k5 => ?_) (fun k5 => ?_)
          · have k5 : ((l.getD i clk0).kind == 5) = true := k5
            conv => whnf
            refine bcase_of (fun c0 => ?_) (fun c0 => ?_)
            · have c0 : (((l.getD i clk0).ch.getD (s.getD i 0).toNat 0) == 0) = true := c0
              conv => whnf
              refine ⟨by show (i + 1) * 16 ≤ 140737488355328; omega, ?_⟩
              conv => whnf
              refine ⟨by show (i + 1) * 1 ≤ 140737488355328; omega, ?_⟩
              conv => whnf
              refine ⟨by unfold InI64; omega, ?_⟩
              conv => whnf
              have e : st1 (stN l s i).1 (stN l s i).2 (l.getD i clk0) (s.getD i 0) = (offR, false) := by unfold st1; rw [k1, k2, k3, k5, c0]; rfl
              refine ⟨i + 1, [(0, some 59), (1, some 63)], hlt, by omega, ⟨rfl, ⟨embV_le (.refl _) rfl, embV_le (.refl _) rfl, ⟨rfl, rfl, rfl, rfl, nofun⟩, ⟨rfl, rfl, rfl, rfl, nofun⟩, embV_le (.refl _) rfl, ⟨rfl, rfl⟩, ⟨rfl, by simp⟩, trivial⟩, ⟨⟨rfl, rfl, ?_⟩, ⟨rfl, rfl, ?_⟩, trivial⟩⟩⟩
              · rw [stN, e]
                exact le_app (stN_len l s i).1.symm (.refl _)
              · rw [stN, e]
                exact le_app (stN_len l s i).2.symm (.refl _)
            · have c0 : (((l.getD i clk0).ch.getD (s.getD i 0).toNat 0) == 0) = false := c0
              conv => whnf
              refine ⟨by show (i + 1) * 16 ≤ 140737488355328; omega, ?_⟩
              conv => whnf
              refine ⟨by show (i + 1) * 1 ≤ 140737488355328; omega, ?_⟩
              conv => whnf
              refine ⟨by unfold InI64; omega, ?_⟩
              conv => whnf
              have e : st1 (stN l s i).1 (stN l s i).2 (l.getD i clk0) (s.getD i 0) = (((stN l s i).1.getD (parF (l.getD i clk0) (s.getD i 0)).toNat rt0), ((stN l s i).2.getD (parF (l.getD i clk0) (s.getD i 0)).toNat false)) := by unfold st1; rw [k1, k2, k3, k5, c0]; rfl
              refine ⟨i + 1, [(0, some 56), (1, some 60)], hlt, by omega, ⟨rfl, ⟨embV_le (.refl _) rfl, embV_le (.refl _) rfl, ⟨rfl, rfl, rfl, rfl, nofun⟩, ⟨rfl, rfl, rfl, rfl, nofun⟩, embV_le (.refl _) rfl, ⟨rfl, rfl⟩, ⟨rfl, by simp⟩, trivial⟩, ⟨⟨rfl, rfl, ?_⟩, ⟨rfl, rfl, ?_⟩, trivial⟩⟩⟩
              · rw [stN, e]
                exact le_app (stN_len l s i).1.symm (.refl _)
              · rw [stN, e]
                exact le_app (stN_len l s i).2.symm (.refl _)
          · have k5 : ((l.getD i clk0).kind == 5) = false := k5
            conv => whnf
            refine ⟨by show (i + 1) * 16 ≤ 140737488355328; omega, ?_⟩
            conv => whnf
            refine ⟨by show (i + 1) * 1 ≤ 140737488355328; omega, ?_⟩
            conv => whnf
            refine ⟨by unfold InI64; omega, ?_⟩
            conv => whnf
            have e : st1 (stN l s i).1 (stN l s i).2 (l.getD i clk0) (s.getD i 0) = (((stN l s i).1.getD (parF (l.getD i clk0) (s.getD i 0)).toNat rt0), ((stN l s i).2.getD (parF (l.getD i clk0) (s.getD i 0)).toNat false)) := by unfold st1; rw [k1, k2, k3, k5]; rfl
            refine ⟨i + 1, [(0, some 54), (1, some 58)], hlt, by omega, ⟨rfl, ⟨embV_le (.refl _) rfl, embV_le (.refl _) rfl, ⟨rfl, rfl, rfl, rfl, nofun⟩, ⟨rfl, rfl, rfl, rfl, nofun⟩, embV_le (.refl _) rfl, ⟨rfl, rfl⟩, ⟨rfl, by simp⟩, trivial⟩, ⟨⟨rfl, rfl, ?_⟩, ⟨rfl, rfl, ?_⟩, trivial⟩⟩⟩
            · rw [stN, e]
              exact le_app (stN_len l s i).1.symm (.refl _)
            · rw [stN, e]
              exact le_app (stN_len l s i).2.symm (.refl _)
    · have p0 := of_decide_eq_false p1
      have k1 : ((l.getD i clk0).kind == 1) = true := by
        cases hk : (l.getD i clk0).kind == 1 with
        | true => rfl
        | false => have := hui (fun e => by rw [e] at hk; cases hk); omega
      conv => whnf
      refine ⟨by omega, ?_⟩
      conv => whnf
      refine ⟨hch, ?_⟩
      conv => whnf
      refine bcase_of (fun _ => ?_) (fun q1 => ?_)
      · conv => whnf
        refine ⟨by show (i + 1) * 16 ≤ 140737488355328; omega, ?_⟩
        conv => whnf
        refine ⟨by show (i + 1) * 1 ≤ 140737488355328; omega, ?_⟩
        conv => whnf
        refine ⟨by unfold InI64; omega, ?_⟩
        conv => whnf
        have e : st1 (stN l s i).1 (stN l s i).2 (l.getD i clk0) (s.getD i 0) = (⟨((l.getD i clk0).ch.getD (s.getD i 0).toNat 0), 1⟩, true) := by unfold st1; rw [k1]; rfl
        refine ⟨i + 1, [(0, some 41), (1, some 45)], hlt, by omega, ⟨rfl, ⟨embV_le (.refl _) rfl, embV_le (.refl _) rfl, ⟨rfl, rfl, rfl, rfl, nofun⟩, ⟨rfl, rfl, rfl, rfl, nofun⟩, embV_le (.refl _) rfl, ⟨rfl, rfl⟩, ⟨rfl, by simp⟩, trivial⟩, ⟨⟨rfl, rfl, ?_⟩, ⟨rfl, rfl, ?_⟩, trivial⟩⟩⟩
        · rw [stN, e]
          exact le_app (stN_len l s i).1.symm (.refl _)
        · rw [stN, e]
          exact le_app (stN_len l s i).2.symm (.refl _)
      · have q1 : ((l.getD i clk0).kind == 1) = false := q1
        rw [k1] at q1
        cases q1
  · have hil : i = l.length := by have := of_decide_eq_false h2; omega
    subst hil
    conv => whnf
    exact ⟨⟨embV_le (le_row (stN_len l s l.length).1.symm fun i hi => rfl) rfl, embV_le (le_row (stN_len l s l.length).2.symm fun i hi => rfl) rfl, trivial⟩, trivial⟩

end Go.Proofs.YtjmhlbogkeohpaaDoor

namespace Go.Proofs.YtjmhlbogkeohpaaDoor
open Go.Ab
set_option maxRecDepth 100000

theorem up_of {l : List Clk} {s : List Int} (h : Fine l) (hs : settB l s = true) : Up l s := by
  obtain ⟨_, h2⟩ := sett_get hs
  exact fun i hi hk => (par_mem (h.valid i hi) (h2 i hi) hk).p0

theorem lrates_spec (l : List Clk) (s : List Int) (h : Good l s) (hu : Up l s) : S 13 [clksV l, intsV s] [] (rtsV (stF l s).1) [] := by
  refine spec_of_x (ct := []) cfgOK Tryd.func13 rfl rfl (Nat.le_of_ble_eq_true rfl) (by decide +kernel) (Nat.le_refl _) ?_
  conv => whnf
  refine ⟨_, _, states_spec l s h hu, ?_⟩
  conv => whnf
  exact ⟨embV_le (.refl _) rfl, trivial⟩

/-! Ways -/

def wayF (l : List Clk) (s : List Int) : Nat → Int → List Int
  | 0, _ => []
  | f + 1, k => bif decide (0 ≤ k) then k :: wayF l s f (parF (l.getD k.toNat clk0) (s.getD k.toNat 0)) else []
def wayE (l : List Clk) (s : List Int) (k : Int) : List Int := bif ((checkF l == 0) && settB l s) && withinF k 0 ((l.length : Int) - 1) then wayF l s (k.toNat + 1) k else []

theorem wayF_len (l : List Clk) (s : List Int) (f : Nat) (k : Int) : (wayF l s f k).length ≤ f := by
  induction f generalizing k with
  | zero => exact Nat.le_refl _
  | succ f ih =>
    unfold wayF
    cases decide (0 ≤ k) with
    | true => simp only [cond_true, List.length_cons]; have := ih (parF (l.getD k.toNat clk0) (s.getD k.toNat 0)); omega
    | false => simp

theorem way_spec (l : List Clk) (s : List Int) (k : Int) (hl : l.length ≤ 1000000) (hc : ChOK l) : S 33 [clksV l, intsV s, iV k] [] (intsV (wayE l s k)) [] := by
  refine spec_of_x (ct := []) cfgOK Tryd.func33 rfl rfl (Nat.le_of_ble_eq_true rfl) (by decide +kernel) (Nat.le_refl _) ?_
  conv => whnf
  refine ⟨_, _, setting_all_spec l s hl hc, ?_⟩
  conv => whnf
  refine ⟨fun _ => by unfold InI64; omega, ?_⟩
  conv => whnf
  refine ⟨_, _, fun _ => within_spec k 0 ((l.length : Int) - 1), ?_⟩
  conv => whnf
  refine bcase_of (fun h => ?_) (fun h => ?_)
  · have h : (!((checkF l == 0) && settB l s) || !withinF k 0 ((l.length : Int) - 1)) = true := h
    have e : wayE l s k = [] := by
      unfold wayE
      have : (((checkF l == 0) && settB l s) && withinF k 0 ((l.length : Int) - 1)) = false := by
        cases h1 : ((checkF l == 0) && settB l s) <;> cases h2 : withinF k 0 ((l.length : Int) - 1) <;> rw [h1, h2] at h <;> first | rfl | cases h
      rw [this]
      rfl
    rw [e]
    conv => whnf
    exact ⟨embV_le le_nil rfl, trivial⟩
  · have h : (!((checkF l == 0) && settB l s) || !withinF k 0 ((l.length : Int) - 1)) = false := h
    rw [Bool.or_eq_false_iff] at h
    have h1 : ((checkF l == 0) && settB l s) = true := by simpa using h.1
    have h2 : withinF k 0 ((l.length : Int) - 1) = true := by simpa using h.2
    have e : wayE l s k = wayF l s (k.toNat + 1) k := by unfold wayE; rw [h1, h2]; rfl
    have hk := (within_iff _ _ _).1 h2
    rw [Bool.and_eq_true] at h1
    have hf := fine_of (eq_of_beq h1.1)
    have hg := good_of hf h1.2
    have hl16 := hf.len
    rw [e]
    conv => whnf
    refine loops_intro (ct := []) cfgOK (by decide +kernel) (fun g : Nat × Int × List Int => ⟨[(0, clksV l), (1, intsV s), (2, iV g.2.1), (7, .osl 0 0 g.2.2.length false)], [(0, some (.row 1 g.2.2.length (rowG iV 0 g.2.2)))], 1⟩)
      (fun g => g.2.1 + 1 ≤ g.1 ∧ g.2.1 < l.length ∧ g.2.2.length + g.1 ≤ 17 ∧ g.2.2 ++ wayF l s g.1 g.2.1 = wayF l s (k.toNat + 1) k) (fun g => g.1) (k.toNat + 1, k, []) [(0, none)] ⟨by show k + 1 ≤ ((k.toNat + 1 : Nat) : Int); omega, by show k < (l.length : Int); omega, by show 0 + (k.toNat + 1) ≤ 17; omega, rfl⟩
      ⟨rfl, ⟨embV_le (.refl _) rfl, embV_le (.refl _) rfl, ⟨rfl, rfl⟩, ⟨rfl, rfl, rfl, rfl, rfl⟩, trivial⟩, ⟨rfl, trivial⟩⟩ ?_
    intro ⟨f, q, acc⟩ ⟨g1, g2, g3, g4⟩
    have g1 : q + 1 ≤ (f : Int) := g1
    have g2 : q < (l.length : Int) := g2
    have g3 : acc.length + f ≤ 17 := g3
    have g4 : acc ++ wayF l s f q = wayF l s (k.toNat + 1) k := g4
    conv => whnf
    refine bcase_of (fun h3 => ?_) (fun h3 => ?_)
    · have h3 : decide ((0 : Int) ≤ q) = true := h3
      have hq := of_decide_eq_true h3
      have hlt : q.toNat < l.length := by omega
      have hpar := hg.par q.toNat hlt
      have hsl := hg.len
      obtain ⟨f, rfl⟩ : ∃ f', f = f' + 1 := ⟨f - 1, by omega⟩
      conv => whnf
      refine ⟨by show (acc.length + 1) * 8 ≤ 140737488355328; omega, ?_⟩
      conv => whnf
      have hps := parent_spec l s q.toNat hlt (by omega) (hg.pch q.toNat hlt)
      rw [show ((q.toNat : Nat) : Int) = q by omega] at hps
      refine ⟨_, _, hps, ?_⟩
      conv => whnf
      refine ⟨(f, parF (l.getD q.toNat clk0) (s.getD q.toNat 0), acc ++ [q]), [(0, some 6)], ⟨by show parF (l.getD q.toNat clk0) (s.getD q.toNat 0) + 1 ≤ (f : Int); omega, by show parF (l.getD q.toNat clk0) (s.getD q.toNat 0) < (l.length : Int); omega, by show (acc ++ [q]).length + f ≤ 17; rw [List.length_append]; simp; omega, ?_⟩, by show f < f + 1; omega,
        ⟨rfl, ⟨embV_le (.refl _) rfl, embV_le (.refl _) rfl, ⟨rfl, rfl⟩, ⟨rfl, rfl, rfl, (by simp : acc.length + 1 = (acc ++ [_]).length), nofun⟩, trivial⟩, ⟨⟨rfl, (by simp : acc.length + 1 = (acc ++ [_]).length), le_app rfl (.refl _)⟩, trivial⟩⟩⟩
      show (acc ++ [q]) ++ wayF l s f _ = _
      rw [← g4, wayF, h3, List.append_assoc]
      rfl
    · have h3 : decide ((0 : Int) ≤ q) = false := h3
      have e2 : wayF l s f q = [] := by
        cases f with
        | zero => rfl
        | succ f => rw [wayF, h3]; rfl
      rw [e2, List.append_nil] at g4
      conv => whnf
      rw [← g4]
      exact ⟨embV_le (.refl _) rfl, trivial⟩

theorem rway_spec (l : List Clk) (s : List Int) (k : Int) (hl : l.length ≤ 1000000) (hc : ChOK l) : S 15 [clksV l, intsV s, iV k] [] (intsV (wayE l s k)) [] := by
  refine spec_of_x (ct := []) cfgOK Tryd.func15 rfl rfl (Nat.le_of_ble_eq_true rfl) (by decide +kernel) (Nat.le_refl _) ?_
  conv => whnf
  refine ⟨_, _, rsetting_spec l s hl hc, ?_⟩
  conv => whnf
  refine bcase_of (fun h => ?_) (fun h => ?_)
  · have h : ((!((checkF l == 0) && settB l s) || decide (k < 0)) || decide ((l.length : Int) ≤ k)) = true := h
    have e : wayE l s k = [] := by
      unfold wayE
      cases h1 : ((checkF l == 0) && settB l s) with
      | false => rfl
      | true =>
        rw [h1] at h
        have : withinF k 0 ((l.length : Int) - 1) = false := by
          rw [← Bool.not_eq_true, within_iff]
          simp only [Bool.not_true, Bool.false_or, Bool.or_eq_true, decide_eq_true_eq] at h
          omega
        rw [this]
        rfl
    rw [e]
    conv => whnf
    exact ⟨embV_le le_nil rfl, trivial⟩
  · have h : ((!((checkF l == 0) && settB l s) || decide (k < 0)) || decide ((l.length : Int) ≤ k)) = false := h
    simp only [Bool.or_eq_false_iff, decide_eq_false_iff_not] at h
    have h1 : ((checkF l == 0) && settB l s) = true := by simpa using h.1.1
    have h2 : withinF k 0 ((l.length : Int) - 1) = true := (within_iff _ _ _).2 (by omega)
    have e : wayE l s k = wayF l s (k.toNat + 1) k := by unfold wayE; rw [h1, h2]; rfl
    have hk := (within_iff _ _ _).1 h2
    rw [Bool.and_eq_true] at h1
    have hf := fine_of (eq_of_beq h1.1)
    have hg := good_of hf h1.2
    have hl16 := hf.len
    rw [e]
    conv => whnf
    refine loops_intro (ct := []) cfgOK (by decide +kernel) (fun g : Nat × Int × List Int => ⟨[(0, clksV l), (1, intsV s), (8, iV g.2.1), (7, .osl 0 0 g.2.2.length false)], [(0, some (.row 1 g.2.2.length (rowG iV 0 g.2.2)))], 1⟩)
      (fun g => g.2.1 + 1 ≤ g.1 ∧ g.2.1 < l.length ∧ g.2.2.length + g.1 ≤ 17 ∧ g.2.2 ++ wayF l s g.1 g.2.1 = wayF l s (k.toNat + 1) k) (fun g => g.1) (k.toNat + 1, k, []) [(0, none)] ⟨by show k + 1 ≤ ((k.toNat + 1 : Nat) : Int); omega, by show k < (l.length : Int); omega, by show 0 + (k.toNat + 1) ≤ 17; omega, rfl⟩
      ⟨rfl, ⟨embV_le (.refl _) rfl, embV_le (.refl _) rfl, ⟨rfl, rfl⟩, ⟨rfl, rfl, rfl, rfl, rfl⟩, trivial⟩, ⟨rfl, trivial⟩⟩ ?_
    intro ⟨f, q, acc⟩ ⟨g1, g2, g3, g4⟩
    have g1 : q + 1 ≤ (f : Int) := g1
    have g2 : q < (l.length : Int) := g2
    have g3 : acc.length + f ≤ 17 := g3
    have g4 : acc ++ wayF l s f q = wayF l s (k.toNat + 1) k := g4
    conv => whnf
    refine bcase_of (fun h3 => ?_) (fun h3 => ?_)
    · have h3 : decide ((0 : Int) ≤ q) = true := h3
      have hq := of_decide_eq_true h3
      have hlt : q.toNat < l.length := by omega
      have hpar := hg.par q.toNat hlt
      have hsl := hg.len
      obtain ⟨f, rfl⟩ : ∃ f', f = f' + 1 := ⟨f - 1, by omega⟩
      conv => whnf
      refine ⟨by show (acc.length + 1) * 8 ≤ 140737488355328; omega, ?_⟩
      conv => whnf
      refine ⟨⟨hq, g2⟩, ?_⟩
      conv => whnf
      refine ⟨⟨hq, by show q < (s.length : Int); omega⟩, ?_⟩
      conv => whnf
      refine ⟨_, _, rparent_spec (l.getD q.toNat clk0) (s.getD q.toNat 0) (hg.pch q.toNat hlt), ?_⟩
      conv => whnf
      refine ⟨(f, parF (l.getD q.toNat clk0) (s.getD q.toNat 0), acc ++ [q]), [(0, some 6)], ⟨by show parF (l.getD q.toNat clk0) (s.getD q.toNat 0) + 1 ≤ (f : Int); omega, by show parF (l.getD q.toNat clk0) (s.getD q.toNat 0) < (l.length : Int); omega, by show (acc ++ [q]).length + f ≤ 17; rw [List.length_append]; simp; omega, ?_⟩, by show f < f + 1; omega,
        ⟨rfl, ⟨embV_le (.refl _) rfl, embV_le (.refl _) rfl, ⟨rfl, rfl⟩, ⟨rfl, rfl, rfl, (by simp : acc.length + 1 = (acc ++ [_]).length), nofun⟩, trivial⟩, ⟨⟨rfl, (by simp : acc.length + 1 = (acc ++ [_]).length), le_app rfl (.refl _)⟩, trivial⟩⟩⟩
      show (acc ++ [q]) ++ wayF l s f _ = _
      rw [← g4, wayF, h3, List.append_assoc]
      rfl
    · have h3 : decide ((0 : Int) ≤ q) = false := h3
      have e2 : wayF l s f q = [] := by
        cases f with
        | zero => rfl
        | succ f => rw [wayF, h3]; rfl
      rw [e2, List.append_nil] at g4
      conv => whnf
      rw [← g4]
      exact ⟨embV_le (.refl _) rfl, trivial⟩

/-! Made limits -/

def lowF (f p : Int) : Int := maxI 0 (f - p)
def highF (f q : Int) : Int := minI 4000000000 (f + q)
def flF (R : List Rt) (k : Int) : Int := minI (floorR (R.getD k.toNat rt0)) 4000000000
def limG (R : List Rt) (n : Int) : Nat → List Lim → Tp → List Lim × Tp
  | 0, acc, t => (acc, t)
  | r + 1, acc, t => limG R n r (acc ++ [⟨(t.n n).1, lowF (flF R (t.n n).1) ((t.n n).2.pick [0, 1, 10, flF R (t.n n).1]).1, highF (flF R (t.n n).1) (((t.n n).2.pick [0, 1, 10, flF R (t.n n).1]).2.pick [0, 1, 5, 100]).1⟩]) (((t.n n).2.pick [0, 1, 10, flF R (t.n n).1]).2.pick [0, 1, 5, 100]).2
def lmsF (l : List Clk) (t : Tp) (n : Int) : List Lim × Tp :=
  limG (stF l (setF l t).1).1 l.length ((setF l t).2.n (n + 1)).1.toNat [] ((setF l t).2.n (n + 1)).2

theorem floorR_bound (r : Rt) : 0 ≤ floorR r ∧ floorR r ≤ 144115188075855872 := by
  unfold floorR
  cases h : validR r with
  | false => simp
  | true =>
    simp only [cond_true]
    have hv := validR_iff h
    have := tdiv_le r.num r.den (by omega) (by omega)
    omega

theorem flF_bound (R : List Rt) (k : Int) : 0 ≤ flF R k ∧ flF R k ≤ 4000000000 := by
  have := floorR_bound (R.getD k.toNat rt0)
  unfold flF minI
  split <;> omega

theorem limits_gen_spec (t : Tp) (ht : t.ok) (l : List Clk) (hf : Fine l) (h1 : 1 ≤ l.length) (n : Int) (hn : 0 ≤ n ∧ n ≤ 100) : S 10 [.ptr 0 0 0, clksV l, iV n] [tapeO t] (limsV (lmsF l t n).1) [tapeO (lmsF l t n).2] := by
  refine spec_of_x (ct := []) cfgOK Tryd.func10 rfl rfl (Nat.le_of_ble_eq_true rfl) (by decide +kernel) (Nat.le_refl _) ?_
  have hl16 := hf.len
  conv => whnf
  have ss := setg_spec t ht l (by omega) (chOK_fine hf)
  have hs : settB l (setF l t).1 = true := setF_sett hf t
  have os : (setF l t).2.ok := setN_ok l ht l.length
  unfold lmsF
  generalize setF l t = s at ss hs os
  refine ⟨_, _, ss, ?_⟩
  conv => whnf
  have hg := good_of hf hs
  have st := states_spec l s.1 hg (up_of hf hs)
  have hRl : (stF l s.1).1.length = l.length := (stN_len l s.1 l.length).1
  generalize (stF l s.1) = R at st hRl
  refine ⟨_, _, st, ?_⟩
  conv => whnf
  refine ⟨by unfold InI64; omega, ?_⟩
  conv => whnf
  have sb := n_spec s.2 os (n + 1) (by unfold InI64; omega)
  have ob : (s.2.n (n + 1)).2.ok := Tp.n_ok os (n + 1)
  have hb := Tp.n_lt s.2 (n + 1)
  generalize s.2.n (n + 1) = b at sb ob hb
  refine ⟨_, _, sb, ?_⟩
  conv => whnf
  refine loops_intro (ct := []) cfgOK (by decide +kernel) (fun g : Nat × List Lim × Tp => ⟨[(0, .ptr 0 0 0), (1, clksV l), (8, rtsV R.1), (10, .osl 1 0 g.2.1.length false), (11, iV g.1)], [(0, some (tapeO g.2.2)), (1, some (.row 3 g.2.1.length (rowG limV lim0 g.2.1)))], 2⟩)
    (fun g => g.2.1.length + g.1 ≤ 200 ∧ g.2.2.ok ∧ limG R.1 l.length g.1 g.2.1 g.2.2 = limG R.1 l.length b.1.toNat [] b.2) (fun g => g.1) (b.1.toNat, [], b.2) [(1, none)] ⟨by show 0 + b.1.toNat ≤ 200; omega, ob, rfl⟩
    ⟨rfl, ⟨⟨rfl, rfl, rfl, rfl⟩, embV_le (.refl _) rfl, embV_le (.refl _) rfl, ⟨rfl, rfl, rfl, rfl, rfl⟩, ⟨rfl, by show b.1 = (b.1.toNat : Int); omega⟩, trivial⟩, ⟨tape_emb rfl, rfl, trivial⟩⟩ ?_
  intro ⟨r, acc, t2⟩ ⟨hb2, ht2, hg2⟩
  have hb2 : acc.length + r ≤ 200 := hb2
  have ht2 : t2.ok := ht2
  have hg2 : limG R.1 l.length r acc t2 = limG R.1 l.length b.1.toNat [] b.2 := hg2
  conv => whnf
  refine bcase_of (fun h2 => ?_) (fun h2 => ?_)
  · have hlt : 0 < r := by have h2 : decide ((0 : Int) < (r : Int)) = true := h2; have := of_decide_eq_true h2; omega
    obtain ⟨r, rfl⟩ : ∃ r', r = r' + 1 := ⟨r - 1, by omega⟩
    rw [limG] at hg2
    conv => whnf
    have sk := n_spec t2 ht2 l.length (by unfold InI64; omega)
    have ok : (t2.n l.length).2.ok := Tp.n_ok ht2 l.length
    have hk := Tp.n_lt t2 l.length
    generalize t2.n (l.length : Int) = k at sk ok hk hg2
    refine ⟨_, _, sk, ?_⟩
    conv => whnf
    refine ⟨by omega, ?_⟩
    conv => whnf
    have hfl := floorR_bound (R.1.getD k.1.toNat rt0)
    have hfb := flF_bound R.1 k.1
    refine ⟨_, _, floor_spec (R.1.getD k.1.toNat rt0), ?_⟩
    conv => whnf
    have sp := pick_lit k.2 ok [0, 1, 10, flF R.1 k.1] true ⟨nofun, by simp⟩
    have op : (k.2.pick [0, 1, 10, flF R.1 k.1]).2.ok := Tp.pick_ok ok _
    have hp := Tp.pick_mem k.2 [0, 1, 10, flF R.1 k.1] (by simp)
    generalize k.2.pick [0, 1, 10, flF R.1 k.1] = p at sp op hp hg2
    simp only [List.mem_cons, List.not_mem_nil, or_false] at hp
    refine ⟨_, _, sp, ?_⟩
    conv => whnf
    refine ⟨by show InI64 (flF R.1 k.1 - p.1); unfold InI64; omega, ?_⟩
    conv => whnf
    have sq := pick_lit p.2 op [0, 1, 5, 100] true (by decide)
    have oq : (p.2.pick [0, 1, 5, 100]).2.ok := Tp.pick_ok op _
    have hq := Tp.pick_mem p.2 [0, 1, 5, 100] (by simp)
    generalize p.2.pick [0, 1, 5, 100] = q at sq oq hq hg2
    simp only [List.mem_cons, List.not_mem_nil, or_false] at hq
    refine ⟨_, _, sq, ?_⟩
    conv => whnf
    refine ⟨by show InI64 (flF R.1 k.1 + q.1); unfold InI64; omega, ?_⟩
    conv => whnf
    refine ⟨by show (acc.length + 1) * 24 ≤ 140737488355328; omega, ?_⟩
    conv => whnf
    refine ⟨by show InI64 (((r + 1 : Nat) : Int) - 1); unfold InI64; omega, ?_⟩
    conv => whnf
    refine ⟨(r, acc ++ [⟨k.1, lowF (flF R.1 k.1) p.1, highF (flF R.1 k.1) q.1⟩], q.2), [(1, some 36)], ⟨by show (acc ++ [_]).length + r ≤ 200; rw [List.length_append]; simp; omega, oq, hg2⟩, by show r < r + 1; omega,
      ⟨rfl, ⟨⟨rfl, rfl, rfl, rfl⟩, embV_le (.refl _) rfl, embV_le (.refl _) rfl, ⟨rfl, rfl, rfl, (by simp : acc.length + 1 = (acc ++ [_]).length), nofun⟩, ⟨rfl, by show ((r + 1 : Nat) : Int) - 1 = r; omega⟩, trivial⟩, ⟨tape_emb rfl, ⟨rfl, (by simp : acc.length + 1 = (acc ++ [_]).length), le_app rfl (.refl _)⟩, trivial⟩⟩⟩
  · have hlt : r = 0 := by have h2 : decide ((0 : Int) < (r : Int)) = false := h2; have := of_decide_eq_false h2; omega
    subst hlt
    have hg2 : (acc, t2) = limG R.1 l.length b.1.toNat [] b.2 := hg2
    conv => whnf
    rw [← hg2]
    exact ⟨embV_le (.refl _) rfl, tape_emb rfl, trivial⟩

end Go.Proofs.YtjmhlbogkeohpaaDoor
