/- Contracts of the program's functions, shown by walks of that machine, and the plain laws. -/
import Derived.Test.YtjmhlbogkeohpaaDoorD4
import Derived.Test.YtjmhlbogkeohpaaDoorL4
namespace Go.Proofs.YtjmhlbogkeohpaaDoor
open Go.Ab
set_option maxRecDepth 100000

/-! The reference's states are the rates -/

theorem stN_pre (l : List Clk) (s : List Int) (n j : Nat) (h : j < n) : (stN l s n).1.getD j rt0 = (st1 (stN l s j).1 (stN l s j).2 (l.getD j clk0) (s.getD j 0)).1 ∧ (stN l s n).2.getD j false = (st1 (stN l s j).1 (stN l s j).2 (l.getD j clk0) (s.getD j 0)).2 := by
  induction n with
  | zero => omega
  | succ n ih =>
    rw [stN]
    have hl := stN_len l s n
    by_cases hj : j < n
    · rw [getD_app_l _ (by omega), getD_app_l _ (by omega)]
      exact ih hj
    · have : j = n := by omega
      subst this
      rw [getD_app_r _ hl.1.symm, getD_app_r _ hl.2.symm]
      exact ⟨rfl, rfl⟩

theorem st1_congr {acc acc' : List Rt} {on on' : List Bool} {c : Clk} {k : Int} (h : c.kind ≠ 1 → acc.getD (parF c k).toNat rt0 = acc'.getD (parF c k).toNat rt0 ∧ on.getD (parF c k).toNat false = on'.getD (parF c k).toNat false) : st1 acc on c k = st1 acc' on' c k := by
  unfold st1
  cases hk : c.kind == 1 with
  | true => rfl
  | false =>
    obtain ⟨h1, h2⟩ := h (fun e => by rw [e] at hk; cases hk)
    rw [h1, h2]

theorem stF_eq {l : List Clk} {s : List Int} (h : Good l s) (hu : Up l s) (j : Nat) (hj : j < l.length) : ((stF l s).1.getD j rt0, (stF l s).2.getD j false) = st1 (stF l s).1 (stF l s).2 (l.getD j clk0) (s.getD j 0) := by
  unfold stF
  obtain ⟨e1, e2⟩ := stN_pre l s l.length j hj
  rw [e1, e2]
  show st1 _ _ _ _ = _
  refine st1_congr fun hk => ?_
  have h1 := h.par j hj
  have h2 := hu j hj hk
  obtain ⟨a1, a2⟩ := stN_pre l s l.length (parF (l.getD j clk0) (s.getD j 0)).toNat (by omega)
  obtain ⟨b1, b2⟩ := stN_pre l s j (parF (l.getD j clk0) (s.getD j 0)).toNat (by omega)
  exact ⟨b1.trans a1.symm, b2.trans a2.symm⟩

/-- The rate of the reference of a clock that is not fixed. -/
theorem st1_step {c : Clk} (hn : c.kind ≠ 1) (acc : List Rt) (on : List Bool) (k : Int) :
    (c.kind = 2 → st1 acc on c k = ((overR (upR acc c k) (chF c k)).1, on.getD (parF c k).toNat false)) ∧
    (c.kind = 3 → st1 acc on c k = ((timesR (upR acc c k) (chF c k)).1, on.getD (parF c k).toNat false)) ∧
    (c.kind = 5 → chF c k = 0 → st1 acc on c k = (offR, false)) ∧
    ((c.kind = 4 ∨ (c.kind = 5 ∧ chF c k = 1)) → st1 acc on c k = (upR acc c k, on.getD (parF c k).toNat false)) := by
  have hk : (c.kind == 1) = false := by
    cases h : c.kind == 1 with
    | false => rfl
    | true => exact absurd (eq_of_beq h) hn
  refine ⟨fun h => ?_, fun h => ?_, fun h h0 => ?_, fun h => ?_⟩
  · unfold st1; rw [h]; rfl
  · unfold st1; rw [h]; rfl
  · unfold st1; rw [show c.ch.getD k.toNat 0 = chF c k from rfl, h, h0]; rfl
  · rcases h with h | ⟨h, h1⟩
    · unfold st1; rw [h]; rfl
    · unfold st1; rw [show c.ch.getD k.toNat 0 = chF c k from rfl, h, h1]; rfl

theorem kinds_of {c : Clk} {i : Nat} {k : Int} (hv : validC c i = true) (hk : 0 ≤ k ∧ k < c.ch.length) (hn : c.kind ≠ 1) : (c.kind = 2 ∧ 1 ≤ chF c k ∧ chF c k ≤ 64) ∨ (c.kind = 3 ∧ 1 ≤ chF c k ∧ chF c k ≤ 64) ∨ c.kind = 4 ∨ (c.kind = 5 ∧ chF c k = k ∧ (k = 0 ∨ k = 1)) := by
  have hmem : chF c k ∈ c.ch := getD_mem 0 (by omega)
  rcases choicesB_cases (validC_choices hv) with ⟨h1, h2, h3, h4⟩ | ⟨h1, h2, h3, h4⟩ | ⟨h1, h2, h3⟩ | ⟨h1, h2, h3⟩
  · exact absurd h1 hn
  · rcases h1 with h1 | h1
    · exact .inl ⟨h1, h4 _ hmem⟩
    · exact .inr (.inl ⟨h1, h4 _ hmem⟩)
  · exact .inr (.inr (.inl h1))
  · rw [h3] at hk
    have hk2 : k = 0 ∨ k = 1 := by simp at hk; omega
    refine .inr (.inr (.inr ⟨h1, ?_, hk2⟩))
    unfold chF
    rw [h3]
    rcases hk2 with rfl | rfl <;> rfl

theorem fac_fine (l : List Clk) : ∀ j : Nat, 0 ≤ (facs l).getD j 0 := fun j => ((facs_len_bound l).2 j).1

/-- Rates and states: off, or the same fraction. -/
theorem st_rates {l : List Clk} {s : List Int} (hf : Fine l) (hs : settB l s = true) : ∀ j, j < l.length →
    ((ratesF l s).getD j rt0 = offR ∧ (stF l s).1.getD j rt0 = offR ∧ (stF l s).2.getD j false = false) ∨
    ∃ a b, Frac 4000000000 a b ((facs l).getD j 0) ∧ (ratesF l s).getD j rt0 = red a b ∧ (stF l s).1.getD j rt0 = red a b ∧ (stF l s).2.getD j false = true := by
  have hg := good_of hf hs
  have hu := up_of hf hs
  obtain ⟨_, hset⟩ := sett_get hs
  have hfac := fun j hj => facs_eq (parOK_fine hf) j hj
  have hfb := fac_fine l
  generalize hA : ratesF l s = A
  generalize hB : stF l s = B
  intro j
  induction j using Nat.strongRecOn with
  | ind j ih =>
    intro hj
    have eA := ratesF_eq hg j hj
    have eB := stF_eq hg hu j hj
    rw [hA] at eA
    rw [hB] at eB
    have hv := hf.valid j hj
    have hk := hset j hj
    have hfj := hf.facs j hj
    have hfacj := hfac j hj
    generalize l.getD j clk0 = c at *
    generalize s.getD j 0 = k at *
    by_cases hk1 : c.kind = 1
    · right
      obtain ⟨e1, e2, e3, e4, _⟩ := rt1_fix hv hk hk1 A
      have eB1 : st1 B.1 B.2 c k = (⟨chF c k, 1⟩, true) := by unfold st1; rw [hk1]; rfl
      rw [eB1] at eB
      have hb := hfb j
      have er : (⟨chF c k, 1⟩ : Rt) = red (chF c k).toNat 1 := by
        rw [red_one]
        congr 1
        omega
      refine ⟨(chF c k).toNat, 1, ⟨by omega, by decide, by omega, ?_, Nat.pow_pos (by decide)⟩, ?_, ?_, ?_⟩
      · exact Nat.le_trans (show (chF c k).toNat ≤ 4000000000 by omega) (Nat.le_mul_of_pos_right _ (Nat.pow_pos (by decide)))
      · rw [eA, e4, er]
      · rw [← er]; exact congrArg Prod.fst eB
      · exact congrArg Prod.snd eB
    · have hst := par_mem hv hk hk1
      have hpl : (parF c k).toNat < l.length := by have := hst.p0; have := hst.pi; omega
      have hpf := hfacj _ hst.mem
      have ihp := ih (parF c k).toNat (by have := hst.p0; have := hst.pi; omega) hpl
      have uA : A.getD (parF c k).toNat rt0 = upR A c k := rfl
      have uB : B.1.getD (parF c k).toNat rt0 = upR B.1 c k := rfl
      rw [uA, uB] at ihp
      obtain ⟨q2, q3, q50, q4⟩ := st1_step hk1 B.1 B.2 k
      have hn : ∀ n : Int, 1 ≤ n ∧ n ≤ 64 → 1 ≤ n.toNat ∧ n.toNat ≤ 64 := fun n hn => by omega
      rcases ihp with ⟨i1, i2, i3⟩ | ⟨a, b, i0, i1, i2, i3⟩
      · left
        have hA0 : rt1 A c k = offR := by
          rcases rt1_step hv hk hk1 A with ⟨_, q⟩ | ⟨q, _⟩
          · exact q
          · rw [i1] at q; cases q
        rw [i2, i3] at q2 q3 q4
        have hB0 : st1 B.1 B.2 c k = (offR, false) := by
          rcases kinds_of hv hk hk1 with ⟨h, h1⟩ | ⟨h, h1⟩ | h | ⟨h, h1, h2⟩
          · rw [q2 h, off_over _ h1]
          · rw [q3 h, off_times _ h1]
          · exact q4 (.inl h)
          · rcases h2 with h2 | h2
            · exact q50 h (by omega)
            · exact q4 (.inr ⟨h, by omega⟩)
        rw [hB0] at eB
        exact ⟨by rw [eA, hA0], congrArg Prod.fst eB, congrArg Prod.snd eB⟩
      · have oA : isOff (upR A c k) = false := by rw [i1]; exact red_on a b i0.a0
        rw [i2, i3] at q2 q3 q4
        rcases rt1_step hv hk hk1 A with ⟨q0, q⟩ | ⟨_, q⟩
        · left
          rw [oA] at q0
          rcases q0 with q0 | ⟨q0, q1⟩
          · cases q0
          · rw [q50 q0 q1] at eB
            exact ⟨by rw [eA, q], congrArg Prod.fst eB, congrArg Prod.snd eB⟩
        · right
          rcases q with ⟨r1, r2, r3, r4⟩ | ⟨r1, r2, r3, r4⟩ | ⟨r1, r2, r3⟩
          · rw [r2] at hpf
            have hnew := i0.over hpf (hn _ r3)
            have hs2 := hnew.small hfj (by decide)
            have eo := over_red a b _ i0.b0 r3 hs2.2.1 hs2.2.2
            rw [q2 r1, eo] at eB
            exact ⟨a, b * (chF c k).toNat, hnew, by rw [eA, r4, i1, eo], congrArg Prod.fst eB, congrArg Prod.snd eB⟩
          · rw [r2] at hpf
            have hnew := i0.times hpf (hn _ r3)
            have hs2 := hnew.small hfj (by decide)
            have eo := times_red a b _ i0.b0 r3 hs2.2.1 hs2.2.2
            rw [q3 r1, eo] at eB
            exact ⟨a * (chF c k).toNat, b, hnew, by rw [eA, r4, i1, eo], congrArg Prod.fst eB, congrArg Prod.snd eB⟩
          · rw [r2] at hpf
            rw [q4 r1] at eB
            exact ⟨a, b, i0.mono (by simpa using hpf), by rw [eA, r3, i1], congrArg Prod.fst eB, congrArg Prod.snd eB⟩

theorem off_isOff : isOff offR = true := rfl

theorem st_same {l : List Clk} {s : List Int} (hf : Fine l) (hs : settB l s = true) (j : Nat) (hj : j < l.length) : (stF l s).1.getD j rt0 = (ratesF l s).getD j rt0 ∧ (stF l s).2.getD j false = !isOff ((ratesF l s).getD j rt0) ∧ validR ((ratesF l s).getD j rt0) = true ∧ (isOff ((ratesF l s).getD j rt0) = true → (ratesF l s).getD j rt0 = offR) := by
  rcases st_rates hf hs j hj with ⟨h1, h2, h3⟩ | ⟨a, b, h0, h1, h2, h3⟩
  · rw [h1, h2, h3]
    exact ⟨rfl, rfl, by decide, fun _ => rfl⟩
  · have hs2 := h0.small (hf.facs j hj) (by decide)
    rw [h1, h2, h3, red_on a b h0.a0]
    exact ⟨rfl, rfl, red_valid a b h0.b0 hs2.2.1 hs2.2.2, nofun⟩

theorem ext_getD {α : Type} {l m : List α} (d : α) (h : l.length = m.length) (he : ∀ i, i < l.length → l.getD i d = m.getD i d) : l = m := by
  apply List.ext_getElem h
  intro i h1 h2
  have := he i h1
  rw [List.getD_eq_getElem?_getD, List.getD_eq_getElem?_getD, List.getElem?_eq_getElem h1, List.getElem?_eq_getElem h2] at this
  simpa using this

theorem st_eq {l : List Clk} {s : List Int} (hf : Fine l) (hs : settB l s = true) : (stF l s).1 = ratesF l s :=
  ext_getD rt0 ((stN_len l s l.length).1.trans (ratesN_len l s l.length).symm) fun i hi => (st_same hf hs i (by have h2 : i < (stN l s l.length).1.length := hi; rw [(stN_len l s l.length).1] at h2; exact h2)).1

/-! Ways -/

def gateB (l : List Clk) (s : List Int) (i : Int) : Bool := ((l.getD i.toNat clk0).kind != 5) || (s.getD i.toNat 0 == 1)

theorem wayF_neg (l : List Clk) (s : List Int) (f : Nat) (k : Int) (h : k < 0) : wayF l s f k = [] := by
  cases f with
  | zero => rfl
  | succ f => unfold wayF; rw [decide_eq_false (by omega)]; rfl

theorem wayF_pos (l : List Clk) (s : List Int) (f : Nat) (k : Int) (h : 0 ≤ k) : wayF l s (f + 1) k = k :: wayF l s f (parF (l.getD k.toNat clk0) (s.getD k.toNat 0)) := by
  rw [wayF, decide_eq_true h]
  rfl

theorem isOff_step {l : List Clk} {s : List Int} (hf : Fine l) (hs : settB l s = true) (j : Nat) (hj : j < l.length) (hn : (l.getD j clk0).kind ≠ 1) :
    isOff ((ratesF l s).getD j rt0) = (isOff ((ratesF l s).getD (parF (l.getD j clk0) (s.getD j 0)).toNat rt0) || !gateB l s j) := by
  have hg := good_of hf hs
  obtain ⟨_, hset⟩ := sett_get hs
  have eA := ratesF_eq hg j hj
  have hv := hf.valid j hj
  have hk := hset j hj
  have hst := par_mem hv hk hn
  have hpl : (parF (l.getD j clk0) (s.getD j 0)).toNat < l.length := by have := hst.p0; have := hst.pi; omega
  have hp := st_rates hf hs _ hpl
  have hfj := hf.facs j hj
  have hpf := facs_eq (parOK_fine hf) j hj _ hst.mem
  have egate : gateB l s j = (((l.getD j clk0).kind != 5) || (s.getD j 0 == 1)) := rfl
  rw [egate, eA]
  generalize ratesF l s = A at *
  have hkk := kinds_of hv hk hn
  have hstep := rt1_step hv hk hn A
  generalize l.getD j clk0 = c at *
  generalize s.getD j 0 = k at *
  have uA : A.getD (parF c k).toNat rt0 = upR A c k := rfl
  rw [uA] at hp ⊢
  have hn64 : ∀ n : Int, 1 ≤ n ∧ n ≤ 64 → 1 ≤ n.toNat ∧ n.toNat ≤ 64 := fun n hn => by omega
  rcases hstep with ⟨q0, q⟩ | ⟨q0, q⟩
  · rw [q, off_isOff]
    rcases q0 with q0 | ⟨q0, q1⟩
    · rw [q0]; rfl
    · rcases hkk with ⟨h, _⟩ | ⟨h, _⟩ | h | ⟨h, h1, h2⟩
      · omega
      · omega
      · omega
      · have : k = 0 := by omega
        rw [h, this]
        simp
  · rw [q0]
    rcases hp with ⟨i1, _⟩ | ⟨a, b, i0, i1, _⟩
    · rw [i1] at q0; cases q0
    · have hs2 := i0.small (show _ ≤ (4 : Int) by have : 0 ≤ (bif isDM c then (1 : Int) else 0) := (by cases isDM c <;> decide); omega) (by decide)
      rcases q with ⟨r1, r2, r3, r4⟩ | ⟨r1, r2, r3, r4⟩ | ⟨r1, r2, r3⟩
      · rw [r2] at hpf
        have hnew := i0.over hpf (hn64 _ r3)
        have hs3 := hnew.small hfj (by decide)
        rw [r4, i1, over_red a b _ i0.b0 r3 hs3.2.1 hs3.2.2, r1]
        exact red_on _ _ i0.a0
      · rw [r2] at hpf
        have hnew := i0.times hpf (hn64 _ r3)
        have hs3 := hnew.small hfj (by decide)
        rw [r4, i1, times_red a b _ i0.b0 r3 hs3.2.1 hs3.2.2, r1]
        exact red_on _ _ hnew.a0
      · rw [r3, q0]
        rcases r1 with r1 | ⟨r1, r5⟩
        · rw [r1]; rfl
        · rcases hkk with ⟨h, _⟩ | ⟨h, _⟩ | h | ⟨h, h1, h2⟩
          · omega
          · omega
          · omega
          · have : k = 1 := by omega
            rw [this, r1]
            rfl

theorem isOff_fix {l : List Clk} {s : List Int} (hf : Fine l) (hs : settB l s = true) (j : Nat) (hj : j < l.length) (hk : (l.getD j clk0).kind = 1) : isOff ((ratesF l s).getD j rt0) = false ∧ gateB l s j = true ∧ parF (l.getD j clk0) (s.getD j 0) = -1 ∧ (ratesF l s).getD j rt0 = ⟨(l.getD j clk0).ch.getD 0 0, 1⟩ := by
  have hg := good_of hf hs
  obtain ⟨_, hset⟩ := sett_get hs
  have eA := ratesF_eq hg j hj
  obtain ⟨e1, e2, e3, e4, e5⟩ := rt1_fix (hf.valid j hj) (hset j hj) hk (ratesF l s)
  rw [e4] at eA
  refine ⟨?_, ?_, e5, by rw [eA, e1]⟩
  · rw [eA]
    unfold isOff
    have : (chF (l.getD j clk0) (s.getD j 0) == 0) = false := by
      rw [← Bool.not_eq_true]
      intro e
      have := eq_of_beq e
      omega
    show (chF (l.getD j clk0) (s.getD j 0) == 0 && _) = false
    rw [this]
    rfl
  · unfold gateB
    rw [Int.toNat_natCast, hk]
    rfl

theorem way_open {l : List Clk} {s : List Int} (hf : Fine l) (hs : settB l s = true) : ∀ (j : Nat), j < l.length → ∀ f, j + 1 ≤ f → (wayF l s f j).all (gateB l s) = !isOff ((ratesF l s).getD j rt0) := by
  intro j
  induction j using Nat.strongRecOn with
  | ind j ih =>
    intro hj f hfj
    obtain ⟨f, rfl⟩ : ∃ f', f = f' + 1 := ⟨f - 1, by omega⟩
    rw [wayF_pos l s f j (by omega), List.all_cons, Int.toNat_natCast]
    by_cases hk : (l.getD j clk0).kind = 1
    · obtain ⟨h1, h2, h3, _⟩ := isOff_fix hf hs j hj hk
      rw [h3, wayF_neg _ _ _ _ (by decide), h1, h2]
      rfl
    · obtain ⟨_, hset⟩ := sett_get hs
      have hst := par_mem (hf.valid j hj) (hset j hj) hk
      have hp0 := hst.p0
      have hpi := hst.pi
      have := ih (parF (l.getD j clk0) (s.getD j 0)).toNat (by omega) (by omega) f (by omega)
      rw [show (((parF (l.getD j clk0) (s.getD j 0)).toNat : Nat) : Int) = parF (l.getD j clk0) (s.getD j 0) by omega] at this
      rw [this, isOff_step hf hs j hj hk]
      cases gateB l s j <;> simp

theorem way_mem {l : List Clk} {s : List Int} (hg : Good l s) : ∀ (f : Nat) (k : Int), k < l.length → ∀ i ∈ wayF l s f k, 0 ≤ i ∧ i < l.length := by
  intro f
  induction f with
  | zero => intro k _ i hi; cases hi
  | succ f ih =>
    intro k hk i hi
    by_cases h0 : 0 ≤ k
    · rw [wayF_pos l s f k h0] at hi
      rcases List.mem_cons.1 hi with rfl | hi
      · exact ⟨h0, hk⟩
      · have := hg.par k.toNat (by omega)
        exact ih _ (by omega) i hi
    · rw [wayF_neg l s _ k (by omega)] at hi
      cases hi

/-! Clocks without limits of their own -/

def fre (c : Clk) : Clk := ⟨c.kind, c.par, c.ch, 0, 0⟩

theorem fre_facs (l : List Clk) : facs (l.map fre) = facs l := by
  induction l using snocInd with
  | nil => rfl
  | append_singleton l c ih =>
    rw [List.map_append]
    show facs (l.map fre ++ [fre c]) = _
    rw [facs_snoc, facs_snoc, ih]
    rfl

theorem fre_prod (l : List Clk) : prodC (l.map fre) = prodC l := by
  induction l using snocInd with
  | nil => rfl
  | append_singleton l c ih =>
    rw [List.map_append]
    show prodC (l.map fre ++ [fre c]) = _
    rw [prodC_snoc, prodC_snoc, ih]
    rfl

theorem fre_valid {c : Clk} {k : Int} (h : validC c k = true) : validC (fre c) k = true := by
  have hp : ∀ j, j < (fre c).par.length → withinF ((fre c).par.getD j 0) 0 (k - 1) = true := fun j hj => by
    have := validC_par h _ (getD_mem 0 hj)
    exact (within_iff _ _ _).2 (by
      show 0 ≤ c.par.getD j 0 ∧ c.par.getD j 0 ≤ k - 1
      have h2 : 0 ≤ c.par.getD j 0 ∧ c.par.getD j 0 < k := this
      omega)
  have hc : choicesB (fre c) = true := show choicesB c = true from validC_choices h
  rw [validC_rest hp, hc]
  rfl

theorem fre_fine {l : List Clk} (hf : Fine l) : Fine (l.map fre) := by
  refine ⟨by rw [List.length_map]; exact hf.len, fun i hi => ?_, fun i hi => ?_, by rw [fre_prod]; exact hf.prod, fun i hi => ?_⟩
  · rw [List.length_map] at hi
    rw [getD_map fre l i clk0 clk0 hi]
    exact hf.big i hi
  · rw [List.length_map] at hi
    rw [getD_map fre l i clk0 clk0 hi]
    exact fre_valid (hf.valid i hi)
  · rw [List.length_map] at hi
    rw [fre_facs]
    exact hf.facs i hi

theorem fre_sett {l : List Clk} {s : List Int} (hs : settB l s = true) : settB (l.map fre) s = true := by
  obtain ⟨h1, h2⟩ := sett_get hs
  unfold settB
  rw [List.length_map, h1, beq_self_eq_true]
  refine rangeAll_true fun i hi => ?_
  rw [getD_map fre l i clk0 clk0 hi, within_iff]
  have h3 : 0 ≤ s.getD i 0 ∧ s.getD i 0 < ((l.getD i clk0).ch.length : Int) := h2 i hi
  show 0 ≤ s.getD i 0 ∧ s.getD i 0 ≤ ((l.getD i clk0).ch.length : Int) - 1
  omega

end Go.Proofs.YtjmhlbogkeohpaaDoor

namespace Go.Proofs.YtjmhlbogkeohpaaDoor
open Go.Ab
set_option maxRecDepth 100000

theorem meets_snoc (l : List Clk) (s : List Int) (a : List Lim) (x : Lim) (h : a.length ≤ 31) : meetsF l s (a ++ [x]) = (meetsF l s a && meetsF l s [x]) := by
  unfold meetsF limsB
  have h1 : decide (((a ++ [x]).length : Int) ≤ 32) = true := decide_eq_true (by simp; omega)
  have h2 : decide ((a.length : Int) ≤ 32) = true := decide_eq_true (by omega)
  have h3 : decide ((([x] : List Lim).length : Int) ≤ 32) = true := decide_eq_true (by simp)
  have e1 : ∀ p : Lim → Bool, (a ++ [x]).any p = (a.any p || p x) := fun p => by simp
  have e2 : ∀ p : Lim → Bool, [x].any p = p x := fun p => by simp
  rw [h1, h2, h3, e1, e1, e2, e2]
  cases checkF l == 0 <;> cases a.any (badL (l.length : Int)) <;> cases badL (l.length : Int) x <;> cases settB l s <;> cases ownB l (ratesF l s) <;> cases a.any (offL (ratesF l s)) <;> cases offL (ratesF l s) x <;> rfl

theorem getD_set2 {α : Type} (m : List α) (i j : Nat) (v d : α) (hi : i < m.length) : (m.set i v).getD j d = if j = i then v else m.getD j d := by
  rw [List.getD_eq_getElem?_getD, List.getD_eq_getElem?_getD, List.getElem?_set]
  by_cases h : i = j
  · subst h
    simp [hi]
  · rw [if_neg h, if_neg (fun e => h e.symm)]

theorem meets_get {l : List Clk} {s : List Int} {m : List Lim} (h : meetsF l s m = true) : limsB l m = true ∧ settB l s = true ∧ ownB l (ratesF l s) = true ∧ ∀ i, i < m.length → offL (ratesF l s) (m.getD i lim0) = false := by
  unfold meetsF at h
  simp only [Bool.and_eq_true] at h
  exact ⟨h.1.1, h.1.2, h.2.1, fun i hi => any_false_get lim0 (by simpa using h.2.2) i hi⟩

theorem meets_wide {l : List Clk} {s : List Int} {m : List Lim} (h : meetsF l s m = true) (i : Nat) (hi : i < m.length) (hf : floorR ((ratesF l s).getD (m.getD i lim0).clk.toNat rt0) < 4000000000) : meetsF l s (m.set i ⟨(m.getD i lim0).clk, 0, 4000000000⟩) = true := by
  obtain ⟨h1, h2, h3, h4⟩ := meets_get h
  obtain ⟨g1, g2, g3⟩ := lims_get h1
  have hbi := badL_get (g3 i hi)
  have hoi := h4 i hi
  have hlen : (m.set i (⟨(m.getD i lim0).clk, 0, 4000000000⟩ : Lim)).length = m.length := List.length_set
  have hl : limsB l (m.set i ⟨(m.getD i lim0).clk, 0, 4000000000⟩) = true := by
    unfold limsB
    rw [g1, hlen, decide_eq_true (show (m.length : Int) ≤ 32 by omega), any_none lim0 (fun j hj => ?_)]
    · rfl
    · rw [getD_set2 m i j _ _ hi]
      split
      · rw [badL_iff]
        simp only [decide_eq_false (show ¬ (m.getD i lim0).clk < 0 by omega), decide_eq_false (show ¬ (l.length : Int) ≤ (m.getD i lim0).clk by omega)]
        rfl
      · exact g3 j (by omega)
  have ho : (m.set i (⟨(m.getD i lim0).clk, 0, 4000000000⟩ : Lim)).any (offL (ratesF l s)) = false := any_none lim0 (fun j hj => by
    rw [getD_set2 m i j _ _ hi]
    split
    · unfold offL at hoi ⊢
      rw [Bool.or_eq_false_iff] at hoi ⊢
      refine ⟨hoi.1, ?_⟩
      have hw : withinR ((ratesF l s).getD (m.getD i lim0).clk.toNat rt0) (m.getD i lim0).low (m.getD i lim0).high = true := by simpa using hoi.2
      generalize (ratesF l s).getD (m.getD i lim0).clk.toNat rt0 = r at *
      unfold withinR at hw
      rw [Bool.and_eq_true] at hw
      have hv := hw.1
      unfold floorR at hf
      rw [hv] at hf
      simp only [cond_true] at hf
      have hr := validR_iff hv
      have hq := tdiv_le r.num r.den (by omega) (by omega)
      have e : withinR r 0 4000000000 = true := by
        unfold withinR
        rw [hv, decide_eq_true hq.1, decide_eq_true hf]
        rfl
      show (!withinR r 0 4000000000) = false
      rw [e]
      rfl
    · exact h4 j (by omega))
  unfold meetsF
  rw [hl, h2, h3, ho]
  rfl

theorem meets_free {l : List Clk} {s : List Int} (hf : Fine l) (hs : settB l s = true) (k lo : Int) (hk : 0 ≤ k ∧ k < l.length) (hlo : 0 ≤ lo ∧ lo ≤ 1000) : meetsF (l.map fre) s [⟨k, lo, 4000000000⟩] = ((!isOff ((ratesF (l.map fre) s).getD k.toNat rt0)) && withinR ((ratesF (l.map fre) s).getD k.toNat rt0) lo 4000000000) := by
  have hc := of_fine (fre_fine hf)
  have hl : limsB (l.map fre) [⟨k, lo, 4000000000⟩] = true := by
    unfold limsB
    rw [hc, any_none lim0 (fun j hj => ?_)]
    · rfl
    · have : j = 0 := by simp at hj; omega
      subst this
      show badL ((l.map fre).length : Int) ⟨k, lo, 4000000000⟩ = false
      rw [badL_iff, List.length_map]
      simp only [decide_eq_false (show ¬ k < 0 by omega), decide_eq_false (show ¬ (l.length : Int) ≤ k by omega), decide_eq_false (show ¬ lo < 0 by omega), decide_eq_false (show ¬ (4000000000 : Int) < lo by omega)]
      rfl
  have ho : ownB (l.map fre) (ratesF (l.map fre) s) = true := by
    unfold ownB
    refine rangeAll_true fun i hi => ?_
    rw [List.length_map] at hi
    rw [getD_map fre l i clk0 clk0 hi]
    unfold ownX
    show (!((!isOff _ && (0 != 0)) && _)) = true
    cases isOff ((ratesF (l.map fre) s).getD i rt0) <;> rfl
  unfold meetsF
  rw [hl, fre_sett hs, ho]
  show (true && (true && !(offL (ratesF (l.map fre) s) ⟨k, lo, 4000000000⟩ || false))) = _
  unfold offL
  show (true && (true && !((isOff ((ratesF (l.map fre) s).getD k.toNat rt0) || !withinR ((ratesF (l.map fre) s).getD k.toNat rt0) lo 4000000000) || false))) = _
  cases isOff ((ratesF (l.map fre) s).getD k.toNat rt0) <;> cases withinR ((ratesF (l.map fre) s).getD k.toNat rt0) lo 4000000000 <;> rfl

/-! What is known of made limits -/

theorem limG_get (R : List Rt) (n : Int) (hn : 0 < n) : ∀ (r : Nat) (acc : List Lim) (t : Tp), t.ok → (∀ x ∈ acc, badL n x = false) → (∀ x ∈ (limG R n r acc t).1, badL n x = false) ∧ (limG R n r acc t).1.length = acc.length + r ∧ (limG R n r acc t).2.ok := by
  intro r
  induction r with
  | zero => intro acc t ht h; exact ⟨h, rfl, ht⟩
  | succ r ih =>
    intro acc t ht h
    rw [limG]
    have hk := Tp.n_lt t n
    have ok : (t.n n).2.ok := Tp.n_ok ht n
    generalize t.n n = k at *
    have hfb := flF_bound R k.1
    have hp := Tp.pick_mem k.2 [0, 1, 10, flF R k.1] (by simp)
    have op : (k.2.pick [0, 1, 10, flF R k.1]).2.ok := Tp.pick_ok ok _
    generalize k.2.pick [0, 1, 10, flF R k.1] = p at *
    have hq := Tp.pick_mem p.2 [0, 1, 5, 100] (by simp)
    have oq : (p.2.pick [0, 1, 5, 100]).2.ok := Tp.pick_ok op _
    generalize p.2.pick [0, 1, 5, 100] = q at *
    simp only [List.mem_cons, List.not_mem_nil, or_false] at hp hq
    generalize flF R k.1 = f at *
    have := ih (acc ++ [⟨k.1, lowF f p.1, highF f q.1⟩]) q.2 oq (fun x hx => by
      rcases List.mem_append.1 hx with hx | hx
      · exact h x hx
      · rw [List.mem_singleton.1 hx, badL_iff]
        have hlow : 0 ≤ lowF f p.1 ∧ lowF f p.1 ≤ f := by unfold lowF maxI; split <;> omega
        have hhigh : f ≤ highF f q.1 ∧ highF f q.1 ≤ 4000000000 := by unfold highF minI; split <;> omega
        simp only [decide_eq_false (show ¬ k.1 < 0 by omega), decide_eq_false (show ¬ n ≤ k.1 by omega), decide_eq_false (show ¬ lowF f p.1 < 0 by omega), decide_eq_false (show ¬ highF f q.1 < lowF f p.1 by omega), decide_eq_false (show ¬ (4000000000 : Int) < highF f q.1 by omega)]
        rfl)
    refine ⟨this.1, ?_, this.2.2⟩
    rw [this.2.1, List.length_append]
    simp
    omega

theorem lmsF_get {l : List Clk} (h1 : 1 ≤ l.length) {t : Tp} (ht : t.ok) (n : Int) (hn : 0 ≤ n) : (∀ i, i < (lmsF l t n).1.length → badL l.length ((lmsF l t n).1.getD i lim0) = false) ∧ ((lmsF l t n).1.length : Int) ≤ n ∧ (lmsF l t n).2.ok := by
  unfold lmsF
  have os : (setF l t).2.ok := setN_ok l ht l.length
  have hb := Tp.n_lt (setF l t).2 (n + 1)
  have ob : ((setF l t).2.n (n + 1)).2.ok := Tp.n_ok os (n + 1)
  generalize (setF l t).2.n (n + 1) = b at *
  have := limG_get (stF l (setF l t).1).1 l.length (by omega) b.1.toNat [] b.2 ob (fun x hx => by cases hx)
  refine ⟨fun i hi => this.1 _ (getD_mem lim0 hi), ?_, this.2.2⟩
  rw [this.2.1]
  simp
  omega

end Go.Proofs.YtjmhlbogkeohpaaDoor

namespace Go.Proofs.YtjmhlbogkeohpaaDoor
open Go.Ab
set_option maxRecDepth 100000

theorem setG_eq (g : Nat → AV) (i : Nat) (v : AV) (j : Nat) : setG g i v j = if j = i then v else g j := by
  unfold setG
  by_cases h : j = i
  · subst h; simp
  · have : Nat.beq j i = false := by
      cases hb : Nat.beq j i with
      | false => rfl
      | true => exact absurd (Nat.eq_of_beq_eq_true hb) h
    rw [this, if_neg h]
    rfl

/-- A copy in which one element is set. -/
theorem le_setC {α : Type} {f : α → AV} {d : α} {m : List α} {i n : Nat} {v : α} {g : Nat → AV} {u : AV} (hn : n = 0) (hi : i < m.length) (hu : Le u (f v)) (j : Nat) : Le (setG (appG n g (rowG f d m)) i u j) (rowG f d (m.set i v) j) := by
  subst hn
  rw [setG_eq]
  unfold rowG
  rw [getD_set2 m i j v d hi]
  by_cases h : j = i
  · rw [if_pos h, if_pos h]; exact hu
  · rw [if_neg h, if_neg h, appG_r (Nat.zero_le _)]; exact .refl _

theorem meets_law_spec (t : List Int) (ht : I64 t) : S 3 [intsV t] [] (.bool true) [] := by
  refine spec_of_x (ct := [24]) cfgOK Tryd.func3 rfl rfl (Nat.le_of_ble_eq_true rfl) (by decide +kernel) (Nat.le_refl _) ?_
  conv => whnf
  refine ⟨_, _, new_spec t, ?_⟩
  conv => whnf
  have ok0 := new_ok ht
  have s1 := clocks_spec ⟨t.take 500, 0⟩ ok0 9 4096 (by decide) (by decide)
  obtain ⟨m1, ok1, len1⟩ := cloF_made ⟨t.take 500, 0⟩ ok0 9 4096 (by decide)
  generalize cloF ⟨t.take 500, 0⟩ 9 4096 = c at s1 m1 ok1 len1
  obtain ⟨l, t1⟩ := c
  have m1 : Made l := m1
  have ok1 : t1.ok := ok1
  have hf := fine_of m1.ok
  have hl := hf.len
  have hpos := m1.pos
  refine ⟨_, _, s1, ?_⟩
  conv => whnf
  have s2 := setg_spec t1 ok1 l (by omega) (chOK_fine hf)
  have hs : settB l (setF l t1).1 = true := setF_sett hf t1
  have ok2 : (setF l t1).2.ok := setN_ok l ok1 l.length
  generalize setF l t1 = c at s2 hs ok2
  obtain ⟨s, t2⟩ := c
  have hs : settB l s = true := hs
  have ok2 : t2.ok := ok2
  refine ⟨_, _, s2, ?_⟩
  conv => whnf
  have s3 := limits_gen_spec t2 ok2 l hf hpos 4 (by decide)
  obtain ⟨lm1, lm2, ok3⟩ := lmsF_get hpos ok2 4 (by decide)
  generalize lmsF l t2 4 = c at s3 lm1 lm2 ok3
  obtain ⟨m, t3⟩ := c
  have lm1 : ∀ i, i < m.length → badL l.length (m.getD i lim0) = false := lm1
  have lm2 : (m.length : Int) ≤ 4 := lm2
  have ok3 : t3.ok := ok3
  refine ⟨_, _, s3, ?_⟩
  conv => whnf
  refine ⟨_, _, meets_spec l s m (by omega) (by omega) (chOK_fine hf), ?_⟩
  conv => whnf
  refine ⟨_, _, (meets_spec l s [] (by omega) (by simp) (chOK_fine hf)).le ⟨.refl _, .refl _, le_nil, trivial⟩ trivial, ?_⟩
  conv => whnf
  have hg := good_of hf hs
  have hu := up_of hf hs
  have hRl : (stF l s).1.length = l.length := (stN_len l s l.length).1
  have hst := st_eq hf hs
  refine loops_intro (ct := []) cfgOK (by decide +kernel) (fun i : Nat => ⟨[(3, .ptr 0 0 0), (4, clksV l), (5, intsV s), (6, limsV m), (7, .bool (meetsF l s m)), (8, .bool (meetsF l s (m.take i))), (37, limsV m), (38, iV m.length), (39, iV i)], [(0, some (tapeO t3))], 1⟩)
    (fun i => i ≤ m.length) (fun i => m.length - i) 0 [(0, some 2)] (Nat.zero_le _)
    ⟨rfl, ⟨⟨rfl, rfl, rfl, rfl⟩, embV_le (.refl _) rfl, embV_le (.refl _) rfl, embV_le (.refl _) rfl, rfl, rfl, embV_le (.refl _) rfl, ⟨rfl, rfl⟩, ⟨rfl, rfl⟩, trivial⟩, ⟨tape_emb rfl, trivial⟩⟩ ?_
  intro i hi
  conv => whnf
  refine bcase_of (fun h2 => ?_) (fun h2 => ?_)
  · have hlt : i < m.length := by have := of_decide_eq_true h2; omega
    have hbi := (badL_get (lm1 i hlt)).1
    have hsnoc : meetsF l s (m.take (i + 1)) = (meetsF l s (m.take i) && meetsF l s [m.getD i lim0]) := by
      rw [take_snoc lim0 hlt]
      exact meets_snoc l s _ _ (by rw [take_len (by omega)]; omega)
    conv => whnf
    refine ⟨by omega, ?_⟩
    conv => whnf
    refine ⟨fun _ => by unfold InI64; omega, ?_⟩
    conv => whnf
    refine ⟨fun _ => by omega, ?_⟩
    conv => whnf
    refine ⟨_, _, fun _ => (meets_spec l s [m.getD i lim0] (by omega) (by simp) (chOK_fine hf)).le ⟨.refl _, .refl _, le_row (by show ((i : Int) + 1).toNat - (i : Int).toNat = 1; omega) (fun j hj => ?_), trivial⟩ trivial, ?_⟩
    · have hj0 : j = 0 := by have hj : j < ((i : Int) + 1).toNat - (i : Int).toNat := hj; omega
      subst hj0
      rfl
    conv => whnf
    refine ⟨by show (0 + m.length) * 24 ≤ 140737488355328; omega, ?_⟩
    conv => whnf
    refine ⟨by show (0 : Int) ≤ (i : Int) ∧ (i : Int) < ((0 + m.length : Nat) : Int); omega, ?_⟩
    conv => whnf
    have sw := meets_spec l s (m.set i ⟨(m.getD i lim0).clk, 0, 4000000000⟩) (by omega) (by rw [List.length_set]; omega) (chOK_fine hf)
    refine ⟨_, _, fun _ => sw.le ⟨.refl _, .refl _, .sl (by rw [List.length_set, Nat.zero_add]) (fun _ => rfl) nofun (fun j hj => le_setC (f := limV) (d := lim0) rfl hlt (.refl (limV ⟨(m.getD i lim0).clk, 0, 4000000000⟩)) j), trivial⟩ trivial, ?_⟩
    conv => whnf
    have fin : ∀ (hcond : ((meetsF l s m && !meetsF l s (m.set i ⟨(m.getD i lim0).clk, 0, 4000000000⟩)) && decide (floorR ((ratesF l s).getD (m.getD i lim0).clk.toNat rt0) < 4000000000)) = true), False := by
      intro hcond
      rw [Bool.and_eq_true, Bool.and_eq_true] at hcond
      have hw := meets_wide hcond.1.1 i hlt (of_decide_eq_true hcond.2)
      have := hcond.1.2
      rw [hw] at this
      cases this
    refine bcase_of (fun h3 => ?_) (fun h3 => ?_)
    · have h3 : ((meetsF l s m && !meetsF l s (m.set i ⟨(m.getD i lim0).clk, 0, 4000000000⟩)) == true) = true := h3
      conv => whnf
      refine ⟨_, _, lrates_spec l s hg hu, ?_⟩
      conv => whnf
      refine ⟨fun _ => ⟨hbi.1, by show (m.getD i lim0).clk < ((stF l s).1.length : Int); omega⟩, ?_⟩
      conv => whnf
      refine ⟨_, _, fun _ => floor_spec ((stF l s).1.getD (m.getD i lim0).clk.toNat rt0), ?_⟩
      conv => whnf
      refine bcase_of (fun h4 => ?_) (fun h4 => ?_)
      · have h4 : ((meetsF l s m && !meetsF l s (m.set i ⟨(m.getD i lim0).clk, 0, 4000000000⟩)) && decide (floorR ((stF l s).1.getD (m.getD i lim0).clk.toNat rt0) < 4000000000)) = true := h4
        rw [hst] at h4
        exact (fin h4).elim
      conv => whnf
      refine ⟨by unfold InI64; omega, ?_⟩
      conv => whnf
      exact ⟨i + 1, [], hlt, by omega, ⟨rfl, ⟨⟨rfl, rfl, rfl, rfl⟩, embV_le (.refl _) rfl, embV_le (.refl _) rfl, embV_le (.refl _) rfl, rfl, hsnoc.symm, embV_le (.refl _) rfl, ⟨rfl, rfl⟩, ⟨rfl, by simp⟩, trivial⟩, ⟨tape_emb rfl, trivial⟩⟩⟩
    · have h3 : ((meetsF l s m && !meetsF l s (m.set i ⟨(m.getD i lim0).clk, 0, 4000000000⟩)) == true) = false := h3
      have hc0 : (meetsF l s m && !meetsF l s (m.set i ⟨(m.getD i lim0).clk, 0, 4000000000⟩)) = false := by simpa using h3
      conv => whnf
      have no : (meetsF l s m && !meetsF l s (m.set i ⟨(m.getD i lim0).clk, 0, 4000000000⟩)) = true → False := fun hc => by rw [hc0] at hc; cases hc
      refine ⟨fun hc => (no hc).elim, ?_⟩
      conv => whnf
      refine ⟨fun hc => (no hc).elim, ?_⟩
      conv => whnf
      refine ⟨iV 0, [], fun hc => (no hc).elim, ?_⟩
      conv => whnf
      refine bcase_of (fun h4 => ?_) (fun h4 => ?_)
      · have h4 : ((meetsF l s m && !meetsF l s (m.set i ⟨(m.getD i lim0).clk, 0, 4000000000⟩)) && decide ((0 : Int) < 4000000000)) = true := h4
        rw [hc0] at h4
        cases h4
      conv => whnf
      refine ⟨by unfold InI64; omega, ?_⟩
      conv => whnf
      exact ⟨i + 1, [], hlt, by omega, ⟨rfl, ⟨⟨rfl, rfl, rfl, rfl⟩, embV_le (.refl _) rfl, embV_le (.refl _) rfl, embV_le (.refl _) rfl, rfl, hsnoc.symm, embV_le (.refl _) rfl, ⟨rfl, rfl⟩, ⟨rfl, by simp⟩, trivial⟩, ⟨tape_emb rfl, trivial⟩⟩⟩
  · have hil : i = m.length := by have := of_decide_eq_false h2; omega
    subst hil
    rw [List.take_length]
    conv => whnf
    refine bcase_of (fun h3 => ?_) (fun h3 => ?_)
    · have h3 : (!(meetsF l s m == meetsF l s m)) = true := h3
      simp at h3
    conv => whnf
    refine ⟨by show (0 + l.length) * 72 ≤ 140737488355328; omega, ?_⟩
    conv => whnf
    have hml : (l.map fre).length = l.length := List.length_map ..
    refine cut_freeze (ct := []) (ct' := []) cfgOK (by decide +kernel) (by decide +kernel) (fun _ : Unit => ⟨[(3, .ptr 0 0 0), (5, intsV s), (12, clksV (l.map fre))], [(0, some (tapeO t3))], 1⟩) (fun _ => True) ?_ ?_
    · conv => whnf
      refine loops_intro (ct := []) cfgOK (by decide +kernel) (fun i : Nat => ⟨[(3, .ptr 0 0 0), (5, intsV s), (12, .osl 1 0 l.length false), (91, iV l.length), (92, iV i)], [(0, some (tapeO t3)), (1, some (.row 5 l.length (rowG clkV clk0 ((l.map fre).take i ++ l.drop i))))], 2⟩)
        (fun i => i ≤ l.length) (fun i => l.length - i) 0 [(1, some 7)] (Nat.zero_le _)
        ⟨rfl, ⟨⟨rfl, rfl, rfl, rfl⟩, embV_le (.refl _) rfl, ⟨rfl, rfl, rfl, Nat.zero_add _, nofun⟩, ⟨rfl, by show ((0 + l.length : Nat) : Int) = l.length; rw [Nat.zero_add]⟩, ⟨rfl, rfl⟩, trivial⟩, ⟨tape_emb rfl, ⟨rfl, Nat.zero_add _, fun k hk => ?_⟩, trivial⟩⟩ ?_
      · have e : appG 0 (listG []) (rowG clkV clk0 l) k = rowG clkV clk0 ((l.map fre).take 0 ++ l.drop 0) k := appG_r (Nat.zero_le _)
        exact e ▸ .refl _
      intro i hi
      conv => whnf
      refine bcase_of (fun h4 => ?_) (fun h4 => ?_)
      · have hlt : i < l.length := by have := of_decide_eq_true h4; omega
        conv => whnf
        refine ⟨by omega, ?_⟩
        conv => whnf
        refine ⟨by omega, ?_⟩
        conv => whnf
        refine ⟨by unfold InI64; omega, ?_⟩
        conv => whnf
        refine ⟨i + 1, [], hlt, by omega, ⟨rfl, ⟨⟨rfl, rfl, rfl, rfl⟩, embV_le (.refl _) rfl, ⟨rfl, rfl, rfl, rfl, nofun⟩, ⟨rfl, rfl⟩, ⟨rfl, by simp⟩, trivial⟩, ⟨tape_emb rfl, ⟨rfl, rfl, fun k hk => ?_⟩, trivial⟩⟩⟩
        have hA : ((l.map fre).take i).length = i := take_len (by omega)
        have hx : ((l.map fre).take i ++ l.drop i).getD i clk0 = l.getD i clk0 := by
          rw [drop_cons clk0 hlt, getD_app_r _ hA.symm]
        have hnew : (l.map fre).take (i + 1) ++ l.drop (i + 1) = (l.map fre).take i ++ fre (l.getD i clk0) :: l.drop (i + 1) := by
          rw [take_snoc clk0 (by omega), getD_map fre l i clk0 clk0 hlt, List.append_assoc]
          rfl
        rw [hnew]
        by_cases hki : k = i
        · subst hki
          have hkk : k = addN 0 (k : Int).toNat := rfl
          rw [setG_eq, if_pos hkk, setG_eq, if_pos rfl]
          show Le (clkV (fre (((l.map fre).take k ++ l.drop k).getD k clk0))) (clkV (((l.map fre).take k ++ fre (l.getD k clk0) :: l.drop (k + 1)).getD k clk0))
          rw [hx, getD_app_r _ hA.symm]
          exact .refl _
        · have hki2 : ¬ k = addN 0 (i : Int).toNat := hki
          rw [setG_eq, if_neg hki2, setG_eq, if_neg hki2]
          have e : ((l.map fre).take i ++ l.drop i).getD k clk0 = ((l.map fre).take i ++ fre (l.getD i clk0) :: l.drop (i + 1)).getD k clk0 := by
            rw [drop_cons clk0 hlt]
            by_cases h5 : k < i
            · rw [getD_app_l _ (by omega), getD_app_l _ (by omega)]
            · rw [getD_app_r2 _ (by omega), getD_app_r2 _ (by omega), hA, show k - i = (k - i - 1) + 1 by omega, List.getD_cons_succ, List.getD_cons_succ]
          unfold rowG
          rw [e]
          exact .refl _
      · have hil : i = l.length := by have := of_decide_eq_false h4; omega
        subst hil
        conv => whnf
        refine ⟨(), [], 1, trivial, ⟨rfl, ⟨⟨rfl, rfl, rfl, rfl⟩, embV_le (.refl _) rfl, embV_le (le_row hml.symm fun k hk => ?_) rfl, trivial⟩, ⟨tape_emb rfl, trivial⟩⟩⟩
        show clkV (((l.map fre).take l.length ++ l.drop l.length).getD k clk0) = _
        rw [List.drop_length, List.append_nil, List.take_of_length_le (by omega)]
    · intro _ _
      conv => whnf
      have hf2 := fre_fine hf
      have hs2 := fre_sett hs
      have hg2 := good_of hf2 hs2
      have hu2 := up_of hf2 hs2
      have e1 := st_eq hf2 hs2
      have hRl2 : (stF (l.map fre) s).1.length = (l.map fre).length := (stN_len (l.map fre) s (l.map fre).length).1
      refine ⟨_, _, lrates_spec (l.map fre) s hg2 hu2, ?_⟩
      conv => whnf
      have sk := n_spec t3 ok3 (l.map fre).length (by unfold InI64; omega)
      have ok4 : (t3.n (l.map fre).length).2.ok := Tp.n_ok ok3 _
      have hk := Tp.n_lt t3 (l.map fre).length
      generalize t3.n ((l.map fre).length : Int) = k at sk ok4 hk
      refine ⟨_, _, sk, ?_⟩
      conv => whnf
      have sq := n_spec k.2 ok4 100 (by unfold InI64; omega)
      have hq := Tp.n_lt k.2 100
      generalize k.2.n 100 = q at sq hq
      refine ⟨_, _, sq, ?_⟩
      conv => whnf
      refine ⟨_, _, rway_spec (l.map fre) s k.1 (by omega) (chOK_fine hf2), ?_⟩
      conv => whnf
      have hway : wayE (l.map fre) s k.1 = wayF (l.map fre) s (k.1.toNat + 1) k.1 := by
        unfold wayE
        rw [of_fine hf2, hs2, (within_iff _ _ _).2 (by omega)]
        rfl
      have hwm := way_mem hg2 (k.1.toNat + 1) k.1 (by omega)
      have hwo := way_open hf2 hs2 k.1.toNat (by omega) (k.1.toNat + 1) (Nat.le_refl _)
      rw [show ((k.1.toNat : Nat) : Int) = k.1 by omega] at hwo
      have hwl : (wayE (l.map fre) s k.1).length ≤ k.1.toNat + 1 := by rw [hway]; exact wayF_len _ _ _ _
      rw [← hway] at hwm hwo
      generalize wayE (l.map fre) s k.1 = w at hwm hwo hwl
      refine loops_intro (ct := []) cfgOK (by decide +kernel) (fun i : Nat => ⟨[(5, intsV s), (12, clksV (l.map fre)), (14, rtsV (stF (l.map fre) s).1), (15, iV k.1), (16, .ptr 0 0 0), (17, .bool ((w.take i).all (gateB (l.map fre) s))), (118, intsV w), (119, iV w.length), (120, iV i)], [(0, some (.box [iV k.1, iV q.1, iV 4000000000]))], 1⟩)
        (fun i => i ≤ w.length) (fun i => w.length - i) 0 [(0, some 14)] (Nat.zero_le _)
        ⟨rfl, ⟨embV_le (.refl _) rfl, embV_le (.refl _) rfl, embV_le (.refl _) rfl, ⟨rfl, rfl⟩, ⟨rfl, rfl, rfl, rfl⟩, rfl, embV_le (.refl _) rfl, ⟨rfl, rfl⟩, ⟨rfl, rfl⟩, trivial⟩, ⟨embO_le (LeL.refl _) rfl (Nat.lt_of_sub_pos (by exact Nat.zero_lt_succ _)), trivial⟩⟩ ?_
      intro i hi
      conv => whnf
      refine bcase_of (fun h4 => ?_) (fun h4 => ?_)
      · have hlt : i < w.length := by have := of_decide_eq_true h4; omega
        have hmi := hwm _ (getD_mem 0 hlt)
        have hsl := hg2.len
        conv => whnf
        refine ⟨by omega, ?_⟩
        conv => whnf
        refine ⟨fun _ => hmi, ?_⟩
        conv => whnf
        refine ⟨fun _ _ => ⟨hmi.1, by show w.getD i 0 < (s.length : Int); omega⟩, ?_⟩
        conv => whnf
        refine ⟨by unfold InI64; omega, ?_⟩
        conv => whnf
        refine ⟨i + 1, [], hlt, by omega, ⟨rfl, ⟨embV_le (.refl _) rfl, embV_le (.refl _) rfl, embV_le (.refl _) rfl, ⟨rfl, rfl⟩, ⟨rfl, rfl, rfl, rfl⟩, ?_, embV_le (.refl _) rfl, ⟨rfl, rfl⟩, ⟨rfl, by simp⟩, trivial⟩, ⟨embO_le (LeL.refl _) rfl (Nat.lt_of_sub_pos (by exact Nat.zero_lt_succ _)), trivial⟩⟩⟩
        show ((w.take i).all (gateB (l.map fre) s) && gateB (l.map fre) s (w.getD i 0)) = (w.take (i + 1)).all (gateB (l.map fre) s)
        rw [take_snoc 0 hlt]
        simp
      · have hil : i = w.length := by have := of_decide_eq_false h4; omega
        subst hil
        rw [List.take_length, hwo]
        have hmf := meets_free hf hs k.1 q.1 (by omega) (by omega)
        rw [← e1] at hmf ⊢
        generalize hR : (stF (l.map fre) s).1 = R at hmf hRl2 ⊢
        have hkR : 0 ≤ k.1 ∧ k.1 < R.length := by omega
        conv => whnf
        refine ⟨_, _, (meets_spec (l.map fre) s [⟨k.1, q.1, 4000000000⟩] (by omega) (by simp) (chOK_fine hf2)).le ⟨.refl _, .refl _, le_lim1 ⟨k.1, q.1, 4000000000⟩ true, trivial⟩ trivial, ?_⟩
        conv => whnf
        refine ⟨fun _ => hkR, ?_⟩
        conv => whnf
        refine ⟨_, _, fun _ => rwithinr_spec (R.getD k.1.toNat rt0) q.1 4000000000, ?_⟩
        conv => whnf
        have hme : (meetsF (l.map fre) s [⟨k.1, q.1, 4000000000⟩] == ((!isOff (R.getD k.1.toNat rt0)) && withinR (R.getD k.1.toNat rt0) q.1 4000000000)) = true := by rw [hmf]; simp
        refine ⟨_, _, fun _ => awake_spec, ?_⟩
        conv => whnf
        refine ⟨?_, trivial⟩
        show ((meetsF (l.map fre) s [⟨k.1, q.1, 4000000000⟩] == ((!isOff (R.getD k.1.toNat rt0)) && withinR (R.getD k.1.toNat rt0) q.1 4000000000)) && true) = true
        rw [hme]
        rfl

end Go.Proofs.YtjmhlbogkeohpaaDoor

namespace Go.Proofs.YtjmhlbogkeohpaaDoor
open Go.Ab
set_option maxRecDepth 100000

def wstep (l : List Clk) (s : List Int) (x : Int) (v : Rt × Bool) : Rt × Bool :=
  bif (l.getD x.toNat clk0).kind == 2 then ((overR v.1 ((l.getD x.toNat clk0).ch.getD (s.getD x.toNat 0).toNat 0)).1, v.2) else
  bif (l.getD x.toNat clk0).kind == 3 then ((timesR v.1 ((l.getD x.toNat clk0).ch.getD (s.getD x.toNat 0).toNat 0)).1, v.2) else
  bif (l.getD x.toNat clk0).kind == 5 then (v.1, v.2 && ((l.getD x.toNat clk0).ch.getD (s.getD x.toNat 0).toNat 0 == 1)) else v

def vwF (l : List Clk) (s : List Int) : List Int → Rt × Bool
  | [] => (rt0, true)
  | x :: r => match r with
    | [] => (⟨(l.getD x.toNat clk0).ch.getD 0 0, 1⟩, true)
    | _ :: _ => wstep l s x (vwF l s r)

theorem vwF_cons (l : List Clk) (s : List Int) (x : Int) (r : List Int) (h : 1 ≤ r.length) : vwF l s (x :: r) = wstep l s x (vwF l s r) := by
  cases r with
  | nil => simp at h
  | cons y r => rfl

structure WayOK (l : List Clk) (s w : List Int) : Prop where
  chain : ∀ i, i + 1 < w.length → (l.getD (w.getD i 0).toNat clk0).kind ≠ 1 ∧ w.getD (i + 1) 0 = parF (l.getD (w.getD i 0).toNat clk0) (s.getD (w.getD i 0).toNat 0)
  last : ∀ i, i + 1 = w.length → (l.getD (w.getD i 0).toNat clk0).kind = 1

theorem way_ok {l : List Clk} {s : List Int} (hf : Fine l) (hs : settB l s = true) : ∀ (j : Nat), j < l.length → ∀ f, j + 1 ≤ f →
    WayOK l s (wayF l s f j) ∧ 1 ≤ (wayF l s f j).length ∧ (wayF l s f j).getD 0 0 = j ∧ (vwF l s (wayF l s f j)).2 = (!isOff ((ratesF l s).getD j rt0)) ∧ ((vwF l s (wayF l s f j)).2 = true → (vwF l s (wayF l s f j)).1 = (ratesF l s).getD j rt0) := by
  intro j
  induction j using Nat.strongRecOn with
  | ind j ih =>
    intro hj f hfj
    obtain ⟨f, rfl⟩ : ∃ f', f = f' + 1 := ⟨f - 1, by omega⟩
    rw [wayF_pos l s f j (by omega), Int.toNat_natCast]
    by_cases hk : (l.getD j clk0).kind = 1
    · obtain ⟨h1, h2, h3, h4⟩ := isOff_fix hf hs j hj hk
      rw [h3, wayF_neg _ _ _ _ (by decide)]
      refine ⟨⟨fun i hi => by simp at hi, fun i hi => ?_⟩, by simp, rfl, ?_, fun _ => ?_⟩
      · have : i = 0 := by simp at hi; exact hi
        subst this
        exact hk
      · rw [h1]; rfl
      · rw [h4]; rfl
    · obtain ⟨_, hset⟩ := sett_get hs
      have hv := hf.valid j hj
      have hkk := hset j hj
      have hst := par_mem hv hkk hk
      have hp0 := hst.p0
      have hpi := hst.pi
      obtain ⟨i1, i2, i3, i4, i5⟩ := ih (parF (l.getD j clk0) (s.getD j 0)).toNat (by omega) (by omega) f (by omega)
      rw [show (((parF (l.getD j clk0) (s.getD j 0)).toNat : Nat) : Int) = parF (l.getD j clk0) (s.getD j 0) by omega] at i1 i2 i3 i4 i5
      have hstep := isOff_step hf hs j hj hk
      have eA := ratesF_eq (good_of hf hs) j hj
      have hrs := rt1_step hv hkk hk (ratesF l s)
      have hkinds := kinds_of hv hkk hk
      generalize hw : wayF l s f (parF (l.getD j clk0) (s.getD j 0)) = w at *
      have hvw := vwF_cons l s j w i2
      refine ⟨⟨fun i hi => ?_, fun i hi => ?_⟩, by simp, rfl, ?_⟩
      · cases i with
        | zero =>
          refine ⟨?_, ?_⟩
          · show (l.getD (j : Int).toNat clk0).kind ≠ 1
            exact hk
          · show w.getD 0 0 = parF (l.getD (j : Int).toNat clk0) (s.getD (j : Int).toNat 0)
            exact i3
        | succ i => exact i1.chain i (by simpa using hi)
      · cases i with
        | zero => rw [List.length_cons] at hi; omega
        | succ i => exact i1.last i (by simpa using hi)
      · rw [hvw]
        have hwst : wstep l s j (vwF l s w) = (bif (l.getD j clk0).kind == 2 then ((overR (vwF l s w).1 (chF (l.getD j clk0) (s.getD j 0))).1, (vwF l s w).2) else
            bif (l.getD j clk0).kind == 3 then ((timesR (vwF l s w).1 (chF (l.getD j clk0) (s.getD j 0))).1, (vwF l s w).2) else
            bif (l.getD j clk0).kind == 5 then ((vwF l s w).1, (vwF l s w).2 && (chF (l.getD j clk0) (s.getD j 0) == 1)) else vwF l s w) := rfl
        have hgate : gateB l s j = (((l.getD j clk0).kind != 5) || (s.getD j 0 == 1)) := rfl
        rw [hwst, hstep, hgate]
        generalize hV : vwF l s w = V at *
        have hup : (ratesF l s).getD (parF (l.getD j clk0) (s.getD j 0)).toNat rt0 = upR (ratesF l s) (l.getD j clk0) (s.getD j 0) := rfl
        rw [hup] at i4 i5 ⊢
        rw [eA]
        generalize l.getD j clk0 = c at *
        generalize s.getD j 0 = k at *
        generalize upR (ratesF l s) c k = U at *
        rcases hkinds with ⟨h, _⟩ | ⟨h, _⟩ | h | ⟨h, h1, h2⟩
        · rw [h]
          refine ⟨by show V.2 = _; rw [i4]; simp, fun ho => ?_⟩
          have ho : V.2 = true := ho
          have hU := i5 ho
          rw [i4] at ho
          have hoff : isOff U = false := by simpa using ho
          rcases hrs with ⟨q, _⟩ | ⟨_, q⟩
          · rw [hoff] at q
            rcases q with q | ⟨q, _⟩
            · cases q
            · omega
          · rcases q with ⟨_, _, _, q4⟩ | ⟨q1, _⟩ | ⟨q1 | ⟨q1, _⟩, _⟩
            · show (overR V.1 (chF c k)).1 = _
              rw [hU, q4]
            · omega
            · omega
            · omega
        · rw [h]
          refine ⟨by show V.2 = _; rw [i4]; simp, fun ho => ?_⟩
          have ho : V.2 = true := ho
          have hU := i5 ho
          rw [i4] at ho
          have hoff : isOff U = false := by simpa using ho
          rcases hrs with ⟨q, _⟩ | ⟨_, q⟩
          · rw [hoff] at q
            rcases q with q | ⟨q, _⟩
            · cases q
            · omega
          · rcases q with ⟨q1, _⟩ | ⟨_, _, _, q4⟩ | ⟨q1 | ⟨q1, _⟩, _⟩
            · omega
            · show (timesR V.1 (chF c k)).1 = _
              rw [hU, q4]
            · omega
            · omega
        · rw [h]
          refine ⟨by show V.2 = _; rw [i4]; simp, fun ho => ?_⟩
          have ho : V.2 = true := ho
          have hU := i5 ho
          rw [i4] at ho
          have hoff : isOff U = false := by simpa using ho
          rcases hrs with ⟨q, _⟩ | ⟨_, q⟩
          · rw [hoff] at q
            rcases q with q | ⟨q, _⟩
            · cases q
            · omega
          · rcases q with ⟨q1, _⟩ | ⟨q1, _⟩ | ⟨_, _, q4⟩
            · omega
            · omega
            · show V.1 = _
              rw [hU, q4]
        · rw [h, h1]
          refine ⟨?_, fun ho => ?_⟩
          · show (V.2 && (k == 1)) = !(isOff U || !(false || (k == 1)))
            rw [i4]
            cases isOff U <;> cases k == 1 <;> rfl
          · have ho : (V.2 && (k == 1)) = true := ho
            rw [Bool.and_eq_true] at ho
            have hU := i5 ho.1
            have ho1 := ho.1
            rw [i4] at ho1
            have hoff : isOff U = false := by simpa using ho1
            have hk1 : k = 1 := eq_of_beq ho.2
            rcases hrs with ⟨q, _⟩ | ⟨_, q⟩
            · rw [hoff] at q
              rcases q with q | ⟨_, q⟩
              · cases q
              · omega
            · rcases q with ⟨q1, _⟩ | ⟨q1, _⟩ | ⟨_, _, q4⟩
              · omega
              · omega
              · show V.1 = _
                rw [hU, q4]

theorem vwF_last (l : List Clk) (s w : List Int) (h : 1 ≤ w.length) : vwF l s (w.drop (w.length - 1)) = (⟨(l.getD (w.getD (w.length - 1) 0).toNat clk0).ch.getD 0 0, 1⟩, true) := by
  rw [drop_cons 0 (show w.length - 1 < w.length by omega), List.drop_eq_nil_of_le (by omega)]
  rfl

theorem vwF_step (l : List Clk) (s w : List Int) (i : Nat) (h : i + 1 < w.length) : vwF l s (w.drop i) = wstep l s (w.getD i 0) (vwF l s (w.drop (i + 1))) := by
  rw [drop_cons 0 (show i < w.length by omega)]
  exact vwF_cons l s _ _ (by rw [List.length_drop]; omega)

end Go.Proofs.YtjmhlbogkeohpaaDoor
