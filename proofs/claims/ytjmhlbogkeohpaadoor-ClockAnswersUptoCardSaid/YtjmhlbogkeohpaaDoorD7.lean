/- Contracts of the program's functions, shown by walks of that machine, and the plain laws. -/
import Derived.Test.YtjmhlbogkeohpaaDoorD6
import Derived.Test.YtjmhlbogkeohpaaDoorL4
namespace Go.Proofs.YtjmhlbogkeohpaaDoor
open Go.Ab
set_option maxRecDepth 100000
set_option maxHeartbeats 4000000

/-! Clocks in which one thing is changed -/

/-- The lists of a clock that are held aside: where they lie. -/
structure Hd where
  ap : Option Addr
  cp : Nat
  ac : Option Addr
  cc : Nat

def hdV (c : Clk) (d : Hd) : AV := .agg [iV c.kind, .raw 2 d.ap c.par.length d.cp, .raw 3 d.ac c.ch.length d.cc, iV c.low, iV c.high]
def hdG (l : List Clk) (k : Nat) (d : Hd) : Nat → AV := setG (rowG clkV clk0 l) k (hdV (l.getD k clk0) d)
/-- The same, of a clock that is told. -/
def hdQ (l : List Clk) (k : Nat) (c : Clk) (d : Hd) : Nat → AV := setG (rowG clkV clk0 l) k (hdV c d)
def hdP (c : Clk) (d : Hd) : AObj := .held d.ap d.cp 1 c.par.length (rowG iV 0 c.par)
def hdC (c : Clk) (d : Hd) : AObj := .held d.ac d.cc 1 c.ch.length (rowG iV 0 c.ch)

def bSt (t : Tp) (l : List Clk) (k : Nat) : Nat ⊕ (Nat × Hd) → St
  | .inl i => ⟨[(0, .ptr 0 0 0), (5, .osl 1 0 i false), (9, clksV l), (10, iV l.length), (11, iV i)], [(0, some (tapeO t)), (1, some (.row 5 i (rowG clkV clk0 l)))], 2⟩
  | .inr (i, d) => ⟨[(0, .ptr 0 0 0), (5, .osl 1 0 i false), (9, clksV l), (10, iV l.length), (11, iV i)], [(0, some (tapeO t)), (1, some (.row 5 i (hdG l k d))), (2, some (hdP (l.getD k clk0) d)), (3, some (hdC (l.getD k clk0) d))], 4⟩

def bInv (l : List Clk) (k : Nat) : Nat ⊕ (Nat × Hd) → Prop
  | .inl i => i ≤ k
  | .inr (i, _) => k < i ∧ i ≤ l.length

def bMu (l : List Clk) : Nat ⊕ (Nat × Hd) → Nat
  | .inl i => l.length - i
  | .inr (i, _) => l.length - i

theorem appG_zero (g h : Nat → AV) : appG 0 g h = h := by
  funext j
  rfl

theorem setG_self (g : Nat → AV) (i : Nat) (v : AV) : setG g i v i = v := by
  simp [setG]
theorem setG_ne (g : Nat → AV) {i j : Nat} (v : AV) (h : j ≠ i) : setG g i v j = g j := by
  have : Nat.beq j i = false := by
    cases hb : Nat.beq j i with
    | false => rfl
    | true => exact absurd (Nat.eq_of_beq_eq_true hb) h
  simp [setG, this]
theorem le_snocG {g h g' : Nat → AV} {i : Nat} (h0 : ∀ j, j < i → Le (g j) (g' j)) (h1 : Le (h 0) (g' i)) : ∀ j, j < i + 1 → Le (appG i g h j) (g' j) := by
  intro j hj
  by_cases hji : j = i
  · subst hji
    rw [appG_r (Nat.le_refl _), Nat.sub_self]
    exact h1
  · rw [appG_l (by omega)]
    exact h0 j (by omega)

def fixC : Clk := ⟨1, [], [1], 0, 0⟩
def bentG (l : List Clk) (k : Nat) (c : Clk) (w : Int) (t : Tp) : List Clk × Tp :=
  bif w == 0 then (l.set k ⟨(t.range 0 6).1, c.par, c.ch, c.low, c.high⟩, (t.range 0 6).2)
  else bif w == 1 then (l.set k ⟨c.kind, c.par ++ [(t.range (-1) l.length).1], c.ch, c.low, c.high⟩, (t.range (-1) l.length).2)
  else bif w == 2 then (l.set k ⟨c.kind, c.par, c.ch ++ [(t.pick [0, 1, 64, 65, 2]).1], c.low, c.high⟩, (t.pick [0, 1, 64, 65, 2]).2)
  else bif w == 3 then (l.set k ⟨c.kind, c.par, c.ch, (t.pick [-1, 0, c.high + 1]).1, c.high⟩, (t.pick [-1, 0, c.high + 1]).2)
  else bif w == 4 then (l.set k ⟨c.kind, c.par, c.ch, c.low, (t.pick [-1, 0, 4000000000, 4000000001]).1⟩, (t.pick [-1, 0, 4000000000, 4000000001]).2)
  else bif w == 5 then (l.set k ⟨c.kind, c.par, [], c.low, c.high⟩, t)
  else (l ++ List.replicate (17 - l.length) fixC, t)

/-- Clocks, and fixed ones up to seventeen. -/
def moreC (l : List Clk) : List Clk := l ++ List.replicate (17 - l.length) fixC
theorem bentG_0 {l : List Clk} {k : Nat} {c : Clk} {w : Int} {t : Tp} (h : (w == 0) = true) : bentG l k c w t = (l.set k ⟨(t.range 0 6).1, c.par, c.ch, c.low, c.high⟩, (t.range 0 6).2) := by
  unfold bentG; rw [h]; rfl
theorem bentG_1 {l : List Clk} {k : Nat} {c : Clk} {w : Int} {t : Tp} (h : (w == 1) = true) : bentG l k c w t = (l.set k ⟨c.kind, c.par ++ [(t.range (-1) l.length).1], c.ch, c.low, c.high⟩, (t.range (-1) l.length).2) := by
  obtain rfl := eq_of_beq h; rfl
theorem bentG_2 {l : List Clk} {k : Nat} {c : Clk} {w : Int} {t : Tp} (h : (w == 2) = true) : bentG l k c w t = (l.set k ⟨c.kind, c.par, c.ch ++ [(t.pick [0, 1, 64, 65, 2]).1], c.low, c.high⟩, (t.pick [0, 1, 64, 65, 2]).2) := by
  obtain rfl := eq_of_beq h; rfl
theorem bentG_3 {l : List Clk} {k : Nat} {c : Clk} {w : Int} {t : Tp} (h : (w == 3) = true) : bentG l k c w t = (l.set k ⟨c.kind, c.par, c.ch, (t.pick [-1, 0, c.high + 1]).1, c.high⟩, (t.pick [-1, 0, c.high + 1]).2) := by
  obtain rfl := eq_of_beq h; rfl
theorem bentG_4 {l : List Clk} {k : Nat} {c : Clk} {w : Int} {t : Tp} (h : (w == 4) = true) : bentG l k c w t = (l.set k ⟨c.kind, c.par, c.ch, c.low, (t.pick [-1, 0, 4000000000, 4000000001]).1⟩, (t.pick [-1, 0, 4000000000, 4000000001]).2) := by
  obtain rfl := eq_of_beq h; rfl
theorem bentG_5 {l : List Clk} {k : Nat} {c : Clk} {w : Int} {t : Tp} (h : (w == 5) = true) : bentG l k c w t = (l.set k ⟨c.kind, c.par, [], c.low, c.high⟩, t) := by
  obtain rfl := eq_of_beq h; rfl
theorem bentG_6 {l : List Clk} {k : Nat} {c : Clk} {w : Int} {t : Tp} (h : 5 < w) : bentG l k c w t = (moreC l, t) := by
  have e : ∀ n : Int, n ≤ 5 → (w == n) = false := fun n hn => by
    rw [← Bool.not_eq_true]
    intro h2
    have := eq_of_beq h2
    omega
  unfold bentG
  rw [e 0 (by decide), e 1 (by decide), e 2 (by decide), e 3 (by decide), e 4 (by decide), e 5 (by decide)]
  rfl

theorem validC_high {c : Clk} {k : Int} (h : validC c k = true) : 0 ≤ c.high ∧ c.high ≤ 4000000000 := by
  unfold validC at h
  cases hb : (c.par.any (fun y => !withinF y 0 (k - 1)) || !withinF c.high 0 4000000000 || !withinF c.low 0 c.high) with
  | true => rw [hb] at h; cases h
  | false =>
    rw [Bool.or_eq_false_iff, Bool.or_eq_false_iff] at hb
    have h1 := hb.1.2
    unfold withinF at h1
    simp at h1
    exact h1

theorem cells5 {p : Nat → Prop} (h0 : p 0) (h1 : p 1) (h2 : p 2) (h3 : p 3) (h4 : p 4) : ∀ j, j < 5 → p j
  | 0, _ => h0
  | 1, _ => h1
  | 2, _ => h2
  | 3, _ => h3
  | 4, _ => h4
  | j + 5, h => absurd h (by omega)

theorem outOK_row {s : St} {o : Nat} {ad : Option Addr} {cap n N k : Nat} {g G R : Nat → AV} {v v' : AV} (ho : hget s.heap o = some (.held ad cap 1 n g)) (hr : hget s.heap 1 = some (.row 5 N G)) (hGk : G k = v) (hGn : ∀ i, i ≠ k → G i = R i) (hR : ∀ i, (R i).cells.length = 5) (hv : v'.cells.length = 5)
    (hc : ∀ j, j < 5 → nth v'.cells j = nth v.cells j ∨ (∃ q, nth v.cells j = .raw q ad n cap) ∧ nth v'.cells j = .sl 1 n false g) : outOK o 1 (setG R k v') s := by
  unfold outOK
  rw [ho, hr]
  intro i _
  by_cases hi : i = k
  · subst hi
    rw [setG_self, hGk]
    exact ⟨hv, hc⟩
  · rw [setG_ne _ _ hi, hGn i hi]
    exact ⟨hR i, fun j _ => .inl rfl⟩

theorem le_setRow {l : List Clk} {k : Nat} {c' : Clk} {v : AV} (hk : k < l.length) (hv : Le v (clkV c')) : ∀ i, i < l.length → Le (setG (rowG clkV clk0 l) k v i) (rowG clkV clk0 (l.set k c') i) := by
  intro i hi
  unfold rowG
  by_cases hik : i = k
  · subst hik
    rw [setG_self, List.getD_eq_getElem?_getD, List.getElem?_set_self hk]
    exact hv
  · rw [setG_ne _ _ hik, List.getD_eq_getElem?_getD (l := l.set k c'), List.getElem?_set_ne (fun e => hik e.symm), ← List.getD_eq_getElem?_getD]
    exact .refl _

theorem hdQ_ne (l : List Clk) (k : Nat) (c : Clk) (d : Hd) {i : Nat} (h : i ≠ k) : hdQ l k c d i = rowG clkV clk0 l i := by
  unfold hdQ
  exact setG_ne _ _ h

theorem moreC_len (l : List Clk) : (moreC l).length = l.length + (17 - l.length) := by simp [moreC]
theorem moreC_l (l : List Clk) {i : Nat} (hi : i < l.length) : (moreC l).getD i clk0 = l.getD i clk0 := by
  unfold moreC
  rw [List.getD_eq_getElem?_getD, List.getElem?_append_left hi, ← List.getD_eq_getElem?_getD]
theorem moreC_r (l : List Clk) {i : Nat} (hi : l.length ≤ i) (h : i < 17) : (moreC l).getD i clk0 = fixC := by
  unfold moreC
  rw [List.getD_eq_getElem?_getD, List.getElem?_append_right hi, List.getElem?_replicate, if_pos (by omega)]
  rfl
theorem more_first (l : List Clk) (k : Nat) (c : Clk) (d : Hd) : ∀ i, i < l.length → Le (hdQ l k c d i) (setG (rowG clkV clk0 (moreC l)) k (hdV c d) i) := by
  intro i hi
  unfold hdQ
  by_cases hik : i = k
  · subst hik
    rw [setG_self, setG_self]
    exact .refl _
  · rw [setG_ne _ _ hik, setG_ne _ _ hik]
    unfold rowG
    rw [moreC_l l hi]
    exact .refl _
theorem more_last (l : List Clk) (k : Nat) (hk : k < l.length) {c : Clk} (hc : l.getD k clk0 = c) {n : Nat} : ∀ i, i < n → Le (setG (rowG clkV clk0 (moreC l)) k (clkV c) i) (rowG clkV clk0 (moreC l) i) := by
  subst hc
  intro i hi
  by_cases hik : i = k
  · subst hik
    rw [setG_self]
    unfold rowG
    rw [moreC_l l hk]
    exact .refl _
  · rw [setG_ne _ _ hik]
    exact .refl _

theorem more_at (l : List Clk) (k : Nat) (hk : k < l.length) (n : Nat) (hn : l.length ≤ n) (h : n < 17) {v : AV} : Le (.agg [iV 1, .sl 0 0 true nilG, .sl 1 1 true (listG [iV 1]), iV 0, iV 0]) (setG (rowG clkV clk0 (moreC l)) k v n) := by
  rw [setG_ne _ _ (by omega)]
  unfold rowG
  rw [moreC_r l hn h]
  exact .agg rfl (cells5 (.refl _) (.sl rfl (fun h => absurd rfl h) nofun (fun _ h => absurd h (Nat.not_lt_zero _))) (.sl rfl (fun _ => rfl) nofun (le_one 1)) (.refl _) (.refl _))

theorem bent_spec (t : Tp) (ht : t.ok) (l : List Clk) (h1 : 1 ≤ l.length) (h2 : l.length ≤ 11) (hf : Fine l) (k : Nat) (hk : (t.n l.length).1 = k) (e : List Clk × Tp) (he : bentG l k (l.getD k clk0) ((t.n l.length).2.n 7).1 ((t.n l.length).2.n 7).2 = e) : S 22 [.ptr 0 0 0, clksV l] [tapeO t] (clksV e.1) [tapeO e.2] := by
  have hkl : k < l.length := by have := Tp.n_lt t l.length; omega
  refine spec_of_x (ct := [8]) cfgOK Tryd.func22 rfl rfl (Nat.le_of_ble_eq_true rfl) (by decide +kernel) (Nat.le_refl _) ?_
  conv => whnf
  refine cut_intro (ct := [8]) (ct' := [9]) cfgOK (by decide +kernel) (by decide +kernel) (fun d : Hd => bSt t l k (.inr (l.length, d))) (fun _ => True) ?_ ?_
  · conv => whnf
    refine loops_intro (ct := [6]) cfgOK (by decide +kernel) (bSt t l k) (bInv l k) (bMu l) (.inl 0) [(1, none)] (Nat.zero_le _)
      ⟨rfl, ⟨⟨rfl, rfl, rfl, rfl⟩, ⟨rfl, rfl, rfl, rfl, rfl⟩, embV_le (.refl _) rfl, ⟨rfl, rfl⟩, ⟨rfl, rfl⟩, trivial⟩, ⟨tape_emb rfl, rfl, trivial⟩⟩ ?_
    intro x hx
    rcases x with i | ⟨i, d⟩
    · have hx : i ≤ k := hx
      conv => whnf
      refine bcase_of (fun h3 => ?_) (fun h3 => ?_)
      · have hlt : i < l.length := by omega
        have hb := hf.big i hlt
        conv => whnf
        refine ⟨by omega, ?_⟩
        conv => whnf
        by_cases hik : i = k
        · subst hik
          refine cut_held (ct := []) (ct' := []) cfgOK (by decide +kernel) (by decide +kernel) (fun d : Hd => ⟨[(0, .ptr 0 0 0), (5, .osl 1 0 i false), (7, .ptr 4 0 0), (9, clksV l), (10, iV l.length), (11, iV i)],
            [(0, some (tapeO t)), (1, some (.row 5 i (rowG clkV clk0 l))), (2, some (hdP (l.getD i clk0) d)), (3, some (hdC (l.getD i clk0) d)), (4, some (.box [iV (l.getD i clk0).kind, .raw 2 d.ap (l.getD i clk0).par.length d.cp, .raw 3 d.ac (l.getD i clk0).ch.length d.cc, iV (l.getD i clk0).low, iV (l.getD i clk0).high]))], 5⟩) (fun _ => True) ?_ ?_
          · conv => whnf
            refine ⟨by show (0 + (l.getD i clk0).par.length) * 8 ≤ 140737488355328; omega, ?_⟩
            conv => whnf
            refine ⟨by show (0 + (l.getD i clk0).ch.length) * 8 ≤ 140737488355328; omega, ?_⟩
            conv => whnf
            refine ⟨5, [(1, 10, 2), (2, 14, 3)], ?_⟩
            conv => whnf
            refine ⟨⟨Nat.le_of_ble_eq_true rfl, false, rfl⟩, fun ap cp => ?_⟩
            conv => whnf
            refine ⟨⟨Nat.le_of_ble_eq_true rfl, false, rfl⟩, fun ac cc => ?_⟩
            refine ⟨⟨ap, cp, ac, cc⟩, [(2, some 10), (3, some 14), (4, some 5)], trivial, ?_⟩
            exact ⟨rfl, ⟨⟨rfl, rfl, rfl, rfl⟩, ⟨rfl, rfl, rfl, rfl, nofun⟩, ⟨rfl, rfl, rfl, rfl⟩, embV_le (.refl _) rfl, ⟨rfl, rfl⟩, ⟨rfl, rfl⟩, trivial⟩,
              ⟨tape_emb rfl, ⟨rfl, rfl, fun _ _ => .refl _⟩, ⟨rfl, rfl, rfl, Nat.zero_add _, appG_zero _ _⟩, ⟨rfl, rfl, rfl, Nat.zero_add _, appG_zero _ _⟩, ⟨⟨rfl, rfl⟩, ⟨rfl, rfl, Nat.zero_add _, rfl⟩, ⟨rfl, rfl, Nat.zero_add _, rfl⟩, ⟨rfl, rfl⟩, ⟨rfl, rfl⟩, trivial⟩, trivial⟩⟩
          · intro d _
            conv => whnf
            refine ⟨by show (i + 1) * 72 ≤ 140737488355328; omega, ?_⟩
            conv => whnf
            refine ⟨by unfold InI64; omega, ?_⟩
            conv => whnf
            exact ⟨.inr (i + 1, d), [(1, some 8)], ⟨Nat.lt_succ_self _, hlt⟩, by show l.length - (i + 1) < l.length - i; omega,
              ⟨rfl, ⟨⟨rfl, rfl, rfl, rfl⟩, ⟨rfl, rfl, rfl, rfl, nofun⟩, embV_le (.refl _) rfl, ⟨rfl, rfl⟩, ⟨rfl, by simp⟩, trivial⟩,
              ⟨tape_emb rfl, ⟨rfl, rfl, le_snocG (fun j hj => by unfold hdG; rw [setG_ne _ _ (by omega)]; exact .refl _) (by unfold hdG; rw [setG_self]; exact .refl _)⟩, ⟨rfl, rfl, rfl, rfl, rfl⟩, ⟨rfl, rfl, rfl, rfl, rfl⟩, trivial⟩⟩⟩
        · refine cut_intro (ct := []) (ct' := []) cfgOK (by decide +kernel) (by decide +kernel) (fun _ : Unit => ⟨[(0, .ptr 0 0 0), (5, .osl 1 0 i false), (7, .ptr 4 0 0), (9, clksV l), (10, iV l.length), (11, iV i)],
            [(0, some (tapeO t)), (1, some (.row 5 i (rowG clkV clk0 l))), (2, some (.row 1 (l.getD i clk0).par.length (rowG iV 0 (l.getD i clk0).par))), (3, some (.row 1 (l.getD i clk0).ch.length (rowG iV 0 (l.getD i clk0).ch))), (4, some (.box [iV (l.getD i clk0).kind, .osl 2 0 (l.getD i clk0).par.length false, .osl 3 0 (l.getD i clk0).ch.length false, iV (l.getD i clk0).low, iV (l.getD i clk0).high]))], 5⟩) (fun _ => True) ?_ ?_
          · conv => whnf
            refine ⟨by show (0 + (l.getD i clk0).par.length) * 8 ≤ 140737488355328; omega, ?_⟩
            conv => whnf
            refine ⟨by show (0 + (l.getD i clk0).ch.length) * 8 ≤ 140737488355328; omega, ?_⟩
            conv => whnf
            refine ⟨(), [(2, some 10), (3, some 14), (4, some 5)], trivial, ?_⟩
            exact ⟨rfl, ⟨⟨rfl, rfl, rfl, rfl⟩, ⟨rfl, rfl, rfl, rfl, nofun⟩, ⟨rfl, rfl, rfl, rfl⟩, embV_le (.refl _) rfl, ⟨rfl, rfl⟩, ⟨rfl, rfl⟩, trivial⟩,
              ⟨tape_emb rfl, ⟨rfl, rfl, fun _ _ => .refl _⟩, ⟨rfl, Nat.zero_add _, fun j _ => by rw [appG_zero]; exact .refl _⟩, ⟨rfl, Nat.zero_add _, fun j _ => by rw [appG_zero]; exact .refl _⟩, ⟨⟨rfl, rfl⟩, ⟨rfl, rfl, rfl, Nat.zero_add _, nofun⟩, ⟨rfl, rfl, rfl, Nat.zero_add _, nofun⟩, ⟨rfl, rfl⟩, ⟨rfl, rfl⟩, trivial⟩, trivial⟩⟩
          · intro _ _
            conv => whnf
            refine ⟨by show (i + 1) * 72 ≤ 140737488355328; omega, ?_⟩
            conv => whnf
            refine ⟨by unfold InI64; omega, ?_⟩
            conv => whnf
            exact ⟨.inl (i + 1), [(1, some 8)], by show i + 1 ≤ k; omega, by show l.length - (i + 1) < l.length - i; omega,
              ⟨rfl, ⟨⟨rfl, rfl, rfl, rfl⟩, ⟨rfl, rfl, rfl, rfl, nofun⟩, embV_le (.refl _) rfl, ⟨rfl, rfl⟩, ⟨rfl, by simp⟩, trivial⟩,
              ⟨tape_emb rfl, ⟨rfl, rfl, le_snocG (fun j hj => .refl _) (.refl _)⟩, trivial⟩⟩⟩
      · exfalso
        have := of_decide_eq_false h3
        omega
    · obtain ⟨hx1, hx2⟩ : k < i ∧ i ≤ l.length := hx
      conv => whnf
      refine bcase_of (fun h3 => ?_) (fun h3 => ?_)
      · have hlt : i < l.length := by have := of_decide_eq_true h3; omega
        have hb := hf.big i hlt
        conv => whnf
        refine ⟨by omega, ?_⟩
        conv => whnf
        refine cut_intro (ct := []) (ct' := []) cfgOK (by decide +kernel) (by decide +kernel) (fun _ : Unit => ⟨[(0, .ptr 0 0 0), (5, .osl 1 0 i false), (7, .ptr 4 0 0), (9, clksV l), (10, iV l.length), (11, iV i)],
            [(0, some (tapeO t)), (1, some (.row 5 i (hdG l k d))), (2, some (hdP (l.getD k clk0) d)), (3, some (hdC (l.getD k clk0) d)), (4, some (.box [iV (l.getD i clk0).kind, .osl 5 0 (l.getD i clk0).par.length false, .osl 6 0 (l.getD i clk0).ch.length false, iV (l.getD i clk0).low, iV (l.getD i clk0).high])),
              (5, some (.row 1 (l.getD i clk0).par.length (rowG iV 0 (l.getD i clk0).par))), (6, some (.row 1 (l.getD i clk0).ch.length (rowG iV 0 (l.getD i clk0).ch)))], 7⟩) (fun _ => True) ?_ ?_
        · conv => whnf
          refine ⟨by show (0 + (l.getD i clk0).par.length) * 8 ≤ 140737488355328; omega, ?_⟩
          conv => whnf
          refine ⟨by show (0 + (l.getD i clk0).ch.length) * 8 ≤ 140737488355328; omega, ?_⟩
          conv => whnf
          refine ⟨(), [(4, some 7), (5, some 12), (6, some 16)], trivial, ?_⟩
          exact ⟨rfl, ⟨⟨rfl, rfl, rfl, rfl⟩, ⟨rfl, rfl, rfl, rfl, nofun⟩, ⟨rfl, rfl, rfl, rfl⟩, embV_le (.refl _) rfl, ⟨rfl, rfl⟩, ⟨rfl, rfl⟩, trivial⟩,
            ⟨tape_emb rfl, ⟨rfl, rfl, fun _ _ => .refl _⟩, ⟨rfl, rfl, rfl, rfl, rfl⟩, ⟨rfl, rfl, rfl, rfl, rfl⟩, ⟨⟨rfl, rfl⟩, ⟨rfl, rfl, rfl, Nat.zero_add _, nofun⟩, ⟨rfl, rfl, rfl, Nat.zero_add _, nofun⟩, ⟨rfl, rfl⟩, ⟨rfl, rfl⟩, trivial⟩, ⟨rfl, Nat.zero_add _, fun j _ => by rw [appG_zero]; exact .refl _⟩, ⟨rfl, Nat.zero_add _, fun j _ => by rw [appG_zero]; exact .refl _⟩, trivial⟩⟩
        · intro _ _
          conv => whnf
          refine ⟨by show (i + 1) * 72 ≤ 140737488355328; omega, ?_⟩
          conv => whnf
          refine ⟨by unfold InI64; omega, ?_⟩
          conv => whnf
          exact ⟨.inr (i + 1, d), [(1, some 10)], ⟨by omega, hlt⟩, by show l.length - (i + 1) < l.length - i; omega,
            ⟨rfl, ⟨⟨rfl, rfl, rfl, rfl⟩, ⟨rfl, rfl, rfl, rfl, nofun⟩, embV_le (.refl _) rfl, ⟨rfl, rfl⟩, ⟨rfl, by simp⟩, trivial⟩,
            ⟨tape_emb rfl, ⟨rfl, rfl, le_snocG (fun j hj => .refl _) (by unfold hdG; rw [setG_ne _ _ (by omega)]; exact .refl _)⟩, ⟨rfl, rfl, rfl, rfl, rfl⟩, ⟨rfl, rfl, rfl, rfl, rfl⟩, trivial⟩⟩⟩
      · have := of_decide_eq_false h3
        have hil : i = l.length := by omega
        subst hil
        conv => whnf
        exact ⟨d, [], trivial, ⟨rfl, ⟨⟨rfl, rfl, rfl, rfl⟩, ⟨rfl, rfl, rfl, rfl, nofun⟩, embV_le (.refl _) rfl, ⟨rfl, rfl⟩, ⟨rfl, rfl⟩, trivial⟩,
          ⟨tape_emb rfl, ⟨rfl, rfl, fun _ _ => .refl _⟩, ⟨rfl, rfl, rfl, rfl, rfl⟩, ⟨rfl, rfl, rfl, rfl, rfl⟩, trivial⟩⟩⟩
  · intro d _
    conv => whnf
    refine cut_intro (ct := []) (ct' := [24]) cfgOK (by decide +kernel) (by decide +kernel) (fun _ : Unit => ⟨[(0, .ptr 0 0 0), (5, .osl 1 0 l.length false), (8, .ptr 1 k 0)], [(0, some (tapeO (t.n l.length).2)), (1, some (.row 5 l.length (hdQ l k (l.getD k clk0) d))), (2, some (hdP (l.getD k clk0) d)), (3, some (hdC (l.getD k clk0) d))], 4⟩) (fun _ => True) ?_ ?_
    · have hb := Tp.n_lt t l.length
      conv => whnf
      refine ⟨_, _, n_spec t ht l.length (by unfold InI64; omega), ?_⟩
      conv => whnf
      refine ⟨by show 0 ≤ (t.n l.length).1 ∧ (t.n l.length).1 < (l.length : Int); omega, ?_⟩
      conv => whnf
      exact ⟨(), [], trivial, ⟨rfl, ⟨⟨rfl, rfl, rfl, rfl⟩, ⟨rfl, rfl, rfl, rfl, nofun⟩, ⟨rfl, rfl, by show addN 0 ((t.n l.length).1.toNat) = k; rw [hk]; rfl, rfl⟩, trivial⟩,
        ⟨tape_emb rfl, ⟨rfl, rfl, fun _ _ => .refl _⟩, ⟨rfl, rfl, rfl, rfl, rfl⟩, ⟨rfl, rfl, rfl, rfl, rfl⟩, trivial⟩⟩⟩
    · intro _ _
      conv => whnf
      have hb := hf.big k hkl
      have ok1 := Tp.n_ok ht l.length
      generalize (t.n l.length).2 = t1 at ok1 he
      have hw := Tp.n_lt t1 7
      have ok2 := Tp.n_ok ok1 7
      have hw7 : (t1.n 7).1 < 7 := hw.2.1 (by decide)
      have hfb := hf.valid k hkl
      have hch := validC_high hfb
      generalize hc : l.getD k clk0 = c at hb hch he ⊢
      rcases (by omega : k = 0 ∨ k = 1 ∨ k = 2 ∨ k = 3 ∨ k = 4 ∨ k = 5 ∨ k = 6 ∨ k = 7 ∨ k = 8 ∨ k = 9 ∨ k = 10) with rfl | rfl | rfl | rfl | rfl | rfl | rfl | rfl | rfl | rfl | rfl
      · refine cut_out (ct := []) (ct' := []) cfgOK (by decide +kernel) (by decide +kernel) (fun _ : Unit => ⟨[(5, .osl 1 0 e.1.length false)], [(0, some (tapeO e.2)), (1, some (.row 5 e.1.length (rowG clkV clk0 e.1)))], 2⟩) (fun _ => True) ?_ ?_
        · conv => whnf
          refine ⟨_, _, n_spec t1 ok1 7 (by unfold InI64; decide), ?_⟩
          conv => whnf
          refine bcase_of (fun w0 => ?_) (fun w0 => ?_)
          · conv => whnf
            refine ⟨_, _, range_spec (t1.n 7).2 ok2 0 6 (by decide), ?_⟩
            conv => whnf
            refine ⟨1, [(2, setG (rowG clkV clk0 l) 0 (.agg [iV ((t1.n 7).2.range 0 6).1, .sl 1 c.par.length false (rowG iV 0 c.par), .raw 3 d.ac c.ch.length d.cc, iV c.low, iV c.high])), (3, setG (rowG clkV clk0 l) 0 (.agg [iV ((t1.n 7).2.range 0 6).1, .sl 1 c.par.length false (rowG iV 0 c.par), .sl 1 c.ch.length false (rowG iV 0 c.ch), iV c.low, iV c.high]))], ?_⟩
            refine ⟨outOK_row rfl rfl rfl (fun i h => by rw [setG_ne _ _ h]; exact hdQ_ne l _ c d h) (fun _ => rfl) rfl (cells5 (.inl rfl) (.inr ⟨⟨2, rfl⟩, rfl⟩) (.inl rfl) (.inl rfl) (.inl rfl)), outOK_row rfl rfl rfl (fun i h => setG_ne _ _ h) (fun _ => rfl) rfl (cells5 (.inl rfl) (.inl rfl) (.inr ⟨⟨3, rfl⟩, rfl⟩) (.inl rfl) (.inl rfl)), (), [], trivial, ?_⟩
            rw [← he, bentG_0 w0]
            exact ⟨rfl, ⟨⟨rfl, rfl, rfl, (List.length_set ..).symm, nofun⟩, trivial⟩, ⟨tape_emb rfl, ⟨rfl, (List.length_set ..).symm, le_setRow hkl (.refl _)⟩, trivial⟩⟩
          · conv => whnf
            refine bcase_of (fun w1 => ?_) (fun w1 => ?_)
            · conv => whnf
              refine ⟨_, _, range_spec (t1.n 7).2 ok2 (-1) l.length (by omega), ?_⟩
              conv => whnf
              refine ⟨⟨rfl, rfl, rfl, by show (c.par.length + 1) * 8 ≤ 140737488355328; omega⟩, ?_⟩
              conv => whnf
              refine ⟨1, [(3, setG (rowG clkV clk0 l) 0 (.agg [iV c.kind, .sl 1 (c.par.length + 1) false (appG c.par.length (rowG iV 0 c.par) (listG [iV ((t1.n 7).2.range (-1) l.length).1])), .sl 1 c.ch.length false (rowG iV 0 c.ch), iV c.low, iV c.high]))], ?_⟩
              refine ⟨outOK_row rfl rfl rfl (fun i h => by rw [setG_ne _ _ h]; exact hdQ_ne l _ c d h) (fun _ => rfl) rfl (cells5 (.inl rfl) (.inl rfl) (.inr ⟨⟨3, rfl⟩, rfl⟩) (.inl rfl) (.inl rfl)), (), [], trivial, ?_⟩
              rw [← he, bentG_1 w1]
              exact ⟨rfl, ⟨⟨rfl, rfl, rfl, (List.length_set ..).symm, nofun⟩, trivial⟩, ⟨tape_emb rfl, ⟨rfl, (List.length_set ..).symm, le_setRow hkl (.agg rfl (cells5 (.refl _) (.sl (by simp) (fun _ => rfl) nofun (le_app rfl (.refl _))) (.refl _) (.refl _) (.refl _)))⟩, trivial⟩⟩
            · conv => whnf
              refine bcase_of (fun w2 => ?_) (fun w2 => ?_)
              · conv => whnf
                refine ⟨_, _, pick_lit (t1.n 7).2 ok2 [0, 1, 64, 65, 2] true (by decide), ?_⟩
                conv => whnf
                refine ⟨⟨rfl, rfl, rfl, by show (c.ch.length + 1) * 8 ≤ 140737488355328; omega⟩, ?_⟩
                conv => whnf
                refine ⟨1, [(2, setG (rowG clkV clk0 l) 0 (.agg [iV c.kind, .sl 1 c.par.length false (rowG iV 0 c.par), .sl 1 (c.ch.length + 1) false (appG c.ch.length (rowG iV 0 c.ch) (listG [iV ((t1.n 7).2.pick [0, 1, 64, 65, 2]).1])), iV c.low, iV c.high]))], ?_⟩
                refine ⟨outOK_row rfl rfl rfl (fun i h => by rw [setG_ne _ _ h]; exact hdQ_ne l _ c d h) (fun _ => rfl) rfl (cells5 (.inl rfl) (.inr ⟨⟨2, rfl⟩, rfl⟩) (.inl rfl) (.inl rfl) (.inl rfl)), (), [], trivial, ?_⟩
                rw [← he, bentG_2 w2]
                exact ⟨rfl, ⟨⟨rfl, rfl, rfl, (List.length_set ..).symm, nofun⟩, trivial⟩, ⟨tape_emb rfl, ⟨rfl, (List.length_set ..).symm, le_setRow hkl (.agg rfl (cells5 (.refl _) (.refl _) (.sl (by simp) (fun _ => rfl) nofun (le_app rfl (.refl _))) (.refl _) (.refl _)))⟩, trivial⟩⟩
              · conv => whnf
                refine bcase_of (fun w3 => ?_) (fun w3 => ?_)
                · conv => whnf
                  refine ⟨by show InI64 (c.high + 1); unfold InI64; omega, ?_⟩
                  conv => whnf
                  refine ⟨_, _, pick_lit (t1.n 7).2 ok2 [-1, 0, c.high + 1] true (by simp), ?_⟩
                  conv => whnf
                  refine ⟨1, [(2, setG (rowG clkV clk0 l) 0 (.agg [iV c.kind, .sl 1 c.par.length false (rowG iV 0 c.par), .raw 3 d.ac c.ch.length d.cc, iV ((t1.n 7).2.pick [-1, 0, c.high + 1]).1, iV c.high])), (3, setG (rowG clkV clk0 l) 0 (.agg [iV c.kind, .sl 1 c.par.length false (rowG iV 0 c.par), .sl 1 c.ch.length false (rowG iV 0 c.ch), iV ((t1.n 7).2.pick [-1, 0, c.high + 1]).1, iV c.high]))], ?_⟩
                  refine ⟨outOK_row rfl rfl rfl (fun i h => by rw [setG_ne _ _ h]; exact hdQ_ne l _ c d h) (fun _ => rfl) rfl (cells5 (.inl rfl) (.inr ⟨⟨2, rfl⟩, rfl⟩) (.inl rfl) (.inl rfl) (.inl rfl)), outOK_row rfl rfl rfl (fun i h => setG_ne _ _ h) (fun _ => rfl) rfl (cells5 (.inl rfl) (.inl rfl) (.inr ⟨⟨3, rfl⟩, rfl⟩) (.inl rfl) (.inl rfl)), (), [], trivial, ?_⟩
                  rw [← he, bentG_3 w3]
                  exact ⟨rfl, ⟨⟨rfl, rfl, rfl, (List.length_set ..).symm, nofun⟩, trivial⟩, ⟨tape_emb rfl, ⟨rfl, (List.length_set ..).symm, le_setRow hkl (.refl _)⟩, trivial⟩⟩
                · conv => whnf
                  refine bcase_of (fun w4 => ?_) (fun w4 => ?_)
                  · conv => whnf
                    refine ⟨_, _, pick_lit (t1.n 7).2 ok2 [-1, 0, 4000000000, 4000000001] true (by decide), ?_⟩
                    conv => whnf
                    refine ⟨1, [(2, setG (rowG clkV clk0 l) 0 (.agg [iV c.kind, .sl 1 c.par.length false (rowG iV 0 c.par), .raw 3 d.ac c.ch.length d.cc, iV c.low, iV ((t1.n 7).2.pick [-1, 0, 4000000000, 4000000001]).1])), (3, setG (rowG clkV clk0 l) 0 (.agg [iV c.kind, .sl 1 c.par.length false (rowG iV 0 c.par), .sl 1 c.ch.length false (rowG iV 0 c.ch), iV c.low, iV ((t1.n 7).2.pick [-1, 0, 4000000000, 4000000001]).1]))], ?_⟩
                    refine ⟨outOK_row rfl rfl rfl (fun i h => by rw [setG_ne _ _ h]; exact hdQ_ne l _ c d h) (fun _ => rfl) rfl (cells5 (.inl rfl) (.inr ⟨⟨2, rfl⟩, rfl⟩) (.inl rfl) (.inl rfl) (.inl rfl)), outOK_row rfl rfl rfl (fun i h => setG_ne _ _ h) (fun _ => rfl) rfl (cells5 (.inl rfl) (.inl rfl) (.inr ⟨⟨3, rfl⟩, rfl⟩) (.inl rfl) (.inl rfl)), (), [], trivial, ?_⟩
                    rw [← he, bentG_4 w4]
                    exact ⟨rfl, ⟨⟨rfl, rfl, rfl, (List.length_set ..).symm, nofun⟩, trivial⟩, ⟨tape_emb rfl, ⟨rfl, (List.length_set ..).symm, le_setRow hkl (.refl _)⟩, trivial⟩⟩
                  · conv => whnf
                    refine bcase_of (fun w5 => ?_) (fun w5 => ?_)
                    · conv => whnf
                      refine ⟨1, [(2, setG (rowG clkV clk0 l) 0 (.agg [iV c.kind, .sl 1 c.par.length false (rowG iV 0 c.par), .sl 0 0 true nilG, iV c.low, iV c.high]))], ?_⟩
                      refine ⟨outOK_row rfl rfl rfl (fun i h => by rw [setG_ne _ _ h]; exact hdQ_ne l _ c d h) (fun _ => rfl) rfl (cells5 (.inl rfl) (.inr ⟨⟨2, rfl⟩, rfl⟩) (.inl rfl) (.inl rfl) (.inl rfl)), (), [], trivial, ?_⟩
                      rw [← he, bentG_5 w5]
                      exact ⟨rfl, ⟨⟨rfl, rfl, rfl, (List.length_set ..).symm, nofun⟩, trivial⟩, ⟨tape_emb rfl, ⟨rfl, (List.length_set ..).symm, le_setRow hkl (.agg rfl (cells5 (.refl _) (.refl _) (.sl rfl (fun h => absurd rfl h) nofun (fun _ h => absurd h (Nat.not_lt_zero _))) (.refl _) (.refl _)))⟩, trivial⟩⟩
                    · conv => whnf
                      have w6 : 5 < (t1.n 7).1 := by
                        have e : ∀ n : Int, ((t1.n 7).1 == n) = false → (t1.n 7).1 ≠ n := fun n h h2 => by rw [h2] at h; simp at h
                        have a0 := e 0 w0
                        have a1 := e 1 w1
                        have a2 := e 2 w2
                        have a3 := e 3 w3
                        have a4 := e 4 w4
                        have a5 := e 5 w5
                        omega
                      refine loops_intro (ct := []) cfgOK (by decide +kernel) (fun j : Nat => ⟨[(5, .osl 1 0 (l.length + j) false)], [(0, some (tapeO (t1.n 7).2)), (1, some (.row 5 (l.length + j) (setG (rowG clkV clk0 (moreC l)) 0 (hdV c d)))), (2, some (hdP c d)), (3, some (hdC c d))], 4⟩)
                        (fun j => l.length + j ≤ 17) (fun j => 17 - (l.length + j)) 0 [] (by omega)
                        ⟨rfl, ⟨⟨rfl, rfl, rfl, rfl, nofun⟩, trivial⟩, ⟨tape_emb rfl, ⟨rfl, rfl, more_first l _ c d⟩, ⟨rfl, rfl, rfl, rfl, rfl⟩, ⟨rfl, rfl, rfl, rfl, rfl⟩, trivial⟩⟩ ?_
                      intro j hj
                      conv => whnf
                      refine bcase_of (fun h6 => ?_) (fun h6 => ?_)
                      · have h6 : ((l.length + j : Nat) : Int) ≤ 16 := of_decide_eq_true h6
                        conv => whnf
                        refine ⟨by show ((l.length + j) + 1) * 72 ≤ 140737488355328; omega, ?_⟩
                        conv => whnf
                        exact ⟨j + 1, [(1, some 11)], by omega, by omega, ⟨rfl, ⟨⟨rfl, rfl, rfl, rfl, nofun⟩, trivial⟩, ⟨tape_emb rfl, ⟨rfl, rfl, le_snocG (fun _ _ => .refl _) (more_at l _ hkl (l.length + j) (by omega) (by omega))⟩, ⟨rfl, rfl, rfl, rfl, rfl⟩, ⟨rfl, rfl, rfl, rfl, rfl⟩, trivial⟩⟩⟩
                      · have h6 : ¬ ((l.length + j : Nat) : Int) ≤ 16 := of_decide_eq_false h6
                        have hl17 : l.length + j = (moreC l).length := by rw [moreC_len]; omega
                        conv => whnf
                        refine ⟨1, [(2, setG (rowG clkV clk0 (moreC l)) 0 (.agg [iV c.kind, .sl 1 c.par.length false (rowG iV 0 c.par), .raw 3 d.ac c.ch.length d.cc, iV c.low, iV c.high])), (3, setG (rowG clkV clk0 (moreC l)) 0 (.agg [iV c.kind, .sl 1 c.par.length false (rowG iV 0 c.par), .sl 1 c.ch.length false (rowG iV 0 c.ch), iV c.low, iV c.high]))], ?_⟩
                        refine ⟨outOK_row rfl rfl rfl (fun i h => setG_ne _ _ h) (fun _ => rfl) rfl (cells5 (.inl rfl) (.inr ⟨⟨2, rfl⟩, rfl⟩) (.inl rfl) (.inl rfl) (.inl rfl)), outOK_row rfl rfl rfl (fun i h => setG_ne _ _ h) (fun _ => rfl) rfl (cells5 (.inl rfl) (.inl rfl) (.inr ⟨⟨3, rfl⟩, rfl⟩) (.inl rfl) (.inl rfl)), (), [], trivial, ?_⟩
                        rw [← he, bentG_6 w6]
                        exact ⟨rfl, ⟨⟨rfl, rfl, rfl, hl17, nofun⟩, trivial⟩, ⟨tape_emb rfl, ⟨rfl, hl17, more_last l _ hkl hc⟩, trivial⟩⟩
        · intro _ _
          conv => whnf
          exact ⟨embV_le (.refl _) rfl, ⟨tape_emb rfl, trivial⟩⟩
      · refine cut_out (ct := []) (ct' := []) cfgOK (by decide +kernel) (by decide +kernel) (fun _ : Unit => ⟨[(5, .osl 1 0 e.1.length false)], [(0, some (tapeO e.2)), (1, some (.row 5 e.1.length (rowG clkV clk0 e.1)))], 2⟩) (fun _ => True) ?_ ?_
        · conv => whnf
          refine ⟨_, _, n_spec t1 ok1 7 (by unfold InI64; decide), ?_⟩
          conv => whnf
          refine bcase_of (fun w0 => ?_) (fun w0 => ?_)
          · conv => whnf
            refine ⟨_, _, range_spec (t1.n 7).2 ok2 0 6 (by decide), ?_⟩
            conv => whnf
            refine ⟨1, [(2, setG (rowG clkV clk0 l) 1 (.agg [iV ((t1.n 7).2.range 0 6).1, .sl 1 c.par.length false (rowG iV 0 c.par), .raw 3 d.ac c.ch.length d.cc, iV c.low, iV c.high])), (3, setG (rowG clkV clk0 l) 1 (.agg [iV ((t1.n 7).2.range 0 6).1, .sl 1 c.par.length false (rowG iV 0 c.par), .sl 1 c.ch.length false (rowG iV 0 c.ch), iV c.low, iV c.high]))], ?_⟩
            refine ⟨outOK_row rfl rfl rfl (fun i h => by rw [setG_ne _ _ h]; exact hdQ_ne l _ c d h) (fun _ => rfl) rfl (cells5 (.inl rfl) (.inr ⟨⟨2, rfl⟩, rfl⟩) (.inl rfl) (.inl rfl) (.inl rfl)), outOK_row rfl rfl rfl (fun i h => setG_ne _ _ h) (fun _ => rfl) rfl (cells5 (.inl rfl) (.inl rfl) (.inr ⟨⟨3, rfl⟩, rfl⟩) (.inl rfl) (.inl rfl)), (), [], trivial, ?_⟩
            rw [← he, bentG_0 w0]
            exact ⟨rfl, ⟨⟨rfl, rfl, rfl, (List.length_set ..).symm, nofun⟩, trivial⟩, ⟨tape_emb rfl, ⟨rfl, (List.length_set ..).symm, le_setRow hkl (.refl _)⟩, trivial⟩⟩
          · conv => whnf
            refine bcase_of (fun w1 => ?_) (fun w1 => ?_)
            · conv => whnf
              refine ⟨_, _, range_spec (t1.n 7).2 ok2 (-1) l.length (by omega), ?_⟩
              conv => whnf
              refine ⟨⟨rfl, rfl, rfl, by show (c.par.length + 1) * 8 ≤ 140737488355328; omega⟩, ?_⟩
              conv => whnf
              refine ⟨1, [(3, setG (rowG clkV clk0 l) 1 (.agg [iV c.kind, .sl 1 (c.par.length + 1) false (appG c.par.length (rowG iV 0 c.par) (listG [iV ((t1.n 7).2.range (-1) l.length).1])), .sl 1 c.ch.length false (rowG iV 0 c.ch), iV c.low, iV c.high]))], ?_⟩
              refine ⟨outOK_row rfl rfl rfl (fun i h => by rw [setG_ne _ _ h]; exact hdQ_ne l _ c d h) (fun _ => rfl) rfl (cells5 (.inl rfl) (.inl rfl) (.inr ⟨⟨3, rfl⟩, rfl⟩) (.inl rfl) (.inl rfl)), (), [], trivial, ?_⟩
              rw [← he, bentG_1 w1]
              exact ⟨rfl, ⟨⟨rfl, rfl, rfl, (List.length_set ..).symm, nofun⟩, trivial⟩, ⟨tape_emb rfl, ⟨rfl, (List.length_set ..).symm, le_setRow hkl (.agg rfl (cells5 (.refl _) (.sl (by simp) (fun _ => rfl) nofun (le_app rfl (.refl _))) (.refl _) (.refl _) (.refl _)))⟩, trivial⟩⟩
            · conv => whnf
              refine bcase_of (fun w2 => ?_) (fun w2 => ?_)
              · conv => whnf
                refine ⟨_, _, pick_lit (t1.n 7).2 ok2 [0, 1, 64, 65, 2] true (by decide), ?_⟩
                conv => whnf
                refine ⟨⟨rfl, rfl, rfl, by show (c.ch.length + 1) * 8 ≤ 140737488355328; omega⟩, ?_⟩
                conv => whnf
                refine ⟨1, [(2, setG (rowG clkV clk0 l) 1 (.agg [iV c.kind, .sl 1 c.par.length false (rowG iV 0 c.par), .sl 1 (c.ch.length + 1) false (appG c.ch.length (rowG iV 0 c.ch) (listG [iV ((t1.n 7).2.pick [0, 1, 64, 65, 2]).1])), iV c.low, iV c.high]))], ?_⟩
                refine ⟨outOK_row rfl rfl rfl (fun i h => by rw [setG_ne _ _ h]; exact hdQ_ne l _ c d h) (fun _ => rfl) rfl (cells5 (.inl rfl) (.inr ⟨⟨2, rfl⟩, rfl⟩) (.inl rfl) (.inl rfl) (.inl rfl)), (), [], trivial, ?_⟩
                rw [← he, bentG_2 w2]
                exact ⟨rfl, ⟨⟨rfl, rfl, rfl, (List.length_set ..).symm, nofun⟩, trivial⟩, ⟨tape_emb rfl, ⟨rfl, (List.length_set ..).symm, le_setRow hkl (.agg rfl (cells5 (.refl _) (.refl _) (.sl (by simp) (fun _ => rfl) nofun (le_app rfl (.refl _))) (.refl _) (.refl _)))⟩, trivial⟩⟩
              · conv => whnf
                refine bcase_of (fun w3 => ?_) (fun w3 => ?_)
                · conv => whnf
                  refine ⟨by show InI64 (c.high + 1); unfold InI64; omega, ?_⟩
                  conv => whnf
                  refine ⟨_, _, pick_lit (t1.n 7).2 ok2 [-1, 0, c.high + 1] true (by simp), ?_⟩
                  conv => whnf
                  refine ⟨1, [(2, setG (rowG clkV clk0 l) 1 (.agg [iV c.kind, .sl 1 c.par.length false (rowG iV 0 c.par), .raw 3 d.ac c.ch.length d.cc, iV ((t1.n 7).2.pick [-1, 0, c.high + 1]).1, iV c.high])), (3, setG (rowG clkV clk0 l) 1 (.agg [iV c.kind, .sl 1 c.par.length false (rowG iV 0 c.par), .sl 1 c.ch.length false (rowG iV 0 c.ch), iV ((t1.n 7).2.pick [-1, 0, c.high + 1]).1, iV c.high]))], ?_⟩
                  refine ⟨outOK_row rfl rfl rfl (fun i h => by rw [setG_ne _ _ h]; exact hdQ_ne l _ c d h) (fun _ => rfl) rfl (cells5 (.inl rfl) (.inr ⟨⟨2, rfl⟩, rfl⟩) (.inl rfl) (.inl rfl) (.inl rfl)), outOK_row rfl rfl rfl (fun i h => setG_ne _ _ h) (fun _ => rfl) rfl (cells5 (.inl rfl) (.inl rfl) (.inr ⟨⟨3, rfl⟩, rfl⟩) (.inl rfl) (.inl rfl)), (), [], trivial, ?_⟩
                  rw [← he, bentG_3 w3]
                  exact ⟨rfl, ⟨⟨rfl, rfl, rfl, (List.length_set ..).symm, nofun⟩, trivial⟩, ⟨tape_emb rfl, ⟨rfl, (List.length_set ..).symm, le_setRow hkl (.refl _)⟩, trivial⟩⟩
                · conv => whnf
                  refine bcase_of (fun w4 => ?_) (fun w4 => ?_)
                  · conv => whnf
                    refine ⟨_, _, pick_lit (t1.n 7).2 ok2 [-1, 0, 4000000000, 4000000001] true (by decide), ?_⟩
                    conv => whnf
                    refine ⟨1, [(2, setG (rowG clkV clk0 l) 1 (.agg [iV c.kind, .sl 1 c.par.length false (rowG iV 0 c.par), .raw 3 d.ac c.ch.length d.cc, iV c.low, iV ((t1.n 7).2.pick [-1, 0, 4000000000, 4000000001]).1])), (3, setG (rowG clkV clk0 l) 1 (.agg [iV c.kind, .sl 1 c.par.length false (rowG iV 0 c.par), .sl 1 c.ch.length false (rowG iV 0 c.ch), iV c.low, iV ((t1.n 7).2.pick [-1, 0, 4000000000, 4000000001]).1]))], ?_⟩
                    refine ⟨outOK_row rfl rfl rfl (fun i h => by rw [setG_ne _ _ h]; exact hdQ_ne l _ c d h) (fun _ => rfl) rfl (cells5 (.inl rfl) (.inr ⟨⟨2, rfl⟩, rfl⟩) (.inl rfl) (.inl rfl) (.inl rfl)), outOK_row rfl rfl rfl (fun i h => setG_ne _ _ h) (fun _ => rfl) rfl (cells5 (.inl rfl) (.inl rfl) (.inr ⟨⟨3, rfl⟩, rfl⟩) (.inl rfl) (.inl rfl)), (), [], trivial, ?_⟩
                    rw [← he, bentG_4 w4]
                    exact ⟨rfl, ⟨⟨rfl, rfl, rfl, (List.length_set ..).symm, nofun⟩, trivial⟩, ⟨tape_emb rfl, ⟨rfl, (List.length_set ..).symm, le_setRow hkl (.refl _)⟩, trivial⟩⟩
                  · conv => whnf
                    refine bcase_of (fun w5 => ?_) (fun w5 => ?_)
                    · conv => whnf
                      refine ⟨1, [(2, setG (rowG clkV clk0 l) 1 (.agg [iV c.kind, .sl 1 c.par.length false (rowG iV 0 c.par), .sl 0 0 true nilG, iV c.low, iV c.high]))], ?_⟩
                      refine ⟨outOK_row rfl rfl rfl (fun i h => by rw [setG_ne _ _ h]; exact hdQ_ne l _ c d h) (fun _ => rfl) rfl (cells5 (.inl rfl) (.inr ⟨⟨2, rfl⟩, rfl⟩) (.inl rfl) (.inl rfl) (.inl rfl)), (), [], trivial, ?_⟩
                      rw [← he, bentG_5 w5]
                      exact ⟨rfl, ⟨⟨rfl, rfl, rfl, (List.length_set ..).symm, nofun⟩, trivial⟩, ⟨tape_emb rfl, ⟨rfl, (List.length_set ..).symm, le_setRow hkl (.agg rfl (cells5 (.refl _) (.refl _) (.sl rfl (fun h => absurd rfl h) nofun (fun _ h => absurd h (Nat.not_lt_zero _))) (.refl _) (.refl _)))⟩, trivial⟩⟩
                    · conv => whnf
                      have w6 : 5 < (t1.n 7).1 := by
                        have e : ∀ n : Int, ((t1.n 7).1 == n) = false → (t1.n 7).1 ≠ n := fun n h h2 => by rw [h2] at h; simp at h
                        have a0 := e 0 w0
                        have a1 := e 1 w1
                        have a2 := e 2 w2
                        have a3 := e 3 w3
                        have a4 := e 4 w4
                        have a5 := e 5 w5
                        omega
                      refine loops_intro (ct := []) cfgOK (by decide +kernel) (fun j : Nat => ⟨[(5, .osl 1 0 (l.length + j) false)], [(0, some (tapeO (t1.n 7).2)), (1, some (.row 5 (l.length + j) (setG (rowG clkV clk0 (moreC l)) 1 (hdV c d)))), (2, some (hdP c d)), (3, some (hdC c d))], 4⟩)
                        (fun j => l.length + j ≤ 17) (fun j => 17 - (l.length + j)) 0 [] (by omega)
                        ⟨rfl, ⟨⟨rfl, rfl, rfl, rfl, nofun⟩, trivial⟩, ⟨tape_emb rfl, ⟨rfl, rfl, more_first l _ c d⟩, ⟨rfl, rfl, rfl, rfl, rfl⟩, ⟨rfl, rfl, rfl, rfl, rfl⟩, trivial⟩⟩ ?_
                      intro j hj
                      conv => whnf
                      refine bcase_of (fun h6 => ?_) (fun h6 => ?_)
                      · have h6 : ((l.length + j : Nat) : Int) ≤ 16 := of_decide_eq_true h6
                        conv => whnf
                        refine ⟨by show ((l.length + j) + 1) * 72 ≤ 140737488355328; omega, ?_⟩
                        conv => whnf
                        exact ⟨j + 1, [(1, some 11)], by omega, by omega, ⟨rfl, ⟨⟨rfl, rfl, rfl, rfl, nofun⟩, trivial⟩, ⟨tape_emb rfl, ⟨rfl, rfl, le_snocG (fun _ _ => .refl _) (more_at l _ hkl (l.length + j) (by omega) (by omega))⟩, ⟨rfl, rfl, rfl, rfl, rfl⟩, ⟨rfl, rfl, rfl, rfl, rfl⟩, trivial⟩⟩⟩
                      · have h6 : ¬ ((l.length + j : Nat) : Int) ≤ 16 := of_decide_eq_false h6
                        have hl17 : l.length + j = (moreC l).length := by rw [moreC_len]; omega
                        conv => whnf
                        refine ⟨1, [(2, setG (rowG clkV clk0 (moreC l)) 1 (.agg [iV c.kind, .sl 1 c.par.length false (rowG iV 0 c.par), .raw 3 d.ac c.ch.length d.cc, iV c.low, iV c.high])), (3, setG (rowG clkV clk0 (moreC l)) 1 (.agg [iV c.kind, .sl 1 c.par.length false (rowG iV 0 c.par), .sl 1 c.ch.length false (rowG iV 0 c.ch), iV c.low, iV c.high]))], ?_⟩
                        refine ⟨outOK_row rfl rfl rfl (fun i h => setG_ne _ _ h) (fun _ => rfl) rfl (cells5 (.inl rfl) (.inr ⟨⟨2, rfl⟩, rfl⟩) (.inl rfl) (.inl rfl) (.inl rfl)), outOK_row rfl rfl rfl (fun i h => setG_ne _ _ h) (fun _ => rfl) rfl (cells5 (.inl rfl) (.inl rfl) (.inr ⟨⟨3, rfl⟩, rfl⟩) (.inl rfl) (.inl rfl)), (), [], trivial, ?_⟩
                        rw [← he, bentG_6 w6]
                        exact ⟨rfl, ⟨⟨rfl, rfl, rfl, hl17, nofun⟩, trivial⟩, ⟨tape_emb rfl, ⟨rfl, hl17, more_last l _ hkl hc⟩, trivial⟩⟩
        · intro _ _
          conv => whnf
          exact ⟨embV_le (.refl _) rfl, ⟨tape_emb rfl, trivial⟩⟩
      · refine cut_out (ct := []) (ct' := []) cfgOK (by decide +kernel) (by decide +kernel) (fun _ : Unit => ⟨[(5, .osl 1 0 e.1.length false)], [(0, some (tapeO e.2)), (1, some (.row 5 e.1.length (rowG clkV clk0 e.1)))], 2⟩) (fun _ => True) ?_ ?_
        · conv => whnf
          refine ⟨_, _, n_spec t1 ok1 7 (by unfold InI64; decide), ?_⟩
          conv => whnf
          refine bcase_of (fun w0 => ?_) (fun w0 => ?_)
          · conv => whnf
            refine ⟨_, _, range_spec (t1.n 7).2 ok2 0 6 (by decide), ?_⟩
            conv => whnf
            refine ⟨1, [(2, setG (rowG clkV clk0 l) 2 (.agg [iV ((t1.n 7).2.range 0 6).1, .sl 1 c.par.length false (rowG iV 0 c.par), .raw 3 d.ac c.ch.length d.cc, iV c.low, iV c.high])), (3, setG (rowG clkV clk0 l) 2 (.agg [iV ((t1.n 7).2.range 0 6).1, .sl 1 c.par.length false (rowG iV 0 c.par), .sl 1 c.ch.length false (rowG iV 0 c.ch), iV c.low, iV c.high]))], ?_⟩
            refine ⟨outOK_row rfl rfl rfl (fun i h => by rw [setG_ne _ _ h]; exact hdQ_ne l _ c d h) (fun _ => rfl) rfl (cells5 (.inl rfl) (.inr ⟨⟨2, rfl⟩, rfl⟩) (.inl rfl) (.inl rfl) (.inl rfl)), outOK_row rfl rfl rfl (fun i h => setG_ne _ _ h) (fun _ => rfl) rfl (cells5 (.inl rfl) (.inl rfl) (.inr ⟨⟨3, rfl⟩, rfl⟩) (.inl rfl) (.inl rfl)), (), [], trivial, ?_⟩
            rw [← he, bentG_0 w0]
            exact ⟨rfl, ⟨⟨rfl, rfl, rfl, (List.length_set ..).symm, nofun⟩, trivial⟩, ⟨tape_emb rfl, ⟨rfl, (List.length_set ..).symm, le_setRow hkl (.refl _)⟩, trivial⟩⟩
          · conv => whnf
            refine bcase_of (fun w1 => ?_) (fun w1 => ?_)
            · conv => whnf
              refine ⟨_, _, range_spec (t1.n 7).2 ok2 (-1) l.length (by omega), ?_⟩
              conv => whnf
              refine ⟨⟨rfl, rfl, rfl, by show (c.par.length + 1) * 8 ≤ 140737488355328; omega⟩, ?_⟩
              conv => whnf
              refine ⟨1, [(3, setG (rowG clkV clk0 l) 2 (.agg [iV c.kind, .sl 1 (c.par.length + 1) false (appG c.par.length (rowG iV 0 c.par) (listG [iV ((t1.n 7).2.range (-1) l.length).1])), .sl 1 c.ch.length false (rowG iV 0 c.ch), iV c.low, iV c.high]))], ?_⟩
              refine ⟨outOK_row rfl rfl rfl (fun i h => by rw [setG_ne _ _ h]; exact hdQ_ne l _ c d h) (fun _ => rfl) rfl (cells5 (.inl rfl) (.inl rfl) (.inr ⟨⟨3, rfl⟩, rfl⟩) (.inl rfl) (.inl rfl)), (), [], trivial, ?_⟩
              rw [← he, bentG_1 w1]
              exact ⟨rfl, ⟨⟨rfl, rfl, rfl, (List.length_set ..).symm, nofun⟩, trivial⟩, ⟨tape_emb rfl, ⟨rfl, (List.length_set ..).symm, le_setRow hkl (.agg rfl (cells5 (.refl _) (.sl (by simp) (fun _ => rfl) nofun (le_app rfl (.refl _))) (.refl _) (.refl _) (.refl _)))⟩, trivial⟩⟩
            · conv => whnf
              refine bcase_of (fun w2 => ?_) (fun w2 => ?_)
              · conv => whnf
                refine ⟨_, _, pick_lit (t1.n 7).2 ok2 [0, 1, 64, 65, 2] true (by decide), ?_⟩
                conv => whnf
                refine ⟨⟨rfl, rfl, rfl, by show (c.ch.length + 1) * 8 ≤ 140737488355328; omega⟩, ?_⟩
                conv => whnf
                refine ⟨1, [(2, setG (rowG clkV clk0 l) 2 (.agg [iV c.kind, .sl 1 c.par.length false (rowG iV 0 c.par), .sl 1 (c.ch.length + 1) false (appG c.ch.length (rowG iV 0 c.ch) (listG [iV ((t1.n 7).2.pick [0, 1, 64, 65, 2]).1])), iV c.low, iV c.high]))], ?_⟩
                refine ⟨outOK_row rfl rfl rfl (fun i h => by rw [setG_ne _ _ h]; exact hdQ_ne l _ c d h) (fun _ => rfl) rfl (cells5 (.inl rfl) (.inr ⟨⟨2, rfl⟩, rfl⟩) (.inl rfl) (.inl rfl) (.inl rfl)), (), [], trivial, ?_⟩
                rw [← he, bentG_2 w2]
                exact ⟨rfl, ⟨⟨rfl, rfl, rfl, (List.length_set ..).symm, nofun⟩, trivial⟩, ⟨tape_emb rfl, ⟨rfl, (List.length_set ..).symm, le_setRow hkl (.agg rfl (cells5 (.refl _) (.refl _) (.sl (by simp) (fun _ => rfl) nofun (le_app rfl (.refl _))) (.refl _) (.refl _)))⟩, trivial⟩⟩
              · conv => whnf
                refine bcase_of (fun w3 => ?_) (fun w3 => ?_)
                · conv => whnf
                  refine ⟨by show InI64 (c.high + 1); unfold InI64; omega, ?_⟩
                  conv => whnf
                  refine ⟨_, _, pick_lit (t1.n 7).2 ok2 [-1, 0, c.high + 1] true (by simp), ?_⟩
                  conv => whnf
                  refine ⟨1, [(2, setG (rowG clkV clk0 l) 2 (.agg [iV c.kind, .sl 1 c.par.length false (rowG iV 0 c.par), .raw 3 d.ac c.ch.length d.cc, iV ((t1.n 7).2.pick [-1, 0, c.high + 1]).1, iV c.high])), (3, setG (rowG clkV clk0 l) 2 (.agg [iV c.kind, .sl 1 c.par.length false (rowG iV 0 c.par), .sl 1 c.ch.length false (rowG iV 0 c.ch), iV ((t1.n 7).2.pick [-1, 0, c.high + 1]).1, iV c.high]))], ?_⟩
                  refine ⟨outOK_row rfl rfl rfl (fun i h => by rw [setG_ne _ _ h]; exact hdQ_ne l _ c d h) (fun _ => rfl) rfl (cells5 (.inl rfl) (.inr ⟨⟨2, rfl⟩, rfl⟩) (.inl rfl) (.inl rfl) (.inl rfl)), outOK_row rfl rfl rfl (fun i h => setG_ne _ _ h) (fun _ => rfl) rfl (cells5 (.inl rfl) (.inl rfl) (.inr ⟨⟨3, rfl⟩, rfl⟩) (.inl rfl) (.inl rfl)), (), [], trivial, ?_⟩
                  rw [← he, bentG_3 w3]
                  exact ⟨rfl, ⟨⟨rfl, rfl, rfl, (List.length_set ..).symm, nofun⟩, trivial⟩, ⟨tape_emb rfl, ⟨rfl, (List.length_set ..).symm, le_setRow hkl (.refl _)⟩, trivial⟩⟩
                · conv => whnf
                  refine bcase_of (fun w4 => ?_) (fun w4 => ?_)
                  · conv => whnf
                    refine ⟨_, _, pick_lit (t1.n 7).2 ok2 [-1, 0, 4000000000, 4000000001] true (by decide), ?_⟩
                    conv => whnf
                    refine ⟨1, [(2, setG (rowG clkV clk0 l) 2 (.agg [iV c.kind, .sl 1 c.par.length false (rowG iV 0 c.par), .raw 3 d.ac c.ch.length d.cc, iV c.low, iV ((t1.n 7).2.pick [-1, 0, 4000000000, 4000000001]).1])), (3, setG (rowG clkV clk0 l) 2 (.agg [iV c.kind, .sl 1 c.par.length false (rowG iV 0 c.par), .sl 1 c.ch.length false (rowG iV 0 c.ch), iV c.low, iV ((t1.n 7).2.pick [-1, 0, 4000000000, 4000000001]).1]))], ?_⟩
                    refine ⟨outOK_row rfl rfl rfl (fun i h => by rw [setG_ne _ _ h]; exact hdQ_ne l _ c d h) (fun _ => rfl) rfl (cells5 (.inl rfl) (.inr ⟨⟨2, rfl⟩, rfl⟩) (.inl rfl) (.inl rfl) (.inl rfl)), outOK_row rfl rfl rfl (fun i h => setG_ne _ _ h) (fun _ => rfl) rfl (cells5 (.inl rfl) (.inl rfl) (.inr ⟨⟨3, rfl⟩, rfl⟩) (.inl rfl) (.inl rfl)), (), [], trivial, ?_⟩
                    rw [← he, bentG_4 w4]
                    exact ⟨rfl, ⟨⟨rfl, rfl, rfl, (List.length_set ..).symm, nofun⟩, trivial⟩, ⟨tape_emb rfl, ⟨rfl, (List.length_set ..).symm, le_setRow hkl (.refl _)⟩, trivial⟩⟩
                  · conv => whnf
                    refine bcase_of (fun w5 => ?_) (fun w5 => ?_)
                    · conv => whnf
                      refine ⟨1, [(2, setG (rowG clkV clk0 l) 2 (.agg [iV c.kind, .sl 1 c.par.length false (rowG iV 0 c.par), .sl 0 0 true nilG, iV c.low, iV c.high]))], ?_⟩
                      refine ⟨outOK_row rfl rfl rfl (fun i h => by rw [setG_ne _ _ h]; exact hdQ_ne l _ c d h) (fun _ => rfl) rfl (cells5 (.inl rfl) (.inr ⟨⟨2, rfl⟩, rfl⟩) (.inl rfl) (.inl rfl) (.inl rfl)), (), [], trivial, ?_⟩
                      rw [← he, bentG_5 w5]
                      exact ⟨rfl, ⟨⟨rfl, rfl, rfl, (List.length_set ..).symm, nofun⟩, trivial⟩, ⟨tape_emb rfl, ⟨rfl, (List.length_set ..).symm, le_setRow hkl (.agg rfl (cells5 (.refl _) (.refl _) (.sl rfl (fun h => absurd rfl h) nofun (fun _ h => absurd h (Nat.not_lt_zero _))) (.refl _) (.refl _)))⟩, trivial⟩⟩
                    · conv => whnf
                      have w6 : 5 < (t1.n 7).1 := by
                        have e : ∀ n : Int, ((t1.n 7).1 == n) = false → (t1.n 7).1 ≠ n := fun n h h2 => by rw [h2] at h; simp at h
                        have a0 := e 0 w0
                        have a1 := e 1 w1
                        have a2 := e 2 w2
                        have a3 := e 3 w3
                        have a4 := e 4 w4
                        have a5 := e 5 w5
                        omega
                      refine loops_intro (ct := []) cfgOK (by decide +kernel) (fun j : Nat => ⟨[(5, .osl 1 0 (l.length + j) false)], [(0, some (tapeO (t1.n 7).2)), (1, some (.row 5 (l.length + j) (setG (rowG clkV clk0 (moreC l)) 2 (hdV c d)))), (2, some (hdP c d)), (3, some (hdC c d))], 4⟩)
                        (fun j => l.length + j ≤ 17) (fun j => 17 - (l.length + j)) 0 [] (by omega)
                        ⟨rfl, ⟨⟨rfl, rfl, rfl, rfl, nofun⟩, trivial⟩, ⟨tape_emb rfl, ⟨rfl, rfl, more_first l _ c d⟩, ⟨rfl, rfl, rfl, rfl, rfl⟩, ⟨rfl, rfl, rfl, rfl, rfl⟩, trivial⟩⟩ ?_
                      intro j hj
                      conv => whnf
                      refine bcase_of (fun h6 => ?_) (fun h6 => ?_)
                      · have h6 : ((l.length + j : Nat) : Int) ≤ 16 := of_decide_eq_true h6
                        conv => whnf
                        refine ⟨by show ((l.length + j) + 1) * 72 ≤ 140737488355328; omega, ?_⟩
                        conv => whnf
                        exact ⟨j + 1, [(1, some 11)], by omega, by omega, ⟨rfl, ⟨⟨rfl, rfl, rfl, rfl, nofun⟩, trivial⟩, ⟨tape_emb rfl, ⟨rfl, rfl, le_snocG (fun _ _ => .refl _) (more_at l _ hkl (l.length + j) (by omega) (by omega))⟩, ⟨rfl, rfl, rfl, rfl, rfl⟩, ⟨rfl, rfl, rfl, rfl, rfl⟩, trivial⟩⟩⟩
                      · have h6 : ¬ ((l.length + j : Nat) : Int) ≤ 16 := of_decide_eq_false h6
                        have hl17 : l.length + j = (moreC l).length := by rw [moreC_len]; omega
                        conv => whnf
                        refine ⟨1, [(2, setG (rowG clkV clk0 (moreC l)) 2 (.agg [iV c.kind, .sl 1 c.par.length false (rowG iV 0 c.par), .raw 3 d.ac c.ch.length d.cc, iV c.low, iV c.high])), (3, setG (rowG clkV clk0 (moreC l)) 2 (.agg [iV c.kind, .sl 1 c.par.length false (rowG iV 0 c.par), .sl 1 c.ch.length false (rowG iV 0 c.ch), iV c.low, iV c.high]))], ?_⟩
                        refine ⟨outOK_row rfl rfl rfl (fun i h => setG_ne _ _ h) (fun _ => rfl) rfl (cells5 (.inl rfl) (.inr ⟨⟨2, rfl⟩, rfl⟩) (.inl rfl) (.inl rfl) (.inl rfl)), outOK_row rfl rfl rfl (fun i h => setG_ne _ _ h) (fun _ => rfl) rfl (cells5 (.inl rfl) (.inl rfl) (.inr ⟨⟨3, rfl⟩, rfl⟩) (.inl rfl) (.inl rfl)), (), [], trivial, ?_⟩
                        rw [← he, bentG_6 w6]
                        exact ⟨rfl, ⟨⟨rfl, rfl, rfl, hl17, nofun⟩, trivial⟩, ⟨tape_emb rfl, ⟨rfl, hl17, more_last l _ hkl hc⟩, trivial⟩⟩
        · intro _ _
          conv => whnf
          exact ⟨embV_le (.refl _) rfl, ⟨tape_emb rfl, trivial⟩⟩
      · refine cut_out (ct := []) (ct' := []) cfgOK (by decide +kernel) (by decide +kernel) (fun _ : Unit => ⟨[(5, .osl 1 0 e.1.length false)], [(0, some (tapeO e.2)), (1, some (.row 5 e.1.length (rowG clkV clk0 e.1)))], 2⟩) (fun _ => True) ?_ ?_
        · conv => whnf
          refine ⟨_, _, n_spec t1 ok1 7 (by unfold InI64; decide), ?_⟩
          conv => whnf
          refine bcase_of (fun w0 => ?_) (fun w0 => ?_)
          · conv => whnf
            refine ⟨_, _, range_spec (t1.n 7).2 ok2 0 6 (by decide), ?_⟩
            conv => whnf
            refine ⟨1, [(2, setG (rowG clkV clk0 l) 3 (.agg [iV ((t1.n 7).2.range 0 6).1, .sl 1 c.par.length false (rowG iV 0 c.par), .raw 3 d.ac c.ch.length d.cc, iV c.low, iV c.high])), (3, setG (rowG clkV clk0 l) 3 (.agg [iV ((t1.n 7).2.range 0 6).1, .sl 1 c.par.length false (rowG iV 0 c.par), .sl 1 c.ch.length false (rowG iV 0 c.ch), iV c.low, iV c.high]))], ?_⟩
            refine ⟨outOK_row rfl rfl rfl (fun i h => by rw [setG_ne _ _ h]; exact hdQ_ne l _ c d h) (fun _ => rfl) rfl (cells5 (.inl rfl) (.inr ⟨⟨2, rfl⟩, rfl⟩) (.inl rfl) (.inl rfl) (.inl rfl)), outOK_row rfl rfl rfl (fun i h => setG_ne _ _ h) (fun _ => rfl) rfl (cells5 (.inl rfl) (.inl rfl) (.inr ⟨⟨3, rfl⟩, rfl⟩) (.inl rfl) (.inl rfl)), (), [], trivial, ?_⟩
            rw [← he, bentG_0 w0]
            exact ⟨rfl, ⟨⟨rfl, rfl, rfl, (List.length_set ..).symm, nofun⟩, trivial⟩, ⟨tape_emb rfl, ⟨rfl, (List.length_set ..).symm, le_setRow hkl (.refl _)⟩, trivial⟩⟩
          · conv => whnf
            refine bcase_of (fun w1 => ?_) (fun w1 => ?_)
            · conv => whnf
              refine ⟨_, _, range_spec (t1.n 7).2 ok2 (-1) l.length (by omega), ?_⟩
              conv => whnf
              refine ⟨⟨rfl, rfl, rfl, by show (c.par.length + 1) * 8 ≤ 140737488355328; omega⟩, ?_⟩
              conv => whnf
              refine ⟨1, [(3, setG (rowG clkV clk0 l) 3 (.agg [iV c.kind, .sl 1 (c.par.length + 1) false (appG c.par.length (rowG iV 0 c.par) (listG [iV ((t1.n 7).2.range (-1) l.length).1])), .sl 1 c.ch.length false (rowG iV 0 c.ch), iV c.low, iV c.high]))], ?_⟩
              refine ⟨outOK_row rfl rfl rfl (fun i h => by rw [setG_ne _ _ h]; exact hdQ_ne l _ c d h) (fun _ => rfl) rfl (cells5 (.inl rfl) (.inl rfl) (.inr ⟨⟨3, rfl⟩, rfl⟩) (.inl rfl) (.inl rfl)), (), [], trivial, ?_⟩
              rw [← he, bentG_1 w1]
              exact ⟨rfl, ⟨⟨rfl, rfl, rfl, (List.length_set ..).symm, nofun⟩, trivial⟩, ⟨tape_emb rfl, ⟨rfl, (List.length_set ..).symm, le_setRow hkl (.agg rfl (cells5 (.refl _) (.sl (by simp) (fun _ => rfl) nofun (le_app rfl (.refl _))) (.refl _) (.refl _) (.refl _)))⟩, trivial⟩⟩
            · conv => whnf
              refine bcase_of (fun w2 => ?_) (fun w2 => ?_)
              · conv => whnf
                refine ⟨_, _, pick_lit (t1.n 7).2 ok2 [0, 1, 64, 65, 2] true (by decide), ?_⟩
                conv => whnf
                refine ⟨⟨rfl, rfl, rfl, by show (c.ch.length + 1) * 8 ≤ 140737488355328; omega⟩, ?_⟩
                conv => whnf
                refine ⟨1, [(2, setG (rowG clkV clk0 l) 3 (.agg [iV c.kind, .sl 1 c.par.length false (rowG iV 0 c.par), .sl 1 (c.ch.length + 1) false (appG c.ch.length (rowG iV 0 c.ch) (listG [iV ((t1.n 7).2.pick [0, 1, 64, 65, 2]).1])), iV c.low, iV c.high]))], ?_⟩
                refine ⟨outOK_row rfl rfl rfl (fun i h => by rw [setG_ne _ _ h]; exact hdQ_ne l _ c d h) (fun _ => rfl) rfl (cells5 (.inl rfl) (.inr ⟨⟨2, rfl⟩, rfl⟩) (.inl rfl) (.inl rfl) (.inl rfl)), (), [], trivial, ?_⟩
                rw [← he, bentG_2 w2]
                exact ⟨rfl, ⟨⟨rfl, rfl, rfl, (List.length_set ..).symm, nofun⟩, trivial⟩, ⟨tape_emb rfl, ⟨rfl, (List.length_set ..).symm, le_setRow hkl (.agg rfl (cells5 (.refl _) (.refl _) (.sl (by simp) (fun _ => rfl) nofun (le_app rfl (.refl _))) (.refl _) (.refl _)))⟩, trivial⟩⟩
              · conv => whnf
                refine bcase_of (fun w3 => ?_) (fun w3 => ?_)
                · conv => whnf
                  refine ⟨by show InI64 (c.high + 1); unfold InI64; omega, ?_⟩
                  conv => whnf
                  refine ⟨_, _, pick_lit (t1.n 7).2 ok2 [-1, 0, c.high + 1] true (by simp), ?_⟩
                  conv => whnf
                  refine ⟨1, [(2, setG (rowG clkV clk0 l) 3 (.agg [iV c.kind, .sl 1 c.par.length false (rowG iV 0 c.par), .raw 3 d.ac c.ch.length d.cc, iV ((t1.n 7).2.pick [-1, 0, c.high + 1]).1, iV c.high])), (3, setG (rowG clkV clk0 l) 3 (.agg [iV c.kind, .sl 1 c.par.length false (rowG iV 0 c.par), .sl 1 c.ch.length false (rowG iV 0 c.ch), iV ((t1.n 7).2.pick [-1, 0, c.high + 1]).1, iV c.high]))], ?_⟩
                  refine ⟨outOK_row rfl rfl rfl (fun i h => by rw [setG_ne _ _ h]; exact hdQ_ne l _ c d h) (fun _ => rfl) rfl (cells5 (.inl rfl) (.inr ⟨⟨2, rfl⟩, rfl⟩) (.inl rfl) (.inl rfl) (.inl rfl)), outOK_row rfl rfl rfl (fun i h => setG_ne _ _ h) (fun _ => rfl) rfl (cells5 (.inl rfl) (.inl rfl) (.inr ⟨⟨3, rfl⟩, rfl⟩) (.inl rfl) (.inl rfl)), (), [], trivial, ?_⟩
                  rw [← he, bentG_3 w3]
                  exact ⟨rfl, ⟨⟨rfl, rfl, rfl, (List.length_set ..).symm, nofun⟩, trivial⟩, ⟨tape_emb rfl, ⟨rfl, (List.length_set ..).symm, le_setRow hkl (.refl _)⟩, trivial⟩⟩
                · conv => whnf
                  refine bcase_of (fun w4 => ?_) (fun w4 => ?_)
                  · conv => whnf
                    refine ⟨_, _, pick_lit (t1.n 7).2 ok2 [-1, 0, 4000000000, 4000000001] true (by decide), ?_⟩
                    conv => whnf
                    refine ⟨1, [(2, setG (rowG clkV clk0 l) 3 (.agg [iV c.kind, .sl 1 c.par.length false (rowG iV 0 c.par), .raw 3 d.ac c.ch.length d.cc, iV c.low, iV ((t1.n 7).2.pick [-1, 0, 4000000000, 4000000001]).1])), (3, setG (rowG clkV clk0 l) 3 (.agg [iV c.kind, .sl 1 c.par.length false (rowG iV 0 c.par), .sl 1 c.ch.length false (rowG iV 0 c.ch), iV c.low, iV ((t1.n 7).2.pick [-1, 0, 4000000000, 4000000001]).1]))], ?_⟩
                    refine ⟨outOK_row rfl rfl rfl (fun i h => by rw [setG_ne _ _ h]; exact hdQ_ne l _ c d h) (fun _ => rfl) rfl (cells5 (.inl rfl) (.inr ⟨⟨2, rfl⟩, rfl⟩) (.inl rfl) (.inl rfl) (.inl rfl)), outOK_row rfl rfl rfl (fun i h => setG_ne _ _ h) (fun _ => rfl) rfl (cells5 (.inl rfl) (.inl rfl) (.inr ⟨⟨3, rfl⟩, rfl⟩) (.inl rfl) (.inl rfl)), (), [], trivial, ?_⟩
                    rw [← he, bentG_4 w4]
                    exact ⟨rfl, ⟨⟨rfl, rfl, rfl, (List.length_set ..).symm, nofun⟩, trivial⟩, ⟨tape_emb rfl, ⟨rfl, (List.length_set ..).symm, le_setRow hkl (.refl _)⟩, trivial⟩⟩
                  · conv => whnf
                    refine bcase_of (fun w5 => ?_) (fun w5 => ?_)
                    · conv => whnf
                      refine ⟨1, [(2, setG (rowG clkV clk0 l) 3 (.agg [iV c.kind, .sl 1 c.par.length false (rowG iV 0 c.par), .sl 0 0 true nilG, iV c.low, iV c.high]))], ?_⟩
                      refine ⟨outOK_row rfl rfl rfl (fun i h => by rw [setG_ne _ _ h]; exact hdQ_ne l _ c d h) (fun _ => rfl) rfl (cells5 (.inl rfl) (.inr ⟨⟨2, rfl⟩, rfl⟩) (.inl rfl) (.inl rfl) (.inl rfl)), (), [], trivial, ?_⟩
                      rw [← he, bentG_5 w5]
                      exact ⟨rfl, ⟨⟨rfl, rfl, rfl, (List.length_set ..).symm, nofun⟩, trivial⟩, ⟨tape_emb rfl, ⟨rfl, (List.length_set ..).symm, le_setRow hkl (.agg rfl (cells5 (.refl _) (.refl _) (.sl rfl (fun h => absurd rfl h) nofun (fun _ h => absurd h (Nat.not_lt_zero _))) (.refl _) (.refl _)))⟩, trivial⟩⟩
                    · conv => whnf
                      have w6 : 5 < (t1.n 7).1 := by
                        have e : ∀ n : Int, ((t1.n 7).1 == n) = false → (t1.n 7).1 ≠ n := fun n h h2 => by rw [h2] at h; simp at h
                        have a0 := e 0 w0
                        have a1 := e 1 w1
                        have a2 := e 2 w2
                        have a3 := e 3 w3
                        have a4 := e 4 w4
                        have a5 := e 5 w5
                        omega
                      refine loops_intro (ct := []) cfgOK (by decide +kernel) (fun j : Nat => ⟨[(5, .osl 1 0 (l.length + j) false)], [(0, some (tapeO (t1.n 7).2)), (1, some (.row 5 (l.length + j) (setG (rowG clkV clk0 (moreC l)) 3 (hdV c d)))), (2, some (hdP c d)), (3, some (hdC c d))], 4⟩)
                        (fun j => l.length + j ≤ 17) (fun j => 17 - (l.length + j)) 0 [] (by omega)
                        ⟨rfl, ⟨⟨rfl, rfl, rfl, rfl, nofun⟩, trivial⟩, ⟨tape_emb rfl, ⟨rfl, rfl, more_first l _ c d⟩, ⟨rfl, rfl, rfl, rfl, rfl⟩, ⟨rfl, rfl, rfl, rfl, rfl⟩, trivial⟩⟩ ?_
                      intro j hj
                      conv => whnf
                      refine bcase_of (fun h6 => ?_) (fun h6 => ?_)
                      · have h6 : ((l.length + j : Nat) : Int) ≤ 16 := of_decide_eq_true h6
                        conv => whnf
                        refine ⟨by show ((l.length + j) + 1) * 72 ≤ 140737488355328; omega, ?_⟩
                        conv => whnf
                        exact ⟨j + 1, [(1, some 11)], by omega, by omega, ⟨rfl, ⟨⟨rfl, rfl, rfl, rfl, nofun⟩, trivial⟩, ⟨tape_emb rfl, ⟨rfl, rfl, le_snocG (fun _ _ => .refl _) (more_at l _ hkl (l.length + j) (by omega) (by omega))⟩, ⟨rfl, rfl, rfl, rfl, rfl⟩, ⟨rfl, rfl, rfl, rfl, rfl⟩, trivial⟩⟩⟩
                      · have h6 : ¬ ((l.length + j : Nat) : Int) ≤ 16 := of_decide_eq_false h6
                        have hl17 : l.length + j = (moreC l).length := by rw [moreC_len]; omega
                        conv => whnf
                        refine ⟨1, [(2, setG (rowG clkV clk0 (moreC l)) 3 (.agg [iV c.kind, .sl 1 c.par.length false (rowG iV 0 c.par), .raw 3 d.ac c.ch.length d.cc, iV c.low, iV c.high])), (3, setG (rowG clkV clk0 (moreC l)) 3 (.agg [iV c.kind, .sl 1 c.par.length false (rowG iV 0 c.par), .sl 1 c.ch.length false (rowG iV 0 c.ch), iV c.low, iV c.high]))], ?_⟩
                        refine ⟨outOK_row rfl rfl rfl (fun i h => setG_ne _ _ h) (fun _ => rfl) rfl (cells5 (.inl rfl) (.inr ⟨⟨2, rfl⟩, rfl⟩) (.inl rfl) (.inl rfl) (.inl rfl)), outOK_row rfl rfl rfl (fun i h => setG_ne _ _ h) (fun _ => rfl) rfl (cells5 (.inl rfl) (.inl rfl) (.inr ⟨⟨3, rfl⟩, rfl⟩) (.inl rfl) (.inl rfl)), (), [], trivial, ?_⟩
                        rw [← he, bentG_6 w6]
                        exact ⟨rfl, ⟨⟨rfl, rfl, rfl, hl17, nofun⟩, trivial⟩, ⟨tape_emb rfl, ⟨rfl, hl17, more_last l _ hkl hc⟩, trivial⟩⟩
        · intro _ _
          conv => whnf
          exact ⟨embV_le (.refl _) rfl, ⟨tape_emb rfl, trivial⟩⟩
      · refine cut_out (ct := []) (ct' := []) cfgOK (by decide +kernel) (by decide +kernel) (fun _ : Unit => ⟨[(5, .osl 1 0 e.1.length false)], [(0, some (tapeO e.2)), (1, some (.row 5 e.1.length (rowG clkV clk0 e.1)))], 2⟩) (fun _ => True) ?_ ?_
        · conv => whnf
          refine ⟨_, _, n_spec t1 ok1 7 (by unfold InI64; decide), ?_⟩
          conv => whnf
          refine bcase_of (fun w0 => ?_) (fun w0 => ?_)
          · conv => whnf
            refine ⟨_, _, range_spec (t1.n 7).2 ok2 0 6 (by decide), ?_⟩
            conv => whnf
            refine ⟨1, [(2, setG (rowG clkV clk0 l) 4 (.agg [iV ((t1.n 7).2.range 0 6).1, .sl 1 c.par.length false (rowG iV 0 c.par), .raw 3 d.ac c.ch.length d.cc, iV c.low, iV c.high])), (3, setG (rowG clkV clk0 l) 4 (.agg [iV ((t1.n 7).2.range 0 6).1, .sl 1 c.par.length false (rowG iV 0 c.par), .sl 1 c.ch.length false (rowG iV 0 c.ch), iV c.low, iV c.high]))], ?_⟩
            refine ⟨outOK_row rfl rfl rfl (fun i h => by rw [setG_ne _ _ h]; exact hdQ_ne l _ c d h) (fun _ => rfl) rfl (cells5 (.inl rfl) (.inr ⟨⟨2, rfl⟩, rfl⟩) (.inl rfl) (.inl rfl) (.inl rfl)), outOK_row rfl rfl rfl (fun i h => setG_ne _ _ h) (fun _ => rfl) rfl (cells5 (.inl rfl) (.inl rfl) (.inr ⟨⟨3, rfl⟩, rfl⟩) (.inl rfl) (.inl rfl)), (), [], trivial, ?_⟩
            rw [← he, bentG_0 w0]
            exact ⟨rfl, ⟨⟨rfl, rfl, rfl, (List.length_set ..).symm, nofun⟩, trivial⟩, ⟨tape_emb rfl, ⟨rfl, (List.length_set ..).symm, le_setRow hkl (.refl _)⟩, trivial⟩⟩
          · conv => whnf
            refine bcase_of (fun w1 => ?_) (fun w1 => ?_)
            · conv => whnf
              refine ⟨_, _, range_spec (t1.n 7).2 ok2 (-1) l.length (by omega), ?_⟩
              conv => whnf
              refine ⟨⟨rfl, rfl, rfl, by show (c.par.length + 1) * 8 ≤ 140737488355328; omega⟩, ?_⟩
              conv => whnf
              refine ⟨1, [(3, setG (rowG clkV clk0 l) 4 (.agg [iV c.kind, .sl 1 (c.par.length + 1) false (appG c.par.length (rowG iV 0 c.par) (listG [iV ((t1.n 7).2.range (-1) l.length).1])), .sl 1 c.ch.length false (rowG iV 0 c.ch), iV c.low, iV c.high]))], ?_⟩
              refine ⟨outOK_row rfl rfl rfl (fun i h => by rw [setG_ne _ _ h]; exact hdQ_ne l _ c d h) (fun _ => rfl) rfl (cells5 (.inl rfl) (.inl rfl) (.inr ⟨⟨3, rfl⟩, rfl⟩) (.inl rfl) (.inl rfl)), (), [], trivial, ?_⟩
              rw [← he, bentG_1 w1]
              exact ⟨rfl, ⟨⟨rfl, rfl, rfl, (List.length_set ..).symm, nofun⟩, trivial⟩, ⟨tape_emb rfl, ⟨rfl, (List.length_set ..).symm, le_setRow hkl (.agg rfl (cells5 (.refl _) (.sl (by simp) (fun _ => rfl) nofun (le_app rfl (.refl _))) (.refl _) (.refl _) (.refl _)))⟩, trivial⟩⟩
            · conv => whnf
              refine bcase_of (fun w2 => ?_) (fun w2 => ?_)
              · conv => whnf
                refine ⟨_, _, pick_lit (t1.n 7).2 ok2 [0, 1, 64, 65, 2] true (by decide), ?_⟩
                conv => whnf
                refine ⟨⟨rfl, rfl, rfl, by show (c.ch.length + 1) * 8 ≤ 140737488355328; omega⟩, ?_⟩
                conv => whnf
                refine ⟨1, [(2, setG (rowG clkV clk0 l) 4 (.agg [iV c.kind, .sl 1 c.par.length false (rowG iV 0 c.par), .sl 1 (c.ch.length + 1) false (appG c.ch.length (rowG iV 0 c.ch) (listG [iV ((t1.n 7).2.pick [0, 1, 64, 65, 2]).1])), iV c.low, iV c.high]))], ?_⟩
                refine ⟨outOK_row rfl rfl rfl (fun i h => by rw [setG_ne _ _ h]; exact hdQ_ne l _ c d h) (fun _ => rfl) rfl (cells5 (.inl rfl) (.inr ⟨⟨2, rfl⟩, rfl⟩) (.inl rfl) (.inl rfl) (.inl rfl)), (), [], trivial, ?_⟩
                rw [← he, bentG_2 w2]
                exact ⟨rfl, ⟨⟨rfl, rfl, rfl, (List.length_set ..).symm, nofun⟩, trivial⟩, ⟨tape_emb rfl, ⟨rfl, (List.length_set ..).symm, le_setRow hkl (.agg rfl (cells5 (.refl _) (.refl _) (.sl (by simp) (fun _ => rfl) nofun (le_app rfl (.refl _))) (.refl _) (.refl _)))⟩, trivial⟩⟩
              · conv => whnf
                refine bcase_of (fun w3 => ?_) (fun w3 => ?_)
                · conv => whnf
                  refine ⟨by show InI64 (c.high + 1); unfold InI64; omega, ?_⟩
                  conv => whnf
                  refine ⟨_, _, pick_lit (t1.n 7).2 ok2 [-1, 0, c.high + 1] true (by simp), ?_⟩
                  conv => whnf
                  refine ⟨1, [(2, setG (rowG clkV clk0 l) 4 (.agg [iV c.kind, .sl 1 c.par.length false (rowG iV 0 c.par), .raw 3 d.ac c.ch.length d.cc, iV ((t1.n 7).2.pick [-1, 0, c.high + 1]).1, iV c.high])), (3, setG (rowG clkV clk0 l) 4 (.agg [iV c.kind, .sl 1 c.par.length false (rowG iV 0 c.par), .sl 1 c.ch.length false (rowG iV 0 c.ch), iV ((t1.n 7).2.pick [-1, 0, c.high + 1]).1, iV c.high]))], ?_⟩
                  refine ⟨outOK_row rfl rfl rfl (fun i h => by rw [setG_ne _ _ h]; exact hdQ_ne l _ c d h) (fun _ => rfl) rfl (cells5 (.inl rfl) (.inr ⟨⟨2, rfl⟩, rfl⟩) (.inl rfl) (.inl rfl) (.inl rfl)), outOK_row rfl rfl rfl (fun i h => setG_ne _ _ h) (fun _ => rfl) rfl (cells5 (.inl rfl) (.inl rfl) (.inr ⟨⟨3, rfl⟩, rfl⟩) (.inl rfl) (.inl rfl)), (), [], trivial, ?_⟩
                  rw [← he, bentG_3 w3]
                  exact ⟨rfl, ⟨⟨rfl, rfl, rfl, (List.length_set ..).symm, nofun⟩, trivial⟩, ⟨tape_emb rfl, ⟨rfl, (List.length_set ..).symm, le_setRow hkl (.refl _)⟩, trivial⟩⟩
                · conv => whnf
                  refine bcase_of (fun w4 => ?_) (fun w4 => ?_)
                  · conv => whnf
                    refine ⟨_, _, pick_lit (t1.n 7).2 ok2 [-1, 0, 4000000000, 4000000001] true (by decide), ?_⟩
                    conv => whnf
                    refine ⟨1, [(2, setG (rowG clkV clk0 l) 4 (.agg [iV c.kind, .sl 1 c.par.length false (rowG iV 0 c.par), .raw 3 d.ac c.ch.length d.cc, iV c.low, iV ((t1.n 7).2.pick [-1, 0, 4000000000, 4000000001]).1])), (3, setG (rowG clkV clk0 l) 4 (.agg [iV c.kind, .sl 1 c.par.length false (rowG iV 0 c.par), .sl 1 c.ch.length false (rowG iV 0 c.ch), iV c.low, iV ((t1.n 7).2.pick [-1, 0, 4000000000, 4000000001]).1]))], ?_⟩
                    refine ⟨outOK_row rfl rfl rfl (fun i h => by rw [setG_ne _ _ h]; exact hdQ_ne l _ c d h) (fun _ => rfl) rfl (cells5 (.inl rfl) (.inr ⟨⟨2, rfl⟩, rfl⟩) (.inl rfl) (.inl rfl) (.inl rfl)), outOK_row rfl rfl rfl (fun i h => setG_ne _ _ h) (fun _ => rfl) rfl (cells5 (.inl rfl) (.inl rfl) (.inr ⟨⟨3, rfl⟩, rfl⟩) (.inl rfl) (.inl rfl)), (), [], trivial, ?_⟩
                    rw [← he, bentG_4 w4]
                    exact ⟨rfl, ⟨⟨rfl, rfl, rfl, (List.length_set ..).symm, nofun⟩, trivial⟩, ⟨tape_emb rfl, ⟨rfl, (List.length_set ..).symm, le_setRow hkl (.refl _)⟩, trivial⟩⟩
                  · conv => whnf
                    refine bcase_of (fun w5 => ?_) (fun w5 => ?_)
                    · conv => whnf
                      refine ⟨1, [(2, setG (rowG clkV clk0 l) 4 (.agg [iV c.kind, .sl 1 c.par.length false (rowG iV 0 c.par), .sl 0 0 true nilG, iV c.low, iV c.high]))], ?_⟩
                      refine ⟨outOK_row rfl rfl rfl (fun i h => by rw [setG_ne _ _ h]; exact hdQ_ne l _ c d h) (fun _ => rfl) rfl (cells5 (.inl rfl) (.inr ⟨⟨2, rfl⟩, rfl⟩) (.inl rfl) (.inl rfl) (.inl rfl)), (), [], trivial, ?_⟩
                      rw [← he, bentG_5 w5]
                      exact ⟨rfl, ⟨⟨rfl, rfl, rfl, (List.length_set ..).symm, nofun⟩, trivial⟩, ⟨tape_emb rfl, ⟨rfl, (List.length_set ..).symm, le_setRow hkl (.agg rfl (cells5 (.refl _) (.refl _) (.sl rfl (fun h => absurd rfl h) nofun (fun _ h => absurd h (Nat.not_lt_zero _))) (.refl _) (.refl _)))⟩, trivial⟩⟩
                    · conv => whnf
                      have w6 : 5 < (t1.n 7).1 := by
                        have e : ∀ n : Int, ((t1.n 7).1 == n) = false → (t1.n 7).1 ≠ n := fun n h h2 => by rw [h2] at h; simp at h
                        have a0 := e 0 w0
                        have a1 := e 1 w1
                        have a2 := e 2 w2
                        have a3 := e 3 w3
                        have a4 := e 4 w4
                        have a5 := e 5 w5
                        omega
                      refine loops_intro (ct := []) cfgOK (by decide +kernel) (fun j : Nat => ⟨[(5, .osl 1 0 (l.length + j) false)], [(0, some (tapeO (t1.n 7).2)), (1, some (.row 5 (l.length + j) (setG (rowG clkV clk0 (moreC l)) 4 (hdV c d)))), (2, some (hdP c d)), (3, some (hdC c d))], 4⟩)
                        (fun j => l.length + j ≤ 17) (fun j => 17 - (l.length + j)) 0 [] (by omega)
                        ⟨rfl, ⟨⟨rfl, rfl, rfl, rfl, nofun⟩, trivial⟩, ⟨tape_emb rfl, ⟨rfl, rfl, more_first l _ c d⟩, ⟨rfl, rfl, rfl, rfl, rfl⟩, ⟨rfl, rfl, rfl, rfl, rfl⟩, trivial⟩⟩ ?_
                      intro j hj
                      conv => whnf
                      refine bcase_of (fun h6 => ?_) (fun h6 => ?_)
                      · have h6 : ((l.length + j : Nat) : Int) ≤ 16 := of_decide_eq_true h6
                        conv => whnf
                        refine ⟨by show ((l.length + j) + 1) * 72 ≤ 140737488355328; omega, ?_⟩
                        conv => whnf
                        exact ⟨j + 1, [(1, some 11)], by omega, by omega, ⟨rfl, ⟨⟨rfl, rfl, rfl, rfl, nofun⟩, trivial⟩, ⟨tape_emb rfl, ⟨rfl, rfl, le_snocG (fun _ _ => .refl _) (more_at l _ hkl (l.length + j) (by omega) (by omega))⟩, ⟨rfl, rfl, rfl, rfl, rfl⟩, ⟨rfl, rfl, rfl, rfl, rfl⟩, trivial⟩⟩⟩
                      · have h6 : ¬ ((l.length + j : Nat) : Int) ≤ 16 := of_decide_eq_false h6
                        have hl17 : l.length + j = (moreC l).length := by rw [moreC_len]; omega
                        conv => whnf
                        refine ⟨1, [(2, setG (rowG clkV clk0 (moreC l)) 4 (.agg [iV c.kind, .sl 1 c.par.length false (rowG iV 0 c.par), .raw 3 d.ac c.ch.length d.cc, iV c.low, iV c.high])), (3, setG (rowG clkV clk0 (moreC l)) 4 (.agg [iV c.kind, .sl 1 c.par.length false (rowG iV 0 c.par), .sl 1 c.ch.length false (rowG iV 0 c.ch), iV c.low, iV c.high]))], ?_⟩
                        refine ⟨outOK_row rfl rfl rfl (fun i h => setG_ne _ _ h) (fun _ => rfl) rfl (cells5 (.inl rfl) (.inr ⟨⟨2, rfl⟩, rfl⟩) (.inl rfl) (.inl rfl) (.inl rfl)), outOK_row rfl rfl rfl (fun i h => setG_ne _ _ h) (fun _ => rfl) rfl (cells5 (.inl rfl) (.inl rfl) (.inr ⟨⟨3, rfl⟩, rfl⟩) (.inl rfl) (.inl rfl)), (), [], trivial, ?_⟩
                        rw [← he, bentG_6 w6]
                        exact ⟨rfl, ⟨⟨rfl, rfl, rfl, hl17, nofun⟩, trivial⟩, ⟨tape_emb rfl, ⟨rfl, hl17, more_last l _ hkl hc⟩, trivial⟩⟩
        · intro _ _
          conv => whnf
          exact ⟨embV_le (.refl _) rfl, ⟨tape_emb rfl, trivial⟩⟩
      · refine cut_out (ct := []) (ct' := []) cfgOK (by decide +kernel) (by decide +kernel) (fun _ : Unit => ⟨[(5, .osl 1 0 e.1.length false)], [(0, some (tapeO e.2)), (1, some (.row 5 e.1.length (rowG clkV clk0 e.1)))], 2⟩) (fun _ => True) ?_ ?_
        · conv => whnf
          refine ⟨_, _, n_spec t1 ok1 7 (by unfold InI64; decide), ?_⟩
          conv => whnf
          refine bcase_of (fun w0 => ?_) (fun w0 => ?_)
          · conv => whnf
            refine ⟨_, _, range_spec (t1.n 7).2 ok2 0 6 (by decide), ?_⟩
            conv => whnf
            refine ⟨1, [(2, setG (rowG clkV clk0 l) 5 (.agg [iV ((t1.n 7).2.range 0 6).1, .sl 1 c.par.length false (rowG iV 0 c.par), .raw 3 d.ac c.ch.length d.cc, iV c.low, iV c.high])), (3, setG (rowG clkV clk0 l) 5 (.agg [iV ((t1.n 7).2.range 0 6).1, .sl 1 c.par.length false (rowG iV 0 c.par), .sl 1 c.ch.length false (rowG iV 0 c.ch), iV c.low, iV c.high]))], ?_⟩
            refine ⟨outOK_row rfl rfl rfl (fun i h => by rw [setG_ne _ _ h]; exact hdQ_ne l _ c d h) (fun _ => rfl) rfl (cells5 (.inl rfl) (.inr ⟨⟨2, rfl⟩, rfl⟩) (.inl rfl) (.inl rfl) (.inl rfl)), outOK_row rfl rfl rfl (fun i h => setG_ne _ _ h) (fun _ => rfl) rfl (cells5 (.inl rfl) (.inl rfl) (.inr ⟨⟨3, rfl⟩, rfl⟩) (.inl rfl) (.inl rfl)), (), [], trivial, ?_⟩
            rw [← he, bentG_0 w0]
            exact ⟨rfl, ⟨⟨rfl, rfl, rfl, (List.length_set ..).symm, nofun⟩, trivial⟩, ⟨tape_emb rfl, ⟨rfl, (List.length_set ..).symm, le_setRow hkl (.refl _)⟩, trivial⟩⟩
          · conv => whnf
            refine bcase_of (fun w1 => ?_) (fun w1 => ?_)
            · conv => whnf
              refine ⟨_, _, range_spec (t1.n 7).2 ok2 (-1) l.length (by omega), ?_⟩
              conv => whnf
              refine ⟨⟨rfl, rfl, rfl, by show (c.par.length + 1) * 8 ≤ 140737488355328; omega⟩, ?_⟩
              conv => whnf
              refine ⟨1, [(3, setG (rowG clkV clk0 l) 5 (.agg [iV c.kind, .sl 1 (c.par.length + 1) false (appG c.par.length (rowG iV 0 c.par) (listG [iV ((t1.n 7).2.range (-1) l.length).1])), .sl 1 c.ch.length false (rowG iV 0 c.ch), iV c.low, iV c.high]))], ?_⟩
              refine ⟨outOK_row rfl rfl rfl (fun i h => by rw [setG_ne _ _ h]; exact hdQ_ne l _ c d h) (fun _ => rfl) rfl (cells5 (.inl rfl) (.inl rfl) (.inr ⟨⟨3, rfl⟩, rfl⟩) (.inl rfl) (.inl rfl)), (), [], trivial, ?_⟩
              rw [← he, bentG_1 w1]
              exact ⟨rfl, ⟨⟨rfl, rfl, rfl, (List.length_set ..).symm, nofun⟩, trivial⟩, ⟨tape_emb rfl, ⟨rfl, (List.length_set ..).symm, le_setRow hkl (.agg rfl (cells5 (.refl _) (.sl (by simp) (fun _ => rfl) nofun (le_app rfl (.refl _))) (.refl _) (.refl _) (.refl _)))⟩, trivial⟩⟩
            · conv => whnf
              refine bcase_of (fun w2 => ?_) (fun w2 => ?_)
              · conv => whnf
                refine ⟨_, _, pick_lit (t1.n 7).2 ok2 [0, 1, 64, 65, 2] true (by decide), ?_⟩
                conv => whnf
                refine ⟨⟨rfl, rfl, rfl, by show (c.ch.length + 1) * 8 ≤ 140737488355328; omega⟩, ?_⟩
                conv => whnf
                refine ⟨1, [(2, setG (rowG clkV clk0 l) 5 (.agg [iV c.kind, .sl 1 c.par.length false (rowG iV 0 c.par), .sl 1 (c.ch.length + 1) false (appG c.ch.length (rowG iV 0 c.ch) (listG [iV ((t1.n 7).2.pick [0, 1, 64, 65, 2]).1])), iV c.low, iV c.high]))], ?_⟩
                refine ⟨outOK_row rfl rfl rfl (fun i h => by rw [setG_ne _ _ h]; exact hdQ_ne l _ c d h) (fun _ => rfl) rfl (cells5 (.inl rfl) (.inr ⟨⟨2, rfl⟩, rfl⟩) (.inl rfl) (.inl rfl) (.inl rfl)), (), [], trivial, ?_⟩
                rw [← he, bentG_2 w2]
                exact ⟨rfl, ⟨⟨rfl, rfl, rfl, (List.length_set ..).symm, nofun⟩, trivial⟩, ⟨tape_emb rfl, ⟨rfl, (List.length_set ..).symm, le_setRow hkl (.agg rfl (cells5 (.refl _) (.refl _) (.sl (by simp) (fun _ => rfl) nofun (le_app rfl (.refl _))) (.refl _) (.refl _)))⟩, trivial⟩⟩
              · conv => whnf
                refine bcase_of (fun w3 => ?_) (fun w3 => ?_)
                · conv => whnf
                  refine ⟨by show InI64 (c.high + 1); unfold InI64; omega, ?_⟩
                  conv => whnf
                  refine ⟨_, _, pick_lit (t1.n 7).2 ok2 [-1, 0, c.high + 1] true (by simp), ?_⟩
                  conv => whnf
                  refine ⟨1, [(2, setG (rowG clkV clk0 l) 5 (.agg [iV c.kind, .sl 1 c.par.length false (rowG iV 0 c.par), .raw 3 d.ac c.ch.length d.cc, iV ((t1.n 7).2.pick [-1, 0, c.high + 1]).1, iV c.high])), (3, setG (rowG clkV clk0 l) 5 (.agg [iV c.kind, .sl 1 c.par.length false (rowG iV 0 c.par), .sl 1 c.ch.length false (rowG iV 0 c.ch), iV ((t1.n 7).2.pick [-1, 0, c.high + 1]).1, iV c.high]))], ?_⟩
                  refine ⟨outOK_row rfl rfl rfl (fun i h => by rw [setG_ne _ _ h]; exact hdQ_ne l _ c d h) (fun _ => rfl) rfl (cells5 (.inl rfl) (.inr ⟨⟨2, rfl⟩, rfl⟩) (.inl rfl) (.inl rfl) (.inl rfl)), outOK_row rfl rfl rfl (fun i h => setG_ne _ _ h) (fun _ => rfl) rfl (cells5 (.inl rfl) (.inl rfl) (.inr ⟨⟨3, rfl⟩, rfl⟩) (.inl rfl) (.inl rfl)), (), [], trivial, ?_⟩
                  rw [← he, bentG_3 w3]
                  exact ⟨rfl, ⟨⟨rfl, rfl, rfl, (List.length_set ..).symm, nofun⟩, trivial⟩, ⟨tape_emb rfl, ⟨rfl, (List.length_set ..).symm, le_setRow hkl (.refl _)⟩, trivial⟩⟩
                · conv => whnf
                  refine bcase_of (fun w4 => ?_) (fun w4 => ?_)
                  · conv => whnf
                    refine ⟨_, _, pick_lit (t1.n 7).2 ok2 [-1, 0, 4000000000, 4000000001] true (by decide), ?_⟩
                    conv => whnf
                    refine ⟨1, [(2, setG (rowG clkV clk0 l) 5 (.agg [iV c.kind, .sl 1 c.par.length false (rowG iV 0 c.par), .raw 3 d.ac c.ch.length d.cc, iV c.low, iV ((t1.n 7).2.pick [-1, 0, 4000000000, 4000000001]).1])), (3, setG (rowG clkV clk0 l) 5 (.agg [iV c.kind, .sl 1 c.par.length false (rowG iV 0 c.par), .sl 1 c.ch.length false (rowG iV 0 c.ch), iV c.low, iV ((t1.n 7).2.pick [-1, 0, 4000000000, 4000000001]).1]))], ?_⟩
                    refine ⟨outOK_row rfl rfl rfl (fun i h => by rw [setG_ne _ _ h]; exact hdQ_ne l _ c d h) (fun _ => rfl) rfl (cells5 (.inl rfl) (.inr ⟨⟨2, rfl⟩, rfl⟩) (.inl rfl) (.inl rfl) (.inl rfl)), outOK_row rfl rfl rfl (fun i h => setG_ne _ _ h) (fun _ => rfl) rfl (cells5 (.inl rfl) (.inl rfl) (.inr ⟨⟨3, rfl⟩, rfl⟩) (.inl rfl) (.inl rfl)), (), [], trivial, ?_⟩
                    rw [← he, bentG_4 w4]
                    exact ⟨rfl, ⟨⟨rfl, rfl, rfl, (List.length_set ..).symm, nofun⟩, trivial⟩, ⟨tape_emb rfl, ⟨rfl, (List.length_set ..).symm, le_setRow hkl (.refl _)⟩, trivial⟩⟩
                  · conv => whnf
                    refine bcase_of (fun w5 => ?_) (fun w5 => ?_)
                    · conv => whnf
                      refine ⟨1, [(2, setG (rowG clkV clk0 l) 5 (.agg [iV c.kind, .sl 1 c.par.length false (rowG iV 0 c.par), .sl 0 0 true nilG, iV c.low, iV c.high]))], ?_⟩
                      refine ⟨outOK_row rfl rfl rfl (fun i h => by rw [setG_ne _ _ h]; exact hdQ_ne l _ c d h) (fun _ => rfl) rfl (cells5 (.inl rfl) (.inr ⟨⟨2, rfl⟩, rfl⟩) (.inl rfl) (.inl rfl) (.inl rfl)), (), [], trivial, ?_⟩
                      rw [← he, bentG_5 w5]
                      exact ⟨rfl, ⟨⟨rfl, rfl, rfl, (List.length_set ..).symm, nofun⟩, trivial⟩, ⟨tape_emb rfl, ⟨rfl, (List.length_set ..).symm, le_setRow hkl (.agg rfl (cells5 (.refl _) (.refl _) (.sl rfl (fun h => absurd rfl h) nofun (fun _ h => absurd h (Nat.not_lt_zero _))) (.refl _) (.refl _)))⟩, trivial⟩⟩
                    · conv => whnf
                      have w6 : 5 < (t1.n 7).1 := by
                        have e : ∀ n : Int, ((t1.n 7).1 == n) = false → (t1.n 7).1 ≠ n := fun n h h2 => by rw [h2] at h; simp at h
                        have a0 := e 0 w0
                        have a1 := e 1 w1
                        have a2 := e 2 w2
                        have a3 := e 3 w3
                        have a4 := e 4 w4
                        have a5 := e 5 w5
                        omega
                      refine loops_intro (ct := []) cfgOK (by decide +kernel) (fun j : Nat => ⟨[(5, .osl 1 0 (l.length + j) false)], [(0, some (tapeO (t1.n 7).2)), (1, some (.row 5 (l.length + j) (setG (rowG clkV clk0 (moreC l)) 5 (hdV c d)))), (2, some (hdP c d)), (3, some (hdC c d))], 4⟩)
                        (fun j => l.length + j ≤ 17) (fun j => 17 - (l.length + j)) 0 [] (by omega)
                        ⟨rfl, ⟨⟨rfl, rfl, rfl, rfl, nofun⟩, trivial⟩, ⟨tape_emb rfl, ⟨rfl, rfl, more_first l _ c d⟩, ⟨rfl, rfl, rfl, rfl, rfl⟩, ⟨rfl, rfl, rfl, rfl, rfl⟩, trivial⟩⟩ ?_
                      intro j hj
                      conv => whnf
                      refine bcase_of (fun h6 => ?_) (fun h6 => ?_)
                      · have h6 : ((l.length + j : Nat) : Int) ≤ 16 := of_decide_eq_true h6
                        conv => whnf
                        refine ⟨by show ((l.length + j) + 1) * 72 ≤ 140737488355328; omega, ?_⟩
                        conv => whnf
                        exact ⟨j + 1, [(1, some 11)], by omega, by omega, ⟨rfl, ⟨⟨rfl, rfl, rfl, rfl, nofun⟩, trivial⟩, ⟨tape_emb rfl, ⟨rfl, rfl, le_snocG (fun _ _ => .refl _) (more_at l _ hkl (l.length + j) (by omega) (by omega))⟩, ⟨rfl, rfl, rfl, rfl, rfl⟩, ⟨rfl, rfl, rfl, rfl, rfl⟩, trivial⟩⟩⟩
                      · have h6 : ¬ ((l.length + j : Nat) : Int) ≤ 16 := of_decide_eq_false h6
                        have hl17 : l.length + j = (moreC l).length := by rw [moreC_len]; omega
                        conv => whnf
                        refine ⟨1, [(2, setG (rowG clkV clk0 (moreC l)) 5 (.agg [iV c.kind, .sl 1 c.par.length false (rowG iV 0 c.par), .raw 3 d.ac c.ch.length d.cc, iV c.low, iV c.high])), (3, setG (rowG clkV clk0 (moreC l)) 5 (.agg [iV c.kind, .sl 1 c.par.length false (rowG iV 0 c.par), .sl 1 c.ch.length false (rowG iV 0 c.ch), iV c.low, iV c.high]))], ?_⟩
                        refine ⟨outOK_row rfl rfl rfl (fun i h => setG_ne _ _ h) (fun _ => rfl) rfl (cells5 (.inl rfl) (.inr ⟨⟨2, rfl⟩, rfl⟩) (.inl rfl) (.inl rfl) (.inl rfl)), outOK_row rfl rfl rfl (fun i h => setG_ne _ _ h) (fun _ => rfl) rfl (cells5 (.inl rfl) (.inl rfl) (.inr ⟨⟨3, rfl⟩, rfl⟩) (.inl rfl) (.inl rfl)), (), [], trivial, ?_⟩
                        rw [← he, bentG_6 w6]
                        exact ⟨rfl, ⟨⟨rfl, rfl, rfl, hl17, nofun⟩, trivial⟩, ⟨tape_emb rfl, ⟨rfl, hl17, more_last l _ hkl hc⟩, trivial⟩⟩
        · intro _ _
          conv => whnf
          exact ⟨embV_le (.refl _) rfl, ⟨tape_emb rfl, trivial⟩⟩
      · refine cut_out (ct := []) (ct' := []) cfgOK (by decide +kernel) (by decide +kernel) (fun _ : Unit => ⟨[(5, .osl 1 0 e.1.length false)], [(0, some (tapeO e.2)), (1, some (.row 5 e.1.length (rowG clkV clk0 e.1)))], 2⟩) (fun _ => True) ?_ ?_
        · conv => whnf
          refine ⟨_, _, n_spec t1 ok1 7 (by unfold InI64; decide), ?_⟩
          conv => whnf
          refine bcase_of (fun w0 => ?_) (fun w0 => ?_)
          · conv => whnf
            refine ⟨_, _, range_spec (t1.n 7).2 ok2 0 6 (by decide), ?_⟩
            conv => whnf
            refine ⟨1, [(2, setG (rowG clkV clk0 l) 6 (.agg [iV ((t1.n 7).2.range 0 6).1, .sl 1 c.par.length false (rowG iV 0 c.par), .raw 3 d.ac c.ch.length d.cc, iV c.low, iV c.high])), (3, setG (rowG clkV clk0 l) 6 (.agg [iV ((t1.n 7).2.range 0 6).1, .sl 1 c.par.length false (rowG iV 0 c.par), .sl 1 c.ch.length false (rowG iV 0 c.ch), iV c.low, iV c.high]))], ?_⟩
            refine ⟨outOK_row rfl rfl rfl (fun i h => by rw [setG_ne _ _ h]; exact hdQ_ne l _ c d h) (fun _ => rfl) rfl (cells5 (.inl rfl) (.inr ⟨⟨2, rfl⟩, rfl⟩) (.inl rfl) (.inl rfl) (.inl rfl)), outOK_row rfl rfl rfl (fun i h => setG_ne _ _ h) (fun _ => rfl) rfl (cells5 (.inl rfl) (.inl rfl) (.inr ⟨⟨3, rfl⟩, rfl⟩) (.inl rfl) (.inl rfl)), (), [], trivial, ?_⟩
            rw [← he, bentG_0 w0]
            exact ⟨rfl, ⟨⟨rfl, rfl, rfl, (List.length_set ..).symm, nofun⟩, trivial⟩, ⟨tape_emb rfl, ⟨rfl, (List.length_set ..).symm, le_setRow hkl (.refl _)⟩, trivial⟩⟩
          · conv => whnf
            refine bcase_of (fun w1 => ?_) (fun w1 => ?_)
            · conv => whnf
              refine ⟨_, _, range_spec (t1.n 7).2 ok2 (-1) l.length (by omega), ?_⟩
              conv => whnf
              refine ⟨⟨rfl, rfl, rfl, by show (c.par.length + 1) * 8 ≤ 140737488355328; omega⟩, ?_⟩
              conv => whnf
              refine ⟨1, [(3, setG (rowG clkV clk0 l) 6 (.agg [iV c.kind, .sl 1 (c.par.length + 1) false (appG c.par.length (rowG iV 0 c.par) (listG [iV ((t1.n 7).2.range (-1) l.length).1])), .sl 1 c.ch.length false (rowG iV 0 c.ch), iV c.low, iV c.high]))], ?_⟩
              refine ⟨outOK_row rfl rfl rfl (fun i h => by rw [setG_ne _ _ h]; exact hdQ_ne l _ c d h) (fun _ => rfl) rfl (cells5 (.inl rfl) (.inl rfl) (.inr ⟨⟨3, rfl⟩, rfl⟩) (.inl rfl) (.inl rfl)), (), [], trivial, ?_⟩
              rw [← he, bentG_1 w1]
              exact ⟨rfl, ⟨⟨rfl, rfl, rfl, (List.length_set ..).symm, nofun⟩, trivial⟩, ⟨tape_emb rfl, ⟨rfl, (List.length_set ..).symm, le_setRow hkl (.agg rfl (cells5 (.refl _) (.sl (by simp) (fun _ => rfl) nofun (le_app rfl (.refl _))) (.refl _) (.refl _) (.refl _)))⟩, trivial⟩⟩
            · conv => whnf
              refine bcase_of (fun w2 => ?_) (fun w2 => ?_)
              · conv => whnf
                refine ⟨_, _, pick_lit (t1.n 7).2 ok2 [0, 1, 64, 65, 2] true (by decide), ?_⟩
                conv => whnf
                refine ⟨⟨rfl, rfl, rfl, by show (c.ch.length + 1) * 8 ≤ 140737488355328; omega⟩, ?_⟩
                conv => whnf
                refine ⟨1, [(2, setG (rowG clkV clk0 l) 6 (.agg [iV c.kind, .sl 1 c.par.length false (rowG iV 0 c.par), .sl 1 (c.ch.length + 1) false (appG c.ch.length (rowG iV 0 c.ch) (listG [iV ((t1.n 7).2.pick [0, 1, 64, 65, 2]).1])), iV c.low, iV c.high]))], ?_⟩
                refine ⟨outOK_row rfl rfl rfl (fun i h => by rw [setG_ne _ _ h]; exact hdQ_ne l _ c d h) (fun _ => rfl) rfl (cells5 (.inl rfl) (.inr ⟨⟨2, rfl⟩, rfl⟩) (.inl rfl) (.inl rfl) (.inl rfl)), (), [], trivial, ?_⟩
                rw [← he, bentG_2 w2]
                exact ⟨rfl, ⟨⟨rfl, rfl, rfl, (List.length_set ..).symm, nofun⟩, trivial⟩, ⟨tape_emb rfl, ⟨rfl, (List.length_set ..).symm, le_setRow hkl (.agg rfl (cells5 (.refl _) (.refl _) (.sl (by simp) (fun _ => rfl) nofun (le_app rfl (.refl _))) (.refl _) (.refl _)))⟩, trivial⟩⟩
              · conv => whnf
                refine bcase_of (fun w3 => ?_) (fun w3 => ?_)
                · conv => whnf
                  refine ⟨by show InI64 (c.high + 1); unfold InI64; omega, ?_⟩
                  conv => whnf
                  refine ⟨_, _, pick_lit (t1.n 7).2 ok2 [-1, 0, c.high + 1] true (by simp), ?_⟩
                  conv => whnf
                  refine ⟨1, [(2, setG (rowG clkV clk0 l) 6 (.agg [iV c.kind, .sl 1 c.par.length false (rowG iV 0 c.par), .raw 3 d.ac c.ch.length d.cc, iV ((t1.n 7).2.pick [-1, 0, c.high + 1]).1, iV c.high])), (3, setG (rowG clkV clk0 l) 6 (.agg [iV c.kind, .sl 1 c.par.length false (rowG iV 0 c.par), .sl 1 c.ch.length false (rowG iV 0 c.ch), iV ((t1.n 7).2.pick [-1, 0, c.high + 1]).1, iV c.high]))], ?_⟩
                  refine ⟨outOK_row rfl rfl rfl (fun i h => by rw [setG_ne _ _ h]; exact hdQ_ne l _ c d h) (fun _ => rfl) rfl (cells5 (.inl rfl) (.inr ⟨⟨2, rfl⟩, rfl⟩) (.inl rfl) (.inl rfl) (.inl rfl)), outOK_row rfl rfl rfl (fun i h => setG_ne _ _ h) (fun _ => rfl) rfl (cells5 (.inl rfl) (.inl rfl) (.inr ⟨⟨3, rfl⟩, rfl⟩) (.inl rfl) (.inl rfl)), (), [], trivial, ?_⟩
                  rw [← he, bentG_3 w3]
                  exact ⟨rfl, ⟨⟨rfl, rfl, rfl, (List.length_set ..).symm, nofun⟩, trivial⟩, ⟨tape_emb rfl, ⟨rfl, (List.length_set ..).symm, le_setRow hkl (.refl _)⟩, trivial⟩⟩
                · conv => whnf
                  refine bcase_of (fun w4 => ?_) (fun w4 => ?_)
                  · conv => whnf
                    refine ⟨_, _, pick_lit (t1.n 7).2 ok2 [-1, 0, 4000000000, 4000000001] true (by decide), ?_⟩
                    conv => whnf
                    refine ⟨1, [(2, setG (rowG clkV clk0 l) 6 (.agg [iV c.kind, .sl 1 c.par.length false (rowG iV 0 c.par), .raw 3 d.ac c.ch.length d.cc, iV c.low, iV ((t1.n 7).2.pick [-1, 0, 4000000000, 4000000001]).1])), (3, setG (rowG clkV clk0 l) 6 (.agg [iV c.kind, .sl 1 c.par.length false (rowG iV 0 c.par), .sl 1 c.ch.length false (rowG iV 0 c.ch), iV c.low, iV ((t1.n 7).2.pick [-1, 0, 4000000000, 4000000001]).1]))], ?_⟩
                    refine ⟨outOK_row rfl rfl rfl (fun i h => by rw [setG_ne _ _ h]; exact hdQ_ne l _ c d h) (fun _ => rfl) rfl (cells5 (.inl rfl) (.inr ⟨⟨2, rfl⟩, rfl⟩) (.inl rfl) (.inl rfl) (.inl rfl)), outOK_row rfl rfl rfl (fun i h => setG_ne _ _ h) (fun _ => rfl) rfl (cells5 (.inl rfl) (.inl rfl) (.inr ⟨⟨3, rfl⟩, rfl⟩) (.inl rfl) (.inl rfl)), (), [], trivial, ?_⟩
                    rw [← he, bentG_4 w4]
                    exact ⟨rfl, ⟨⟨rfl, rfl, rfl, (List.length_set ..).symm, nofun⟩, trivial⟩, ⟨tape_emb rfl, ⟨rfl, (List.length_set ..).symm, le_setRow hkl (.refl _)⟩, trivial⟩⟩
                  · conv => whnf
                    refine bcase_of (fun w5 => ?_) (fun w5 => ?_)
                    · conv => whnf
                      refine ⟨1, [(2, setG (rowG clkV clk0 l) 6 (.agg [iV c.kind, .sl 1 c.par.length false (rowG iV 0 c.par), .sl 0 0 true nilG, iV c.low, iV c.high]))], ?_⟩
                      refine ⟨outOK_row rfl rfl rfl (fun i h => by rw [setG_ne _ _ h]; exact hdQ_ne l _ c d h) (fun _ => rfl) rfl (cells5 (.inl rfl) (.inr ⟨⟨2, rfl⟩, rfl⟩) (.inl rfl) (.inl rfl) (.inl rfl)), (), [], trivial, ?_⟩
                      rw [← he, bentG_5 w5]
                      exact ⟨rfl, ⟨⟨rfl, rfl, rfl, (List.length_set ..).symm, nofun⟩, trivial⟩, ⟨tape_emb rfl, ⟨rfl, (List.length_set ..).symm, le_setRow hkl (.agg rfl (cells5 (.refl _) (.refl _) (.sl rfl (fun h => absurd rfl h) nofun (fun _ h => absurd h (Nat.not_lt_zero _))) (.refl _) (.refl _)))⟩, trivial⟩⟩
                    · conv => whnf
                      have w6 : 5 < (t1.n 7).1 := by
                        have e : ∀ n : Int, ((t1.n 7).1 == n) = false → (t1.n 7).1 ≠ n := fun n h h2 => by rw [h2] at h; simp at h
                        have a0 := e 0 w0
                        have a1 := e 1 w1
                        have a2 := e 2 w2
                        have a3 := e 3 w3
                        have a4 := e 4 w4
                        have a5 := e 5 w5
                        omega
                      refine loops_intro (ct := []) cfgOK (by decide +kernel) (fun j : Nat => ⟨[(5, .osl 1 0 (l.length + j) false)], [(0, some (tapeO (t1.n 7).2)), (1, some (.row 5 (l.length + j) (setG (rowG clkV clk0 (moreC l)) 6 (hdV c d)))), (2, some (hdP c d)), (3, some (hdC c d))], 4⟩)
                        (fun j => l.length + j ≤ 17) (fun j => 17 - (l.length + j)) 0 [] (by omega)
                        ⟨rfl, ⟨⟨rfl, rfl, rfl, rfl, nofun⟩, trivial⟩, ⟨tape_emb rfl, ⟨rfl, rfl, more_first l _ c d⟩, ⟨rfl, rfl, rfl, rfl, rfl⟩, ⟨rfl, rfl, rfl, rfl, rfl⟩, trivial⟩⟩ ?_
                      intro j hj
                      conv => whnf
                      refine bcase_of (fun h6 => ?_) (fun h6 => ?_)
                      · have h6 : ((l.length + j : Nat) : Int) ≤ 16 := of_decide_eq_true h6
                        conv => whnf
                        refine ⟨by show ((l.length + j) + 1) * 72 ≤ 140737488355328; omega, ?_⟩
                        conv => whnf
                        exact ⟨j + 1, [(1, some 11)], by omega, by omega, ⟨rfl, ⟨⟨rfl, rfl, rfl, rfl, nofun⟩, trivial⟩, ⟨tape_emb rfl, ⟨rfl, rfl, le_snocG (fun _ _ => .refl _) (more_at l _ hkl (l.length + j) (by omega) (by omega))⟩, ⟨rfl, rfl, rfl, rfl, rfl⟩, ⟨rfl, rfl, rfl, rfl, rfl⟩, trivial⟩⟩⟩
                      · have h6 : ¬ ((l.length + j : Nat) : Int) ≤ 16 := of_decide_eq_false h6
                        have hl17 : l.length + j = (moreC l).length := by rw [moreC_len]; omega
                        conv => whnf
                        refine ⟨1, [(2, setG (rowG clkV clk0 (moreC l)) 6 (.agg [iV c.kind, .sl 1 c.par.length false (rowG iV 0 c.par), .raw 3 d.ac c.ch.length d.cc, iV c.low, iV c.high])), (3, setG (rowG clkV clk0 (moreC l)) 6 (.agg [iV c.kind, .sl 1 c.par.length false (rowG iV 0 c.par), .sl 1 c.ch.length false (rowG iV 0 c.ch), iV c.low, iV c.high]))], ?_⟩
                        refine ⟨outOK_row rfl rfl rfl (fun i h => setG_ne _ _ h) (fun _ => rfl) rfl (cells5 (.inl rfl) (.inr ⟨⟨2, rfl⟩, rfl⟩) (.inl rfl) (.inl rfl) (.inl rfl)), outOK_row rfl rfl rfl (fun i h => setG_ne _ _ h) (fun _ => rfl) rfl (cells5 (.inl rfl) (.inl rfl) (.inr ⟨⟨3, rfl⟩, rfl⟩) (.inl rfl) (.inl rfl)), (), [], trivial, ?_⟩
                        rw [← he, bentG_6 w6]
                        exact ⟨rfl, ⟨⟨rfl, rfl, rfl, hl17, nofun⟩, trivial⟩, ⟨tape_emb rfl, ⟨rfl, hl17, more_last l _ hkl hc⟩, trivial⟩⟩
        · intro _ _
          conv => whnf
          exact ⟨embV_le (.refl _) rfl, ⟨tape_emb rfl, trivial⟩⟩
      · refine cut_out (ct := []) (ct' := []) cfgOK (by decide +kernel) (by decide +kernel) (fun _ : Unit => ⟨[(5, .osl 1 0 e.1.length false)], [(0, some (tapeO e.2)), (1, some (.row 5 e.1.length (rowG clkV clk0 e.1)))], 2⟩) (fun _ => True) ?_ ?_
        · conv => whnf
          refine ⟨_, _, n_spec t1 ok1 7 (by unfold InI64; decide), ?_⟩
          conv => whnf
          refine bcase_of (fun w0 => ?_) (fun w0 => ?_)
          · conv => whnf
            refine ⟨_, _, range_spec (t1.n 7).2 ok2 0 6 (by decide), ?_⟩
            conv => whnf
            refine ⟨1, [(2, setG (rowG clkV clk0 l) 7 (.agg [iV ((t1.n 7).2.range 0 6).1, .sl 1 c.par.length false (rowG iV 0 c.par), .raw 3 d.ac c.ch.length d.cc, iV c.low, iV c.high])), (3, setG (rowG clkV clk0 l) 7 (.agg [iV ((t1.n 7).2.range 0 6).1, .sl 1 c.par.length false (rowG iV 0 c.par), .sl 1 c.ch.length false (rowG iV 0 c.ch), iV c.low, iV c.high]))], ?_⟩
            refine ⟨outOK_row rfl rfl rfl (fun i h => by rw [setG_ne _ _ h]; exact hdQ_ne l _ c d h) (fun _ => rfl) rfl (cells5 (.inl rfl) (.inr ⟨⟨2, rfl⟩, rfl⟩) (.inl rfl) (.inl rfl) (.inl rfl)), outOK_row rfl rfl rfl (fun i h => setG_ne _ _ h) (fun _ => rfl) rfl (cells5 (.inl rfl) (.inl rfl) (.inr ⟨⟨3, rfl⟩, rfl⟩) (.inl rfl) (.inl rfl)), (), [], trivial, ?_⟩
            rw [← he, bentG_0 w0]
            exact ⟨rfl, ⟨⟨rfl, rfl, rfl, (List.length_set ..).symm, nofun⟩, trivial⟩, ⟨tape_emb rfl, ⟨rfl, (List.length_set ..).symm, le_setRow hkl (.refl _)⟩, trivial⟩⟩
          · conv => whnf
            refine bcase_of (fun w1 => ?_) (fun w1 => ?_)
            · conv => whnf
              refine ⟨_, _, range_spec (t1.n 7).2 ok2 (-1) l.length (by omega), ?_⟩
              conv => whnf
              refine ⟨⟨rfl, rfl, rfl, by show (c.par.length + 1) * 8 ≤ 140737488355328; omega⟩, ?_⟩
              conv => whnf
              refine ⟨1, [(3, setG (rowG clkV clk0 l) 7 (.agg [iV c.kind, .sl 1 (c.par.length + 1) false (appG c.par.length (rowG iV 0 c.par) (listG [iV ((t1.n 7).2.range (-1) l.length).1])), .sl 1 c.ch.length false (rowG iV 0 c.ch), iV c.low, iV c.high]))], ?_⟩
              refine ⟨outOK_row rfl rfl rfl (fun i h => by rw [setG_ne _ _ h]; exact hdQ_ne l _ c d h) (fun _ => rfl) rfl (cells5 (.inl rfl) (.inl rfl) (.inr ⟨⟨3, rfl⟩, rfl⟩) (.inl rfl) (.inl rfl)), (), [], trivial, ?_⟩
              rw [← he, bentG_1 w1]
              exact ⟨rfl, ⟨⟨rfl, rfl, rfl, (List.length_set ..).symm, nofun⟩, trivial⟩, ⟨tape_emb rfl, ⟨rfl, (List.length_set ..).symm, le_setRow hkl (.agg rfl (cells5 (.refl _) (.sl (by simp) (fun _ => rfl) nofun (le_app rfl (.refl _))) (.refl _) (.refl _) (.refl _)))⟩, trivial⟩⟩
            · conv => whnf
              refine bcase_of (fun w2 => ?_) (fun w2 => ?_)
              · conv => whnf
                refine ⟨_, _, pick_lit (t1.n 7).2 ok2 [0, 1, 64, 65, 2] true (by decide), ?_⟩
                conv => whnf
                refine ⟨⟨rfl, rfl, rfl, by show (c.ch.length + 1) * 8 ≤ 140737488355328; omega⟩, ?_⟩
                conv => whnf
                refine ⟨1, [(2, setG (rowG clkV clk0 l) 7 (.agg [iV c.kind, .sl 1 c.par.length false (rowG iV 0 c.par), .sl 1 (c.ch.length + 1) false (appG c.ch.length (rowG iV 0 c.ch) (listG [iV ((t1.n 7).2.pick [0, 1, 64, 65, 2]).1])), iV c.low, iV c.high]))], ?_⟩
                refine ⟨outOK_row rfl rfl rfl (fun i h => by rw [setG_ne _ _ h]; exact hdQ_ne l _ c d h) (fun _ => rfl) rfl (cells5 (.inl rfl) (.inr ⟨⟨2, rfl⟩, rfl⟩) (.inl rfl) (.inl rfl) (.inl rfl)), (), [], trivial, ?_⟩
                rw [← he, bentG_2 w2]
                exact ⟨rfl, ⟨⟨rfl, rfl, rfl, (List.length_set ..).symm, nofun⟩, trivial⟩, ⟨tape_emb rfl, ⟨rfl, (List.length_set ..).symm, le_setRow hkl (.agg rfl (cells5 (.refl _) (.refl _) (.sl (by simp) (fun _ => rfl) nofun (le_app rfl (.refl _))) (.refl _) (.refl _)))⟩, trivial⟩⟩
              · conv => whnf
                refine bcase_of (fun w3 => ?_) (fun w3 => ?_)
                · conv => whnf
                  refine ⟨by show InI64 (c.high + 1); unfold InI64; omega, ?_⟩
                  conv => whnf
                  refine ⟨_, _, pick_lit (t1.n 7).2 ok2 [-1, 0, c.high + 1] true (by simp), ?_⟩
                  conv => whnf
                  refine ⟨1, [(2, setG (rowG clkV clk0 l) 7 (.agg [iV c.kind, .sl 1 c.par.length false (rowG iV 0 c.par), .raw 3 d.ac c.ch.length d.cc, iV ((t1.n 7).2.pick [-1, 0, c.high + 1]).1, iV c.high])), (3, setG (rowG clkV clk0 l) 7 (.agg [iV c.kind, .sl 1 c.par.length false (rowG iV 0 c.par), .sl 1 c.ch.length false (rowG iV 0 c.ch), iV ((t1.n 7).2.pick [-1, 0, c.high + 1]).1, iV c.high]))], ?_⟩
                  refine ⟨outOK_row rfl rfl rfl (fun i h => by rw [setG_ne _ _ h]; exact hdQ_ne l _ c d h) (fun _ => rfl) rfl (cells5 (.inl rfl) (.inr ⟨⟨2, rfl⟩, rfl⟩) (.inl rfl) (.inl rfl) (.inl rfl)), outOK_row rfl rfl rfl (fun i h => setG_ne _ _ h) (fun _ => rfl) rfl (cells5 (.inl rfl) (.inl rfl) (.inr ⟨⟨3, rfl⟩, rfl⟩) (.inl rfl) (.inl rfl)), (), [], trivial, ?_⟩
                  rw [← he, bentG_3 w3]
                  exact ⟨rfl, ⟨⟨rfl, rfl, rfl, (List.length_set ..).symm, nofun⟩, trivial⟩, ⟨tape_emb rfl, ⟨rfl, (List.length_set ..).symm, le_setRow hkl (.refl _)⟩, trivial⟩⟩
                · conv => whnf
                  refine bcase_of (fun w4 => ?_) (fun w4 => ?_)
                  · conv => whnf
                    refine ⟨_, _, pick_lit (t1.n 7).2 ok2 [-1, 0, 4000000000, 4000000001] true (by decide), ?_⟩
                    conv => whnf
                    refine ⟨1, [(2, setG (rowG clkV clk0 l) 7 (.agg [iV c.kind, .sl 1 c.par.length false (rowG iV 0 c.par), .raw 3 d.ac c.ch.length d.cc, iV c.low, iV ((t1.n 7).2.pick [-1, 0, 4000000000, 4000000001]).1])), (3, setG (rowG clkV clk0 l) 7 (.agg [iV c.kind, .sl 1 c.par.length false (rowG iV 0 c.par), .sl 1 c.ch.length false (rowG iV 0 c.ch), iV c.low, iV ((t1.n 7).2.pick [-1, 0, 4000000000, 4000000001]).1]))], ?_⟩
                    refine ⟨outOK_row rfl rfl rfl (fun i h => by rw [setG_ne _ _ h]; exact hdQ_ne l _ c d h) (fun _ => rfl) rfl (cells5 (.inl rfl) (.inr ⟨⟨2, rfl⟩, rfl⟩) (.inl rfl) (.inl rfl) (.inl rfl)), outOK_row rfl rfl rfl (fun i h => setG_ne _ _ h) (fun _ => rfl) rfl (cells5 (.inl rfl) (.inl rfl) (.inr ⟨⟨3, rfl⟩, rfl⟩) (.inl rfl) (.inl rfl)), (), [], trivial, ?_⟩
                    rw [← he, bentG_4 w4]
                    exact ⟨rfl, ⟨⟨rfl, rfl, rfl, (List.length_set ..).symm, nofun⟩, trivial⟩, ⟨tape_emb rfl, ⟨rfl, (List.length_set ..).symm, le_setRow hkl (.refl _)⟩, trivial⟩⟩
                  · conv => whnf
                    refine bcase_of (fun w5 => ?_) (fun w5 => ?_)
                    · conv => whnf
                      refine ⟨1, [(2, setG (rowG clkV clk0 l) 7 (.agg [iV c.kind, .sl 1 c.par.length false (rowG iV 0 c.par), .sl 0 0 true nilG, iV c.low, iV c.high]))], ?_⟩
                      refine ⟨outOK_row rfl rfl rfl (fun i h => by rw [setG_ne _ _ h]; exact hdQ_ne l _ c d h) (fun _ => rfl) rfl (cells5 (.inl rfl) (.inr ⟨⟨2, rfl⟩, rfl⟩) (.inl rfl) (.inl rfl) (.inl rfl)), (), [], trivial, ?_⟩
                      rw [← he, bentG_5 w5]
                      exact ⟨rfl, ⟨⟨rfl, rfl, rfl, (List.length_set ..).symm, nofun⟩, trivial⟩, ⟨tape_emb rfl, ⟨rfl, (List.length_set ..).symm, le_setRow hkl (.agg rfl (cells5 (.refl _) (.refl _) (.sl rfl (fun h => absurd rfl h) nofun (fun _ h => absurd h (Nat.not_lt_zero _))) (.refl _) (.refl _)))⟩, trivial⟩⟩
                    · conv => whnf
                      have w6 : 5 < (t1.n 7).1 := by
                        have e : ∀ n : Int, ((t1.n 7).1 == n) = false → (t1.n 7).1 ≠ n := fun n h h2 => by rw [h2] at h; simp at h
                        have a0 := e 0 w0
                        have a1 := e 1 w1
                        have a2 := e 2 w2
                        have a3 := e 3 w3
                        have a4 := e 4 w4
                        have a5 := e 5 w5
                        omega
                      refine loops_intro (ct := []) cfgOK (by decide +kernel) (fun j : Nat => ⟨[(5, .osl 1 0 (l.length + j) false)], [(0, some (tapeO (t1.n 7).2)), (1, some (.row 5 (l.length + j) (setG (rowG clkV clk0 (moreC l)) 7 (hdV c d)))), (2, some (hdP c d)), (3, some (hdC c d))], 4⟩)
                        (fun j => l.length + j ≤ 17) (fun j => 17 - (l.length + j)) 0 [] (by omega)
                        ⟨rfl, ⟨⟨rfl, rfl, rfl, rfl, nofun⟩, trivial⟩, ⟨tape_emb rfl, ⟨rfl, rfl, more_first l _ c d⟩, ⟨rfl, rfl, rfl, rfl, rfl⟩, ⟨rfl, rfl, rfl, rfl, rfl⟩, trivial⟩⟩ ?_
                      intro j hj
                      conv => whnf
                      refine bcase_of (fun h6 => ?_) (fun h6 => ?_)
                      · have h6 : ((l.length + j : Nat) : Int) ≤ 16 := of_decide_eq_true h6
                        conv => whnf
                        refine ⟨by show ((l.length + j) + 1) * 72 ≤ 140737488355328; omega, ?_⟩
                        conv => whnf
                        exact ⟨j + 1, [(1, some 11)], by omega, by omega, ⟨rfl, ⟨⟨rfl, rfl, rfl, rfl, nofun⟩, trivial⟩, ⟨tape_emb rfl, ⟨rfl, rfl, le_snocG (fun _ _ => .refl _) (more_at l _ hkl (l.length + j) (by omega) (by omega))⟩, ⟨rfl, rfl, rfl, rfl, rfl⟩, ⟨rfl, rfl, rfl, rfl, rfl⟩, trivial⟩⟩⟩
                      · have h6 : ¬ ((l.length + j : Nat) : Int) ≤ 16 := of_decide_eq_false h6
                        have hl17 : l.length + j = (moreC l).length := by rw [moreC_len]; omega
                        conv => whnf
                        refine ⟨1, [(2, setG (rowG clkV clk0 (moreC l)) 7 (.agg [iV c.kind, .sl 1 c.par.length false (rowG iV 0 c.par), .raw 3 d.ac c.ch.length d.cc, iV c.low, iV c.high])), (3, setG (rowG clkV clk0 (moreC l)) 7 (.agg [iV c.kind, .sl 1 c.par.length false (rowG iV 0 c.par), .sl 1 c.ch.length false (rowG iV 0 c.ch), iV c.low, iV c.high]))], ?_⟩
                        refine ⟨outOK_row rfl rfl rfl (fun i h => setG_ne _ _ h) (fun _ => rfl) rfl (cells5 (.inl rfl) (.inr ⟨⟨2, rfl⟩, rfl⟩) (.inl rfl) (.inl rfl) (.inl rfl)), outOK_row rfl rfl rfl (fun i h => setG_ne _ _ h) (fun _ => rfl) rfl (cells5 (.inl rfl) (.inl rfl) (.inr ⟨⟨3, rfl⟩, rfl⟩) (.inl rfl) (.inl rfl)), (), [], trivial, ?_⟩
                        rw [← he, bentG_6 w6]
                        exact ⟨rfl, ⟨⟨rfl, rfl, rfl, hl17, nofun⟩, trivial⟩, ⟨tape_emb rfl, ⟨rfl, hl17, more_last l _ hkl hc⟩, trivial⟩⟩
        · intro _ _
          conv => whnf
          exact ⟨embV_le (.refl _) rfl, ⟨tape_emb rfl, trivial⟩⟩
      · refine cut_out (ct := []) (ct' := []) cfgOK (by decide +kernel) (by decide +kernel) (fun _ : Unit => ⟨[(5, .osl 1 0 e.1.length false)], [(0, some (tapeO e.2)), (1, some (.row 5 e.1.length (rowG clkV clk0 e.1)))], 2⟩) (fun _ => True) ?_ ?_
        · conv => whnf
          refine ⟨_, _, n_spec t1 ok1 7 (by unfold InI64; decide), ?_⟩
          conv => whnf
          refine bcase_of (fun w0 => ?_) (fun w0 => ?_)
          · conv => whnf
            refine ⟨_, _, range_spec (t1.n 7).2 ok2 0 6 (by decide), ?_⟩
            conv => whnf
            refine ⟨1, [(2, setG (rowG clkV clk0 l) 8 (.agg [iV ((t1.n 7).2.range 0 6).1, .sl 1 c.par.length false (rowG iV 0 c.par), .raw 3 d.ac c.ch.length d.cc, iV c.low, iV c.high])), (3, setG (rowG clkV clk0 l) 8 (.agg [iV ((t1.n 7).2.range 0 6).1, .sl 1 c.par.length false (rowG iV 0 c.par), .sl 1 c.ch.length false (rowG iV 0 c.ch), iV c.low, iV c.high]))], ?_⟩
            refine ⟨outOK_row rfl rfl rfl (fun i h => by rw [setG_ne _ _ h]; exact hdQ_ne l _ c d h) (fun _ => rfl) rfl (cells5 (.inl rfl) (.inr ⟨⟨2, rfl⟩, rfl⟩) (.inl rfl) (.inl rfl) (.inl rfl)), outOK_row rfl rfl rfl (fun i h => setG_ne _ _ h) (fun _ => rfl) rfl (cells5 (.inl rfl) (.inl rfl) (.inr ⟨⟨3, rfl⟩, rfl⟩) (.inl rfl) (.inl rfl)), (), [], trivial, ?_⟩
            rw [← he, bentG_0 w0]
            exact ⟨rfl, ⟨⟨rfl, rfl, rfl, (List.length_set ..).symm, nofun⟩, trivial⟩, ⟨tape_emb rfl, ⟨rfl, (List.length_set ..).symm, le_setRow hkl (.refl _)⟩, trivial⟩⟩
          · conv => whnf
            refine bcase_of (fun w1 => ?_) (fun w1 => ?_)
            · conv => whnf
              refine ⟨_, _, range_spec (t1.n 7).2 ok2 (-1) l.length (by omega), ?_⟩
              conv => whnf
              refine ⟨⟨rfl, rfl, rfl, by show (c.par.length + 1) * 8 ≤ 140737488355328; omega⟩, ?_⟩
              conv => whnf
              refine ⟨1, [(3, setG (rowG clkV clk0 l) 8 (.agg [iV c.kind, .sl 1 (c.par.length + 1) false (appG c.par.length (rowG iV 0 c.par) (listG [iV ((t1.n 7).2.range (-1) l.length).1])), .sl 1 c.ch.length false (rowG iV 0 c.ch), iV c.low, iV c.high]))], ?_⟩
              refine ⟨outOK_row rfl rfl rfl (fun i h => by rw [setG_ne _ _ h]; exact hdQ_ne l _ c d h) (fun _ => rfl) rfl (cells5 (.inl rfl) (.inl rfl) (.inr ⟨⟨3, rfl⟩, rfl⟩) (.inl rfl) (.inl rfl)), (), [], trivial, ?_⟩
              rw [← he, bentG_1 w1]
              exact ⟨rfl, ⟨⟨rfl, rfl, rfl, (List.length_set ..).symm, nofun⟩, trivial⟩, ⟨tape_emb rfl, ⟨rfl, (List.length_set ..).symm, le_setRow hkl (.agg rfl (cells5 (.refl _) (.sl (by simp) (fun _ => rfl) nofun (le_app rfl (.refl _))) (.refl _) (.refl _) (.refl _)))⟩, trivial⟩⟩
            · conv => whnf
              refine bcase_of (fun w2 => ?_) (fun w2 => ?_)
              · conv => whnf
                refine ⟨_, _, pick_lit (t1.n 7).2 ok2 [0, 1, 64, 65, 2] true (by decide), ?_⟩
                conv => whnf
                refine ⟨⟨rfl, rfl, rfl, by show (c.ch.length + 1) * 8 ≤ 140737488355328; omega⟩, ?_⟩
                conv => whnf
                refine ⟨1, [(2, setG (rowG clkV clk0 l) 8 (.agg [iV c.kind, .sl 1 c.par.length false (rowG iV 0 c.par), .sl 1 (c.ch.length + 1) false (appG c.ch.length (rowG iV 0 c.ch) (listG [iV ((t1.n 7).2.pick [0, 1, 64, 65, 2]).1])), iV c.low, iV c.high]))], ?_⟩
                refine ⟨outOK_row rfl rfl rfl (fun i h => by rw [setG_ne _ _ h]; exact hdQ_ne l _ c d h) (fun _ => rfl) rfl (cells5 (.inl rfl) (.inr ⟨⟨2, rfl⟩, rfl⟩) (.inl rfl) (.inl rfl) (.inl rfl)), (), [], trivial, ?_⟩
                rw [← he, bentG_2 w2]
                exact ⟨rfl, ⟨⟨rfl, rfl, rfl, (List.length_set ..).symm, nofun⟩, trivial⟩, ⟨tape_emb rfl, ⟨rfl, (List.length_set ..).symm, le_setRow hkl (.agg rfl (cells5 (.refl _) (.refl _) (.sl (by simp) (fun _ => rfl) nofun (le_app rfl (.refl _))) (.refl _) (.refl _)))⟩, trivial⟩⟩
              · conv => whnf
                refine bcase_of (fun w3 => ?_) (fun w3 => ?_)
                · conv => whnf
                  refine ⟨by show InI64 (c.high + 1); unfold InI64; omega, ?_⟩
                  conv => whnf
                  refine ⟨_, _, pick_lit (t1.n 7).2 ok2 [-1, 0, c.high + 1] true (by simp), ?_⟩
                  conv => whnf
                  refine ⟨1, [(2, setG (rowG clkV clk0 l) 8 (.agg [iV c.kind, .sl 1 c.par.length false (rowG iV 0 c.par), .raw 3 d.ac c.ch.length d.cc, iV ((t1.n 7).2.pick [-1, 0, c.high + 1]).1, iV c.high])), (3, setG (rowG clkV clk0 l) 8 (.agg [iV c.kind, .sl 1 c.par.length false (rowG iV 0 c.par), .sl 1 c.ch.length false (rowG iV 0 c.ch), iV ((t1.n 7).2.pick [-1, 0, c.high + 1]).1, iV c.high]))], ?_⟩
                  refine ⟨outOK_row rfl rfl rfl (fun i h => by rw [setG_ne _ _ h]; exact hdQ_ne l _ c d h) (fun _ => rfl) rfl (cells5 (.inl rfl) (.inr ⟨⟨2, rfl⟩, rfl⟩) (.inl rfl) (.inl rfl) (.inl rfl)), outOK_row rfl rfl rfl (fun i h => setG_ne _ _ h) (fun _ => rfl) rfl (cells5 (.inl rfl) (.inl rfl) (.inr ⟨⟨3, rfl⟩, rfl⟩) (.inl rfl) (.inl rfl)), (), [], trivial, ?_⟩
                  rw [← he, bentG_3 w3]
                  exact ⟨rfl, ⟨⟨rfl, rfl, rfl, (List.length_set ..).symm, nofun⟩, trivial⟩, ⟨tape_emb rfl, ⟨rfl, (List.length_set ..).symm, le_setRow hkl (.refl _)⟩, trivial⟩⟩
                · conv => whnf
                  refine bcase_of (fun w4 => ?_) (fun w4 => ?_)
                  · conv => whnf
                    refine ⟨_, _, pick_lit (t1.n 7).2 ok2 [-1, 0, 4000000000, 4000000001] true (by decide), ?_⟩
                    conv => whnf
                    refine ⟨1, [(2, setG (rowG clkV clk0 l) 8 (.agg [iV c.kind, .sl 1 c.par.length false (rowG iV 0 c.par), .raw 3 d.ac c.ch.length d.cc, iV c.low, iV ((t1.n 7).2.pick [-1, 0, 4000000000, 4000000001]).1])), (3, setG (rowG clkV clk0 l) 8 (.agg [iV c.kind, .sl 1 c.par.length false (rowG iV 0 c.par), .sl 1 c.ch.length false (rowG iV 0 c.ch), iV c.low, iV ((t1.n 7).2.pick [-1, 0, 4000000000, 4000000001]).1]))], ?_⟩
                    refine ⟨outOK_row rfl rfl rfl (fun i h => by rw [setG_ne _ _ h]; exact hdQ_ne l _ c d h) (fun _ => rfl) rfl (cells5 (.inl rfl) (.inr ⟨⟨2, rfl⟩, rfl⟩) (.inl rfl) (.inl rfl) (.inl rfl)), outOK_row rfl rfl rfl (fun i h => setG_ne _ _ h) (fun _ => rfl) rfl (cells5 (.inl rfl) (.inl rfl) (.inr ⟨⟨3, rfl⟩, rfl⟩) (.inl rfl) (.inl rfl)), (), [], trivial, ?_⟩
                    rw [← he, bentG_4 w4]
                    exact ⟨rfl, ⟨⟨rfl, rfl, rfl, (List.length_set ..).symm, nofun⟩, trivial⟩, ⟨tape_emb rfl, ⟨rfl, (List.length_set ..).symm, le_setRow hkl (.refl _)⟩, trivial⟩⟩
                  · conv => whnf
                    refine bcase_of (fun w5 => ?_) (fun w5 => ?_)
                    · conv => whnf
                      refine ⟨1, [(2, setG (rowG clkV clk0 l) 8 (.agg [iV c.kind, .sl 1 c.par.length false (rowG iV 0 c.par), .sl 0 0 true nilG, iV c.low, iV c.high]))], ?_⟩
                      refine ⟨outOK_row rfl rfl rfl (fun i h => by rw [setG_ne _ _ h]; exact hdQ_ne l _ c d h) (fun _ => rfl) rfl (cells5 (.inl rfl) (.inr ⟨⟨2, rfl⟩, rfl⟩) (.inl rfl) (.inl rfl) (.inl rfl)), (), [], trivial, ?_⟩
                      rw [← he, bentG_5 w5]
                      exact ⟨rfl, ⟨⟨rfl, rfl, rfl, (List.length_set ..).symm, nofun⟩, trivial⟩, ⟨tape_emb rfl, ⟨rfl, (List.length_set ..).symm, le_setRow hkl (.agg rfl (cells5 (.refl _) (.refl _) (.sl rfl (fun h => absurd rfl h) nofun (fun _ h => absurd h (Nat.not_lt_zero _))) (.refl _) (.refl _)))⟩, trivial⟩⟩
                    · conv => whnf
                      have w6 : 5 < (t1.n 7).1 := by
                        have e : ∀ n : Int, ((t1.n 7).1 == n) = false → (t1.n 7).1 ≠ n := fun n h h2 => by rw [h2] at h; simp at h
                        have a0 := e 0 w0
                        have a1 := e 1 w1
                        have a2 := e 2 w2
                        have a3 := e 3 w3
                        have a4 := e 4 w4
                        have a5 := e 5 w5
                        omega
                      refine loops_intro (ct := []) cfgOK (by decide +kernel) (fun j : Nat => ⟨[(5, .osl 1 0 (l.length + j) false)], [(0, some (tapeO (t1.n 7).2)), (1, some (.row 5 (l.length + j) (setG (rowG clkV clk0 (moreC l)) 8 (hdV c d)))), (2, some (hdP c d)), (3, some (hdC c d))], 4⟩)
                        (fun j => l.length + j ≤ 17) (fun j => 17 - (l.length + j)) 0 [] (by omega)
                        ⟨rfl, ⟨⟨rfl, rfl, rfl, rfl, nofun⟩, trivial⟩, ⟨tape_emb rfl, ⟨rfl, rfl, more_first l _ c d⟩, ⟨rfl, rfl, rfl, rfl, rfl⟩, ⟨rfl, rfl, rfl, rfl, rfl⟩, trivial⟩⟩ ?_
                      intro j hj
                      conv => whnf
                      refine bcase_of (fun h6 => ?_) (fun h6 => ?_)
                      · have h6 : ((l.length + j : Nat) : Int) ≤ 16 := of_decide_eq_true h6
                        conv => whnf
                        refine ⟨by show ((l.length + j) + 1) * 72 ≤ 140737488355328; omega, ?_⟩
                        conv => whnf
                        exact ⟨j + 1, [(1, some 11)], by omega, by omega, ⟨rfl, ⟨⟨rfl, rfl, rfl, rfl, nofun⟩, trivial⟩, ⟨tape_emb rfl, ⟨rfl, rfl, le_snocG (fun _ _ => .refl _) (more_at l _ hkl (l.length + j) (by omega) (by omega))⟩, ⟨rfl, rfl, rfl, rfl, rfl⟩, ⟨rfl, rfl, rfl, rfl, rfl⟩, trivial⟩⟩⟩
                      · have h6 : ¬ ((l.length + j : Nat) : Int) ≤ 16 := of_decide_eq_false h6
                        have hl17 : l.length + j = (moreC l).length := by rw [moreC_len]; omega
                        conv => whnf
                        refine ⟨1, [(2, setG (rowG clkV clk0 (moreC l)) 8 (.agg [iV c.kind, .sl 1 c.par.length false (rowG iV 0 c.par), .raw 3 d.ac c.ch.length d.cc, iV c.low, iV c.high])), (3, setG (rowG clkV clk0 (moreC l)) 8 (.agg [iV c.kind, .sl 1 c.par.length false (rowG iV 0 c.par), .sl 1 c.ch.length false (rowG iV 0 c.ch), iV c.low, iV c.high]))], ?_⟩
                        refine ⟨outOK_row rfl rfl rfl (fun i h => setG_ne _ _ h) (fun _ => rfl) rfl (cells5 (.inl rfl) (.inr ⟨⟨2, rfl⟩, rfl⟩) (.inl rfl) (.inl rfl) (.inl rfl)), outOK_row rfl rfl rfl (fun i h => setG_ne _ _ h) (fun _ => rfl) rfl (cells5 (.inl rfl) (.inl rfl) (.inr ⟨⟨3, rfl⟩, rfl⟩) (.inl rfl) (.inl rfl)), (), [], trivial, ?_⟩
                        rw [← he, bentG_6 w6]
                        exact ⟨rfl, ⟨⟨rfl, rfl, rfl, hl17, nofun⟩, trivial⟩, ⟨tape_emb rfl, ⟨rfl, hl17, more_last l _ hkl hc⟩, trivial⟩⟩
        · intro _ _
          conv => whnf
          exact ⟨embV_le (.refl _) rfl, ⟨tape_emb rfl, trivial⟩⟩
      · refine cut_out (ct := []) (ct' := []) cfgOK (by decide +kernel) (by decide +kernel) (fun _ : Unit => ⟨[(5, .osl 1 0 e.1.length false)], [(0, some (tapeO e.2)), (1, some (.row 5 e.1.length (rowG clkV clk0 e.1)))], 2⟩) (fun _ => True) ?_ ?_
        · conv => whnf
          refine ⟨_, _, n_spec t1 ok1 7 (by unfold InI64; decide), ?_⟩
          conv => whnf
          refine bcase_of (fun w0 => ?_) (fun w0 => ?_)
          · conv => whnf
            refine ⟨_, _, range_spec (t1.n 7).2 ok2 0 6 (by decide), ?_⟩
            conv => whnf
            refine ⟨1, [(2, setG (rowG clkV clk0 l) 9 (.agg [iV ((t1.n 7).2.range 0 6).1, .sl 1 c.par.length false (rowG iV 0 c.par), .raw 3 d.ac c.ch.length d.cc, iV c.low, iV c.high])), (3, setG (rowG clkV clk0 l) 9 (.agg [iV ((t1.n 7).2.range 0 6).1, .sl 1 c.par.length false (rowG iV 0 c.par), .sl 1 c.ch.length false (rowG iV 0 c.ch), iV c.low, iV c.high]))], ?_⟩
            refine ⟨outOK_row rfl rfl rfl (fun i h => by rw [setG_ne _ _ h]; exact hdQ_ne l _ c d h) (fun _ => rfl) rfl (cells5 (.inl rfl) (.inr ⟨⟨2, rfl⟩, rfl⟩) (.inl rfl) (.inl rfl) (.inl rfl)), outOK_row rfl rfl rfl (fun i h => setG_ne _ _ h) (fun _ => rfl) rfl (cells5 (.inl rfl) (.inl rfl) (.inr ⟨⟨3, rfl⟩, rfl⟩) (.inl rfl) (.inl rfl)), (), [], trivial, ?_⟩
            rw [← he, bentG_0 w0]
            exact ⟨rfl, ⟨⟨rfl, rfl, rfl, (List.length_set ..).symm, nofun⟩, trivial⟩, ⟨tape_emb rfl, ⟨rfl, (List.length_set ..).symm, le_setRow hkl (.refl _)⟩, trivial⟩⟩
          · conv => whnf
            refine bcase_of (fun w1 => ?_) (fun w1 => ?_)
            · conv => whnf
              refine ⟨_, _, range_spec (t1.n 7).2 ok2 (-1) l.length (by omega), ?_⟩
              conv => whnf
              refine ⟨⟨rfl, rfl, rfl, by show (c.par.length + 1) * 8 ≤ 140737488355328; omega⟩, ?_⟩
              conv => whnf
              refine ⟨1, [(3, setG (rowG clkV clk0 l) 9 (.agg [iV c.kind, .sl 1 (c.par.length + 1) false (appG c.par.length (rowG iV 0 c.par) (listG [iV ((t1.n 7).2.range (-1) l.length).1])), .sl 1 c.ch.length false (rowG iV 0 c.ch), iV c.low, iV c.high]))], ?_⟩
              refine ⟨outOK_row rfl rfl rfl (fun i h => by rw [setG_ne _ _ h]; exact hdQ_ne l _ c d h) (fun _ => rfl) rfl (cells5 (.inl rfl) (.inl rfl) (.inr ⟨⟨3, rfl⟩, rfl⟩) (.inl rfl) (.inl rfl)), (), [], trivial, ?_⟩
              rw [← he, bentG_1 w1]
              exact ⟨rfl, ⟨⟨rfl, rfl, rfl, (List.length_set ..).symm, nofun⟩, trivial⟩, ⟨tape_emb rfl, ⟨rfl, (List.length_set ..).symm, le_setRow hkl (.agg rfl (cells5 (.refl _) (.sl (by simp) (fun _ => rfl) nofun (le_app rfl (.refl _))) (.refl _) (.refl _) (.refl _)))⟩, trivial⟩⟩
            · conv => whnf
              refine bcase_of (fun w2 => ?_) (fun w2 => ?_)
              · conv => whnf
                refine ⟨_, _, pick_lit (t1.n 7).2 ok2 [0, 1, 64, 65, 2] true (by decide), ?_⟩
                conv => whnf
                refine ⟨⟨rfl, rfl, rfl, by show (c.ch.length + 1) * 8 ≤ 140737488355328; omega⟩, ?_⟩
                conv => whnf
                refine ⟨1, [(2, setG (rowG clkV clk0 l) 9 (.agg [iV c.kind, .sl 1 c.par.length false (rowG iV 0 c.par), .sl 1 (c.ch.length + 1) false (appG c.ch.length (rowG iV 0 c.ch) (listG [iV ((t1.n 7).2.pick [0, 1, 64, 65, 2]).1])), iV c.low, iV c.high]))], ?_⟩
                refine ⟨outOK_row rfl rfl rfl (fun i h => by rw [setG_ne _ _ h]; exact hdQ_ne l _ c d h) (fun _ => rfl) rfl (cells5 (.inl rfl) (.inr ⟨⟨2, rfl⟩, rfl⟩) (.inl rfl) (.inl rfl) (.inl rfl)), (), [], trivial, ?_⟩
                rw [← he, bentG_2 w2]
                exact ⟨rfl, ⟨⟨rfl, rfl, rfl, (List.length_set ..).symm, nofun⟩, trivial⟩, ⟨tape_emb rfl, ⟨rfl, (List.length_set ..).symm, le_setRow hkl (.agg rfl (cells5 (.refl _) (.refl _) (.sl (by simp) (fun _ => rfl) nofun (le_app rfl (.refl _))) (.refl _) (.refl _)))⟩, trivial⟩⟩
              · conv => whnf
                refine bcase_of (fun w3 => ?_) (fun w3 => ?_)
                · conv => whnf
                  refine ⟨by show InI64 (c.high + 1); unfold InI64; omega, ?_⟩
                  conv => whnf
                  refine ⟨_, _, pick_lit (t1.n 7).2 ok2 [-1, 0, c.high + 1] true (by simp), ?_⟩
                  conv => whnf
                  refine ⟨1, [(2, setG (rowG clkV clk0 l) 9 (.agg [iV c.kind, .sl 1 c.par.length false (rowG iV 0 c.par), .raw 3 d.ac c.ch.length d.cc, iV ((t1.n 7).2.pick [-1, 0, c.high + 1]).1, iV c.high])), (3, setG (rowG clkV clk0 l) 9 (.agg [iV c.kind, .sl 1 c.par.length false (rowG iV 0 c.par), .sl 1 c.ch.length false (rowG iV 0 c.ch), iV ((t1.n 7).2.pick [-1, 0, c.high + 1]).1, iV c.high]))], ?_⟩
                  refine ⟨outOK_row rfl rfl rfl (fun i h => by rw [setG_ne _ _ h]; exact hdQ_ne l _ c d h) (fun _ => rfl) rfl (cells5 (.inl rfl) (.inr ⟨⟨2, rfl⟩, rfl⟩) (.inl rfl) (.inl rfl) (.inl rfl)), outOK_row rfl rfl rfl (fun i h => setG_ne _ _ h) (fun _ => rfl) rfl (cells5 (.inl rfl) (.inl rfl) (.inr ⟨⟨3, rfl⟩, rfl⟩) (.inl rfl) (.inl rfl)), (), [], trivial, ?_⟩
                  rw [← he, bentG_3 w3]
                  exact ⟨rfl, ⟨⟨rfl, rfl, rfl, (List.length_set ..).symm, nofun⟩, trivial⟩, ⟨tape_emb rfl, ⟨rfl, (List.length_set ..).symm, le_setRow hkl (.refl _)⟩, trivial⟩⟩
                · conv => whnf
                  refine bcase_of (fun w4 => ?_) (fun w4 => ?_)
                  · conv => whnf
                    refine ⟨_, _, pick_lit (t1.n 7).2 ok2 [-1, 0, 4000000000, 4000000001] true (by decide), ?_⟩
                    conv => whnf
                    refine ⟨1, [(2, setG (rowG clkV clk0 l) 9 (.agg [iV c.kind, .sl 1 c.par.length false (rowG iV 0 c.par), .raw 3 d.ac c.ch.length d.cc, iV c.low, iV ((t1.n 7).2.pick [-1, 0, 4000000000, 4000000001]).1])), (3, setG (rowG clkV clk0 l) 9 (.agg [iV c.kind, .sl 1 c.par.length false (rowG iV 0 c.par), .sl 1 c.ch.length false (rowG iV 0 c.ch), iV c.low, iV ((t1.n 7).2.pick [-1, 0, 4000000000, 4000000001]).1]))], ?_⟩
                    refine ⟨outOK_row rfl rfl rfl (fun i h => by rw [setG_ne _ _ h]; exact hdQ_ne l _ c d h) (fun _ => rfl) rfl (cells5 (.inl rfl) (.inr ⟨⟨2, rfl⟩, rfl⟩) (.inl rfl) (.inl rfl) (.inl rfl)), outOK_row rfl rfl rfl (fun i h => setG_ne _ _ h) (fun _ => rfl) rfl (cells5 (.inl rfl) (.inl rfl) (.inr ⟨⟨3, rfl⟩, rfl⟩) (.inl rfl) (.inl rfl)), (), [], trivial, ?_⟩
                    rw [← he, bentG_4 w4]
                    exact ⟨rfl, ⟨⟨rfl, rfl, rfl, (List.length_set ..).symm, nofun⟩, trivial⟩, ⟨tape_emb rfl, ⟨rfl, (List.length_set ..).symm, le_setRow hkl (.refl _)⟩, trivial⟩⟩
                  · conv => whnf
                    refine bcase_of (fun w5 => ?_) (fun w5 => ?_)
                    · conv => whnf
                      refine ⟨1, [(2, setG (rowG clkV clk0 l) 9 (.agg [iV c.kind, .sl 1 c.par.length false (rowG iV 0 c.par), .sl 0 0 true nilG, iV c.low, iV c.high]))], ?_⟩
                      refine ⟨outOK_row rfl rfl rfl (fun i h => by rw [setG_ne _ _ h]; exact hdQ_ne l _ c d h) (fun _ => rfl) rfl (cells5 (.inl rfl) (.inr ⟨⟨2, rfl⟩, rfl⟩) (.inl rfl) (.inl rfl) (.inl rfl)), (), [], trivial, ?_⟩
                      rw [← he, bentG_5 w5]
                      exact ⟨rfl, ⟨⟨rfl, rfl, rfl, (List.length_set ..).symm, nofun⟩, trivial⟩, ⟨tape_emb rfl, ⟨rfl, (List.length_set ..).symm, le_setRow hkl (.agg rfl (cells5 (.refl _) (.refl _) (.sl rfl (fun h => absurd rfl h) nofun (fun _ h => absurd h (Nat.not_lt_zero _))) (.refl _) (.refl _)))⟩, trivial⟩⟩
                    · conv => whnf
                      have w6 : 5 < (t1.n 7).1 := by
                        have e : ∀ n : Int, ((t1.n 7).1 == n) = false → (t1.n 7).1 ≠ n := fun n h h2 => by rw [h2] at h; simp at h
                        have a0 := e 0 w0
                        have a1 := e 1 w1
                        have a2 := e 2 w2
                        have a3 := e 3 w3
                        have a4 := e 4 w4
                        have a5 := e 5 w5
                        omega
                      refine loops_intro (ct := []) cfgOK (by decide +kernel) (fun j : Nat => ⟨[(5, .osl 1 0 (l.length + j) false)], [(0, some (tapeO (t1.n 7).2)), (1, some (.row 5 (l.length + j) (setG (rowG clkV clk0 (moreC l)) 9 (hdV c d)))), (2, some (hdP c d)), (3, some (hdC c d))], 4⟩)
                        (fun j => l.length + j ≤ 17) (fun j => 17 - (l.length + j)) 0 [] (by omega)
                        ⟨rfl, ⟨⟨rfl, rfl, rfl, rfl, nofun⟩, trivial⟩, ⟨tape_emb rfl, ⟨rfl, rfl, more_first l _ c d⟩, ⟨rfl, rfl, rfl, rfl, rfl⟩, ⟨rfl, rfl, rfl, rfl, rfl⟩, trivial⟩⟩ ?_
                      intro j hj
                      conv => whnf
                      refine bcase_of (fun h6 => ?_) (fun h6 => ?_)
                      · have h6 : ((l.length + j : Nat) : Int) ≤ 16 := of_decide_eq_true h6
                        conv => whnf
                        refine ⟨by show ((l.length + j) + 1) * 72 ≤ 140737488355328; omega, ?_⟩
                        conv => whnf
                        exact ⟨j + 1, [(1, some 11)], by omega, by omega, ⟨rfl, ⟨⟨rfl, rfl, rfl, rfl, nofun⟩, trivial⟩, ⟨tape_emb rfl, ⟨rfl, rfl, le_snocG (fun _ _ => .refl _) (more_at l _ hkl (l.length + j) (by omega) (by omega))⟩, ⟨rfl, rfl, rfl, rfl, rfl⟩, ⟨rfl, rfl, rfl, rfl, rfl⟩, trivial⟩⟩⟩
                      · have h6 : ¬ ((l.length + j : Nat) : Int) ≤ 16 := of_decide_eq_false h6
                        have hl17 : l.length + j = (moreC l).length := by rw [moreC_len]; omega
                        conv => whnf
                        refine ⟨1, [(2, setG (rowG clkV clk0 (moreC l)) 9 (.agg [iV c.kind, .sl 1 c.par.length false (rowG iV 0 c.par), .raw 3 d.ac c.ch.length d.cc, iV c.low, iV c.high])), (3, setG (rowG clkV clk0 (moreC l)) 9 (.agg [iV c.kind, .sl 1 c.par.length false (rowG iV 0 c.par), .sl 1 c.ch.length false (rowG iV 0 c.ch), iV c.low, iV c.high]))], ?_⟩
                        refine ⟨outOK_row rfl rfl rfl (fun i h => setG_ne _ _ h) (fun _ => rfl) rfl (cells5 (.inl rfl) (.inr ⟨⟨2, rfl⟩, rfl⟩) (.inl rfl) (.inl rfl) (.inl rfl)), outOK_row rfl rfl rfl (fun i h => setG_ne _ _ h) (fun _ => rfl) rfl (cells5 (.inl rfl) (.inl rfl) (.inr ⟨⟨3, rfl⟩, rfl⟩) (.inl rfl) (.inl rfl)), (), [], trivial, ?_⟩
                        rw [← he, bentG_6 w6]
                        exact ⟨rfl, ⟨⟨rfl, rfl, rfl, hl17, nofun⟩, trivial⟩, ⟨tape_emb rfl, ⟨rfl, hl17, more_last l _ hkl hc⟩, trivial⟩⟩
        · intro _ _
          conv => whnf
          exact ⟨embV_le (.refl _) rfl, ⟨tape_emb rfl, trivial⟩⟩
      · refine cut_out (ct := []) (ct' := []) cfgOK (by decide +kernel) (by decide +kernel) (fun _ : Unit => ⟨[(5, .osl 1 0 e.1.length false)], [(0, some (tapeO e.2)), (1, some (.row 5 e.1.length (rowG clkV clk0 e.1)))], 2⟩) (fun _ => True) ?_ ?_
        · conv => whnf
          refine ⟨_, _, n_spec t1 ok1 7 (by unfold InI64; decide), ?_⟩
          conv => whnf
          refine bcase_of (fun w0 => ?_) (fun w0 => ?_)
          · conv => whnf
            refine ⟨_, _, range_spec (t1.n 7).2 ok2 0 6 (by decide), ?_⟩
            conv => whnf
            refine ⟨1, [(2, setG (rowG clkV clk0 l) 10 (.agg [iV ((t1.n 7).2.range 0 6).1, .sl 1 c.par.length false (rowG iV 0 c.par), .raw 3 d.ac c.ch.length d.cc, iV c.low, iV c.high])), (3, setG (rowG clkV clk0 l) 10 (.agg [iV ((t1.n 7).2.range 0 6).1, .sl 1 c.par.length false (rowG iV 0 c.par), .sl 1 c.ch.length false (rowG iV 0 c.ch), iV c.low, iV c.high]))], ?_⟩
            refine ⟨outOK_row rfl rfl rfl (fun i h => by rw [setG_ne _ _ h]; exact hdQ_ne l _ c d h) (fun _ => rfl) rfl (cells5 (.inl rfl) (.inr ⟨⟨2, rfl⟩, rfl⟩) (.inl rfl) (.inl rfl) (.inl rfl)), outOK_row rfl rfl rfl (fun i h => setG_ne _ _ h) (fun _ => rfl) rfl (cells5 (.inl rfl) (.inl rfl) (.inr ⟨⟨3, rfl⟩, rfl⟩) (.inl rfl) (.inl rfl)), (), [], trivial, ?_⟩
            rw [← he, bentG_0 w0]
            exact ⟨rfl, ⟨⟨rfl, rfl, rfl, (List.length_set ..).symm, nofun⟩, trivial⟩, ⟨tape_emb rfl, ⟨rfl, (List.length_set ..).symm, le_setRow hkl (.refl _)⟩, trivial⟩⟩
          · conv => whnf
            refine bcase_of (fun w1 => ?_) (fun w1 => ?_)
            · conv => whnf
              refine ⟨_, _, range_spec (t1.n 7).2 ok2 (-1) l.length (by omega), ?_⟩
              conv => whnf
              refine ⟨⟨rfl, rfl, rfl, by show (c.par.length + 1) * 8 ≤ 140737488355328; omega⟩, ?_⟩
              conv => whnf
              refine ⟨1, [(3, setG (rowG clkV clk0 l) 10 (.agg [iV c.kind, .sl 1 (c.par.length + 1) false (appG c.par.length (rowG iV 0 c.par) (listG [iV ((t1.n 7).2.range (-1) l.length).1])), .sl 1 c.ch.length false (rowG iV 0 c.ch), iV c.low, iV c.high]))], ?_⟩
              refine ⟨outOK_row rfl rfl rfl (fun i h => by rw [setG_ne _ _ h]; exact hdQ_ne l _ c d h) (fun _ => rfl) rfl (cells5 (.inl rfl) (.inl rfl) (.inr ⟨⟨3, rfl⟩, rfl⟩) (.inl rfl) (.inl rfl)), (), [], trivial, ?_⟩
              rw [← he, bentG_1 w1]
              exact ⟨rfl, ⟨⟨rfl, rfl, rfl, (List.length_set ..).symm, nofun⟩, trivial⟩, ⟨tape_emb rfl, ⟨rfl, (List.length_set ..).symm, le_setRow hkl (.agg rfl (cells5 (.refl _) (.sl (by simp) (fun _ => rfl) nofun (le_app rfl (.refl _))) (.refl _) (.refl _) (.refl _)))⟩, trivial⟩⟩
            · conv => whnf
              refine bcase_of (fun w2 => ?_) (fun w2 => ?_)
              · conv => whnf
                refine ⟨_, _, pick_lit (t1.n 7).2 ok2 [0, 1, 64, 65, 2] true (by decide), ?_⟩
                conv => whnf
                refine ⟨⟨rfl, rfl, rfl, by show (c.ch.length + 1) * 8 ≤ 140737488355328; omega⟩, ?_⟩
                conv => whnf
                refine ⟨1, [(2, setG (rowG clkV clk0 l) 10 (.agg [iV c.kind, .sl 1 c.par.length false (rowG iV 0 c.par), .sl 1 (c.ch.length + 1) false (appG c.ch.length (rowG iV 0 c.ch) (listG [iV ((t1.n 7).2.pick [0, 1, 64, 65, 2]).1])), iV c.low, iV c.high]))], ?_⟩
                refine ⟨outOK_row rfl rfl rfl (fun i h => by rw [setG_ne _ _ h]; exact hdQ_ne l _ c d h) (fun _ => rfl) rfl (cells5 (.inl rfl) (.inr ⟨⟨2, rfl⟩, rfl⟩) (.inl rfl) (.inl rfl) (.inl rfl)), (), [], trivial, ?_⟩
                rw [← he, bentG_2 w2]
                exact ⟨rfl, ⟨⟨rfl, rfl, rfl, (List.length_set ..).symm, nofun⟩, trivial⟩, ⟨tape_emb rfl, ⟨rfl, (List.length_set ..).symm, le_setRow hkl (.agg rfl (cells5 (.refl _) (.refl _) (.sl (by simp) (fun _ => rfl) nofun (le_app rfl (.refl _))) (.refl _) (.refl _)))⟩, trivial⟩⟩
              · conv => whnf
                refine bcase_of (fun w3 => ?_) (fun w3 => ?_)
                · conv => whnf
                  refine ⟨by show InI64 (c.high + 1); unfold InI64; omega, ?_⟩
                  conv => whnf
                  refine ⟨_, _, pick_lit (t1.n 7).2 ok2 [-1, 0, c.high + 1] true (by simp), ?_⟩
                  conv => whnf
                  refine ⟨1, [(2, setG (rowG clkV clk0 l) 10 (.agg [iV c.kind, .sl 1 c.par.length false (rowG iV 0 c.par), .raw 3 d.ac c.ch.length d.cc, iV ((t1.n 7).2.pick [-1, 0, c.high + 1]).1, iV c.high])), (3, setG (rowG clkV clk0 l) 10 (.agg [iV c.kind, .sl 1 c.par.length false (rowG iV 0 c.par), .sl 1 c.ch.length false (rowG iV 0 c.ch), iV ((t1.n 7).2.pick [-1, 0, c.high + 1]).1, iV c.high]))], ?_⟩
                  refine ⟨outOK_row rfl rfl rfl (fun i h => by rw [setG_ne _ _ h]; exact hdQ_ne l _ c d h) (fun _ => rfl) rfl (cells5 (.inl rfl) (.inr ⟨⟨2, rfl⟩, rfl⟩) (.inl rfl) (.inl rfl) (.inl rfl)), outOK_row rfl rfl rfl (fun i h => setG_ne _ _ h) (fun _ => rfl) rfl (cells5 (.inl rfl) (.inl rfl) (.inr ⟨⟨3, rfl⟩, rfl⟩) (.inl rfl) (.inl rfl)), (), [], trivial, ?_⟩
                  rw [← he, bentG_3 w3]
                  exact ⟨rfl, ⟨⟨rfl, rfl, rfl, (List.length_set ..).symm, nofun⟩, trivial⟩, ⟨tape_emb rfl, ⟨rfl, (List.length_set ..).symm, le_setRow hkl (.refl _)⟩, trivial⟩⟩
                · conv => whnf
                  refine bcase_of (fun w4 => ?_) (fun w4 => ?_)
                  · conv => whnf
                    refine ⟨_, _, pick_lit (t1.n 7).2 ok2 [-1, 0, 4000000000, 4000000001] true (by decide), ?_⟩
                    conv => whnf
                    refine ⟨1, [(2, setG (rowG clkV clk0 l) 10 (.agg [iV c.kind, .sl 1 c.par.length false (rowG iV 0 c.par), .raw 3 d.ac c.ch.length d.cc, iV c.low, iV ((t1.n 7).2.pick [-1, 0, 4000000000, 4000000001]).1])), (3, setG (rowG clkV clk0 l) 10 (.agg [iV c.kind, .sl 1 c.par.length false (rowG iV 0 c.par), .sl 1 c.ch.length false (rowG iV 0 c.ch), iV c.low, iV ((t1.n 7).2.pick [-1, 0, 4000000000, 4000000001]).1]))], ?_⟩
                    refine ⟨outOK_row rfl rfl rfl (fun i h => by rw [setG_ne _ _ h]; exact hdQ_ne l _ c d h) (fun _ => rfl) rfl (cells5 (.inl rfl) (.inr ⟨⟨2, rfl⟩, rfl⟩) (.inl rfl) (.inl rfl) (.inl rfl)), outOK_row rfl rfl rfl (fun i h => setG_ne _ _ h) (fun _ => rfl) rfl (cells5 (.inl rfl) (.inl rfl) (.inr ⟨⟨3, rfl⟩, rfl⟩) (.inl rfl) (.inl rfl)), (), [], trivial, ?_⟩
                    rw [← he, bentG_4 w4]
                    exact ⟨rfl, ⟨⟨rfl, rfl, rfl, (List.length_set ..).symm, nofun⟩, trivial⟩, ⟨tape_emb rfl, ⟨rfl, (List.length_set ..).symm, le_setRow hkl (.refl _)⟩, trivial⟩⟩
                  · conv => whnf
                    refine bcase_of (fun w5 => ?_) (fun w5 => ?_)
                    · conv => whnf
                      refine ⟨1, [(2, setG (rowG clkV clk0 l) 10 (.agg [iV c.kind, .sl 1 c.par.length false (rowG iV 0 c.par), .sl 0 0 true nilG, iV c.low, iV c.high]))], ?_⟩
                      refine ⟨outOK_row rfl rfl rfl (fun i h => by rw [setG_ne _ _ h]; exact hdQ_ne l _ c d h) (fun _ => rfl) rfl (cells5 (.inl rfl) (.inr ⟨⟨2, rfl⟩, rfl⟩) (.inl rfl) (.inl rfl) (.inl rfl)), (), [], trivial, ?_⟩
                      rw [← he, bentG_5 w5]
                      exact ⟨rfl, ⟨⟨rfl, rfl, rfl, (List.length_set ..).symm, nofun⟩, trivial⟩, ⟨tape_emb rfl, ⟨rfl, (List.length_set ..).symm, le_setRow hkl (.agg rfl (cells5 (.refl _) (.refl _) (.sl rfl (fun h => absurd rfl h) nofun (fun _ h => absurd h (Nat.not_lt_zero _))) (.refl _) (.refl _)))⟩, trivial⟩⟩
                    · conv => whnf
                      have w6 : 5 < (t1.n 7).1 := by
                        have e : ∀ n : Int, ((t1.n 7).1 == n) = false → (t1.n 7).1 ≠ n := fun n h h2 => by rw [h2] at h; simp at h
                        have a0 := e 0 w0
                        have a1 := e 1 w1
                        have a2 := e 2 w2
                        have a3 := e 3 w3
                        have a4 := e 4 w4
                        have a5 := e 5 w5
                        omega
                      refine loops_intro (ct := []) cfgOK (by decide +kernel) (fun j : Nat => ⟨[(5, .osl 1 0 (l.length + j) false)], [(0, some (tapeO (t1.n 7).2)), (1, some (.row 5 (l.length + j) (setG (rowG clkV clk0 (moreC l)) 10 (hdV c d)))), (2, some (hdP c d)), (3, some (hdC c d))], 4⟩)
                        (fun j => l.length + j ≤ 17) (fun j => 17 - (l.length + j)) 0 [] (by omega)
                        ⟨rfl, ⟨⟨rfl, rfl, rfl, rfl, nofun⟩, trivial⟩, ⟨tape_emb rfl, ⟨rfl, rfl, more_first l _ c d⟩, ⟨rfl, rfl, rfl, rfl, rfl⟩, ⟨rfl, rfl, rfl, rfl, rfl⟩, trivial⟩⟩ ?_
                      intro j hj
                      conv => whnf
                      refine bcase_of (fun h6 => ?_) (fun h6 => ?_)
                      · have h6 : ((l.length + j : Nat) : Int) ≤ 16 := of_decide_eq_true h6
                        conv => whnf
                        refine ⟨by show ((l.length + j) + 1) * 72 ≤ 140737488355328; omega, ?_⟩
                        conv => whnf
                        exact ⟨j + 1, [(1, some 11)], by omega, by omega, ⟨rfl, ⟨⟨rfl, rfl, rfl, rfl, nofun⟩, trivial⟩, ⟨tape_emb rfl, ⟨rfl, rfl, le_snocG (fun _ _ => .refl _) (more_at l _ hkl (l.length + j) (by omega) (by omega))⟩, ⟨rfl, rfl, rfl, rfl, rfl⟩, ⟨rfl, rfl, rfl, rfl, rfl⟩, trivial⟩⟩⟩
                      · have h6 : ¬ ((l.length + j : Nat) : Int) ≤ 16 := of_decide_eq_false h6
                        have hl17 : l.length + j = (moreC l).length := by rw [moreC_len]; omega
                        conv => whnf
                        refine ⟨1, [(2, setG (rowG clkV clk0 (moreC l)) 10 (.agg [iV c.kind, .sl 1 c.par.length false (rowG iV 0 c.par), .raw 3 d.ac c.ch.length d.cc, iV c.low, iV c.high])), (3, setG (rowG clkV clk0 (moreC l)) 10 (.agg [iV c.kind, .sl 1 c.par.length false (rowG iV 0 c.par), .sl 1 c.ch.length false (rowG iV 0 c.ch), iV c.low, iV c.high]))], ?_⟩
                        refine ⟨outOK_row rfl rfl rfl (fun i h => setG_ne _ _ h) (fun _ => rfl) rfl (cells5 (.inl rfl) (.inr ⟨⟨2, rfl⟩, rfl⟩) (.inl rfl) (.inl rfl) (.inl rfl)), outOK_row rfl rfl rfl (fun i h => setG_ne _ _ h) (fun _ => rfl) rfl (cells5 (.inl rfl) (.inl rfl) (.inr ⟨⟨3, rfl⟩, rfl⟩) (.inl rfl) (.inl rfl)), (), [], trivial, ?_⟩
                        rw [← he, bentG_6 w6]
                        exact ⟨rfl, ⟨⟨rfl, rfl, rfl, hl17, nofun⟩, trivial⟩, ⟨tape_emb rfl, ⟨rfl, hl17, more_last l _ hkl hc⟩, trivial⟩⟩
        · intro _ _
          conv => whnf
          exact ⟨embV_le (.refl _) rfl, ⟨tape_emb rfl, trivial⟩⟩

end Go.Proofs.YtjmhlbogkeohpaaDoor
