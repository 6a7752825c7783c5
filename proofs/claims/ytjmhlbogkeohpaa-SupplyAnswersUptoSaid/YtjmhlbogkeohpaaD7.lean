/- Contracts of the program's functions, shown by walks of that machine, and the plain laws. -/
import Derived.Test.YtjmhlbogkeohpaaD6
import Derived.Test.YtjmhlbogkeohpaaL4
namespace Go.Proofs.Ytjmhlbogkeohpaa
open Go.Ab
set_option maxRecDepth 100000
set_option maxHeartbeats 4000000

/-! Supplies in which one thing is changed -/

/-- The levels that are held aside: where they lie. -/
structure Hd where
  ap : Option Addr
  cp : Nat

def hdV (c : Sup) (d : Hd) : AV := .agg [iV c.par, .raw 2 d.ap c.lev.length d.cp, iV c.drop, iV c.cap, .bool c.alw]
def hdG (l : List Sup) (k : Nat) (d : Hd) : Nat → AV := setG (rowG supV sup0 l) k (hdV (l.getD k sup0) d)
/-- The same, of a supply that is told. -/
def hdQ (l : List Sup) (k : Nat) (c : Sup) (d : Hd) : Nat → AV := setG (rowG supV sup0 l) k (hdV c d)
def hdP (c : Sup) (d : Hd) : AObj := .held d.ap d.cp 1 c.lev.length (rowG iV 0 c.lev)

def bSt (t : Tp) (l : List Sup) (k : Nat) : Nat ⊕ (Nat × Hd) → St
  | .inl i => ⟨[(0, .ptr 0 0 0), (5, .osl 1 0 i false), (9, supsV l), (10, iV l.length), (11, iV i)], [(0, some (tapeO t)), (1, some (.row 5 i (rowG supV sup0 l)))], 2⟩
  | .inr (i, d) => ⟨[(0, .ptr 0 0 0), (5, .osl 1 0 i false), (9, supsV l), (10, iV l.length), (11, iV i)], [(0, some (tapeO t)), (1, some (.row 5 i (hdG l k d))), (2, some (hdP (l.getD k sup0) d))], 3⟩

def bInv (l : List Sup) (k : Nat) : Nat ⊕ (Nat × Hd) → Prop
  | .inl i => i ≤ k
  | .inr (i, _) => k < i ∧ i ≤ l.length

def bMu (l : List Sup) : Nat ⊕ (Nat × Hd) → Nat
  | .inl i => l.length - i
  | .inr (i, _) => l.length - i

theorem appG_zero (g h : Nat → AV) : appG 0 g h = h := by
  funext j
  rfl

theorem setG_self (g : Nat → AV) (i : Nat) (v : AV) : setG g i v i = v := by
  simp [setG]
theorem setG_ne (g : Nat → AV) {i j : Nat} (v : AV) (h : j ≠ i) : setG g i v j = g j := by
  have : Nat.beq j i = false := by
    cases hb : Nat.beq j i with
    | false => rfl
    | true => exact absurd (Nat.eq_of_beq_eq_true hb) h
  simp [setG, this]
theorem le_snocG {g h g' : Nat → AV} {i : Nat} (h0 : ∀ j, j < i → Le (g j) (g' j)) (h1 : Le (h 0) (g' i)) : ∀ j, j < i + 1 → Le (appG i g h j) (g' j) := by
  intro j hj
  by_cases hji : j = i
  · subst hji
    rw [appG_r (Nat.le_refl _), Nat.sub_self]
    exact h1
  · rw [appG_l (by omega)]
    exact h0 j (by omega)

def fixS : Sup := ⟨-1, [1], 0, 0, false⟩
def lev0 (c : Sup) : List Int := [0, 1, c.lev.getD 0 0, 5000, 5001]
def bentG (l : List Sup) (k : Nat) (c : Sup) (w : Int) (t : Tp) : List Sup × Tp :=
  bif w == 0 then (l.set k ⟨(t.range (-2) l.length).1, c.lev, c.drop, c.cap, c.alw⟩, (t.range (-2) l.length).2)
  else bif w == 1 then (l.set k ⟨c.par, c.lev ++ [(t.pick (lev0 c)).1], c.drop, c.cap, c.alw⟩, (t.pick (lev0 c)).2)
  else bif w == 2 then (l.set k ⟨c.par, [], c.drop, c.cap, c.alw⟩, t)
  else bif w == 3 then (l.set k ⟨c.par, c.lev, (t.pick [-1, 1, 5000, 5001]).1, c.cap, c.alw⟩, (t.pick [-1, 1, 5000, 5001]).2)
  else bif w == 4 then (l.set k ⟨c.par, c.lev, c.drop, (t.pick [-1, 0, 10000, 10001]).1, c.alw⟩, (t.pick [-1, 0, 10000, 10001]).2)
  else (l ++ List.replicate (17 - l.length) fixS, t)

/-- Supplies, and simple ones up to seventeen. -/
def moreC (l : List Sup) : List Sup := l ++ List.replicate (17 - l.length) fixS
theorem bentG_0 {l : List Sup} {k : Nat} {c : Sup} {w : Int} {t : Tp} (h : (w == 0) = true) : bentG l k c w t = (l.set k ⟨(t.range (-2) l.length).1, c.lev, c.drop, c.cap, c.alw⟩, (t.range (-2) l.length).2) := by
  obtain rfl := eq_of_beq h; rfl
theorem bentG_1 {l : List Sup} {k : Nat} {c : Sup} {w : Int} {t : Tp} (h : (w == 1) = true) : bentG l k c w t = (l.set k ⟨c.par, c.lev ++ [(t.pick (lev0 c)).1], c.drop, c.cap, c.alw⟩, (t.pick (lev0 c)).2) := by
  obtain rfl := eq_of_beq h; rfl
theorem bentG_2 {l : List Sup} {k : Nat} {c : Sup} {w : Int} {t : Tp} (h : (w == 2) = true) : bentG l k c w t = (l.set k ⟨c.par, [], c.drop, c.cap, c.alw⟩, t) := by
  obtain rfl := eq_of_beq h; rfl
theorem bentG_3 {l : List Sup} {k : Nat} {c : Sup} {w : Int} {t : Tp} (h : (w == 3) = true) : bentG l k c w t = (l.set k ⟨c.par, c.lev, (t.pick [-1, 1, 5000, 5001]).1, c.cap, c.alw⟩, (t.pick [-1, 1, 5000, 5001]).2) := by
  obtain rfl := eq_of_beq h; rfl
theorem bentG_4 {l : List Sup} {k : Nat} {c : Sup} {w : Int} {t : Tp} (h : (w == 4) = true) : bentG l k c w t = (l.set k ⟨c.par, c.lev, c.drop, (t.pick [-1, 0, 10000, 10001]).1, c.alw⟩, (t.pick [-1, 0, 10000, 10001]).2) := by
  obtain rfl := eq_of_beq h; rfl
theorem bentG_5 {l : List Sup} {k : Nat} {c : Sup} {w : Int} {t : Tp} (h : 4 < w) : bentG l k c w t = (moreC l, t) := by
  have e : ∀ n : Int, n ≤ 4 → (w == n) = false := fun n hn => by
    rw [← Bool.not_eq_true]
    intro h2
    have := eq_of_beq h2
    omega
  unfold bentG
  rw [e 0 (by decide), e 1 (by decide), e 2 (by decide), e 3 (by decide), e 4 (by decide)]
  rfl

theorem cells5 {p : Nat → Prop} (h0 : p 0) (h1 : p 1) (h2 : p 2) (h3 : p 3) (h4 : p 4) : ∀ j, j < 5 → p j
  | 0, _ => h0
  | 1, _ => h1
  | 2, _ => h2
  | 3, _ => h3
  | 4, _ => h4
  | j + 5, h => absurd h (by omega)

theorem outOK_row {s : St} {o : Nat} {ad : Option Addr} {cap n N k : Nat} {g G R : Nat → AV} {v v' : AV} (ho : hget s.heap o = some (.held ad cap 1 n g)) (hr : hget s.heap 1 = some (.row 5 N G)) (hGk : G k = v) (hGn : ∀ i, i ≠ k → G i = R i) (hR : ∀ i, (R i).cells.length = 5) (hv : v'.cells.length = 5)
    (hc : ∀ j, j < 5 → nth v'.cells j = nth v.cells j ∨ (∃ q, nth v.cells j = .raw q ad n cap) ∧ nth v'.cells j = .sl 1 n false g) : outOK o 1 (setG R k v') s := by
  unfold outOK
  rw [ho, hr]
  intro i _
  by_cases hi : i = k
  · subst hi
    rw [setG_self, hGk]
    exact ⟨hv, hc⟩
  · rw [setG_ne _ _ hi, hGn i hi]
    exact ⟨hR i, fun j _ => .inl rfl⟩

theorem le_setRow {l : List Sup} {k : Nat} {c' : Sup} {v : AV} (hk : k < l.length) (hv : Le v (supV c')) : ∀ i, i < l.length → Le (setG (rowG supV sup0 l) k v i) (rowG supV sup0 (l.set k c') i) := by
  intro i hi
  unfold rowG
  by_cases hik : i = k
  · subst hik
    rw [setG_self, List.getD_eq_getElem?_getD, List.getElem?_set_self hk]
    exact hv
  · rw [setG_ne _ _ hik, List.getD_eq_getElem?_getD (l := l.set k c'), List.getElem?_set_ne (fun e => hik e.symm), ← List.getD_eq_getElem?_getD]
    exact .refl _

theorem hdQ_ne (l : List Sup) (k : Nat) (c : Sup) (d : Hd) {i : Nat} (h : i ≠ k) : hdQ l k c d i = rowG supV sup0 l i := by
  unfold hdQ
  exact setG_ne _ _ h

theorem le_setHd {l : List Sup} {k : Nat} {c c' : Sup} {d : Hd} {v : AV} (hk : k < l.length) (hv : Le v (supV c')) : ∀ i, i < l.length → Le (setG (hdQ l k c d) k v i) (rowG supV sup0 (l.set k c') i) := by
  intro i hi
  by_cases hik : i = k
  · subst hik
    rw [setG_self]
    unfold rowG
    rw [List.getD_eq_getElem?_getD, List.getElem?_set_self hk]
    exact hv
  · rw [setG_ne _ _ hik, hdQ_ne l k c d hik]
    unfold rowG
    rw [List.getD_eq_getElem?_getD (l := l.set k c'), List.getElem?_set_ne (fun e => hik e.symm), ← List.getD_eq_getElem?_getD]
    exact .refl _

theorem moreC_len (l : List Sup) : (moreC l).length = l.length + (17 - l.length) := by simp [moreC]
theorem moreC_l (l : List Sup) {i : Nat} (hi : i < l.length) : (moreC l).getD i sup0 = l.getD i sup0 := by
  unfold moreC
  rw [List.getD_eq_getElem?_getD, List.getElem?_append_left hi, ← List.getD_eq_getElem?_getD]
theorem moreC_r (l : List Sup) {i : Nat} (hi : l.length ≤ i) (h : i < 17) : (moreC l).getD i sup0 = fixS := by
  unfold moreC
  rw [List.getD_eq_getElem?_getD, List.getElem?_append_right hi, List.getElem?_replicate, if_pos (by omega)]
  rfl
theorem more_first (l : List Sup) (k : Nat) (c : Sup) (d : Hd) : ∀ i, i < l.length → Le (hdQ l k c d i) (setG (rowG supV sup0 (moreC l)) k (hdV c d) i) := by
  intro i hi
  unfold hdQ
  by_cases hik : i = k
  · subst hik
    rw [setG_self, setG_self]
    exact .refl _
  · rw [setG_ne _ _ hik, setG_ne _ _ hik]
    unfold rowG
    rw [moreC_l l hi]
    exact .refl _
theorem more_last (l : List Sup) (k : Nat) (hk : k < l.length) {c : Sup} (hc : l.getD k sup0 = c) {n : Nat} : ∀ i, i < n → Le (setG (rowG supV sup0 (moreC l)) k (supV c) i) (rowG supV sup0 (moreC l) i) := by
  subst hc
  intro i hi
  by_cases hik : i = k
  · subst hik
    rw [setG_self]
    unfold rowG
    rw [moreC_l l hk]
    exact .refl _
  · rw [setG_ne _ _ hik]
    exact .refl _

theorem le_one1 (x : Int) : ∀ i, i < 1 → Le (listG [iV x] i) (rowG iV 0 [x] i) := fun i h => by
  have : i = 0 := by omega
  subst this
  exact .refl _

theorem more_at (l : List Sup) (k : Nat) (hk : k < l.length) (n : Nat) (hn : l.length ≤ n) (h : n < 17) {v : AV} : Le (.agg [iV (-1), .sl 1 1 true (listG [iV 1]), iV 0, iV 0, .bool false]) (setG (rowG supV sup0 (moreC l)) k v n) := by
  rw [setG_ne _ _ (by omega)]
  unfold rowG
  rw [moreC_r l hn h]
  exact .agg rfl (cells5 (.refl _) (.sl rfl (fun _ => rfl) nofun (le_one1 1)) (.refl _) (.refl _) (.refl _))

theorem pick_lit (t : Tp) (ht : t.ok) (l : List Int) (b : Bool) (hl : l.length ≠ 0 ∧ l.length ≤ 1000000) : S 42 [.ptr 0 0 0, .sl 1 l.length b (listG (l.map iV))] [tapeO t] (iV (t.pick l).1) [tapeO (t.pick l).2] :=
  (pick_spec t ht l hl).le ⟨.refl _, le_ints l rfl, trivial⟩ ⟨LeL.refl _, trivial⟩

theorem valid_lev {s : Sup} {k : Int} (h : validS s k = true) : 1 ≤ s.lev.length := by
  cases hs : s.lev with
  | nil =>
    unfold validS headB at h
    rw [hs] at h
    simp at h
  | cons a r => simp

theorem bent_spec (t : Tp) (ht : t.ok) (l : List Sup) (h1 : 1 ≤ l.length) (h2 : l.length ≤ 6) (hf : GoodS l) (k : Nat) (hk : (t.n l.length).1 = k) (e : List Sup × Tp) (he : bentG l k (l.getD k sup0) ((t.n l.length).2.n 6).1 ((t.n l.length).2.n 6).2 = e) : S 26 [.ptr 0 0 0, supsV l] [tapeO t] (supsV e.1) [tapeO e.2] := by
  have hkl : k < l.length := by have := Tp.n_lt t l.length; omega
  refine spec_of_x (ct := [8]) cfgOK Try.func26 rfl rfl (Nat.le_of_ble_eq_true rfl) (by decide +kernel) (Nat.le_refl _) ?_
  conv => whnf
  refine cut_intro (ct := [8]) (ct' := [9]) cfgOK (by decide +kernel) (by decide +kernel) (fun d : Hd => bSt t l k (.inr (l.length, d))) (fun _ => True) ?_ ?_
  · conv => whnf
    refine loops_intro (ct := [6]) cfgOK (by decide +kernel) (bSt t l k) (bInv l k) (bMu l) (.inl 0) [(1, none)] (Nat.zero_le _)
      ⟨rfl, ⟨⟨rfl, rfl, rfl, rfl⟩, ⟨rfl, rfl, rfl, rfl, rfl⟩, embV_le (.refl _) rfl, ⟨rfl, rfl⟩, ⟨rfl, rfl⟩, trivial⟩, ⟨tape_emb rfl, rfl, trivial⟩⟩ ?_
    intro x hx
    rcases x with i | ⟨i, d⟩
    · have hx : i ≤ k := hx
      conv => whnf
      refine bcase_of (fun h3 => ?_) (fun h3 => ?_)
      · have hlt : i < l.length := by omega
        have hb := (hf i hlt).2
        conv => whnf
        refine ⟨by omega, ?_⟩
        conv => whnf
        by_cases hik : i = k
        · subst hik
          refine cut_held (ct := []) (ct' := []) cfgOK (by decide +kernel) (by decide +kernel) (fun d : Hd => ⟨[(0, .ptr 0 0 0), (5, .osl 1 0 i false), (7, .ptr 3 0 0), (9, supsV l), (10, iV l.length), (11, iV i)],
            [(0, some (tapeO t)), (1, some (.row 5 i (rowG supV sup0 l))), (2, some (hdP (l.getD i sup0) d)), (3, some (.box [iV (l.getD i sup0).par, .raw 2 d.ap (l.getD i sup0).lev.length d.cp, iV (l.getD i sup0).drop, iV (l.getD i sup0).cap, .bool (l.getD i sup0).alw]))], 4⟩) (fun _ => True) ?_ ?_
          · conv => whnf
            refine ⟨by show (0 + (l.getD i sup0).lev.length) * 8 ≤ 140737488355328; omega, ?_⟩
            conv => whnf
            refine ⟨5, [(1, 10, 2)], ?_⟩
            conv => whnf
            refine ⟨⟨Nat.le_of_ble_eq_true rfl, false, rfl⟩, fun ap cp => ?_⟩
            refine ⟨⟨ap, cp⟩, [(2, some 10), (3, some 5)], trivial, ?_⟩
            exact ⟨rfl, ⟨⟨rfl, rfl, rfl, rfl⟩, ⟨rfl, rfl, rfl, rfl, nofun⟩, ⟨rfl, rfl, rfl, rfl⟩, embV_le (.refl _) rfl, ⟨rfl, rfl⟩, ⟨rfl, rfl⟩, trivial⟩,
              ⟨tape_emb rfl, ⟨rfl, rfl, fun _ _ => .refl _⟩, ⟨rfl, rfl, rfl, Nat.zero_add _, appG_zero _ _⟩, ⟨⟨rfl, rfl⟩, ⟨rfl, rfl, Nat.zero_add _, rfl⟩, ⟨rfl, rfl⟩, ⟨rfl, rfl⟩, rfl, trivial⟩, trivial⟩⟩
          · intro d _
            conv => whnf
            refine ⟨by show (i + 1) * 56 ≤ 140737488355328; omega, ?_⟩
            conv => whnf
            refine ⟨by unfold InI64; omega, ?_⟩
            conv => whnf
            exact ⟨.inr (i + 1, d), [(1, some 7)], ⟨Nat.lt_succ_self _, hlt⟩, by show l.length - (i + 1) < l.length - i; omega,
              ⟨rfl, ⟨⟨rfl, rfl, rfl, rfl⟩, ⟨rfl, rfl, rfl, rfl, nofun⟩, embV_le (.refl _) rfl, ⟨rfl, rfl⟩, ⟨rfl, by simp⟩, trivial⟩,
              ⟨tape_emb rfl, ⟨rfl, rfl, le_snocG (fun j hj => by unfold hdG; rw [setG_ne _ _ (by omega)]; exact .refl _) (by unfold hdG; rw [setG_self]; exact .refl _)⟩, ⟨rfl, rfl, rfl, rfl, rfl⟩, trivial⟩⟩⟩
        · refine cut_intro (ct := []) (ct' := []) cfgOK (by decide +kernel) (by decide +kernel) (fun _ : Unit => ⟨[(0, .ptr 0 0 0), (5, .osl 1 0 i false), (7, .ptr 3 0 0), (9, supsV l), (10, iV l.length), (11, iV i)],
            [(0, some (tapeO t)), (1, some (.row 5 i (rowG supV sup0 l))), (2, some (.row 1 (l.getD i sup0).lev.length (rowG iV 0 (l.getD i sup0).lev))), (3, some (.box [iV (l.getD i sup0).par, .osl 2 0 (l.getD i sup0).lev.length false, iV (l.getD i sup0).drop, iV (l.getD i sup0).cap, .bool (l.getD i sup0).alw]))], 4⟩) (fun _ => True) ?_ ?_
          · conv => whnf
            refine ⟨by show (0 + (l.getD i sup0).lev.length) * 8 ≤ 140737488355328; omega, ?_⟩
            conv => whnf
            refine ⟨(), [(2, some 10), (3, some 5)], trivial, ?_⟩
            exact ⟨rfl, ⟨⟨rfl, rfl, rfl, rfl⟩, ⟨rfl, rfl, rfl, rfl, nofun⟩, ⟨rfl, rfl, rfl, rfl⟩, embV_le (.refl _) rfl, ⟨rfl, rfl⟩, ⟨rfl, rfl⟩, trivial⟩,
              ⟨tape_emb rfl, ⟨rfl, rfl, fun _ _ => .refl _⟩, ⟨rfl, Nat.zero_add _, fun j _ => by rw [appG_zero]; exact .refl _⟩, ⟨⟨rfl, rfl⟩, ⟨rfl, rfl, rfl, Nat.zero_add _, nofun⟩, ⟨rfl, rfl⟩, ⟨rfl, rfl⟩, rfl, trivial⟩, trivial⟩⟩
          · intro _ _
            conv => whnf
            refine ⟨by show (i + 1) * 56 ≤ 140737488355328; omega, ?_⟩
            conv => whnf
            refine ⟨by unfold InI64; omega, ?_⟩
            conv => whnf
            exact ⟨.inl (i + 1), [(1, some 7)], by show i + 1 ≤ k; omega, by show l.length - (i + 1) < l.length - i; omega,
              ⟨rfl, ⟨⟨rfl, rfl, rfl, rfl⟩, ⟨rfl, rfl, rfl, rfl, nofun⟩, embV_le (.refl _) rfl, ⟨rfl, rfl⟩, ⟨rfl, by simp⟩, trivial⟩,
              ⟨tape_emb rfl, ⟨rfl, rfl, le_snocG (fun j hj => .refl _) (.refl _)⟩, trivial⟩⟩⟩
      · exfalso
        have := of_decide_eq_false h3
        omega
    · obtain ⟨hx1, hx2⟩ : k < i ∧ i ≤ l.length := hx
      conv => whnf
      refine bcase_of (fun h3 => ?_) (fun h3 => ?_)
      · have hlt : i < l.length := by have := of_decide_eq_true h3; omega
        have hb := (hf i hlt).2
        conv => whnf
        refine ⟨by omega, ?_⟩
        conv => whnf
        refine cut_intro (ct := []) (ct' := []) cfgOK (by decide +kernel) (by decide +kernel) (fun _ : Unit => ⟨[(0, .ptr 0 0 0), (5, .osl 1 0 i false), (7, .ptr 3 0 0), (9, supsV l), (10, iV l.length), (11, iV i)],
            [(0, some (tapeO t)), (1, some (.row 5 i (hdG l k d))), (2, some (hdP (l.getD k sup0) d)), (3, some (.box [iV (l.getD i sup0).par, .osl 4 0 (l.getD i sup0).lev.length false, iV (l.getD i sup0).drop, iV (l.getD i sup0).cap, .bool (l.getD i sup0).alw])),
              (4, some (.row 1 (l.getD i sup0).lev.length (rowG iV 0 (l.getD i sup0).lev)))], 5⟩) (fun _ => True) ?_ ?_
        · conv => whnf
          refine ⟨by show (0 + (l.getD i sup0).lev.length) * 8 ≤ 140737488355328; omega, ?_⟩
          conv => whnf
          refine ⟨(), [(3, some 6), (4, some 11)], trivial, ?_⟩
          exact ⟨rfl, ⟨⟨rfl, rfl, rfl, rfl⟩, ⟨rfl, rfl, rfl, rfl, nofun⟩, ⟨rfl, rfl, rfl, rfl⟩, embV_le (.refl _) rfl, ⟨rfl, rfl⟩, ⟨rfl, rfl⟩, trivial⟩,
            ⟨tape_emb rfl, ⟨rfl, rfl, fun _ _ => .refl _⟩, ⟨rfl, rfl, rfl, rfl, rfl⟩, ⟨⟨rfl, rfl⟩, ⟨rfl, rfl, rfl, Nat.zero_add _, nofun⟩, ⟨rfl, rfl⟩, ⟨rfl, rfl⟩, rfl, trivial⟩, ⟨rfl, Nat.zero_add _, fun j _ => by rw [appG_zero]; exact .refl _⟩, trivial⟩⟩
        · intro _ _
          conv => whnf
          refine ⟨by show (i + 1) * 56 ≤ 140737488355328; omega, ?_⟩
          conv => whnf
          refine ⟨by unfold InI64; omega, ?_⟩
          conv => whnf
          exact ⟨.inr (i + 1, d), [(1, some 8)], ⟨by omega, hlt⟩, by show l.length - (i + 1) < l.length - i; omega,
            ⟨rfl, ⟨⟨rfl, rfl, rfl, rfl⟩, ⟨rfl, rfl, rfl, rfl, nofun⟩, embV_le (.refl _) rfl, ⟨rfl, rfl⟩, ⟨rfl, by simp⟩, trivial⟩,
            ⟨tape_emb rfl, ⟨rfl, rfl, le_snocG (fun j hj => .refl _) (by unfold hdG; rw [setG_ne _ _ (by omega)]; exact .refl _)⟩, ⟨rfl, rfl, rfl, rfl, rfl⟩, trivial⟩⟩⟩
      · have := of_decide_eq_false h3
        have hil : i = l.length := by omega
        subst hil
        conv => whnf
        exact ⟨d, [], trivial, ⟨rfl, ⟨⟨rfl, rfl, rfl, rfl⟩, ⟨rfl, rfl, rfl, rfl, nofun⟩, embV_le (.refl _) rfl, ⟨rfl, rfl⟩, ⟨rfl, rfl⟩, trivial⟩,
          ⟨tape_emb rfl, ⟨rfl, rfl, fun _ _ => .refl _⟩, ⟨rfl, rfl, rfl, rfl, rfl⟩, trivial⟩⟩⟩
  · intro d _
    conv => whnf
    refine cut_intro (ct := []) (ct' := [22]) cfgOK (by decide +kernel) (by decide +kernel) (fun _ : Unit => ⟨[(0, .ptr 0 0 0), (5, .osl 1 0 l.length false), (8, .ptr 1 k 0)], [(0, some (tapeO (t.n l.length).2)), (1, some (.row 5 l.length (hdQ l k (l.getD k sup0) d))), (2, some (hdP (l.getD k sup0) d))], 3⟩) (fun _ => True) ?_ ?_
    · have hb := Tp.n_lt t l.length
      conv => whnf
      refine ⟨_, _, n_spec t ht l.length (by unfold InI64; omega), ?_⟩
      conv => whnf
      refine ⟨by show 0 ≤ (t.n l.length).1 ∧ (t.n l.length).1 < (l.length : Int); omega, ?_⟩
      conv => whnf
      exact ⟨(), [], trivial, ⟨rfl, ⟨⟨rfl, rfl, rfl, rfl⟩, ⟨rfl, rfl, rfl, rfl, nofun⟩, ⟨rfl, rfl, by show addN 0 ((t.n l.length).1.toNat) = k; rw [hk]; rfl, rfl⟩, trivial⟩,
        ⟨tape_emb rfl, ⟨rfl, rfl, fun _ _ => .refl _⟩, ⟨rfl, rfl, rfl, rfl, rfl⟩, trivial⟩⟩⟩
    · intro _ _
      conv => whnf
      have hb := (hf k hkl).2
      have hv1 := valid_lev (hf k hkl).1
      have ok1 := Tp.n_ok ht l.length
      generalize (t.n l.length).2 = t1 at ok1 he
      have hw := Tp.n_lt t1 6
      have ok2 := Tp.n_ok ok1 6
      have hw7 : (t1.n 6).1 < 6 := hw.2.1 (by decide)
      generalize hc : l.getD k sup0 = c at hb hv1 he ⊢
      rcases (by omega : k = 0 ∨ k = 1 ∨ k = 2 ∨ k = 3 ∨ k = 4 ∨ k = 5) with rfl | rfl | rfl | rfl | rfl | rfl
      · refine cut_out (ct := []) (ct' := []) cfgOK (by decide +kernel) (by decide +kernel) (fun _ : Unit => ⟨[(5, .osl 1 0 e.1.length false)], [(0, some (tapeO e.2)), (1, some (.row 5 e.1.length (rowG supV sup0 e.1)))], 2⟩) (fun _ => True) ?_ ?_
        · conv => whnf
          refine ⟨_, _, n_spec t1 ok1 6 (by unfold InI64; decide), ?_⟩
          conv => whnf
          refine bcase_of (fun w0 => ?_) (fun w0 => ?_)
          · conv => whnf
            refine ⟨_, _, range_spec (t1.n 6).2 ok2 (-2) l.length (by omega), ?_⟩
            conv => whnf
            refine ⟨1, [(2, setG (rowG supV sup0 l) 0 (.agg [iV ((t1.n 6).2.range (-2) l.length).1, .sl 1 c.lev.length false (rowG iV 0 c.lev), iV c.drop, iV c.cap, .bool c.alw]))], ?_⟩
            refine ⟨outOK_row rfl rfl rfl (fun i h => by rw [setG_ne _ _ h]; exact hdQ_ne l _ c d h) (fun _ => rfl) rfl (cells5 (.inl rfl) (.inr ⟨⟨2, rfl⟩, rfl⟩) (.inl rfl) (.inl rfl) (.inl rfl)), (), [], trivial, ?_⟩
            rw [← he, bentG_0 w0]
            exact ⟨rfl, ⟨⟨rfl, rfl, rfl, (List.length_set ..).symm, nofun⟩, trivial⟩, ⟨tape_emb rfl, ⟨rfl, (List.length_set ..).symm, le_setRow hkl (.refl _)⟩, trivial⟩⟩
          · conv => whnf
            refine bcase_of (fun w1 => ?_) (fun w1 => ?_)
            · conv => whnf
              refine ⟨⟨⟨rfl, rfl, rfl⟩, by decide, by show (0 : Int) < (c.lev.length : Int); omega⟩, ?_⟩
              conv => whnf
              refine ⟨_, _, pick_lit (t1.n 6).2 ok2 (lev0 c) true (by simp [lev0]), ?_⟩
              conv => whnf
              refine ⟨⟨rfl, rfl, rfl, by show (c.lev.length + 1) * 8 ≤ 140737488355328; omega⟩, ?_⟩
              conv => whnf
              refine ⟨1, [], ?_⟩
              refine ⟨(), [], trivial, ?_⟩
              rw [← he, bentG_1 w1]
              exact ⟨rfl, ⟨⟨rfl, rfl, rfl, (List.length_set ..).symm, nofun⟩, trivial⟩, ⟨tape_emb rfl, ⟨rfl, (List.length_set ..).symm, le_setHd hkl (.agg rfl (cells5 (.refl _) (.sl (by simp) (fun _ => rfl) nofun (le_app rfl (.refl _))) (.refl _) (.refl _) (.refl _)))⟩, trivial⟩⟩
            · conv => whnf
              refine bcase_of (fun w2 => ?_) (fun w2 => ?_)
              · conv => whnf
                refine ⟨1, [(2, setG (rowG supV sup0 l) 0 (.agg [iV c.par, .sl 0 0 true nilG, iV c.drop, iV c.cap, .bool c.alw]))], ?_⟩
                refine ⟨outOK_row rfl rfl rfl (fun i h => by rw [setG_ne _ _ h]; exact hdQ_ne l _ c d h) (fun _ => rfl) rfl (cells5 (.inl rfl) (.inl rfl) (.inl rfl) (.inl rfl) (.inl rfl)), (), [], trivial, ?_⟩
                rw [← he, bentG_2 w2]
                exact ⟨rfl, ⟨⟨rfl, rfl, rfl, (List.length_set ..).symm, nofun⟩, trivial⟩, ⟨tape_emb rfl, ⟨rfl, (List.length_set ..).symm, le_setRow hkl (.agg rfl (cells5 (.refl _) (.sl rfl (fun h => absurd rfl h) nofun (fun _ h => absurd h (Nat.not_lt_zero _))) (.refl _) (.refl _) (.refl _)))⟩, trivial⟩⟩
              · conv => whnf
                refine bcase_of (fun w3 => ?_) (fun w3 => ?_)
                · conv => whnf
                  refine ⟨_, _, pick_lit (t1.n 6).2 ok2 [-1, 1, 5000, 5001] true (by decide), ?_⟩
                  conv => whnf
                  refine ⟨1, [(2, setG (rowG supV sup0 l) 0 (.agg [iV c.par, .sl 1 c.lev.length false (rowG iV 0 c.lev), iV ((t1.n 6).2.pick [-1, 1, 5000, 5001]).1, iV c.cap, .bool c.alw]))], ?_⟩
                  refine ⟨outOK_row rfl rfl rfl (fun i h => by rw [setG_ne _ _ h]; exact hdQ_ne l _ c d h) (fun _ => rfl) rfl (cells5 (.inl rfl) (.inr ⟨⟨2, rfl⟩, rfl⟩) (.inl rfl) (.inl rfl) (.inl rfl)), (), [], trivial, ?_⟩
                  rw [← he, bentG_3 w3]
                  exact ⟨rfl, ⟨⟨rfl, rfl, rfl, (List.length_set ..).symm, nofun⟩, trivial⟩, ⟨tape_emb rfl, ⟨rfl, (List.length_set ..).symm, le_setRow hkl (.refl _)⟩, trivial⟩⟩
                · conv => whnf
                  refine bcase_of (fun w4 => ?_) (fun w4 => ?_)
                  · conv => whnf
                    refine ⟨_, _, pick_lit (t1.n 6).2 ok2 [-1, 0, 10000, 10001] true (by decide), ?_⟩
                    conv => whnf
                    refine ⟨1, [(2, setG (rowG supV sup0 l) 0 (.agg [iV c.par, .sl 1 c.lev.length false (rowG iV 0 c.lev), iV c.drop, iV ((t1.n 6).2.pick [-1, 0, 10000, 10001]).1, .bool c.alw]))], ?_⟩
                    refine ⟨outOK_row rfl rfl rfl (fun i h => by rw [setG_ne _ _ h]; exact hdQ_ne l _ c d h) (fun _ => rfl) rfl (cells5 (.inl rfl) (.inr ⟨⟨2, rfl⟩, rfl⟩) (.inl rfl) (.inl rfl) (.inl rfl)), (), [], trivial, ?_⟩
                    rw [← he, bentG_4 w4]
                    exact ⟨rfl, ⟨⟨rfl, rfl, rfl, (List.length_set ..).symm, nofun⟩, trivial⟩, ⟨tape_emb rfl, ⟨rfl, (List.length_set ..).symm, le_setRow hkl (.refl _)⟩, trivial⟩⟩
                  · conv => whnf
                    have w5 : 4 < (t1.n 6).1 := by
                      have e : ∀ n : Int, ((t1.n 6).1 == n) = false → (t1.n 6).1 ≠ n := fun n h h2 => by rw [h2] at h; simp at h
                      have a0 := e 0 w0
                      have a1 := e 1 w1
                      have a2 := e 2 w2
                      have a3 := e 3 w3
                      have a4 := e 4 w4
                      omega
                    refine loops_intro (ct := []) cfgOK (by decide +kernel) (fun j : Nat => ⟨[(5, .osl 1 0 (l.length + j) false)], [(0, some (tapeO (t1.n 6).2)), (1, some (.row 5 (l.length + j) (setG (rowG supV sup0 (moreC l)) 0 (hdV c d)))), (2, some (hdP c d))], 3⟩)
                      (fun j => l.length + j ≤ 17) (fun j => 17 - (l.length + j)) 0 [] (by omega)
                      ⟨rfl, ⟨⟨rfl, rfl, rfl, rfl, nofun⟩, trivial⟩, ⟨tape_emb rfl, ⟨rfl, rfl, more_first l _ c d⟩, ⟨rfl, rfl, rfl, rfl, rfl⟩, trivial⟩⟩ ?_
                    intro j hj
                    conv => whnf
                    refine bcase_of (fun h6 => ?_) (fun h6 => ?_)
                    · have h6 : ((l.length + j : Nat) : Int) ≤ 16 := of_decide_eq_true h6
                      conv => whnf
                      refine ⟨by show ((l.length + j) + 1) * 56 ≤ 140737488355328; omega, ?_⟩
                      conv => whnf
                      exact ⟨j + 1, [(1, some 10)], by omega, by omega, ⟨rfl, ⟨⟨rfl, rfl, rfl, rfl, nofun⟩, trivial⟩, ⟨tape_emb rfl, ⟨rfl, rfl, le_snocG (fun _ _ => .refl _) (more_at l _ hkl (l.length + j) (by omega) (by omega))⟩, ⟨rfl, rfl, rfl, rfl, rfl⟩, trivial⟩⟩⟩
                    · have h6 : ¬ ((l.length + j : Nat) : Int) ≤ 16 := of_decide_eq_false h6
                      have hl17 : l.length + j = (moreC l).length := by rw [moreC_len]; omega
                      conv => whnf
                      refine ⟨1, [(2, setG (rowG supV sup0 (moreC l)) 0 (.agg [iV c.par, .sl 1 c.lev.length false (rowG iV 0 c.lev), iV c.drop, iV c.cap, .bool c.alw]))], ?_⟩
                      refine ⟨outOK_row rfl rfl rfl (fun i h => setG_ne _ _ h) (fun _ => rfl) rfl (cells5 (.inl rfl) (.inr ⟨⟨2, rfl⟩, rfl⟩) (.inl rfl) (.inl rfl) (.inl rfl)), (), [], trivial, ?_⟩
                      rw [← he, bentG_5 w5]
                      exact ⟨rfl, ⟨⟨rfl, rfl, rfl, hl17, nofun⟩, trivial⟩, ⟨tape_emb rfl, ⟨rfl, hl17, more_last l _ hkl hc⟩, trivial⟩⟩
        · intro _ _
          conv => whnf
          exact ⟨embV_le (.refl _) rfl, ⟨tape_emb rfl, trivial⟩⟩
      · refine cut_out (ct := []) (ct' := []) cfgOK (by decide +kernel) (by decide +kernel) (fun _ : Unit => ⟨[(5, .osl 1 0 e.1.length false)], [(0, some (tapeO e.2)), (1, some (.row 5 e.1.length (rowG supV sup0 e.1)))], 2⟩) (fun _ => True) ?_ ?_
        · conv => whnf
          refine ⟨_, _, n_spec t1 ok1 6 (by unfold InI64; decide), ?_⟩
          conv => whnf
          refine bcase_of (fun w0 => ?_) (fun w0 => ?_)
          · conv => whnf
            refine ⟨_, _, range_spec (t1.n 6).2 ok2 (-2) l.length (by omega), ?_⟩
            conv => whnf
            refine ⟨1, [(2, setG (rowG supV sup0 l) 1 (.agg [iV ((t1.n 6).2.range (-2) l.length).1, .sl 1 c.lev.length false (rowG iV 0 c.lev), iV c.drop, iV c.cap, .bool c.alw]))], ?_⟩
            refine ⟨outOK_row rfl rfl rfl (fun i h => by rw [setG_ne _ _ h]; exact hdQ_ne l _ c d h) (fun _ => rfl) rfl (cells5 (.inl rfl) (.inr ⟨⟨2, rfl⟩, rfl⟩) (.inl rfl) (.inl rfl) (.inl rfl)), (), [], trivial, ?_⟩
            rw [← he, bentG_0 w0]
            exact ⟨rfl, ⟨⟨rfl, rfl, rfl, (List.length_set ..).symm, nofun⟩, trivial⟩, ⟨tape_emb rfl, ⟨rfl, (List.length_set ..).symm, le_setRow hkl (.refl _)⟩, trivial⟩⟩
          · conv => whnf
            refine bcase_of (fun w1 => ?_) (fun w1 => ?_)
            · conv => whnf
              refine ⟨⟨⟨rfl, rfl, rfl⟩, by decide, by show (0 : Int) < (c.lev.length : Int); omega⟩, ?_⟩
              conv => whnf
              refine ⟨_, _, pick_lit (t1.n 6).2 ok2 (lev0 c) true (by simp [lev0]), ?_⟩
              conv => whnf
              refine ⟨⟨rfl, rfl, rfl, by show (c.lev.length + 1) * 8 ≤ 140737488355328; omega⟩, ?_⟩
              conv => whnf
              refine ⟨1, [], ?_⟩
              refine ⟨(), [], trivial, ?_⟩
              rw [← he, bentG_1 w1]
              exact ⟨rfl, ⟨⟨rfl, rfl, rfl, (List.length_set ..).symm, nofun⟩, trivial⟩, ⟨tape_emb rfl, ⟨rfl, (List.length_set ..).symm, le_setHd hkl (.agg rfl (cells5 (.refl _) (.sl (by simp) (fun _ => rfl) nofun (le_app rfl (.refl _))) (.refl _) (.refl _) (.refl _)))⟩, trivial⟩⟩
            · conv => whnf
              refine bcase_of (fun w2 => ?_) (fun w2 => ?_)
              · conv => whnf
                refine ⟨1, [(2, setG (rowG supV sup0 l) 1 (.agg [iV c.par, .sl 0 0 true nilG, iV c.drop, iV c.cap, .bool c.alw]))], ?_⟩
                refine ⟨outOK_row rfl rfl rfl (fun i h => by rw [setG_ne _ _ h]; exact hdQ_ne l _ c d h) (fun _ => rfl) rfl (cells5 (.inl rfl) (.inl rfl) (.inl rfl) (.inl rfl) (.inl rfl)), (), [], trivial, ?_⟩
                rw [← he, bentG_2 w2]
                exact ⟨rfl, ⟨⟨rfl, rfl, rfl, (List.length_set ..).symm, nofun⟩, trivial⟩, ⟨tape_emb rfl, ⟨rfl, (List.length_set ..).symm, le_setRow hkl (.agg rfl (cells5 (.refl _) (.sl rfl (fun h => absurd rfl h) nofun (fun _ h => absurd h (Nat.not_lt_zero _))) (.refl _) (.refl _) (.refl _)))⟩, trivial⟩⟩
              · conv => whnf
                refine bcase_of (fun w3 => ?_) (fun w3 => ?_)
                · conv => whnf
                  refine ⟨_, _, pick_lit (t1.n 6).2 ok2 [-1, 1, 5000, 5001] true (by decide), ?_⟩
                  conv => whnf
                  refine ⟨1, [(2, setG (rowG supV sup0 l) 1 (.agg [iV c.par, .sl 1 c.lev.length false (rowG iV 0 c.lev), iV ((t1.n 6).2.pick [-1, 1, 5000, 5001]).1, iV c.cap, .bool c.alw]))], ?_⟩
                  refine ⟨outOK_row rfl rfl rfl (fun i h => by rw [setG_ne _ _ h]; exact hdQ_ne l _ c d h) (fun _ => rfl) rfl (cells5 (.inl rfl) (.inr ⟨⟨2, rfl⟩, rfl⟩) (.inl rfl) (.inl rfl) (.inl rfl)), (), [], trivial, ?_⟩
                  rw [← he, bentG_3 w3]
                  exact ⟨rfl, ⟨⟨rfl, rfl, rfl, (List.length_set ..).symm, nofun⟩, trivial⟩, ⟨tape_emb rfl, ⟨rfl, (List.length_set ..).symm, le_setRow hkl (.refl _)⟩, trivial⟩⟩
                · conv => whnf
                  refine bcase_of (fun w4 => ?_) (fun w4 => ?_)
                  · conv => whnf
                    refine ⟨_, _, pick_lit (t1.n 6).2 ok2 [-1, 0, 10000, 10001] true (by decide), ?_⟩
                    conv => whnf
                    refine ⟨1, [(2, setG (rowG supV sup0 l) 1 (.agg [iV c.par, .sl 1 c.lev.length false (rowG iV 0 c.lev), iV c.drop, iV ((t1.n 6).2.pick [-1, 0, 10000, 10001]).1, .bool c.alw]))], ?_⟩
                    refine ⟨outOK_row rfl rfl rfl (fun i h => by rw [setG_ne _ _ h]; exact hdQ_ne l _ c d h) (fun _ => rfl) rfl (cells5 (.inl rfl) (.inr ⟨⟨2, rfl⟩, rfl⟩) (.inl rfl) (.inl rfl) (.inl rfl)), (), [], trivial, ?_⟩
                    rw [← he, bentG_4 w4]
                    exact ⟨rfl, ⟨⟨rfl, rfl, rfl, (List.length_set ..).symm, nofun⟩, trivial⟩, ⟨tape_emb rfl, ⟨rfl, (List.length_set ..).symm, le_setRow hkl (.refl _)⟩, trivial⟩⟩
                  · conv => whnf
                    have w5 : 4 < (t1.n 6).1 := by
                      have e : ∀ n : Int, ((t1.n 6).1 == n) = false → (t1.n 6).1 ≠ n := fun n h h2 => by rw [h2] at h; simp at h
                      have a0 := e 0 w0
                      have a1 := e 1 w1
                      have a2 := e 2 w2
                      have a3 := e 3 w3
                      have a4 := e 4 w4
                      omega
                    refine loops_intro (ct := []) cfgOK (by decide +kernel) (fun j : Nat => ⟨[(5, .osl 1 0 (l.length + j) false)], [(0, some (tapeO (t1.n 6).2)), (1, some (.row 5 (l.length + j) (setG (rowG supV sup0 (moreC l)) 1 (hdV c d)))), (2, some (hdP c d))], 3⟩)
                      (fun j => l.length + j ≤ 17) (fun j => 17 - (l.length + j)) 0 [] (by omega)
                      ⟨rfl, ⟨⟨rfl, rfl, rfl, rfl, nofun⟩, trivial⟩, ⟨tape_emb rfl, ⟨rfl, rfl, more_first l _ c d⟩, ⟨rfl, rfl, rfl, rfl, rfl⟩, trivial⟩⟩ ?_
                    intro j hj
                    conv => whnf
                    refine bcase_of (fun h6 => ?_) (fun h6 => ?_)
                    · have h6 : ((l.length + j : Nat) : Int) ≤ 16 := of_decide_eq_true h6
                      conv => whnf
                      refine ⟨by show ((l.length + j) + 1) * 56 ≤ 140737488355328; omega, ?_⟩
                      conv => whnf
                      exact ⟨j + 1, [(1, some 10)], by omega, by omega, ⟨rfl, ⟨⟨rfl, rfl, rfl, rfl, nofun⟩, trivial⟩, ⟨tape_emb rfl, ⟨rfl, rfl, le_snocG (fun _ _ => .refl _) (more_at l _ hkl (l.length + j) (by omega) (by omega))⟩, ⟨rfl, rfl, rfl, rfl, rfl⟩, trivial⟩⟩⟩
                    · have h6 : ¬ ((l.length + j : Nat) : Int) ≤ 16 := of_decide_eq_false h6
                      have hl17 : l.length + j = (moreC l).length := by rw [moreC_len]; omega
                      conv => whnf
                      refine ⟨1, [(2, setG (rowG supV sup0 (moreC l)) 1 (.agg [iV c.par, .sl 1 c.lev.length false (rowG iV 0 c.lev), iV c.drop, iV c.cap, .bool c.alw]))], ?_⟩
                      refine ⟨outOK_row rfl rfl rfl (fun i h => setG_ne _ _ h) (fun _ => rfl) rfl (cells5 (.inl rfl) (.inr ⟨⟨2, rfl⟩, rfl⟩) (.inl rfl) (.inl rfl) (.inl rfl)), (), [], trivial, ?_⟩
                      rw [← he, bentG_5 w5]
                      exact ⟨rfl, ⟨⟨rfl, rfl, rfl, hl17, nofun⟩, trivial⟩, ⟨tape_emb rfl, ⟨rfl, hl17, more_last l _ hkl hc⟩, trivial⟩⟩
        · intro _ _
          conv => whnf
          exact ⟨embV_le (.refl _) rfl, ⟨tape_emb rfl, trivial⟩⟩
      · refine cut_out (ct := []) (ct' := []) cfgOK (by decide +kernel) (by decide +kernel) (fun _ : Unit => ⟨[(5, .osl 1 0 e.1.length false)], [(0, some (tapeO e.2)), (1, some (.row 5 e.1.length (rowG supV sup0 e.1)))], 2⟩) (fun _ => True) ?_ ?_
        · conv => whnf
          refine ⟨_, _, n_spec t1 ok1 6 (by unfold InI64; decide), ?_⟩
          conv => whnf
          refine bcase_of (fun w0 => ?_) (fun w0 => ?_)
          · conv => whnf
            refine ⟨_, _, range_spec (t1.n 6).2 ok2 (-2) l.length (by omega), ?_⟩
            conv => whnf
            refine ⟨1, [(2, setG (rowG supV sup0 l) 2 (.agg [iV ((t1.n 6).2.range (-2) l.length).1, .sl 1 c.lev.length false (rowG iV 0 c.lev), iV c.drop, iV c.cap, .bool c.alw]))], ?_⟩
            refine ⟨outOK_row rfl rfl rfl (fun i h => by rw [setG_ne _ _ h]; exact hdQ_ne l _ c d h) (fun _ => rfl) rfl (cells5 (.inl rfl) (.inr ⟨⟨2, rfl⟩, rfl⟩) (.inl rfl) (.inl rfl) (.inl rfl)), (), [], trivial, ?_⟩
            rw [← he, bentG_0 w0]
            exact ⟨rfl, ⟨⟨rfl, rfl, rfl, (List.length_set ..).symm, nofun⟩, trivial⟩, ⟨tape_emb rfl, ⟨rfl, (List.length_set ..).symm, le_setRow hkl (.refl _)⟩, trivial⟩⟩
          · conv => whnf
            refine bcase_of (fun w1 => ?_) (fun w1 => ?_)
            · conv => whnf
              refine ⟨⟨⟨rfl, rfl, rfl⟩, by decide, by show (0 : Int) < (c.lev.length : Int); omega⟩, ?_⟩
              conv => whnf
              refine ⟨_, _, pick_lit (t1.n 6).2 ok2 (lev0 c) true (by simp [lev0]), ?_⟩
              conv => whnf
              refine ⟨⟨rfl, rfl, rfl, by show (c.lev.length + 1) * 8 ≤ 140737488355328; omega⟩, ?_⟩
              conv => whnf
              refine ⟨1, [], ?_⟩
              refine ⟨(), [], trivial, ?_⟩
              rw [← he, bentG_1 w1]
              exact ⟨rfl, ⟨⟨rfl, rfl, rfl, (List.length_set ..).symm, nofun⟩, trivial⟩, ⟨tape_emb rfl, ⟨rfl, (List.length_set ..).symm, le_setHd hkl (.agg rfl (cells5 (.refl _) (.sl (by simp) (fun _ => rfl) nofun (le_app rfl (.refl _))) (.refl _) (.refl _) (.refl _)))⟩, trivial⟩⟩
            · conv => whnf
              refine bcase_of (fun w2 => ?_) (fun w2 => ?_)
              · conv => whnf
                refine ⟨1, [(2, setG (rowG supV sup0 l) 2 (.agg [iV c.par, .sl 0 0 true nilG, iV c.drop, iV c.cap, .bool c.alw]))], ?_⟩
                refine ⟨outOK_row rfl rfl rfl (fun i h => by rw [setG_ne _ _ h]; exact hdQ_ne l _ c d h) (fun _ => rfl) rfl (cells5 (.inl rfl) (.inl rfl) (.inl rfl) (.inl rfl) (.inl rfl)), (), [], trivial, ?_⟩
                rw [← he, bentG_2 w2]
                exact ⟨rfl, ⟨⟨rfl, rfl, rfl, (List.length_set ..).symm, nofun⟩, trivial⟩, ⟨tape_emb rfl, ⟨rfl, (List.length_set ..).symm, le_setRow hkl (.agg rfl (cells5 (.refl _) (.sl rfl (fun h => absurd rfl h) nofun (fun _ h => absurd h (Nat.not_lt_zero _))) (.refl _) (.refl _) (.refl _)))⟩, trivial⟩⟩
              · conv => whnf
                refine bcase_of (fun w3 => ?_) (fun w3 => ?_)
                · conv => whnf
                  refine ⟨_, _, pick_lit (t1.n 6).2 ok2 [-1, 1, 5000, 5001] true (by decide), ?_⟩
                  conv => whnf
                  refine ⟨1, [(2, setG (rowG supV sup0 l) 2 (.agg [iV c.par, .sl 1 c.lev.length false (rowG iV 0 c.lev), iV ((t1.n 6).2.pick [-1, 1, 5000, 5001]).1, iV c.cap, .bool c.alw]))], ?_⟩
                  refine ⟨outOK_row rfl rfl rfl (fun i h => by rw [setG_ne _ _ h]; exact hdQ_ne l _ c d h) (fun _ => rfl) rfl (cells5 (.inl rfl) (.inr ⟨⟨2, rfl⟩, rfl⟩) (.inl rfl) (.inl rfl) (.inl rfl)), (), [], trivial, ?_⟩
                  rw [← he, bentG_3 w3]
                  exact ⟨rfl, ⟨⟨rfl, rfl, rfl, (List.length_set ..).symm, nofun⟩, trivial⟩, ⟨tape_emb rfl, ⟨rfl, (List.length_set ..).symm, le_setRow hkl (.refl _)⟩, trivial⟩⟩
                · conv => whnf
                  refine bcase_of (fun w4 => ?_) (fun w4 => ?_)
                  · conv => whnf
                    refine ⟨_, _, pick_lit (t1.n 6).2 ok2 [-1, 0, 10000, 10001] true (by decide), ?_⟩
                    conv => whnf
                    refine ⟨1, [(2, setG (rowG supV sup0 l) 2 (.agg [iV c.par, .sl 1 c.lev.length false (rowG iV 0 c.lev), iV c.drop, iV ((t1.n 6).2.pick [-1, 0, 10000, 10001]).1, .bool c.alw]))], ?_⟩
                    refine ⟨outOK_row rfl rfl rfl (fun i h => by rw [setG_ne _ _ h]; exact hdQ_ne l _ c d h) (fun _ => rfl) rfl (cells5 (.inl rfl) (.inr ⟨⟨2, rfl⟩, rfl⟩) (.inl rfl) (.inl rfl) (.inl rfl)), (), [], trivial, ?_⟩
                    rw [← he, bentG_4 w4]
                    exact ⟨rfl, ⟨⟨rfl, rfl, rfl, (List.length_set ..).symm, nofun⟩, trivial⟩, ⟨tape_emb rfl, ⟨rfl, (List.length_set ..).symm, le_setRow hkl (.refl _)⟩, trivial⟩⟩
                  · conv => whnf
                    have w5 : 4 < (t1.n 6).1 := by
                      have e : ∀ n : Int, ((t1.n 6).1 == n) = false → (t1.n 6).1 ≠ n := fun n h h2 => by rw [h2] at h; simp at h
                      have a0 := e 0 w0
                      have a1 := e 1 w1
                      have a2 := e 2 w2
                      have a3 := e 3 w3
                      have a4 := e 4 w4
                      omega
                    refine loops_intro (ct := []) cfgOK (by decide +kernel) (fun j : Nat => ⟨[(5, .osl 1 0 (l.length + j) false)], [(0, some (tapeO (t1.n 6).2)), (1, some (.row 5 (l.length + j) (setG (rowG supV sup0 (moreC l)) 2 (hdV c d)))), (2, some (hdP c d))], 3⟩)
                      (fun j => l.length + j ≤ 17) (fun j => 17 - (l.length + j)) 0 [] (by omega)
                      ⟨rfl, ⟨⟨rfl, rfl, rfl, rfl, nofun⟩, trivial⟩, ⟨tape_emb rfl, ⟨rfl, rfl, more_first l _ c d⟩, ⟨rfl, rfl, rfl, rfl, rfl⟩, trivial⟩⟩ ?_
                    intro j hj
                    conv => whnf
                    refine bcase_of (fun h6 => ?_) (fun h6 => ?_)
                    · have h6 : ((l.length + j : Nat) : Int) ≤ 16 := of_decide_eq_true h6
                      conv => whnf
                      refine ⟨by show ((l.length + j) + 1) * 56 ≤ 140737488355328; omega, ?_⟩
                      conv => whnf
                      exact ⟨j + 1, [(1, some 10)], by omega, by omega, ⟨rfl, ⟨⟨rfl, rfl, rfl, rfl, nofun⟩, trivial⟩, ⟨tape_emb rfl, ⟨rfl, rfl, le_snocG (fun _ _ => .refl _) (more_at l _ hkl (l.length + j) (by omega) (by omega))⟩, ⟨rfl, rfl, rfl, rfl, rfl⟩, trivial⟩⟩⟩
                    · have h6 : ¬ ((l.length + j : Nat) : Int) ≤ 16 := of_decide_eq_false h6
                      have hl17 : l.length + j = (moreC l).length := by rw [moreC_len]; omega
                      conv => whnf
                      refine ⟨1, [(2, setG (rowG supV sup0 (moreC l)) 2 (.agg [iV c.par, .sl 1 c.lev.length false (rowG iV 0 c.lev), iV c.drop, iV c.cap, .bool c.alw]))], ?_⟩
                      refine ⟨outOK_row rfl rfl rfl (fun i h => setG_ne _ _ h) (fun _ => rfl) rfl (cells5 (.inl rfl) (.inr ⟨⟨2, rfl⟩, rfl⟩) (.inl rfl) (.inl rfl) (.inl rfl)), (), [], trivial, ?_⟩
                      rw [← he, bentG_5 w5]
                      exact ⟨rfl, ⟨⟨rfl, rfl, rfl, hl17, nofun⟩, trivial⟩, ⟨tape_emb rfl, ⟨rfl, hl17, more_last l _ hkl hc⟩, trivial⟩⟩
        · intro _ _
          conv => whnf
          exact ⟨embV_le (.refl _) rfl, ⟨tape_emb rfl, trivial⟩⟩
      · refine cut_out (ct := []) (ct' := []) cfgOK (by decide +kernel) (by decide +kernel) (fun _ : Unit => ⟨[(5, .osl 1 0 e.1.length false)], [(0, some (tapeO e.2)), (1, some (.row 5 e.1.length (rowG supV sup0 e.1)))], 2⟩) (fun _ => True) ?_ ?_
        · conv => whnf
          refine ⟨_, _, n_spec t1 ok1 6 (by unfold InI64; decide), ?_⟩
          conv => whnf
          refine bcase_of (fun w0 => ?_) (fun w0 => ?_)
          · conv => whnf
            refine ⟨_, _, range_spec (t1.n 6).2 ok2 (-2) l.length (by omega), ?_⟩
            conv => whnf
            refine ⟨1, [(2, setG (rowG supV sup0 l) 3 (.agg [iV ((t1.n 6).2.range (-2) l.length).1, .sl 1 c.lev.length false (rowG iV 0 c.lev), iV c.drop, iV c.cap, .bool c.alw]))], ?_⟩
            refine ⟨outOK_row rfl rfl rfl (fun i h => by rw [setG_ne _ _ h]; exact hdQ_ne l _ c d h) (fun _ => rfl) rfl (cells5 (.inl rfl) (.inr ⟨⟨2, rfl⟩, rfl⟩) (.inl rfl) (.inl rfl) (.inl rfl)), (), [], trivial, ?_⟩
            rw [← he, bentG_0 w0]
            exact ⟨rfl, ⟨⟨rfl, rfl, rfl, (List.length_set ..).symm, nofun⟩, trivial⟩, ⟨tape_emb rfl, ⟨rfl, (List.length_set ..).symm, le_setRow hkl (.refl _)⟩, trivial⟩⟩
          · conv => whnf
            refine bcase_of (fun w1 => ?_) (fun w1 => ?_)
            · conv => whnf
              refine ⟨⟨⟨rfl, rfl, rfl⟩, by decide, by show (0 : Int) < (c.lev.length : Int); omega⟩, ?_⟩
              conv => whnf
              refine ⟨_, _, pick_lit (t1.n 6).2 ok2 (lev0 c) true (by simp [lev0]), ?_⟩
              conv => whnf
              refine ⟨⟨rfl, rfl, rfl, by show (c.lev.length + 1) * 8 ≤ 140737488355328; omega⟩, ?_⟩
              conv => whnf
              refine ⟨1, [], ?_⟩
              refine ⟨(), [], trivial, ?_⟩
              rw [← he, bentG_1 w1]
              exact ⟨rfl, ⟨⟨rfl, rfl, rfl, (List.length_set ..).symm, nofun⟩, trivial⟩, ⟨tape_emb rfl, ⟨rfl, (List.length_set ..).symm, le_setHd hkl (.agg rfl (cells5 (.refl _) (.sl (by simp) (fun _ => rfl) nofun (le_app rfl (.refl _))) (.refl _) (.refl _) (.refl _)))⟩, trivial⟩⟩
            · conv => whnf
              refine bcase_of (fun w2 => ?_) (fun w2 => ?_)
              · conv => whnf
                refine ⟨1, [(2, setG (rowG supV sup0 l) 3 (.agg [iV c.par, .sl 0 0 true nilG, iV c.drop, iV c.cap, .bool c.alw]))], ?_⟩
                refine ⟨outOK_row rfl rfl rfl (fun i h => by rw [setG_ne _ _ h]; exact hdQ_ne l _ c d h) (fun _ => rfl) rfl (cells5 (.inl rfl) (.inl rfl) (.inl rfl) (.inl rfl) (.inl rfl)), (), [], trivial, ?_⟩
                rw [← he, bentG_2 w2]
                exact ⟨rfl, ⟨⟨rfl, rfl, rfl, (List.length_set ..).symm, nofun⟩, trivial⟩, ⟨tape_emb rfl, ⟨rfl, (List.length_set ..).symm, le_setRow hkl (.agg rfl (cells5 (.refl _) (.sl rfl (fun h => absurd rfl h) nofun (fun _ h => absurd h (Nat.not_lt_zero _))) (.refl _) (.refl _) (.refl _)))⟩, trivial⟩⟩
              · conv => whnf
                refine bcase_of (fun w3 => ?_) (fun w3 => ?_)
                · conv => whnf
                  refine ⟨_, _, pick_lit (t1.n 6).2 ok2 [-1, 1, 5000, 5001] true (by decide), ?_⟩
                  conv => whnf
                  refine ⟨1, [(2, setG (rowG supV sup0 l) 3 (.agg [iV c.par, .sl 1 c.lev.length false (rowG iV 0 c.lev), iV ((t1.n 6).2.pick [-1, 1, 5000, 5001]).1, iV c.cap, .bool c.alw]))], ?_⟩
                  refine ⟨outOK_row rfl rfl rfl (fun i h => by rw [setG_ne _ _ h]; exact hdQ_ne l _ c d h) (fun _ => rfl) rfl (cells5 (.inl rfl) (.inr ⟨⟨2, rfl⟩, rfl⟩) (.inl rfl) (.inl rfl) (.inl rfl)), (), [], trivial, ?_⟩
                  rw [← he, bentG_3 w3]
                  exact ⟨rfl, ⟨⟨rfl, rfl, rfl, (List.length_set ..).symm, nofun⟩, trivial⟩, ⟨tape_emb rfl, ⟨rfl, (List.length_set ..).symm, le_setRow hkl (.refl _)⟩, trivial⟩⟩
                · conv => whnf
                  refine bcase_of (fun w4 => ?_) (fun w4 => ?_)
                  · conv => whnf
                    refine ⟨_, _, pick_lit (t1.n 6).2 ok2 [-1, 0, 10000, 10001] true (by decide), ?_⟩
                    conv => whnf
                    refine ⟨1, [(2, setG (rowG supV sup0 l) 3 (.agg [iV c.par, .sl 1 c.lev.length false (rowG iV 0 c.lev), iV c.drop, iV ((t1.n 6).2.pick [-1, 0, 10000, 10001]).1, .bool c.alw]))], ?_⟩
                    refine ⟨outOK_row rfl rfl rfl (fun i h => by rw [setG_ne _ _ h]; exact hdQ_ne l _ c d h) (fun _ => rfl) rfl (cells5 (.inl rfl) (.inr ⟨⟨2, rfl⟩, rfl⟩) (.inl rfl) (.inl rfl) (.inl rfl)), (), [], trivial, ?_⟩
                    rw [← he, bentG_4 w4]
                    exact ⟨rfl, ⟨⟨rfl, rfl, rfl, (List.length_set ..).symm, nofun⟩, trivial⟩, ⟨tape_emb rfl, ⟨rfl, (List.length_set ..).symm, le_setRow hkl (.refl _)⟩, trivial⟩⟩
                  · conv => whnf
                    have w5 : 4 < (t1.n 6).1 := by
                      have e : ∀ n : Int, ((t1.n 6).1 == n) = false → (t1.n 6).1 ≠ n := fun n h h2 => by rw [h2] at h; simp at h
                      have a0 := e 0 w0
                      have a1 := e 1 w1
                      have a2 := e 2 w2
                      have a3 := e 3 w3
                      have a4 := e 4 w4
                      omega
                    refine loops_intro (ct := []) cfgOK (by decide +kernel) (fun j : Nat => ⟨[(5, .osl 1 0 (l.length + j) false)], [(0, some (tapeO (t1.n 6).2)), (1, some (.row 5 (l.length + j) (setG (rowG supV sup0 (moreC l)) 3 (hdV c d)))), (2, some (hdP c d))], 3⟩)
                      (fun j => l.length + j ≤ 17) (fun j => 17 - (l.length + j)) 0 [] (by omega)
                      ⟨rfl, ⟨⟨rfl, rfl, rfl, rfl, nofun⟩, trivial⟩, ⟨tape_emb rfl, ⟨rfl, rfl, more_first l _ c d⟩, ⟨rfl, rfl, rfl, rfl, rfl⟩, trivial⟩⟩ ?_
                    intro j hj
                    conv => whnf
                    refine bcase_of (fun h6 => ?_) (fun h6 => ?_)
                    · have h6 : ((l.length + j : Nat) : Int) ≤ 16 := of_decide_eq_true h6
                      conv => whnf
                      refine ⟨by show ((l.length + j) + 1) * 56 ≤ 140737488355328; omega, ?_⟩
                      conv => whnf
                      exact ⟨j + 1, [(1, some 10)], by omega, by omega, ⟨rfl, ⟨⟨rfl, rfl, rfl, rfl, nofun⟩, trivial⟩, ⟨tape_emb rfl, ⟨rfl, rfl, le_snocG (fun _ _ => .refl _) (more_at l _ hkl (l.length + j) (by omega) (by omega))⟩, ⟨rfl, rfl, rfl, rfl, rfl⟩, trivial⟩⟩⟩
                    · have h6 : ¬ ((l.length + j : Nat) : Int) ≤ 16 := of_decide_eq_false h6
                      have hl17 : l.length + j = (moreC l).length := by rw [moreC_len]; omega
                      conv => whnf
                      refine ⟨1, [(2, setG (rowG supV sup0 (moreC l)) 3 (.agg [iV c.par, .sl 1 c.lev.length false (rowG iV 0 c.lev), iV c.drop, iV c.cap, .bool c.alw]))], ?_⟩
                      refine ⟨outOK_row rfl rfl rfl (fun i h => setG_ne _ _ h) (fun _ => rfl) rfl (cells5 (.inl rfl) (.inr ⟨⟨2, rfl⟩, rfl⟩) (.inl rfl) (.inl rfl) (.inl rfl)), (), [], trivial, ?_⟩
                      rw [← he, bentG_5 w5]
                      exact ⟨rfl, ⟨⟨rfl, rfl, rfl, hl17, nofun⟩, trivial⟩, ⟨tape_emb rfl, ⟨rfl, hl17, more_last l _ hkl hc⟩, trivial⟩⟩
        · intro _ _
          conv => whnf
          exact ⟨embV_le (.refl _) rfl, ⟨tape_emb rfl, trivial⟩⟩
      · refine cut_out (ct := []) (ct' := []) cfgOK (by decide +kernel) (by decide +kernel) (fun _ : Unit => ⟨[(5, .osl 1 0 e.1.length false)], [(0, some (tapeO e.2)), (1, some (.row 5 e.1.length (rowG supV sup0 e.1)))], 2⟩) (fun _ => True) ?_ ?_
        · conv => whnf
          refine ⟨_, _, n_spec t1 ok1 6 (by unfold InI64; decide), ?_⟩
          conv => whnf
          refine bcase_of (fun w0 => ?_) (fun w0 => ?_)
          · conv => whnf
            refine ⟨_, _, range_spec (t1.n 6).2 ok2 (-2) l.length (by omega), ?_⟩
            conv => whnf
            refine ⟨1, [(2, setG (rowG supV sup0 l) 4 (.agg [iV ((t1.n 6).2.range (-2) l.length).1, .sl 1 c.lev.length false (rowG iV 0 c.lev), iV c.drop, iV c.cap, .bool c.alw]))], ?_⟩
            refine ⟨outOK_row rfl rfl rfl (fun i h => by rw [setG_ne _ _ h]; exact hdQ_ne l _ c d h) (fun _ => rfl) rfl (cells5 (.inl rfl) (.inr ⟨⟨2, rfl⟩, rfl⟩) (.inl rfl) (.inl rfl) (.inl rfl)), (), [], trivial, ?_⟩
            rw [← he, bentG_0 w0]
            exact ⟨rfl, ⟨⟨rfl, rfl, rfl, (List.length_set ..).symm, nofun⟩, trivial⟩, ⟨tape_emb rfl, ⟨rfl, (List.length_set ..).symm, le_setRow hkl (.refl _)⟩, trivial⟩⟩
          · conv => whnf
            refine bcase_of (fun w1 => ?_) (fun w1 => ?_)
            · conv => whnf
              refine ⟨⟨⟨rfl, rfl, rfl⟩, by decide, by show (0 : Int) < (c.lev.length : Int); omega⟩, ?_⟩
              conv => whnf
              refine ⟨_, _, pick_lit (t1.n 6).2 ok2 (lev0 c) true (by simp [lev0]), ?_⟩
              conv => whnf
              refine ⟨⟨rfl, rfl, rfl, by show (c.lev.length + 1) * 8 ≤ 140737488355328; omega⟩, ?_⟩
              conv => whnf
              refine ⟨1, [], ?_⟩
              refine ⟨(), [], trivial, ?_⟩
              rw [← he, bentG_1 w1]
              exact ⟨rfl, ⟨⟨rfl, rfl, rfl, (List.length_set ..).symm, nofun⟩, trivial⟩, ⟨tape_emb rfl, ⟨rfl, (List.length_set ..).symm, le_setHd hkl (.agg rfl (cells5 (.refl _) (.sl (by simp) (fun _ => rfl) nofun (le_app rfl (.refl _))) (.refl _) (.refl _) (.refl _)))⟩, trivial⟩⟩
            · conv => whnf
              refine bcase_of (fun w2 => ?_) (fun w2 => ?_)
              · conv => whnf
                refine ⟨1, [(2, setG (rowG supV sup0 l) 4 (.agg [iV c.par, .sl 0 0 true nilG, iV c.drop, iV c.cap, .bool c.alw]))], ?_⟩
                refine ⟨outOK_row rfl rfl rfl (fun i h => by rw [setG_ne _ _ h]; exact hdQ_ne l _ c d h) (fun _ => rfl) rfl (cells5 (.inl rfl) (.inl rfl) (.inl rfl) (.inl rfl) (.inl rfl)), (), [], trivial, ?_⟩
                rw [← he, bentG_2 w2]
                exact ⟨rfl, ⟨⟨rfl, rfl, rfl, (List.length_set ..).symm, nofun⟩, trivial⟩, ⟨tape_emb rfl, ⟨rfl, (List.length_set ..).symm, le_setRow hkl (.agg rfl (cells5 (.refl _) (.sl rfl (fun h => absurd rfl h) nofun (fun _ h => absurd h (Nat.not_lt_zero _))) (.refl _) (.refl _) (.refl _)))⟩, trivial⟩⟩
              · conv => whnf
                refine bcase_of (fun w3 => ?_) (fun w3 => ?_)
                · conv => whnf
                  refine ⟨_, _, pick_lit (t1.n 6).2 ok2 [-1, 1, 5000, 5001] true (by decide), ?_⟩
                  conv => whnf
                  refine ⟨1, [(2, setG (rowG supV sup0 l) 4 (.agg [iV c.par, .sl 1 c.lev.length false (rowG iV 0 c.lev), iV ((t1.n 6).2.pick [-1, 1, 5000, 5001]).1, iV c.cap, .bool c.alw]))], ?_⟩
                  refine ⟨outOK_row rfl rfl rfl (fun i h => by rw [setG_ne _ _ h]; exact hdQ_ne l _ c d h) (fun _ => rfl) rfl (cells5 (.inl rfl) (.inr ⟨⟨2, rfl⟩, rfl⟩) (.inl rfl) (.inl rfl) (.inl rfl)), (), [], trivial, ?_⟩
                  rw [← he, bentG_3 w3]
                  exact ⟨rfl, ⟨⟨rfl, rfl, rfl, (List.length_set ..).symm, nofun⟩, trivial⟩, ⟨tape_emb rfl, ⟨rfl, (List.length_set ..).symm, le_setRow hkl (.refl _)⟩, trivial⟩⟩
                · conv => whnf
                  refine bcase_of (fun w4 => ?_) (fun w4 => ?_)
                  · conv => whnf
                    refine ⟨_, _, pick_lit (t1.n 6).2 ok2 [-1, 0, 10000, 10001] true (by decide), ?_⟩
                    conv => whnf
                    refine ⟨1, [(2, setG (rowG supV sup0 l) 4 (.agg [iV c.par, .sl 1 c.lev.length false (rowG iV 0 c.lev), iV c.drop, iV ((t1.n 6).2.pick [-1, 0, 10000, 10001]).1, .bool c.alw]))], ?_⟩
                    refine ⟨outOK_row rfl rfl rfl (fun i h => by rw [setG_ne _ _ h]; exact hdQ_ne l _ c d h) (fun _ => rfl) rfl (cells5 (.inl rfl) (.inr ⟨⟨2, rfl⟩, rfl⟩) (.inl rfl) (.inl rfl) (.inl rfl)), (), [], trivial, ?_⟩
                    rw [← he, bentG_4 w4]
                    exact ⟨rfl, ⟨⟨rfl, rfl, rfl, (List.length_set ..).symm, nofun⟩, trivial⟩, ⟨tape_emb rfl, ⟨rfl, (List.length_set ..).symm, le_setRow hkl (.refl _)⟩, trivial⟩⟩
                  · conv => whnf
                    have w5 : 4 < (t1.n 6).1 := by
                      have e : ∀ n : Int, ((t1.n 6).1 == n) = false → (t1.n 6).1 ≠ n := fun n h h2 => by rw [h2] at h; simp at h
                      have a0 := e 0 w0
                      have a1 := e 1 w1
                      have a2 := e 2 w2
                      have a3 := e 3 w3
                      have a4 := e 4 w4
                      omega
                    refine loops_intro (ct := []) cfgOK (by decide +kernel) (fun j : Nat => ⟨[(5, .osl 1 0 (l.length + j) false)], [(0, some (tapeO (t1.n 6).2)), (1, some (.row 5 (l.length + j) (setG (rowG supV sup0 (moreC l)) 4 (hdV c d)))), (2, some (hdP c d))], 3⟩)
                      (fun j => l.length + j ≤ 17) (fun j => 17 - (l.length + j)) 0 [] (by omega)
                      ⟨rfl, ⟨⟨rfl, rfl, rfl, rfl, nofun⟩, trivial⟩, ⟨tape_emb rfl, ⟨rfl, rfl, more_first l _ c d⟩, ⟨rfl, rfl, rfl, rfl, rfl⟩, trivial⟩⟩ ?_
                    intro j hj
                    conv => whnf
                    refine bcase_of (fun h6 => ?_) (fun h6 => ?_)
                    · have h6 : ((l.length + j : Nat) : Int) ≤ 16 := of_decide_eq_true h6
                      conv => whnf
                      refine ⟨by show ((l.length + j) + 1) * 56 ≤ 140737488355328; omega, ?_⟩
                      conv => whnf
                      exact ⟨j + 1, [(1, some 10)], by omega, by omega, ⟨rfl, ⟨⟨rfl, rfl, rfl, rfl, nofun⟩, trivial⟩, ⟨tape_emb rfl, ⟨rfl, rfl, le_snocG (fun _ _ => .refl _) (more_at l _ hkl (l.length + j) (by omega) (by omega))⟩, ⟨rfl, rfl, rfl, rfl, rfl⟩, trivial⟩⟩⟩
                    · have h6 : ¬ ((l.length + j : Nat) : Int) ≤ 16 := of_decide_eq_false h6
                      have hl17 : l.length + j = (moreC l).length := by rw [moreC_len]; omega
                      conv => whnf
                      refine ⟨1, [(2, setG (rowG supV sup0 (moreC l)) 4 (.agg [iV c.par, .sl 1 c.lev.length false (rowG iV 0 c.lev), iV c.drop, iV c.cap, .bool c.alw]))], ?_⟩
                      refine ⟨outOK_row rfl rfl rfl (fun i h => setG_ne _ _ h) (fun _ => rfl) rfl (cells5 (.inl rfl) (.inr ⟨⟨2, rfl⟩, rfl⟩) (.inl rfl) (.inl rfl) (.inl rfl)), (), [], trivial, ?_⟩
                      rw [← he, bentG_5 w5]
                      exact ⟨rfl, ⟨⟨rfl, rfl, rfl, hl17, nofun⟩, trivial⟩, ⟨tape_emb rfl, ⟨rfl, hl17, more_last l _ hkl hc⟩, trivial⟩⟩
        · intro _ _
          conv => whnf
          exact ⟨embV_le (.refl _) rfl, ⟨tape_emb rfl, trivial⟩⟩
      · refine cut_out (ct := []) (ct' := []) cfgOK (by decide +kernel) (by decide +kernel) (fun _ : Unit => ⟨[(5, .osl 1 0 e.1.length false)], [(0, some (tapeO e.2)), (1, some (.row 5 e.1.length (rowG supV sup0 e.1)))], 2⟩) (fun _ => True) ?_ ?_
        · conv => whnf
          refine ⟨_, _, n_spec t1 ok1 6 (by unfold InI64; decide), ?_⟩
          conv => whnf
          refine bcase_of (fun w0 => ?_) (fun w0 => ?_)
          · conv => whnf
            refine ⟨_, _, range_spec (t1.n 6).2 ok2 (-2) l.length (by omega), ?_⟩
            conv => whnf
            refine ⟨1, [(2, setG (rowG supV sup0 l) 5 (.agg [iV ((t1.n 6).2.range (-2) l.length).1, .sl 1 c.lev.length false (rowG iV 0 c.lev), iV c.drop, iV c.cap, .bool c.alw]))], ?_⟩
            refine ⟨outOK_row rfl rfl rfl (fun i h => by rw [setG_ne _ _ h]; exact hdQ_ne l _ c d h) (fun _ => rfl) rfl (cells5 (.inl rfl) (.inr ⟨⟨2, rfl⟩, rfl⟩) (.inl rfl) (.inl rfl) (.inl rfl)), (), [], trivial, ?_⟩
            rw [← he, bentG_0 w0]
            exact ⟨rfl, ⟨⟨rfl, rfl, rfl, (List.length_set ..).symm, nofun⟩, trivial⟩, ⟨tape_emb rfl, ⟨rfl, (List.length_set ..).symm, le_setRow hkl (.refl _)⟩, trivial⟩⟩
          · conv => whnf
            refine bcase_of (fun w1 => ?_) (fun w1 => ?_)
            · conv => whnf
              refine ⟨⟨⟨rfl, rfl, rfl⟩, by decide, by show (0 : Int) < (c.lev.length : Int); omega⟩, ?_⟩
              conv => whnf
              refine ⟨_, _, pick_lit (t1.n 6).2 ok2 (lev0 c) true (by simp [lev0]), ?_⟩
              conv => whnf
              refine ⟨⟨rfl, rfl, rfl, by show (c.lev.length + 1) * 8 ≤ 140737488355328; omega⟩, ?_⟩
              conv => whnf
              refine ⟨1, [], ?_⟩
              refine ⟨(), [], trivial, ?_⟩
              rw [← he, bentG_1 w1]
              exact ⟨rfl, ⟨⟨rfl, rfl, rfl, (List.length_set ..).symm, nofun⟩, trivial⟩, ⟨tape_emb rfl, ⟨rfl, (List.length_set ..).symm, le_setHd hkl (.agg rfl (cells5 (.refl _) (.sl (by simp) (fun _ => rfl) nofun (le_app rfl (.refl _))) (.refl _) (.refl _) (.refl _)))⟩, trivial⟩⟩
            · conv => whnf
              refine bcase_of (fun w2 => ?_) (fun w2 => ?_)
              · conv => whnf
                refine ⟨1, [(2, setG (rowG supV sup0 l) 5 (.agg [iV c.par, .sl 0 0 true nilG, iV c.drop, iV c.cap, .bool c.alw]))], ?_⟩
                refine ⟨outOK_row rfl rfl rfl (fun i h => by rw [setG_ne _ _ h]; exact hdQ_ne l _ c d h) (fun _ => rfl) rfl (cells5 (.inl rfl) (.inl rfl) (.inl rfl) (.inl rfl) (.inl rfl)), (), [], trivial, ?_⟩
                rw [← he, bentG_2 w2]
                exact ⟨rfl, ⟨⟨rfl, rfl, rfl, (List.length_set ..).symm, nofun⟩, trivial⟩, ⟨tape_emb rfl, ⟨rfl, (List.length_set ..).symm, le_setRow hkl (.agg rfl (cells5 (.refl _) (.sl rfl (fun h => absurd rfl h) nofun (fun _ h => absurd h (Nat.not_lt_zero _))) (.refl _) (.refl _) (.refl _)))⟩, trivial⟩⟩
              · conv => whnf
                refine bcase_of (fun w3 => ?_) (fun w3 => ?_)
                · conv => whnf
                  refine ⟨_, _, pick_lit (t1.n 6).2 ok2 [-1, 1, 5000, 5001] true (by decide), ?_⟩
                  conv => whnf
                  refine ⟨1, [(2, setG (rowG supV sup0 l) 5 (.agg [iV c.par, .sl 1 c.lev.length false (rowG iV 0 c.lev), iV ((t1.n 6).2.pick [-1, 1, 5000, 5001]).1, iV c.cap, .bool c.alw]))], ?_⟩
                  refine ⟨outOK_row rfl rfl rfl (fun i h => by rw [setG_ne _ _ h]; exact hdQ_ne l _ c d h) (fun _ => rfl) rfl (cells5 (.inl rfl) (.inr ⟨⟨2, rfl⟩, rfl⟩) (.inl rfl) (.inl rfl) (.inl rfl)), (), [], trivial, ?_⟩
                  rw [← he, bentG_3 w3]
                  exact ⟨rfl, ⟨⟨rfl, rfl, rfl, (List.length_set ..).symm, nofun⟩, trivial⟩, ⟨tape_emb rfl, ⟨rfl, (List.length_set ..).symm, le_setRow hkl (.refl _)⟩, trivial⟩⟩
                · conv => whnf
                  refine bcase_of (fun w4 => ?_) (fun w4 => ?_)
                  · conv => whnf
                    refine ⟨_, _, pick_lit (t1.n 6).2 ok2 [-1, 0, 10000, 10001] true (by decide), ?_⟩
                    conv => whnf
                    refine ⟨1, [(2, setG (rowG supV sup0 l) 5 (.agg [iV c.par, .sl 1 c.lev.length false (rowG iV 0 c.lev), iV c.drop, iV ((t1.n 6).2.pick [-1, 0, 10000, 10001]).1, .bool c.alw]))], ?_⟩
                    refine ⟨outOK_row rfl rfl rfl (fun i h => by rw [setG_ne _ _ h]; exact hdQ_ne l _ c d h) (fun _ => rfl) rfl (cells5 (.inl rfl) (.inr ⟨⟨2, rfl⟩, rfl⟩) (.inl rfl) (.inl rfl) (.inl rfl)), (), [], trivial, ?_⟩
                    rw [← he, bentG_4 w4]
                    exact ⟨rfl, ⟨⟨rfl, rfl, rfl, (List.length_set ..).symm, nofun⟩, trivial⟩, ⟨tape_emb rfl, ⟨rfl, (List.length_set ..).symm, le_setRow hkl (.refl _)⟩, trivial⟩⟩
                  · conv => whnf
                    have w5 : 4 < (t1.n 6).1 := by
                      have e : ∀ n : Int, ((t1.n 6).1 == n) = false → (t1.n 6).1 ≠ n := fun n h h2 => by rw [h2] at h; simp at h
                      have a0 := e 0 w0
                      have a1 := e 1 w1
                      have a2 := e 2 w2
                      have a3 := e 3 w3
                      have a4 := e 4 w4
                      omega
                    refine loops_intro (ct := []) cfgOK (by decide +kernel) (fun j : Nat => ⟨[(5, .osl 1 0 (l.length + j) false)], [(0, some (tapeO (t1.n 6).2)), (1, some (.row 5 (l.length + j) (setG (rowG supV sup0 (moreC l)) 5 (hdV c d)))), (2, some (hdP c d))], 3⟩)
                      (fun j => l.length + j ≤ 17) (fun j => 17 - (l.length + j)) 0 [] (by omega)
                      ⟨rfl, ⟨⟨rfl, rfl, rfl, rfl, nofun⟩, trivial⟩, ⟨tape_emb rfl, ⟨rfl, rfl, more_first l _ c d⟩, ⟨rfl, rfl, rfl, rfl, rfl⟩, trivial⟩⟩ ?_
                    intro j hj
                    conv => whnf
                    refine bcase_of (fun h6 => ?_) (fun h6 => ?_)
                    · have h6 : ((l.length + j : Nat) : Int) ≤ 16 := of_decide_eq_true h6
                      conv => whnf
                      refine ⟨by show ((l.length + j) + 1) * 56 ≤ 140737488355328; omega, ?_⟩
                      conv => whnf
                      exact ⟨j + 1, [(1, some 10)], by omega, by omega, ⟨rfl, ⟨⟨rfl, rfl, rfl, rfl, nofun⟩, trivial⟩, ⟨tape_emb rfl, ⟨rfl, rfl, le_snocG (fun _ _ => .refl _) (more_at l _ hkl (l.length + j) (by omega) (by omega))⟩, ⟨rfl, rfl, rfl, rfl, rfl⟩, trivial⟩⟩⟩
                    · have h6 : ¬ ((l.length + j : Nat) : Int) ≤ 16 := of_decide_eq_false h6
                      have hl17 : l.length + j = (moreC l).length := by rw [moreC_len]; omega
                      conv => whnf
                      refine ⟨1, [(2, setG (rowG supV sup0 (moreC l)) 5 (.agg [iV c.par, .sl 1 c.lev.length false (rowG iV 0 c.lev), iV c.drop, iV c.cap, .bool c.alw]))], ?_⟩
                      refine ⟨outOK_row rfl rfl rfl (fun i h => setG_ne _ _ h) (fun _ => rfl) rfl (cells5 (.inl rfl) (.inr ⟨⟨2, rfl⟩, rfl⟩) (.inl rfl) (.inl rfl) (.inl rfl)), (), [], trivial, ?_⟩
                      rw [← he, bentG_5 w5]
                      exact ⟨rfl, ⟨⟨rfl, rfl, rfl, hl17, nofun⟩, trivial⟩, ⟨tape_emb rfl, ⟨rfl, hl17, more_last l _ hkl hc⟩, trivial⟩⟩
        · intro _ _
          conv => whnf
          exact ⟨embV_le (.refl _) rfl, ⟨tape_emb rfl, trivial⟩⟩

end Go.Proofs.Ytjmhlbogkeohpaa

namespace Go.Proofs.Ytjmhlbogkeohpaa
open Go.Ab
set_option maxRecDepth 100000
set_option maxHeartbeats 4000000

theorem le_drop1 {l : List Int} {n : Nat} : ∀ i, i < n → Le (shiftG (0 + Int.toNat 1) (rowG iV 0 l) i) (rowG iV 0 (l.drop 1) i) := by
  intro i _
  rw [shiftG_eq]
  have e : rowG iV 0 l (0 + Int.toNat 1 + i) = rowG iV 0 (l.drop 1) i := by
    unfold rowG
    rw [List.getD_eq_getElem?_getD, List.getD_eq_getElem?_getD, List.getElem?_drop]
    rfl
  rw [e]
  exact .refl _

/-! A chain in which one thing is changed -/
theorem bentC_E (t : Tp) (ht : t.ok) (c : Chn) (hc : c.sups.length ≤ 100000) : SpecE Try.prog cfg 39 [.ptr 0 0 0, chnV c] [tapeO t] (fun r obs' => ∃ q t', r = chnV q ∧ obs' = [tapeO t'] ∧ t'.ok ∧ q.sups.length ≤ 200000) := by
  refine spec_ex (ct := [2]) cfgOK Try.func39 rfl rfl (Nat.le_of_ble_eq_true rfl) (by decide +kernel) ?_
  (conv => whnf)
  refine cut_introE (ct := []) (ct' := []) cfgOK (by decide +kernel) (by decide +kernel) (fun _ : Unit => ⟨[(0, .ptr 0 0 0), (3, .ptr 1 0 0), (4, .ptr 2 0 0)], [(0, some (tapeO t)), (1, some (.box [.bool c.over, .osl 3 0 c.sups.length false, iV c.first, iV c.last])), (2, some (.box [.bool false, .sl 0 0 true nilG, iV 0, iV 0])), (3, some (.row 1 c.sups.length (rowG iV 0 c.sups)))], 4⟩) (fun _ => True) ?_ ?_
  · (conv => whnf)
    refine ⟨by show (0 + c.sups.length) * 8 ≤ 140737488355328; omega, ?_⟩
    (conv => whnf)
    exact ⟨(), [(1, some 1), (2, some 2), (3, some 6)], trivial, ⟨rfl, ⟨⟨rfl, rfl, rfl, rfl⟩, ⟨rfl, rfl, rfl, rfl⟩, ⟨rfl, rfl, rfl, rfl⟩, trivial⟩, ⟨tape_emb rfl, ⟨rfl, ⟨rfl, rfl, rfl, Nat.zero_add _, nofun⟩, ⟨rfl, rfl⟩, ⟨rfl, rfl⟩, trivial⟩, ⟨rfl, embV_le (.refl _) rfl, ⟨rfl, rfl⟩, ⟨rfl, rfl⟩, trivial⟩, ⟨rfl, Nat.zero_add _, fun j _ => .refl _⟩, trivial⟩⟩⟩
  · intro _ _
    (conv => whnf)
    obtain ⟨w, t2, ht2, _, _, hs⟩ := n_ex ht 5 (by unfold InI64; omega)
    refine ⟨_, _, hs, ?_⟩; conv => whnf
    refine bcase_of (fun h0 => ?_) (fun h0 => ?_)
    · (conv => whnf)
      refine ⟨_, _, ⟨⟨!c.over, c.sups, c.first, c.last⟩, t2, rfl, rfl, ht2, by show c.sups.length ≤ 200000; omega⟩, Nat.le_refl _, ?_⟩
      (conv => whnf)
      (repeat' (first | exact trivial | exact rfl | exact ⟨rfl, rfl⟩ | exact ⟨rfl, trivial⟩ | exact ⟨rfl, LeL.refl _, trivial⟩ | exact ⟨rfl, LeL.refl _, LeL.refl _, trivial⟩ | exact embV_le (.refl _) rfl | exact embV_leV (.refl _) rfl (Nat.lt_of_sub_pos (by exact Nat.zero_lt_succ _)) | exact ⟨rfl, rfl, rfl, rfl⟩ | exact ⟨rfl, rfl, rfl, rfl, id⟩ | exact ⟨rfl, rfl, rfl, rfl, rfl⟩ | exact ⟨rfl, rfl, rfl, rfl, nofun⟩ | exact tape_emb rfl | exact embO_le (LeL.refl _) rfl (Nat.lt_of_sub_pos (by exact Nat.zero_lt_succ _)) | exact ⟨rfl, rfl, fun _ _ => .refl _⟩ | exact embV_le (le_len (by simp)) rfl | exact ⟨rfl, rfl, rfl, by simp, nofun⟩ | exact ⟨rfl, by simp, le_app rfl (.refl _)⟩ | (refine ⟨rfl, ?_⟩; dsimp only; simp; done) | (refine ⟨rfl, ?_⟩; dsimp only; omega) | (refine ⟨rfl, ?_⟩; dsimp only; simp; omega) | refine ⟨?_, ?_⟩ | refine ⟨?_, ?_, ?_⟩))
    · (conv => whnf)
      refine bcase_of (fun h1 => ?_) (fun h1 => ?_)
      · (conv => whnf)
        obtain ⟨v, t3, ht3, _, _, hs⟩ := range_ex ht2 (-2) 5 (by omega)
        refine ⟨_, _, hs, ?_⟩; conv => whnf
        refine ⟨_, _, ⟨⟨c.over, c.sups, v, c.last⟩, t3, rfl, rfl, ht3, by show c.sups.length ≤ 200000; omega⟩, Nat.le_refl _, ?_⟩
        (conv => whnf)
        (repeat' (first | exact trivial | exact rfl | exact ⟨rfl, rfl⟩ | exact ⟨rfl, trivial⟩ | exact ⟨rfl, LeL.refl _, trivial⟩ | exact ⟨rfl, LeL.refl _, LeL.refl _, trivial⟩ | exact embV_le (.refl _) rfl | exact embV_leV (.refl _) rfl (Nat.lt_of_sub_pos (by exact Nat.zero_lt_succ _)) | exact ⟨rfl, rfl, rfl, rfl⟩ | exact ⟨rfl, rfl, rfl, rfl, id⟩ | exact ⟨rfl, rfl, rfl, rfl, rfl⟩ | exact ⟨rfl, rfl, rfl, rfl, nofun⟩ | exact tape_emb rfl | exact embO_le (LeL.refl _) rfl (Nat.lt_of_sub_pos (by exact Nat.zero_lt_succ _)) | exact ⟨rfl, rfl, fun _ _ => .refl _⟩ | exact embV_le (le_len (by simp)) rfl | exact ⟨rfl, rfl, rfl, by simp, nofun⟩ | exact ⟨rfl, by simp, le_app rfl (.refl _)⟩ | (refine ⟨rfl, ?_⟩; dsimp only; simp; done) | (refine ⟨rfl, ?_⟩; dsimp only; omega) | (refine ⟨rfl, ?_⟩; dsimp only; simp; omega) | refine ⟨?_, ?_⟩ | refine ⟨?_, ?_, ?_⟩))
      · (conv => whnf)
        refine bcase_of (fun h2 => ?_) (fun h2 => ?_)
        · (conv => whnf)
          obtain ⟨v, t3, ht3, _, _, hs⟩ := range_ex ht2 (-2) 5 (by omega)
          refine ⟨_, _, hs, ?_⟩; conv => whnf
          refine ⟨_, _, ⟨⟨c.over, c.sups, c.first, v⟩, t3, rfl, rfl, ht3, by show c.sups.length ≤ 200000; omega⟩, Nat.le_refl _, ?_⟩
          (conv => whnf)
          (repeat' (first | exact trivial | exact rfl | exact ⟨rfl, rfl⟩ | exact ⟨rfl, trivial⟩ | exact ⟨rfl, LeL.refl _, trivial⟩ | exact ⟨rfl, LeL.refl _, LeL.refl _, trivial⟩ | exact embV_le (.refl _) rfl | exact embV_leV (.refl _) rfl (Nat.lt_of_sub_pos (by exact Nat.zero_lt_succ _)) | exact ⟨rfl, rfl, rfl, rfl⟩ | exact ⟨rfl, rfl, rfl, rfl, id⟩ | exact ⟨rfl, rfl, rfl, rfl, rfl⟩ | exact ⟨rfl, rfl, rfl, rfl, nofun⟩ | exact tape_emb rfl | exact embO_le (LeL.refl _) rfl (Nat.lt_of_sub_pos (by exact Nat.zero_lt_succ _)) | exact ⟨rfl, rfl, fun _ _ => .refl _⟩ | exact embV_le (le_len (by simp)) rfl | exact ⟨rfl, rfl, rfl, by simp, nofun⟩ | exact ⟨rfl, by simp, le_app rfl (.refl _)⟩ | (refine ⟨rfl, ?_⟩; dsimp only; simp; done) | (refine ⟨rfl, ?_⟩; dsimp only; omega) | (refine ⟨rfl, ?_⟩; dsimp only; simp; omega) | refine ⟨?_, ?_⟩ | refine ⟨?_, ?_, ?_⟩))
        · (conv => whnf)
          refine bcase_of (fun h3 => ?_) (fun h3 => ?_)
          · (conv => whnf)
            obtain ⟨v, t3, ht3, _, _, hs⟩ := range_ex ht2 (-1) 5 (by omega)
            refine ⟨_, _, hs, ?_⟩; conv => whnf
            refine ⟨by show (c.sups.length + 1) * 8 ≤ 140737488355328; omega, ?_⟩
            (conv => whnf)
            refine ⟨_, _, ⟨⟨c.over, c.sups ++ [v], c.first, c.last⟩, t3, rfl, rfl, ht3, by show (c.sups ++ [v]).length ≤ 200000; simp; omega⟩, Nat.le_refl _, ?_⟩
            (conv => whnf)
            exact ⟨⟨rfl, ⟨by simp, fun _ => rfl, nofun, le_app rfl (.refl _)⟩, ⟨rfl, rfl⟩, ⟨rfl, rfl⟩, trivial⟩, tape_emb rfl, trivial⟩
          · (conv => whnf)
            refine bcase_of (fun h4 => ?_) (fun h4 => ?_)
            · have h4 : decide ((0 : Int) < (c.sups.length : Int)) = true := h4
              have h5 := of_decide_eq_true h4
              (conv => whnf)
              refine ⟨by omega, ?_⟩
              (conv => whnf)
              refine ⟨_, _, ⟨⟨c.over, c.sups.drop 1, c.first, c.last⟩, t2, rfl, rfl, ht2, by show (c.sups.drop 1).length ≤ 200000; rw [List.length_drop]; omega⟩, Nat.le_refl _, ?_⟩
              (conv => whnf)
              exact ⟨⟨rfl, ⟨by simp, fun _ => rfl, nofun, le_drop1⟩, ⟨rfl, rfl⟩, ⟨rfl, rfl⟩, trivial⟩, tape_emb rfl, trivial⟩
            · (conv => whnf)
              refine ⟨_, _, ⟨⟨c.over, c.sups, c.first, c.last⟩, t2, rfl, rfl, ht2, by show c.sups.length ≤ 200000; omega⟩, Nat.le_refl _, ?_⟩
              (conv => whnf)
              (repeat' (first | exact trivial | exact rfl | exact ⟨rfl, rfl⟩ | exact ⟨rfl, trivial⟩ | exact ⟨rfl, LeL.refl _, trivial⟩ | exact ⟨rfl, LeL.refl _, LeL.refl _, trivial⟩ | exact embV_le (.refl _) rfl | exact embV_leV (.refl _) rfl (Nat.lt_of_sub_pos (by exact Nat.zero_lt_succ _)) | exact ⟨rfl, rfl, rfl, rfl⟩ | exact ⟨rfl, rfl, rfl, rfl, id⟩ | exact ⟨rfl, rfl, rfl, rfl, rfl⟩ | exact ⟨rfl, rfl, rfl, rfl, nofun⟩ | exact tape_emb rfl | exact embO_le (LeL.refl _) rfl (Nat.lt_of_sub_pos (by exact Nat.zero_lt_succ _)) | exact ⟨rfl, rfl, fun _ _ => .refl _⟩ | exact embV_le (le_len (by simp)) rfl | exact ⟨rfl, rfl, rfl, by simp, nofun⟩ | exact ⟨rfl, by simp, le_app rfl (.refl _)⟩ | (refine ⟨rfl, ?_⟩; dsimp only; simp; done) | (refine ⟨rfl, ?_⟩; dsimp only; omega) | (refine ⟨rfl, ?_⟩; dsimp only; simp; omega) | refine ⟨?_, ?_⟩ | refine ⟨?_, ?_, ?_⟩))

theorem bentC_ex {t : Tp} (ht : t.ok) {c : Chn} (hc : c.sups.length ≤ 100000) : ∃ q t', t'.ok ∧ q.sups.length ≤ 200000 ∧ S 39 [.ptr 0 0 0, chnV c] [tapeO t] (chnV q) [tapeO t'] := by
  obtain ⟨r, o, ⟨q, t', rfl, rfl, h1, h2⟩, h⟩ := bentC_E t ht c hc
  exact ⟨q, t', h1, h2, h⟩

theorem bentS_ex {t : Tp} (ht : t.ok) {l : List Sup} (h1 : 1 ≤ l.length) (h2 : l.length ≤ 6) (hf : GoodS l) : ∃ b t', t'.ok ∧ b.length ≤ 17 ∧ S 26 [.ptr 0 0 0, supsV l] [tapeO t] (supsV b) [tapeO t'] := by
  have hb := Tp.n_lt t l.length
  have hk : (t.n l.length).1 = ((t.n l.length).1.toNat : Nat) := by omega
  have ok2 := Tp.n_ok (Tp.n_ok ht l.length) 6
  refine ⟨_, _, ?_, ?_, bent_spec t ht l h1 h2 hf _ hk _ rfl⟩
  · generalize ((t.n l.length).2.n 6).1 = w
    generalize ((t.n l.length).2.n 6).2 = t2 at ok2
    unfold bentG
    cases w == 0 with
    | true => exact Tp.n_ok ok2 (l.length - -2 + 1)
    | false =>
      cases w == 1 with
      | true => exact Tp.n_ok ok2 ((lev0 (l.getD (t.n l.length).1.toNat sup0)).length : Nat)
      | false =>
        cases w == 2 with
        | true => exact ok2
        | false =>
          cases w == 3 with
          | true => exact Tp.n_ok ok2 (([-1, 1, 5000, 5001] : List Int).length : Nat)
          | false =>
            cases w == 4 with
            | true => exact Tp.n_ok ok2 (([-1, 0, 10000, 10001] : List Int).length : Nat)
            | false => exact ok2
  · generalize ((t.n l.length).2.n 6).1 = w
    generalize ((t.n l.length).2.n 6).2 = t2
    unfold bentG
    cases w == 0 <;> cases w == 1 <;> cases w == 2 <;> cases w == 3 <;> cases w == 4 <;> simp <;> omega

end Go.Proofs.Ytjmhlbogkeohpaa
