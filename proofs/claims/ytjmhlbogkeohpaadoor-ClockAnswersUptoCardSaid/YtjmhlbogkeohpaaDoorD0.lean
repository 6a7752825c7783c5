/- Contracts of the program's functions, shown by walks of that machine, and the plain laws. -/
import Derived.Test.YtjmhlbogkeohpaaDoorProg
import Derived.Test.YtjmhlbogkeohpaaDoorL4
namespace Go.Proofs.YtjmhlbogkeohpaaDoor
open Go.Ab

def cfg : Cfg where
  ty := [(3, ⟨1, false, 8, [(.int .i64)], (.int .i64)⟩),
  (4, ⟨1, false, 1, [.bool], .bool⟩),
  (22, ⟨1, false, 24, [.slice], (.slice 3)⟩),
  (23, ⟨1, false, 8, [.ptr], (.pointer 65)⟩),
  (25, ⟨1, false, 24, [.slice], (.slice 39)⟩),
  (28, ⟨1, false, 24, [.slice], (.slice 32)⟩),
  (31, ⟨3, true, 24, [(.int .i64), (.int .i64), (.int .i64)], (.struct [(0, 3), (1, 3), (2, 3)])⟩),
  (32, ⟨3, true, 24, [(.int .i64), (.int .i64), (.int .i64)], (.struct [(0, 3), (1, 3), (2, 3)])⟩),
  (34, ⟨2, true, 16, [(.int .i64), (.int .i64)], (.struct [(0, 3), (1, 3)])⟩),
  (35, ⟨2, true, 16, [(.int .i64), (.int .i64)], (.struct [(0, 3), (1, 3)])⟩),
  (36, ⟨1, false, 24, [.slice], (.slice 35)⟩),
  (38, ⟨5, true, 72, [(.int .i64), .slice, .slice, (.int .i64), (.int .i64)], (.struct [(0, 3), (1, 22), (2, 22), (3, 3), (4, 3)])⟩),
  (39, ⟨5, true, 72, [(.int .i64), .slice, .slice, (.int .i64), (.int .i64)], (.struct [(0, 3), (1, 22), (2, 22), (3, 3), (4, 3)])⟩),
  (45, ⟨1, false, 8, [(.int .i64)], (.int .i64)⟩),
  (53, ⟨1, false, 24, [.slice], (.slice 25)⟩),
  (55, ⟨1, false, 24, [.slice], (.slice 22)⟩),
  (58, ⟨1, false, 24, [.slice], (.slice 28)⟩),
  (64, ⟨2, true, 32, [.slice, (.int .i64)], (.struct [(0, 22), (1, 3)])⟩),
  (65, ⟨2, true, 32, [.slice, (.int .i64)], (.struct [(0, 22), (1, 3)])⟩),
  (68, ⟨1, false, 24, [.slice], (.slice 4)⟩),
  (72, ⟨1, false, 8, [.other], .other⟩),
  (76, ⟨1, false, 8, [.other], .other⟩),
  (80, ⟨1, false, 8, [.other], .other⟩),
  (92, ⟨1, false, 8, [.other], .other⟩)]
  eqs := [(35, [.int .i64, .int .i64])]
  fns := [(46, ⟨[0], false⟩), (14, ⟨[0], false⟩), (37, ⟨[0], false⟩), (21, ⟨[0], false⟩), (61, ⟨[0], false⟩), (8, ⟨[0], false⟩), (9, ⟨[0], false⟩), (10, ⟨[0], false⟩), (22, ⟨[0], false⟩), (38, ⟨[0], false⟩),
    (7, ⟨[], true⟩), (18, ⟨[], true⟩), (13, ⟨[], true⟩), (15, ⟨[], true⟩), (33, ⟨[], true⟩), (48, ⟨[], true⟩), (56, ⟨[], true⟩), (39, ⟨[], true⟩), (41, ⟨[], true⟩), (25, ⟨[], true⟩)]
  glob := [(0, [.int .i64 0, .int .i64 1])]

theorem cfgOK : CfgOK Tryd.prog cfg := cfgOK_of (by kernel_rfl) (by kernel_rfl) (by kernel_rfl)

end Go.Proofs.YtjmhlbogkeohpaaDoor

namespace Go.Proofs.YtjmhlbogkeohpaaDoor
open Go.Ab

abbrev S := Ab.Spec Tryd.prog cfg

theorem mod_spec (x n : Int) (hn : InI64 n) : S 45 [iV x, iV n] [] (iV (modF x n)) [] := by
  refine spec_of_x (ct := []) cfgOK Tryd.func45 rfl rfl (Nat.le_of_ble_eq_true rfl) (by decide +kernel) (Nat.le_refl _) ?_
  conv => whnf
  refine bcase_of (fun h => ?_) (fun h => ?_)
  · conv => whnf
    have h := of_decide_eq_true h
    exact ⟨⟨rfl, by simp [modF, h]⟩, trivial⟩
  · conv => whnf
    have h := of_decide_eq_false h
    refine ⟨by omega, ?_⟩
    conv => whnf
    have hr := Int.emod_nonneg x (b := n) (by omega)
    have hr' := Int.emod_lt_of_pos x (b := n) (by omega)
    have ht := Int.tmod_eq_emod (a := x) (b := n)
    refine bcase_of (fun h2 => ?_) (fun h2 => ?_)
    · conv => whnf
      have h2 := of_decide_eq_true h2
      refine ⟨by unfold InI64 at *; split at ht <;> omega, ?_⟩
      conv => whnf
      exact ⟨⟨rfl, by unfold modF; split at ht <;> split <;> omega⟩, trivial⟩
    · conv => whnf
      have h2 := of_decide_eq_false h2
      exact ⟨⟨rfl, by unfold modF; split at ht <;> split <;> omega⟩, trivial⟩

theorem raw_spec (t : Tp) (ht : t.ok) : S 46 [.ptr 0 0 0] [tapeO t] (iV t.raw.1) [tapeO t.raw.2] := by
  refine spec_of_x (ct := []) cfgOK Tryd.func46 rfl rfl (Nat.le_of_ble_eq_true rfl) (by decide +kernel) (Nat.le_refl _) ?_
  conv => whnf
  refine bcase_of (fun h => ?_) (fun h => ?_)
  · conv => whnf
    have h := of_decide_eq_true h
    have e : t.raw = (0, t) := if_pos (by omega)
    rw [e]
    exact ⟨⟨rfl, rfl⟩, tape_emb rfl, trivial⟩
  · conv => whnf
    have h := of_decide_eq_false h
    obtain ⟨h1, h2, h3⟩ := ht
    have e : t.raw = (t.l.getD t.pos 0, ⟨t.l, t.pos + 1⟩) := if_neg (by omega)
    refine ⟨by unfold InI64; omega, ?_⟩
    conv => whnf
    refine ⟨by unfold InI64; omega, ?_⟩
    conv => whnf
    refine ⟨by omega, ?_⟩
    conv => whnf
    rw [e]
    exact ⟨⟨rfl, by congr 1; omega⟩, tape_emb (t := ⟨t.l, t.pos + 1⟩) (by simp), trivial⟩

theorem n_spec (t : Tp) (ht : t.ok) (n : Int) (hn : InI64 n) : S 14 [.ptr 0 0 0, iV n] [tapeO t] (iV (t.n n).1) [tapeO (t.n n).2] := by
  refine spec_of_x (ct := []) cfgOK Tryd.func14 rfl rfl (Nat.le_of_ble_eq_true rfl) (by decide +kernel) (Nat.le_refl _) ?_
  conv => whnf
  refine ⟨_, _, raw_spec t ht, ?_⟩
  conv => whnf
  refine ⟨_, _, mod_spec t.raw.1 n hn, ?_⟩
  conv => whnf
  exact ⟨⟨rfl, rfl⟩, tape_emb rfl, trivial⟩

theorem range_spec (t : Tp) (ht : t.ok) (lo hi : Int) (h : -1000000 ≤ lo ∧ lo ≤ 1000000 ∧ -1000000 ≤ hi ∧ hi ≤ 1000000) : S 21 [.ptr 0 0 0, iV lo, iV hi] [tapeO t] (iV (t.range lo hi).1) [tapeO (t.range lo hi).2] := by
  refine spec_of_x (ct := []) cfgOK Tryd.func21 rfl rfl (Nat.le_of_ble_eq_true rfl) (by decide +kernel) (Nat.le_refl _) ?_
  conv => whnf
  refine ⟨by unfold InI64; omega, ?_⟩
  conv => whnf
  refine ⟨by unfold InI64; omega, ?_⟩
  conv => whnf
  have hb := Tp.n_lt t (hi - lo + 1)
  refine ⟨_, _, n_spec t ht (hi - lo + 1) (by unfold InI64; omega), ?_⟩
  conv => whnf
  refine ⟨by unfold InI64; omega, ?_⟩
  conv => whnf
  exact ⟨⟨rfl, rfl⟩, tape_emb rfl, trivial⟩

theorem pick_spec (t : Tp) (ht : t.ok) (l : List Int) (hl : l.length ≠ 0 ∧ l.length ≤ 1000000) : S 37 [.ptr 0 0 0, intsV l] [tapeO t] (iV (t.pick l).1) [tapeO (t.pick l).2] := by
  refine spec_of_x (ct := []) cfgOK Tryd.func37 rfl rfl (Nat.le_of_ble_eq_true rfl) (by decide +kernel) (Nat.le_refl _) ?_
  conv => whnf
  have hb := Tp.n_lt t l.length
  refine ⟨_, _, n_spec t ht l.length (by unfold InI64; omega), ?_⟩
  conv => whnf
  refine ⟨by omega, ?_⟩
  conv => whnf
  exact ⟨⟨rfl, rfl⟩, tape_emb rfl, trivial⟩

theorem new_spec (l : List Int) : S 7 [intsV l] [] (.ptr 0 0 0) [tapeO ⟨l.take 500, 0⟩] := by
  refine spec_of_x (ct := []) cfgOK Tryd.func7 rfl rfl (Nat.le_of_ble_eq_true rfl) (by decide +kernel) (Nat.zero_le _) ?_
  conv => whnf
  refine ⟨by omega, ?_⟩
  conv => whnf
  refine ⟨⟨rfl, rfl, rfl, rfl⟩, embO_le ⟨.sl ?_ (fun _ => rfl) nofun (fun i hi => ?_), .refl _, trivial⟩ rfl (by simp [tapeO]), trivial⟩
  · simp; omega
  · have : rowG iV 0 l i = rowG iV 0 (l.take 500) i := by
      unfold rowG
      rw [List.getD_eq_getElem?_getD, List.getD_eq_getElem?_getD, List.getElem?_take_of_lt (by omega)]
    rw [this]
    exact .refl _

end Go.Proofs.YtjmhlbogkeohpaaDoor

namespace Go.Proofs.YtjmhlbogkeohpaaDoor
open Go.Ab

theorem in_spec (l : List Int) (x : Int) (hl : l.length ≤ 1000000) : S 34 [intsV l, iV x] [] (.bool (l.contains x)) [] := by
  refine spec_of_x (ct := []) cfgOK Tryd.func34 rfl rfl (Nat.le_of_ble_eq_true rfl) (by decide +kernel) (Nat.le_refl _) ?_
  conv => whnf
  refine loops_intro (ct := []) cfgOK (by decide +kernel) (fun i : Nat => ⟨[(0, intsV l), (1, iV x), (5, iV i)], [], 1⟩) (fun i => i ≤ l.length ∧ (l.drop i).contains x = l.contains x) (fun i => l.length - i) 0 [] ⟨Nat.zero_le _, rfl⟩ ⟨rfl, ⟨embV_le (.refl _) rfl, ⟨rfl, rfl⟩, ⟨rfl, rfl⟩, trivial⟩, trivial⟩ ?_
  intro i hi
  conv => whnf
  refine bcase_of (fun h => ?_) (fun h => ?_)
  · have h := of_decide_eq_true h
    conv => whnf
    refine ⟨by omega, ?_⟩
    conv => whnf
    have e := drop_cons 0 (l := l) (i := i) (by omega)
    have hi2 := hi.2
    rw [e, List.contains_cons] at hi2
    refine bcase_of (fun h2 => ?_) (fun h2 => ?_)
    · conv => whnf
      have h2 : l.getD i 0 = x := by simpa using h2
      refine ⟨?_, trivial⟩
      show true = l.contains x
      rw [← hi2, h2]
      simp
    · conv => whnf
      have h2 : ¬ l.getD i 0 = x := by simpa using h2
      refine ⟨by unfold InI64; omega, ?_⟩
      conv => whnf
      refine ⟨i + 1, [], ⟨by omega, ?_⟩, by omega, ⟨rfl, ⟨embV_le (.refl _) rfl, ⟨rfl, rfl⟩, ⟨rfl, by simp⟩, trivial⟩, trivial⟩⟩
      rw [← hi2]
      have : (x == l.getD i 0) = false := by simpa using fun e => h2 e.symm
      rw [this]
      simp
  · have h := of_decide_eq_false h
    conv => whnf
    refine ⟨?_, trivial⟩
    show false = l.contains x
    rw [← hi.2, List.drop_eq_nil_of_le (by omega)]
    rfl

theorem ints_spec (a b : List Int) (hl : a.length ≤ 1000000) : S 32 [intsV a, intsV b] [] (.bool (a == b)) [] := by
  refine spec_of_x (ct := []) cfgOK Tryd.func32 rfl rfl (Nat.le_of_ble_eq_true rfl) (by decide +kernel) (Nat.le_refl _) ?_
  conv => whnf
  refine bcase_of (fun h => ?_) (fun h => ?_)
  · conv => whnf
    refine ⟨?_, trivial⟩
    show false = (a == b)
    have h : ¬ a.length = b.length := by
      intro e
      rw [e] at h
      simp at h
    symm
    simp
    intro e
    rw [e] at h
    exact h rfl
  · conv => whnf
    have h : a.length = b.length := by
      have : ((a.length : Int) != b.length) = false := h
      simp at this
      omega
    refine loops_intro (ct := []) cfgOK (by decide +kernel) (fun i : Nat => ⟨[(0, intsV a), (1, intsV b), (5, iV i)], [], 1⟩) (fun i => i ≤ a.length ∧ (a.drop i == b.drop i) = (a == b)) (fun i => a.length - i) 0 [] ⟨Nat.zero_le _, rfl⟩ ⟨rfl, ⟨embV_le (.refl _) rfl, embV_le (.refl _) rfl, ⟨rfl, rfl⟩, trivial⟩, trivial⟩ ?_
    intro i ⟨hi1, hi2⟩
    conv => whnf
    refine bcase_of (fun h3 => ?_) (fun h3 => ?_)
    · have h3 := of_decide_eq_true h3
      conv => whnf
      refine ⟨by omega, ?_⟩
      conv => whnf
      refine ⟨by omega, ?_⟩
      conv => whnf
      rw [drop_cons 0 (l := a) (i := i) (by omega), drop_cons 0 (l := b) (i := i) (by omega)] at hi2
      refine bcase_of (fun h2 => ?_) (fun h2 => ?_)
      · conv => whnf
        have h2 : (a.getD i 0 != b.getD i 0) = true := h2
        refine ⟨?_, trivial⟩
        show false = (a == b)
        rw [← hi2]
        symm
        simpa using fun e => absurd e (by simpa using h2)
      · conv => whnf
        have h2 : (a.getD i 0 != b.getD i 0) = false := h2
        refine ⟨by unfold InI64; omega, ?_⟩
        conv => whnf
        refine ⟨i + 1, [], ⟨by omega, ?_⟩, by omega, ⟨rfl, ⟨embV_le (.refl _) rfl, embV_le (.refl _) rfl, ⟨rfl, by simp⟩, trivial⟩, trivial⟩⟩
        rw [← hi2]
        have : a.getD i 0 = b.getD i 0 := by simpa using h2
        rw [this]
        simp
    · have h3 := of_decide_eq_false h3
      conv => whnf
      refine ⟨?_, trivial⟩
      show true = (a == b)
      rw [← hi2, List.drop_eq_nil_of_le (by omega), List.drop_eq_nil_of_le (by omega)]
      rfl

end Go.Proofs.YtjmhlbogkeohpaaDoor

namespace Go.Proofs.YtjmhlbogkeohpaaDoor
open Go.Ab

def withinF (n lo hi : Int) : Bool := decide (lo ≤ n) && decide (n ≤ hi)

theorem within_spec (n lo hi : Int) : S 58 [iV n, iV lo, iV hi] [] (.bool (withinF n lo hi)) [] := by
  refine spec_of_x (ct := []) cfgOK Tryd.func58 rfl rfl (Nat.le_of_ble_eq_true rfl) (by decide +kernel) (Nat.le_refl _) ?_
  conv => whnf
  exact ⟨rfl, trivial⟩

theorem index_spec (x : Int) (l : List Int) (hl : l.length ≤ 1000000) : S 79 [intsV l, iV x] [] (iV (idxP (fun y => x == y) l 0)) [] := by
  refine spec_of_x (ct := []) cfgOK Tryd.func79 rfl rfl (Nat.le_of_ble_eq_true rfl) (by decide +kernel) (Nat.le_refl _) ?_
  conv => whnf
  refine loops_intro (ct := []) cfgOK (by decide +kernel) (fun i : Nat => ⟨[(0, intsV l), (1, iV x), (7, iV l.length), (8, iV i)], [], 1⟩) (fun i => i ≤ l.length ∧ idxP (fun y => x == y) (l.drop i) i = idxP (fun y => x == y) l 0) (fun i => l.length - i) 0 [] ⟨Nat.zero_le _, rfl⟩ ⟨rfl, ⟨embV_leV (.refl _) rfl (by simp [AV.cells, intsV]), ⟨rfl, rfl⟩, ⟨rfl, rfl⟩, ⟨rfl, rfl⟩, trivial⟩, trivial⟩ ?_
  intro i ⟨hi1, hi2⟩
  conv => whnf
  refine bcase_of (fun h => ?_) (fun h => ?_)
  · have h := of_decide_eq_true h
    have hlt : i < l.length := by omega
    rw [drop_cons 0 hlt] at hi2
    conv => whnf
    refine ⟨by omega, ?_⟩
    conv => whnf
    refine bcase_of (fun h2 => ?_) (fun h2 => ?_)
    · conv => whnf
      have h2 : (fun y => x == y) (l.getD i 0) = true := h2
      refine ⟨⟨rfl, ?_⟩, trivial⟩
      exact (idxP_t h2).symm.trans hi2
    · conv => whnf
      have h2 : (fun y => x == y) (l.getD i 0) = false := h2
      refine ⟨by unfold InI64; omega, ?_⟩
      conv => whnf
      refine ⟨i + 1, [], ⟨by omega, ?_⟩, by omega, ⟨rfl, ⟨embV_leV (.refl _) rfl (by simp [AV.cells, intsV]), ⟨rfl, rfl⟩, ⟨rfl, rfl⟩, ⟨rfl, by simp⟩, trivial⟩, trivial⟩⟩
      exact (idxP_f h2).symm.trans hi2
  · have h := of_decide_eq_false h
    conv => whnf
    refine ⟨⟨rfl, ?_⟩, trivial⟩
    rw [← hi2, List.drop_eq_nil_of_le (by omega)]
    rfl

theorem contains_spec (l : List Int) (x : Int) (hl : l.length ≤ 1000000) : S 77 [intsV l, iV x] [] (.bool (l.contains x)) [] := by
  refine spec_of_x (ct := []) cfgOK Tryd.func77 rfl rfl (Nat.le_of_ble_eq_true rfl) (by decide +kernel) (Nat.le_refl _) ?_
  conv => whnf
  refine ⟨_, _, index_spec x l hl, ?_⟩
  conv => whnf
  refine ⟨?_, trivial⟩
  show decide _ = _
  rw [idxP_any, List.contains_eq_any_beq]

end Go.Proofs.YtjmhlbogkeohpaaDoor

namespace Go.Proofs.YtjmhlbogkeohpaaDoor
open Go.Ab

def diffG (lo hi : Int) : List Int → List Int → Bool
  | _, [] => true
  | pre, n :: r => bif !(withinF n lo hi) || pre.contains n then false else diffG lo hi (pre ++ [n]) r

theorem diffG_f {lo hi n : Int} {pre r : List Int} (h : (!(withinF n lo hi) || pre.contains n) = true) : diffG lo hi pre (n :: r) = false := by rw [diffG, h]; rfl
theorem diffG_t {lo hi n : Int} {pre r : List Int} (h : (!(withinF n lo hi) || pre.contains n) = false) : diffG lo hi pre (n :: r) = diffG lo hi (pre ++ [n]) r := by rw [diffG, h]; rfl

theorem different_spec (l : List Int) (lo hi : Int) (hl : l.length ≤ 1000000) : S 69 [intsV l, iV lo, iV hi] [] (.bool (diffG lo hi [] l)) [] := by
  refine spec_of_x (ct := []) cfgOK Tryd.func69 rfl rfl (Nat.le_of_ble_eq_true rfl) (by decide +kernel) (Nat.le_refl _) ?_
  conv => whnf
  refine loops_intro (ct := []) cfgOK (by decide +kernel) (fun i : Nat => ⟨[(0, intsV l), (1, iV lo), (2, iV hi), (9, intsV l), (10, iV l.length), (11, iV i)], [], 1⟩) (fun i => i ≤ l.length ∧ diffG lo hi (l.take i) (l.drop i) = diffG lo hi [] l) (fun i => l.length - i) 0 [] ⟨Nat.zero_le _, rfl⟩ ⟨rfl, ⟨embV_le (.refl _) rfl, ⟨rfl, rfl⟩, ⟨rfl, rfl⟩, embV_le (.refl _) rfl, ⟨rfl, rfl⟩, ⟨rfl, rfl⟩, trivial⟩, trivial⟩ ?_
  intro i ⟨hi1, hi2⟩
  conv => whnf
  refine bcase_of (fun h => ?_) (fun h => ?_)
  · have h := of_decide_eq_true h
    have hlt : i < l.length := by omega
    rw [drop_cons 0 hlt] at hi2
    conv => whnf
    refine ⟨by omega, ?_⟩
    conv => whnf
    refine ⟨_, _, within_spec (l.getD i 0) lo hi, ?_⟩
    conv => whnf
    refine ⟨fun _ => by omega, ?_⟩
    conv => whnf
    refine ⟨_, _, fun _ => (contains_spec (l.take i) (l.getD i 0) (by simp; omega)).le ⟨le_take hi1 (by simp), .refl _, trivial⟩ trivial, ?_⟩
    conv => whnf
    refine bcase_of (fun h2 => ?_) (fun h2 => ?_)
    · conv => whnf
      refine ⟨?_, trivial⟩
      show false = _
      rw [← hi2, diffG_f]
      simpa [withinF] using h2
    · conv => whnf
      refine ⟨by unfold InI64; omega, ?_⟩
      conv => whnf
      refine ⟨i + 1, [], ⟨by omega, ?_⟩, by omega, ⟨rfl, ⟨embV_le (.refl _) rfl, ⟨rfl, rfl⟩, ⟨rfl, rfl⟩, embV_le (.refl _) rfl, ⟨rfl, rfl⟩, ⟨rfl, by simp⟩, trivial⟩, trivial⟩⟩
      rw [← hi2, diffG_t, take_snoc 0 hlt]
      simpa [withinF] using h2
  · have h := of_decide_eq_false h
    conv => whnf
    refine ⟨?_, trivial⟩
    show true = _
    rw [← hi2, List.drop_eq_nil_of_le (by omega)]
    rfl

theorem rdifferent_spec (l : List Int) (lo hi : Int) (hl : l.length ≤ 1000000) : S 71 [intsV l, iV lo, iV hi] [] (.bool (diffG lo hi [] l)) [] := by
  refine spec_of_x (ct := []) cfgOK Tryd.func71 rfl rfl (Nat.le_of_ble_eq_true rfl) (by decide +kernel) (Nat.le_refl _) ?_
  conv => whnf
  refine loops_intro (ct := []) cfgOK (by decide +kernel) (fun i : Nat => ⟨[(0, intsV l), (1, iV lo), (2, iV hi), (9, intsV l), (10, iV l.length), (11, iV i)], [], 1⟩) (fun i => i ≤ l.length ∧ diffG lo hi (l.take i) (l.drop i) = diffG lo hi [] l) (fun i => l.length - i) 0 [] ⟨Nat.zero_le _, rfl⟩ ⟨rfl, ⟨embV_le (.refl _) rfl, ⟨rfl, rfl⟩, ⟨rfl, rfl⟩, embV_le (.refl _) rfl, ⟨rfl, rfl⟩, ⟨rfl, rfl⟩, trivial⟩, trivial⟩ ?_
  intro i ⟨hi1, hi2⟩
  conv => whnf
  refine bcase_of (fun h => ?_) (fun h => ?_)
  · have h := of_decide_eq_true h
    have hlt : i < l.length := by omega
    rw [drop_cons 0 hlt] at hi2
    conv => whnf
    refine ⟨by omega, ?_⟩
    conv => whnf
    refine ⟨fun _ => by omega, ?_⟩
    conv => whnf
    refine ⟨_, _, fun _ => (in_spec (l.take i) (l.getD i 0) (by simp; omega)).le ⟨le_take hi1 (by simp), .refl _, trivial⟩ trivial, ?_⟩
    conv => whnf
    refine bcase_of (fun h2 => ?_) (fun h2 => ?_)
    · conv => whnf
      refine ⟨?_, trivial⟩
      show false = _
      rw [← hi2, diffG_f]
      simpa [withinF] using h2
    · conv => whnf
      refine ⟨by unfold InI64; omega, ?_⟩
      conv => whnf
      refine ⟨i + 1, [], ⟨by omega, ?_⟩, by omega, ⟨rfl, ⟨embV_le (.refl _) rfl, ⟨rfl, rfl⟩, ⟨rfl, rfl⟩, embV_le (.refl _) rfl, ⟨rfl, rfl⟩, ⟨rfl, by simp⟩, trivial⟩, trivial⟩⟩
      rw [← hi2, diffG_t, take_snoc 0 hlt]
      simpa [withinF] using h2
  · have h := of_decide_eq_false h
    conv => whnf
    refine ⟨?_, trivial⟩
    show true = _
    rw [← hi2, List.drop_eq_nil_of_le (by omega)]
    rfl

end Go.Proofs.YtjmhlbogkeohpaaDoor

namespace Go.Proofs.YtjmhlbogkeohpaaDoor
open Go.Ab
set_option maxRecDepth 100000

structure Rt where
  num : Int
  den : Int
  deriving DecidableEq

def rtV (r : Rt) : AV := .agg [iV r.num, iV r.den]
def gcdI (a b : Int) : Int := (Nat.gcd a.toNat b.toNat : Nat)
def validR (r : Rt) : Bool := decide (0 ≤ r.num) && decide (r.num ≤ 144115188075855872) && decide (1 ≤ r.den) && decide (r.den ≤ 16777216) && (gcdI r.num r.den == 1)

def newR (num den : Int) : Rt × Int := bif decide (num < 0) || decide (den < 1) then (⟨0, 0⟩, 2) else
  bif !validR ⟨num.tdiv (gcdI num den), den.tdiv (gcdI num den)⟩ then (⟨0, 0⟩, 2) else (⟨num.tdiv (gcdI num den), den.tdiv (gcdI num den)⟩, 0)

theorem common_spec (a b : Nat) : S 74 [iV a, iV b] [] (iV (Nat.gcd a b : Nat)) [] := by
  refine spec_of_x (ct := []) cfgOK Tryd.func74 rfl rfl (Nat.le_of_ble_eq_true rfl) (by decide +kernel) (Nat.le_refl _) ?_
  conv => whnf
  refine loops_intro (ct := []) cfgOK (by decide +kernel) (fun p : Nat × Nat => ⟨[(0, iV p.1), (1, iV p.2)], [], 1⟩) (fun p => Nat.gcd p.1 p.2 = Nat.gcd a b) (fun p => p.2) (a, b) [] rfl ⟨rfl, ⟨⟨rfl, rfl⟩, ⟨rfl, rfl⟩, trivial⟩, trivial⟩ ?_
  intro ⟨x, y⟩ hp
  conv => whnf
  refine bcase_of (fun h => ?_) (fun h => ?_)
  · have h : y ≠ 0 := by
      intro e
      rw [e] at h
      simp at h
    conv => whnf
    refine ⟨by omega, ?_⟩
    conv => whnf
    refine ⟨(y, x % y), [], ?_, Nat.mod_lt _ (by omega), ⟨rfl, ⟨⟨rfl, rfl⟩, ⟨rfl, rfl⟩, trivial⟩, trivial⟩⟩
    show Nat.gcd y (x % y) = _
    rw [← hp, Nat.gcd_comm, ← Nat.gcd_rec, Nat.gcd_comm]
  · have h : y = 0 := by
      have : (((y : Nat) : Int) != 0) = false := h
      simpa using this
    conv => whnf
    refine ⟨⟨rfl, ?_⟩, trivial⟩
    subst h
    rw [← hp]
    simp

theorem common_specI (a b : Int) (ha : 0 ≤ a) (hb : 0 ≤ b) : S 74 [iV a, iV b] [] (iV (gcdI a b)) [] := by
  have := common_spec a.toNat b.toNat
  rw [Int.toNat_of_nonneg ha, Int.toNat_of_nonneg hb] at this
  exact this

theorem divisor_spec (a b : Nat) : S 50 [iV a, iV b] [] (iV (Nat.gcd a b : Nat)) [] := by
  refine spec_of_x (ct := []) cfgOK Tryd.func50 rfl rfl (Nat.le_of_ble_eq_true rfl) (by decide +kernel) (Nat.le_refl _) ?_
  conv => whnf
  refine loops_intro (ct := []) cfgOK (by decide +kernel) (fun p : Nat × Nat => ⟨[(0, iV p.1), (1, iV p.2)], [], 1⟩) (fun p => Nat.gcd p.1 p.2 = Nat.gcd a b) (fun p => p.2) (a, b) [] rfl ⟨rfl, ⟨⟨rfl, rfl⟩, ⟨rfl, rfl⟩, trivial⟩, trivial⟩ ?_
  intro ⟨x, y⟩ hp
  conv => whnf
  refine bcase_of (fun h => ?_) (fun h => ?_)
  · have h : y ≠ 0 := by
      intro e
      rw [e] at h
      simp at h
    conv => whnf
    refine ⟨by omega, ?_⟩
    conv => whnf
    refine ⟨(y, x % y), [], ?_, Nat.mod_lt _ (by omega), ⟨rfl, ⟨⟨rfl, rfl⟩, ⟨rfl, rfl⟩, trivial⟩, trivial⟩⟩
    show Nat.gcd y (x % y) = _
    rw [← hp, Nat.gcd_comm, ← Nat.gcd_rec, Nat.gcd_comm]
  · have h : y = 0 := by
      have : (((y : Nat) : Int) != 0) = false := h
      simpa using this
    conv => whnf
    refine ⟨⟨rfl, ?_⟩, trivial⟩
    subst h
    rw [← hp]
    simp

theorem divisor_specI (a b : Int) (ha : 0 ≤ a) (hb : 0 ≤ b) : S 50 [iV a, iV b] [] (iV (gcdI a b)) [] := by
  have := divisor_spec a.toNat b.toNat
  rw [Int.toNat_of_nonneg ha, Int.toNat_of_nonneg hb] at this
  exact this

theorem valid_spec (r : Rt) : S 64 [rtV r] [] (.bool (validR r)) [] := by
  refine spec_of_x (ct := []) cfgOK Tryd.func64 rfl rfl (Nat.le_of_ble_eq_true rfl) (by decide +kernel) (Nat.le_refl _) ?_
  conv => whnf
  refine ⟨_, _, fun h => common_specI r.num r.den (by simp at h; omega) (by simp at h; omega), ?_⟩
  conv => whnf
  exact ⟨rfl, trivial⟩

theorem rvalid_spec (r : Rt) : S 36 [rtV r] [] (.bool (validR r)) [] := by
  refine spec_of_x (ct := []) cfgOK Tryd.func36 rfl rfl (Nat.le_of_ble_eq_true rfl) (by decide +kernel) (Nat.le_refl _) ?_
  conv => whnf
  refine ⟨_, _, fun h => divisor_specI r.num r.den (by simp at h; omega) (by simp at h; omega), ?_⟩
  conv => whnf
  exact ⟨rfl, trivial⟩

theorem gcdI_pos (a b : Int) (h : 0 < b) : 0 < gcdI a b := by
  unfold gcdI
  have : 0 < b.toNat := by omega
  have := Nat.gcd_pos_of_pos_right a.toNat this
  omega

theorem tdiv_le (a k : Int) (ha : 0 ≤ a) (hk : 0 < k) : 0 ≤ a.tdiv k ∧ a.tdiv k ≤ a := by
  rw [Int.tdiv_eq_ediv_of_nonneg ha]
  exact ⟨Int.ediv_nonneg ha (by omega), Int.ediv_le_self _ ha⟩

theorem rnew_spec (num den : Int) (h1 : InI64 num) (h2 : InI64 den) : S 51 [iV num, iV den] [] (.tup [rtV (newR num den).1, iV (newR num den).2]) [] := by
  refine spec_of_x (ct := []) cfgOK Tryd.func51 rfl rfl (Nat.le_of_ble_eq_true rfl) (by decide +kernel) (Nat.le_refl _) ?_
  conv => whnf
  refine bcase_of (fun h => ?_) (fun h => ?_)
  · conv => whnf
    have e : newR num den = (⟨0, 0⟩, 2) := by unfold newR; rw [h]; rfl
    rw [e]
    exact ⟨⟨⟨⟨rfl, rfl⟩, ⟨rfl, rfl⟩, trivial⟩, ⟨rfl, rfl⟩, trivial⟩, trivial⟩
  · conv => whnf
    have h0 : (decide (num < 0) || decide (den < 1)) = false := h
    have hn : 0 ≤ num ∧ 1 ≤ den := by simp at h; omega
    refine ⟨_, _, divisor_specI num den (by omega) (by omega), ?_⟩
    conv => whnf
    have hg := gcdI_pos num den (by omega)
    have hd1 := tdiv_le num (gcdI num den) hn.1 hg
    have hd2 := tdiv_le den (gcdI num den) (by omega) hg
    unfold InI64 at h1 h2
    refine ⟨⟨by omega, by unfold InI64; omega⟩, ?_⟩
    conv => whnf
    refine ⟨⟨by omega, by unfold InI64; omega⟩, ?_⟩
    conv => whnf
    refine ⟨_, _, rvalid_spec ⟨num.tdiv (gcdI num den), den.tdiv (gcdI num den)⟩, ?_⟩
    conv => whnf
    refine bcase_of (fun h => ?_) (fun h => ?_)
    · conv => whnf
      have e : newR num den = (⟨0, 0⟩, 2) := by unfold newR; rw [h0, h]; rfl
      rw [e]
      exact ⟨⟨⟨⟨rfl, rfl⟩, ⟨rfl, rfl⟩, trivial⟩, ⟨rfl, rfl⟩, trivial⟩, trivial⟩
    · conv => whnf
      have e : newR num den = (⟨num.tdiv (gcdI num den), den.tdiv (gcdI num den)⟩, 0) := by unfold newR; rw [h0, h]; rfl
      rw [e]
      exact ⟨⟨⟨⟨rfl, rfl⟩, ⟨rfl, rfl⟩, trivial⟩, ⟨rfl, rfl⟩, trivial⟩, trivial⟩

theorem rate_new_spec (num den : Int) (h1 : InI64 num) (h2 : InI64 den) : S 78 [iV num, iV den] [] (.tup [rtV (newR num den).1, iV (newR num den).2]) [] := by
  refine spec_of_x (ct := []) cfgOK Tryd.func78 rfl rfl (Nat.le_of_ble_eq_true rfl) (by decide +kernel) (Nat.le_refl _) ?_
  conv => whnf
  refine bcase_of (fun h => ?_) (fun h => ?_)
  · conv => whnf
    have e : newR num den = (⟨0, 0⟩, 2) := by unfold newR; rw [h]; rfl
    rw [e]
    exact ⟨⟨⟨⟨rfl, rfl⟩, ⟨rfl, rfl⟩, trivial⟩, ⟨rfl, rfl⟩, trivial⟩, trivial⟩
  · conv => whnf
    have h0 : (decide (num < 0) || decide (den < 1)) = false := h
    have hn : 0 ≤ num ∧ 1 ≤ den := by simp at h; omega
    refine ⟨_, _, common_specI num den (by omega) (by omega), ?_⟩
    conv => whnf
    have hg := gcdI_pos num den (by omega)
    have hd1 := tdiv_le num (gcdI num den) hn.1 hg
    have hd2 := tdiv_le den (gcdI num den) (by omega) hg
    unfold InI64 at h1 h2
    refine ⟨⟨by omega, by unfold InI64; omega⟩, ?_⟩
    conv => whnf
    refine ⟨⟨by omega, by unfold InI64; omega⟩, ?_⟩
    conv => whnf
    refine ⟨_, _, valid_spec ⟨num.tdiv (gcdI num den), den.tdiv (gcdI num den)⟩, ?_⟩
    conv => whnf
    refine bcase_of (fun h => ?_) (fun h => ?_)
    · conv => whnf
      have e : newR num den = (⟨0, 0⟩, 2) := by unfold newR; rw [h0, h]; rfl
      rw [e]
      exact ⟨⟨⟨⟨rfl, rfl⟩, ⟨rfl, rfl⟩, trivial⟩, ⟨rfl, rfl⟩, trivial⟩, trivial⟩
    · conv => whnf
      have e : newR num den = (⟨num.tdiv (gcdI num den), den.tdiv (gcdI num den)⟩, 0) := by unfold newR; rw [h0, h]; rfl
      rw [e]
      exact ⟨⟨⟨⟨rfl, rfl⟩, ⟨rfl, rfl⟩, trivial⟩, ⟨rfl, rfl⟩, trivial⟩, trivial⟩

def factorB (k : Int) : Bool := decide (1 ≤ k) && decide (k ≤ 64)
def timesR (r : Rt) (k : Int) : Rt × Int := bif !validR r then (⟨0, 0⟩, 1) else bif !factorB k then (⟨0, 0⟩, 2) else
  bif decide ((144115188075855872 : Int).tdiv (k.tdiv (gcdI k r.den)) < r.num) then (⟨0, 0⟩, 2) else newR (r.num * (k.tdiv (gcdI k r.den))) (r.den.tdiv (gcdI k r.den))
def overR (r : Rt) (k : Int) : Rt × Int := bif !validR r then (⟨0, 0⟩, 1) else bif !factorB k then (⟨0, 0⟩, 2) else newR r.num (r.den * k)

theorem validR_iff {r : Rt} (h : validR r = true) : 0 ≤ r.num ∧ r.num ≤ 144115188075855872 ∧ 1 ≤ r.den ∧ r.den ≤ 16777216 ∧ gcdI r.num r.den = 1 := by
  unfold validR at h
  simp at h
  omega

theorem factor_spec (k : Int) : S 49 [iV k] [] (.bool (factorB k)) [] := by
  refine spec_of_x (ct := []) cfgOK Tryd.func49 rfl rfl (Nat.le_of_ble_eq_true rfl) (by decide +kernel) (Nat.le_refl _) ?_
  conv => whnf
  exact ⟨rfl, trivial⟩

theorem kdiv (k d : Int) (hk : 1 ≤ k ∧ k ≤ 64) (hd : 1 ≤ d) : 1 ≤ k.tdiv (gcdI k d) ∧ k.tdiv (gcdI k d) ≤ 64 := by
  have hg := gcdI_pos k d (by omega)
  have h1 := tdiv_le k (gcdI k d) (by omega) hg
  have hdvd : Nat.gcd k.toNat d.toNat ∣ k.toNat := Nat.gcd_dvd_left _ _
  have h2 : 0 < k.toNat / Nat.gcd k.toNat d.toNat := Nat.div_pos (Nat.le_of_dvd (by omega) hdvd) (by unfold gcdI at hg; omega)
  have h3 : k.tdiv (gcdI k d) = ((k.toNat / Nat.gcd k.toNat d.toNat : Nat) : Int) := by
    unfold gcdI
    rw [Int.tdiv_eq_ediv_of_nonneg (by omega)]
    have : k = (k.toNat : Int) := by omega
    rw [Int.natCast_ediv, ← this]
  omega

theorem mul_bound (a b : Int) (ha : 0 ≤ a) (hb : 1 ≤ b) (h : a ≤ (144115188075855872 : Int).tdiv b) : 0 ≤ a * b ∧ a * b ≤ 144115188075855872 := by
  rw [Int.tdiv_eq_ediv_of_nonneg (by decide)] at h
  have := (Int.le_ediv_iff_mul_le (by omega)).1 h
  exact ⟨Int.mul_nonneg ha (by omega), this⟩

theorem rtimes_spec (r : Rt) (k : Int) : S 19 [rtV r, iV k] [] (.tup [rtV (timesR r k).1, iV (timesR r k).2]) [] := by
  refine spec_of_x (ct := []) cfgOK Tryd.func19 rfl rfl (Nat.le_of_ble_eq_true rfl) (by decide +kernel) (Nat.le_refl _) ?_
  conv => whnf
  refine ⟨_, _, rvalid_spec r, ?_⟩
  conv => whnf
  refine bcase_of (fun h => ?_) (fun h => ?_)
  · conv => whnf
    have e : timesR r k = (⟨0, 0⟩, 1) := by unfold timesR; rw [h]; rfl
    rw [e]
    exact ⟨⟨⟨⟨rfl, rfl⟩, ⟨rfl, rfl⟩, trivial⟩, ⟨rfl, rfl⟩, trivial⟩, trivial⟩
  · conv => whnf
    have hv := validR_iff (r := r) (by simpa using h)
    refine ⟨_, _, factor_spec k, ?_⟩
    conv => whnf
    refine bcase_of (fun h2 => ?_) (fun h2 => ?_)
    · conv => whnf
      have e : timesR r k = (⟨0, 0⟩, 2) := by unfold timesR; rw [h, h2]; rfl
      rw [e]
      exact ⟨⟨⟨⟨rfl, rfl⟩, ⟨rfl, rfl⟩, trivial⟩, ⟨rfl, rfl⟩, trivial⟩, trivial⟩
    · conv => whnf
      have hk : 1 ≤ k ∧ k ≤ 64 := by simp [factorB] at h2; omega
      refine ⟨_, _, divisor_specI k r.den (by omega) (by omega), ?_⟩
      conv => whnf
      have hg := gcdI_pos k r.den (by omega)
      have hkd := kdiv k r.den hk (by omega)
      have hdd := tdiv_le r.den (gcdI k r.den) (by omega) hg
      have hq := tdiv_le 144115188075855872 (k.tdiv (gcdI k r.den)) (by decide) (by omega)
      refine ⟨⟨by omega, by unfold InI64; omega⟩, ?_⟩
      conv => whnf
      refine ⟨⟨by omega, by unfold InI64; omega⟩, ?_⟩
      conv => whnf
      refine bcase_of (fun h3 => ?_) (fun h3 => ?_)
      · conv => whnf
        have e : timesR r k = (⟨0, 0⟩, 2) := by unfold timesR; rw [h, h2, h3]; rfl
        rw [e]
        exact ⟨⟨⟨⟨rfl, rfl⟩, ⟨rfl, rfl⟩, trivial⟩, ⟨rfl, rfl⟩, trivial⟩, trivial⟩
      · conv => whnf
        have hm := mul_bound r.num (k.tdiv (gcdI k r.den)) (by omega) (by omega) (by have := of_decide_eq_false h3; omega)
        have e : timesR r k = newR (r.num * (k.tdiv (gcdI k r.den))) (r.den.tdiv (gcdI k r.den)) := by unfold timesR; rw [h, h2, h3]; rfl
        refine ⟨⟨by omega, by unfold InI64; omega⟩, ?_⟩
        conv => whnf
        refine ⟨by unfold InI64; omega, ?_⟩
        conv => whnf
        refine ⟨⟨by omega, by unfold InI64; omega⟩, ?_⟩
        conv => whnf
        refine ⟨_, _, rnew_spec (r.num * (k.tdiv (gcdI k r.den))) (r.den.tdiv (gcdI k r.den)) (by unfold InI64; omega) (by unfold InI64; omega), ?_⟩
        conv => whnf
        rw [e]
        exact ⟨⟨⟨⟨rfl, rfl⟩, ⟨rfl, rfl⟩, trivial⟩, ⟨rfl, rfl⟩, trivial⟩, trivial⟩

theorem rover_spec (r : Rt) (k : Int) : S 35 [rtV r, iV k] [] (.tup [rtV (overR r k).1, iV (overR r k).2]) [] := by
  refine spec_of_x (ct := []) cfgOK Tryd.func35 rfl rfl (Nat.le_of_ble_eq_true rfl) (by decide +kernel) (Nat.le_refl _) ?_
  conv => whnf
  refine ⟨_, _, rvalid_spec r, ?_⟩
  conv => whnf
  refine bcase_of (fun h => ?_) (fun h => ?_)
  · conv => whnf
    have e : overR r k = (⟨0, 0⟩, 1) := by unfold overR; rw [h]; rfl
    rw [e]
    exact ⟨⟨⟨⟨rfl, rfl⟩, ⟨rfl, rfl⟩, trivial⟩, ⟨rfl, rfl⟩, trivial⟩, trivial⟩
  · conv => whnf
    have hv := validR_iff (r := r) (by simpa using h)
    refine ⟨_, _, factor_spec k, ?_⟩
    conv => whnf
    refine bcase_of (fun h2 => ?_) (fun h2 => ?_)
    · conv => whnf
      have e : overR r k = (⟨0, 0⟩, 2) := by unfold overR; rw [h, h2]; rfl
      rw [e]
      exact ⟨⟨⟨⟨rfl, rfl⟩, ⟨rfl, rfl⟩, trivial⟩, ⟨rfl, rfl⟩, trivial⟩, trivial⟩
    · conv => whnf
      have hk : 1 ≤ k ∧ k ≤ 64 := by simp [factorB] at h2; omega
      have hm : 0 ≤ r.den * k ∧ r.den * k ≤ 16777216 * 64 := ⟨Int.mul_nonneg (by omega) (by omega), Int.mul_le_mul hv.2.2.2.1 hk.2 (by omega) (by omega)⟩
      have e : overR r k = newR r.num (r.den * k) := by unfold overR; rw [h, h2]; rfl
      refine ⟨by unfold InI64; omega, ?_⟩
      conv => whnf
      refine ⟨_, _, rnew_spec r.num (r.den * k) (by unfold InI64; omega) (by unfold InI64; omega), ?_⟩
      conv => whnf
      rw [e]
      exact ⟨⟨⟨⟨rfl, rfl⟩, ⟨rfl, rfl⟩, trivial⟩, ⟨rfl, rfl⟩, trivial⟩, trivial⟩

end Go.Proofs.YtjmhlbogkeohpaaDoor

namespace Go.Proofs.YtjmhlbogkeohpaaDoor
open Go.Ab
set_option maxRecDepth 100000

theorem newR_mul (c a b : Nat) (hc : 0 < c) (hb : 0 < b) : newR (c * a : Nat) (c * b : Nat) = newR a b := by
  have hcb : 0 < c * b := Nat.mul_pos hc hb
  have g0 : 0 < Nat.gcd a b := Nat.gcd_pos_of_pos_right a hb
  have e1 : gcdI (c * a : Nat) (c * b : Nat) = ((c * Nat.gcd a b : Nat) : Int) := by
    unfold gcdI
    rw [Int.toNat_natCast, Int.toNat_natCast, Nat.gcd_mul_left]
  have e2 : gcdI (a : Nat) (b : Nat) = (Nat.gcd a b : Nat) := by
    unfold gcdI
    rw [Int.toNat_natCast, Int.toNat_natCast]
  have d : ∀ x : Nat, ((c * x : Nat) : Int).tdiv ((c * Nat.gcd a b : Nat) : Int) = (x : Int).tdiv (Nat.gcd a b : Nat) := by
    intro x
    rw [← Int.ofNat_tdiv, ← Int.ofNat_tdiv, Nat.mul_div_mul_left _ _ hc]
  unfold newR
  have c1 : (decide (((c * a : Nat) : Int) < 0) || decide (((c * b : Nat) : Int) < 1)) = false := by
    have h1 : ¬ (((c * b : Nat) : Int) < 1) := Int.not_lt.2 (Int.ofNat_le.2 hcb)
    rw [decide_eq_false (Int.not_lt.2 (Int.natCast_nonneg _)), decide_eq_false h1]
    rfl
  have c2 : (decide ((a : Int) < 0) || decide ((b : Int) < 1)) = false := by simp; omega
  rw [c1, c2, e1, e2, d a, d b]

theorem newR_over (num den k : Int) (hn : 0 ≤ num) (hd : 1 ≤ den) (hk : 1 ≤ k) : newR (num.tdiv (gcdI num k)) (den * (k.tdiv (gcdI num k))) = newR num (den * k) := by
  obtain ⟨n, rfl⟩ := Int.eq_ofNat_of_zero_le hn
  obtain ⟨d, rfl⟩ := Int.eq_ofNat_of_zero_le (show 0 ≤ den by omega)
  obtain ⟨k, rfl⟩ := Int.eq_ofNat_of_zero_le (show 0 ≤ k by omega)
  have hg : gcdI (n : Nat) (k : Nat) = (Nat.gcd n k : Nat) := by unfold gcdI; rw [Int.toNat_natCast, Int.toNat_natCast]
  rw [hg, ← Int.ofNat_tdiv, ← Int.ofNat_tdiv]
  have g0 : 0 < Nat.gcd n k := Nat.gcd_pos_of_pos_right n (by omega)
  obtain ⟨a, ha⟩ := Nat.gcd_dvd_left n k
  obtain ⟨b, hb⟩ := Nat.gcd_dvd_right n k
  have e1 : n / Nat.gcd n k = a := by rw [Nat.div_eq_of_eq_mul_right g0 ha]
  have e2 : k / Nat.gcd n k = b := by rw [Nat.div_eq_of_eq_mul_right g0 hb]
  rw [e1, e2]
  have hb0 : 0 < b := by
    rcases Nat.eq_zero_or_pos b with h | h
    · rw [h] at hb; simp at hb; omega
    · exact h
  have := newR_mul (Nat.gcd n k) a (d * b) g0 (Nat.mul_pos (by omega) hb0)
  rw [← ha] at this
  have e3 : Nat.gcd n k * (d * b) = d * k := by
    rw [Nat.mul_left_comm, ← hb]
  rw [e3] at this
  rw [← Int.natCast_mul, ← Int.natCast_mul]
  exact this.symm

theorem over1_spec (r : Rt) (k : Int) (hv : validR r = true) (hk : 1 ≤ k ∧ k ≤ 64) : S 73 [.ro [iV r.num, iV r.den], .ro [iV k]] [] (.tup [iV (r.num.tdiv (gcdI r.num k)), iV (r.den * (k.tdiv (gcdI r.num k)))]) [] := by
  refine spec_of_x (ct := []) cfgOK Tryd.func73 rfl rfl (Nat.le_of_ble_eq_true rfl) (by decide +kernel) (Nat.le_refl _) ?_
  conv => whnf
  have hv := validR_iff hv
  refine ⟨_, _, common_specI r.num k (by omega) (by omega), ?_⟩
  conv => whnf
  have hg := gcdI_pos r.num k (by omega)
  have h1 := tdiv_le r.num (gcdI r.num k) (by omega) hg
  have h2 := tdiv_le k (gcdI r.num k) (by omega) hg
  have hm : 0 ≤ r.den * (k.tdiv (gcdI r.num k)) ∧ r.den * (k.tdiv (gcdI r.num k)) ≤ 16777216 * 64 := ⟨Int.mul_nonneg (by omega) (by omega), Int.mul_le_mul hv.2.2.2.1 (by omega) (by omega) (by omega)⟩
  refine ⟨⟨by omega, by unfold InI64; omega⟩, ?_⟩
  conv => whnf
  refine ⟨⟨by omega, by unfold InI64; omega⟩, ?_⟩
  conv => whnf
  refine ⟨by unfold InI64; omega, ?_⟩
  conv => whnf
  exact ⟨⟨⟨rfl, rfl⟩, ⟨rfl, rfl⟩, trivial⟩, trivial⟩

def t1 (r : Rt) (k : Int) : Int × Int := bif decide ((144115188075855872 : Int).tdiv (k.tdiv (gcdI k r.den)) < r.num) then (-1, 1) else (r.num * (k.tdiv (gcdI k r.den)), r.den.tdiv (gcdI k r.den))

theorem times1_spec (r : Rt) (k : Int) (hv : validR r = true) (hk : 1 ≤ k ∧ k ≤ 64) : S 75 [.ro [iV k], .ro [iV r.num, iV r.den]] [] (.tup [iV (t1 r k).1, iV (t1 r k).2]) [] := by
  refine spec_of_x (ct := []) cfgOK Tryd.func75 rfl rfl (Nat.le_of_ble_eq_true rfl) (by decide +kernel) (Nat.le_refl _) ?_
  conv => whnf
  have hv := validR_iff hv
  refine ⟨_, _, common_specI k r.den (by omega) (by omega), ?_⟩
  conv => whnf
  have hg := gcdI_pos k r.den (by omega)
  have hkd := kdiv k r.den hk (by omega)
  have hdd := tdiv_le r.den (gcdI k r.den) (by omega) hg
  have hq := tdiv_le 144115188075855872 (k.tdiv (gcdI k r.den)) (by decide) (by omega)
  refine ⟨⟨by omega, by unfold InI64; omega⟩, ?_⟩
  conv => whnf
  refine ⟨⟨by omega, by unfold InI64; omega⟩, ?_⟩
  conv => whnf
  refine bcase_of (fun h3 => ?_) (fun h3 => ?_)
  · conv => whnf
    have e : t1 r k = (-1, 1) := by unfold t1; rw [h3]; rfl
    rw [e]
    exact ⟨⟨⟨rfl, rfl⟩, ⟨rfl, rfl⟩, trivial⟩, trivial⟩
  · conv => whnf
    have hm := mul_bound r.num (k.tdiv (gcdI k r.den)) (by omega) (by omega) (by have := of_decide_eq_false h3; omega)
    have e : t1 r k = (r.num * (k.tdiv (gcdI k r.den)), r.den.tdiv (gcdI k r.den)) := by unfold t1; rw [h3]; rfl
    refine ⟨⟨by omega, by unfold InI64; omega⟩, ?_⟩
    conv => whnf
    refine ⟨by unfold InI64; omega, ?_⟩
    conv => whnf
    refine ⟨⟨by omega, by unfold InI64; omega⟩, ?_⟩
    conv => whnf
    rw [e]
    exact ⟨⟨⟨rfl, rfl⟩, ⟨rfl, rfl⟩, trivial⟩, trivial⟩

theorem scaled_over (r : Rt) (k : Int) : S 72 [rtV r, iV k, .fn 73 [.ro [iV r.num, iV r.den], .ro [iV k]]] [] (.tup [rtV (overR r k).1, iV (overR r k).2]) [] := by
  refine spec_of_x (ct := []) cfgOK Tryd.func72 rfl rfl (Nat.le_of_ble_eq_true rfl) (by decide +kernel) (Nat.le_refl _) ?_
  conv => whnf
  refine ⟨_, _, valid_spec r, ?_⟩
  conv => whnf
  refine bcase_of (fun h => ?_) (fun h => ?_)
  · conv => whnf
    have e : overR r k = (⟨0, 0⟩, 1) := by unfold overR; rw [h]; rfl
    rw [e]
    exact ⟨⟨⟨⟨rfl, rfl⟩, ⟨rfl, rfl⟩, trivial⟩, ⟨rfl, rfl⟩, trivial⟩, trivial⟩
  · conv => whnf
    have hv := validR_iff (r := r) (by simpa using h)
    refine bcase_of (fun h2 => ?_) (fun h2 => ?_)
    · conv => whnf
      have h2 : (decide (k < 1) || decide (64 < k)) = true := h2
      have h2 : (!factorB k) = true := by simp [factorB] at h2 ⊢; omega
      have e : overR r k = (⟨0, 0⟩, 2) := by unfold overR; rw [h, h2]; rfl
      rw [e]
      exact ⟨⟨⟨⟨rfl, rfl⟩, ⟨rfl, rfl⟩, trivial⟩, ⟨rfl, rfl⟩, trivial⟩, trivial⟩
    · conv => whnf
      have h2 : (decide (k < 1) || decide (64 < k)) = false := h2
      have hk : 1 ≤ k ∧ k ≤ 64 := by simp at h2; omega
      have h2 : (!factorB k) = false := by simp [factorB]; omega
      refine ⟨_, _, over1_spec r k (by simpa using h) hk, ?_⟩
      conv => whnf
      have hg := gcdI_pos r.num k (by omega)
      have h1 := tdiv_le r.num (gcdI r.num k) (by omega) hg
      have h3 := tdiv_le k (gcdI r.num k) (by omega) hg
      have hm : 0 ≤ r.den * (k.tdiv (gcdI r.num k)) ∧ r.den * (k.tdiv (gcdI r.num k)) ≤ 16777216 * 64 := ⟨Int.mul_nonneg (by omega) (by omega), Int.mul_le_mul hv.2.2.2.1 (by omega) (by omega) (by omega)⟩
      refine ⟨_, _, rate_new_spec (r.num.tdiv (gcdI r.num k)) (r.den * (k.tdiv (gcdI r.num k))) (by unfold InI64; omega) (by unfold InI64; omega), ?_⟩
      conv => whnf
      have e : overR r k = newR (r.num.tdiv (gcdI r.num k)) (r.den * (k.tdiv (gcdI r.num k))) := by
        rw [newR_over r.num r.den k (by omega) (by omega) (by omega)]
        unfold overR; rw [h, h2]; rfl
      rw [e]
      exact ⟨⟨⟨⟨rfl, rfl⟩, ⟨rfl, rfl⟩, trivial⟩, ⟨rfl, rfl⟩, trivial⟩, trivial⟩

theorem scaled_times (r : Rt) (k : Int) : S 72 [rtV r, iV k, .fn 75 [.ro [iV k], .ro [iV r.num, iV r.den]]] [] (.tup [rtV (timesR r k).1, iV (timesR r k).2]) [] := by
  refine spec_of_x (ct := []) cfgOK Tryd.func72 rfl rfl (Nat.le_of_ble_eq_true rfl) (by decide +kernel) (Nat.le_refl _) ?_
  conv => whnf
  refine ⟨_, _, valid_spec r, ?_⟩
  conv => whnf
  refine bcase_of (fun h => ?_) (fun h => ?_)
  · conv => whnf
    have e : timesR r k = (⟨0, 0⟩, 1) := by unfold timesR; rw [h]; rfl
    rw [e]
    exact ⟨⟨⟨⟨rfl, rfl⟩, ⟨rfl, rfl⟩, trivial⟩, ⟨rfl, rfl⟩, trivial⟩, trivial⟩
  · conv => whnf
    have hv := validR_iff (r := r) (by simpa using h)
    refine bcase_of (fun h2 => ?_) (fun h2 => ?_)
    · conv => whnf
      have h2 : (decide (k < 1) || decide (64 < k)) = true := h2
      have h2 : (!factorB k) = true := by simp [factorB] at h2 ⊢; omega
      have e : timesR r k = (⟨0, 0⟩, 2) := by unfold timesR; rw [h, h2]; rfl
      rw [e]
      exact ⟨⟨⟨⟨rfl, rfl⟩, ⟨rfl, rfl⟩, trivial⟩, ⟨rfl, rfl⟩, trivial⟩, trivial⟩
    · conv => whnf
      have h2 : (decide (k < 1) || decide (64 < k)) = false := h2
      have hk : 1 ≤ k ∧ k ≤ 64 := by simp at h2; omega
      have h2 : (!factorB k) = false := by simp [factorB]; omega
      refine ⟨_, _, times1_spec r k (by simpa using h) hk, ?_⟩
      conv => whnf
      have hg := gcdI_pos k r.den (by omega)
      have hkd := kdiv k r.den hk (by omega)
      have hdd := tdiv_le r.den (gcdI k r.den) (by omega) hg
      have hb : InI64 (t1 r k).1 ∧ InI64 (t1 r k).2 ∧ timesR r k = newR (t1 r k).1 (t1 r k).2 := by
        unfold t1
        cases h3 : decide ((144115188075855872 : Int).tdiv (k.tdiv (gcdI k r.den)) < r.num) with
        | true =>
          refine ⟨by simp [InI64], by simp [InI64], ?_⟩
          unfold timesR; rw [h, h2, h3]; rfl
        | false =>
          have hm := mul_bound r.num (k.tdiv (gcdI k r.den)) (by omega) (by omega) (by have := of_decide_eq_false h3; omega)
          refine ⟨by simp only [cond_false]; unfold InI64; omega, by simp only [cond_false]; unfold InI64; omega, ?_⟩
          unfold timesR; rw [h, h2, h3]; rfl
      refine ⟨_, _, rate_new_spec (t1 r k).1 (t1 r k).2 hb.1 hb.2.1, ?_⟩
      conv => whnf
      rw [hb.2.2]
      exact ⟨⟨⟨⟨rfl, rfl⟩, ⟨rfl, rfl⟩, trivial⟩, ⟨rfl, rfl⟩, trivial⟩, trivial⟩

theorem over_spec (r : Rt) (k : Int) : S 62 [rtV r, iV k] [] (.tup [rtV (overR r k).1, iV (overR r k).2]) [] := by
  refine spec_of_x (ct := []) cfgOK Tryd.func62 rfl rfl (Nat.le_of_ble_eq_true rfl) (by decide +kernel) (Nat.le_refl _) ?_
  conv => whnf
  refine ⟨_, _, scaled_over r k, ?_⟩
  conv => whnf
  exact ⟨⟨⟨⟨rfl, rfl⟩, ⟨rfl, rfl⟩, trivial⟩, ⟨rfl, rfl⟩, trivial⟩, trivial⟩

theorem times_spec (r : Rt) (k : Int) : S 63 [rtV r, iV k] [] (.tup [rtV (timesR r k).1, iV (timesR r k).2]) [] := by
  refine spec_of_x (ct := []) cfgOK Tryd.func63 rfl rfl (Nat.le_of_ble_eq_true rfl) (by decide +kernel) (Nat.le_refl _) ?_
  conv => whnf
  refine ⟨_, _, scaled_times r k, ?_⟩
  conv => whnf
  exact ⟨⟨⟨⟨rfl, rfl⟩, ⟨rfl, rfl⟩, trivial⟩, ⟨rfl, rfl⟩, trivial⟩, trivial⟩

end Go.Proofs.YtjmhlbogkeohpaaDoor

namespace Go.Proofs.YtjmhlbogkeohpaaDoor
open Go.Ab
set_option maxRecDepth 100000

def withinR (r : Rt) (lo hi : Int) : Bool := validR r && (decide (lo ≤ r.num.tdiv r.den) && (decide (r.num.tdiv r.den < hi) || (r.num.tdiv r.den == hi && r.num.tmod r.den == 0)))
def floorR (r : Rt) : Int := bif validR r then r.num.tdiv r.den else 0

theorem withinr_spec (r : Rt) (lo hi : Int) : S 42 [rtV r, iV lo, iV hi] [] (.bool (withinR r lo hi)) [] := by
  refine spec_of_x (ct := []) cfgOK Tryd.func42 rfl rfl (Nat.le_of_ble_eq_true rfl) (by decide +kernel) (Nat.le_refl _) ?_
  conv => whnf
  refine ⟨_, _, valid_spec r, ?_⟩
  conv => whnf
  refine bcase_of (fun h => ?_) (fun h => ?_)
  · conv => whnf
    refine ⟨?_, trivial⟩
    show false = withinR r lo hi
    have h : (!validR r) = true := h
    unfold withinR
    cases hv : validR r with
    | true => rw [hv] at h; cases h
    | false => rfl
  · conv => whnf
    have h : (!validR r) = false := h
    have hv : validR r = true := by simpa using h
    have hr := validR_iff hv
    have hq := tdiv_le r.num r.den (by omega) (by omega)
    refine ⟨⟨by omega, by unfold InI64; omega⟩, ?_⟩
    conv => whnf
    refine ⟨by omega, ?_⟩
    conv => whnf
    refine ⟨?_, trivial⟩
    show _ = withinR r lo hi
    unfold withinR
    rw [hv]
    rfl

theorem rwithinr_spec (r : Rt) (lo hi : Int) : S 16 [rtV r, iV lo, iV hi] [] (.bool (withinR r lo hi)) [] := by
  refine spec_of_x (ct := []) cfgOK Tryd.func16 rfl rfl (Nat.le_of_ble_eq_true rfl) (by decide +kernel) (Nat.le_refl _) ?_
  conv => whnf
  refine ⟨_, _, rvalid_spec r, ?_⟩
  conv => whnf
  refine bcase_of (fun h => ?_) (fun h => ?_)
  · conv => whnf
    refine ⟨?_, trivial⟩
    show false = withinR r lo hi
    have h : (!validR r) = true := h
    unfold withinR
    cases hv : validR r with
    | true => rw [hv] at h; cases h
    | false => rfl
  · conv => whnf
    have h : (!validR r) = false := h
    have hv : validR r = true := by simpa using h
    have hr := validR_iff hv
    have hq := tdiv_le r.num r.den (by omega) (by omega)
    refine ⟨⟨by omega, by unfold InI64; omega⟩, ?_⟩
    conv => whnf
    refine ⟨fun _ _ _ => by omega, ?_⟩
    conv => whnf
    refine ⟨?_, trivial⟩
    show _ = withinR r lo hi
    unfold withinR
    rw [hv]
    rfl

theorem floor_spec (r : Rt) : S 12 [rtV r] [] (iV (floorR r)) [] := by
  refine spec_of_x (ct := []) cfgOK Tryd.func12 rfl rfl (Nat.le_of_ble_eq_true rfl) (by decide +kernel) (Nat.le_refl _) ?_
  conv => whnf
  refine ⟨_, _, rvalid_spec r, ?_⟩
  conv => whnf
  refine bcase_of (fun h => ?_) (fun h => ?_)
  · conv => whnf
    have h : (!validR r) = true := h
    refine ⟨⟨rfl, ?_⟩, trivial⟩
    unfold floorR
    cases hv : validR r with
    | true => rw [hv] at h; cases h
    | false => rfl
  · conv => whnf
    have h : (!validR r) = false := h
    have hv : validR r = true := by simpa using h
    have hr := validR_iff hv
    have hq := tdiv_le r.num r.den (by omega) (by omega)
    refine ⟨⟨by omega, by unfold InI64; omega⟩, ?_⟩
    conv => whnf
    refine ⟨⟨rfl, ?_⟩, trivial⟩
    unfold floorR
    rw [hv]
    rfl

structure Clk where
  kind : Int
  par : List Int
  ch : List Int
  low : Int
  high : Int
def clk0 : Clk := ⟨0, [], [], 0, 0⟩
def clkV (c : Clk) : AV := .agg [iV c.kind, intsV c.par, intsV c.ch, iV c.low, iV c.high]
def clksV (l : List Clk) : AV := .sl 5 l.length false (rowG clkV clk0 l)
structure Lim where
  clk : Int
  low : Int
  high : Int
def lim0 : Lim := ⟨0, 0, 0⟩
def limV (x : Lim) : AV := .agg [iV x.clk, iV x.low, iV x.high]
def limsV (l : List Lim) : AV := .sl 3 l.length false (rowG limV lim0 l)
def rt0 : Rt := ⟨0, 0⟩
def rtsV (l : List Rt) : AV := .sl 2 l.length false (rowG rtV rt0 l)
def boolsV (l : List Bool) : AV := .sl 1 l.length false (rowG AV.bool false l)

theorem valid1_spec (p k : Int) (hk : -1000000 ≤ k ∧ k ≤ 1000000) : S 68 [iV p, .ro [iV k]] [] (.bool (!withinF p 0 (k - 1))) [] := by
  refine spec_of_x (ct := []) cfgOK Tryd.func68 rfl rfl (Nat.le_of_ble_eq_true rfl) (by decide +kernel) (Nat.le_refl _) ?_
  conv => whnf
  refine ⟨by unfold InI64; omega, ?_⟩
  conv => whnf
  refine ⟨_, _, within_spec p 0 (k - 1), ?_⟩
  conv => whnf
  exact ⟨rfl, trivial⟩

def bigC (c : Clk) : Bool := decide (8 < (c.par.length : Int)) || decide (8 < (c.ch.length : Int))

theorem check1_spec (c : Clk) : S 53 [clkV c] [] (.bool (bigC c)) [] := by
  refine spec_of_x (ct := []) cfgOK Tryd.func53 rfl rfl (Nat.le_of_ble_eq_true rfl) (by decide +kernel) (Nat.le_refl _) ?_
  conv => whnf
  exact ⟨rfl, trivial⟩

def badL (n : Int) (x : Lim) : Bool := !withinF x.clk 0 (n - 1) || !withinF x.high 0 4000000000 || !withinF x.low 0 x.high

theorem limits1_spec (l : List Clk) (hl : l.length ≤ 1000000) (x : Lim) : S 57 [limV x, .ro [clksV l]] [] (.bool (badL l.length x)) [] := by
  refine spec_of_x (ct := []) cfgOK Tryd.func57 rfl rfl (Nat.le_of_ble_eq_true rfl) (by decide +kernel) (Nat.le_refl _) ?_
  conv => whnf
  refine ⟨by unfold InI64; omega, ?_⟩
  conv => whnf
  refine ⟨_, _, within_spec x.clk 0 (l.length - 1), ?_⟩
  conv => whnf
  refine ⟨_, _, fun _ => within_spec x.high 0 4000000000, ?_⟩
  conv => whnf
  refine ⟨_, _, fun _ => within_spec x.low 0 x.high, ?_⟩
  conv => whnf
  exact ⟨rfl, trivial⟩

end Go.Proofs.YtjmhlbogkeohpaaDoor

namespace Go.Proofs.YtjmhlbogkeohpaaDoor
open Go.Ab
set_option maxRecDepth 100000

theorem parents_i (k : Int) (l : List Int) (hl : l.length ≤ 1000000) (hk : -1000000 ≤ k ∧ k ≤ 1000000) : S 76 [intsV l, .fn 68 [.ro [iV k]]] [] (iV (idxP (fun y => !withinF y 0 (k - 1)) l 0)) [] := by
  refine spec_of_x (ct := []) cfgOK Tryd.func76 rfl rfl (Nat.le_of_ble_eq_true rfl) (by decide +kernel) (Nat.le_refl _) ?_
  conv => whnf
  refine loops_intro (ct := []) cfgOK (by decide +kernel) (fun i : Nat => ⟨[(0, intsV l), (1, .fn 68 [.ro [iV k]]), (7, iV l.length), (8, iV i)], [], 1⟩) (fun i => i ≤ l.length ∧ idxP (fun y => !withinF y 0 (k - 1)) (l.drop i) i = idxP (fun y => !withinF y 0 (k - 1)) l 0) (fun i => l.length - i) 0 [] ⟨Nat.zero_le _, rfl⟩ ⟨rfl, ⟨embV_leV (.refl _) rfl (by simp [AV.cells, intsV]), ⟨rfl, LeL.refl _, trivial⟩, ⟨rfl, rfl⟩, ⟨rfl, rfl⟩, trivial⟩, trivial⟩ ?_
  intro i ⟨hi1, hi2⟩
  conv => whnf
  refine bcase_of (fun h => ?_) (fun h => ?_)
  · have h := of_decide_eq_true h
    have hlt : i < l.length := by omega
    rw [drop_cons 0 hlt] at hi2
    conv => whnf
    refine ⟨by omega, ?_⟩
    conv => whnf
    refine ⟨_, _, valid1_spec (l.getD i 0) k hk, ?_⟩
    conv => whnf
    refine bcase_of (fun h2 => ?_) (fun h2 => ?_)
    · conv => whnf
      have h2 : (fun y => !withinF y 0 (k - 1)) (l.getD i 0) = true := h2
      refine ⟨⟨rfl, ?_⟩, trivial⟩
      exact (idxP_t (p := (fun y => !withinF y 0 (k - 1))) (y := l.getD i 0) h2).symm.trans hi2
    · conv => whnf
      have h2 : (fun y => !withinF y 0 (k - 1)) (l.getD i 0) = false := h2
      refine ⟨by unfold InI64; omega, ?_⟩
      conv => whnf
      refine ⟨i + 1, [], ⟨by omega, ?_⟩, by omega, ⟨rfl, ⟨embV_leV (.refl _) rfl (by simp [AV.cells, intsV]), ⟨rfl, LeL.refl _, trivial⟩, ⟨rfl, rfl⟩, ⟨rfl, by simp⟩, trivial⟩, trivial⟩⟩
      exact (idxP_f (p := (fun y => !withinF y 0 (k - 1))) (y := l.getD i 0) h2).symm.trans hi2
  · have h := of_decide_eq_false h
    conv => whnf
    refine ⟨⟨rfl, ?_⟩, trivial⟩
    rw [← hi2, List.drop_eq_nil_of_le (by omega)]
    rfl

theorem parents_c (k : Int) (l : List Int) (hl : l.length ≤ 1000000) (hk : -1000000 ≤ k ∧ k ≤ 1000000) : S 67 [intsV l, .fn 68 [.ro [iV k]]] [] (.bool (l.any (fun y => !withinF y 0 (k - 1)))) [] := by
  refine spec_of_x (ct := []) cfgOK Tryd.func67 rfl rfl (Nat.le_of_ble_eq_true rfl) (by decide +kernel) (Nat.le_refl _) ?_
  conv => whnf
  refine ⟨_, _, parents_i k l hl hk, ?_⟩
  conv => whnf
  refine ⟨?_, trivial⟩
  show decide _ = _
  rw [idxP_any]

theorem bigs_i  (l : List Clk) (hl : l.length ≤ 1000000) : S 66 [clksV l, .fn 53 []] [] (iV (idxP bigC l 0)) [] := by
  refine spec_of_x (ct := []) cfgOK Tryd.func66 rfl rfl (Nat.le_of_ble_eq_true rfl) (by decide +kernel) (Nat.le_refl _) ?_
  conv => whnf
  refine loops_intro (ct := []) cfgOK (by decide +kernel) (fun i : Nat => ⟨[(0, clksV l), (1, .fn 53 []), (7, iV l.length), (8, iV i)], [], 1⟩) (fun i => i ≤ l.length ∧ idxP bigC (l.drop i) i = idxP bigC l 0) (fun i => l.length - i) 0 [] ⟨Nat.zero_le _, rfl⟩ ⟨rfl, ⟨embV_leV (.refl _) rfl (by simp [AV.cells, clksV]), ⟨rfl, trivial⟩, ⟨rfl, rfl⟩, ⟨rfl, rfl⟩, trivial⟩, trivial⟩ ?_
  intro i ⟨hi1, hi2⟩
  conv => whnf
  refine bcase_of (fun h => ?_) (fun h => ?_)
  · have h := of_decide_eq_true h
    have hlt : i < l.length := by omega
    rw [drop_cons clk0 hlt] at hi2
    conv => whnf
    refine ⟨by omega, ?_⟩
    conv => whnf
    refine ⟨_, _, check1_spec (l.getD i clk0), ?_⟩
    conv => whnf
    refine bcase_of (fun h2 => ?_) (fun h2 => ?_)
    · conv => whnf
      have h2 : bigC (l.getD i clk0) = true := h2
      refine ⟨⟨rfl, ?_⟩, trivial⟩
      exact (idxP_t (p := bigC) (y := l.getD i clk0) h2).symm.trans hi2
    · conv => whnf
      have h2 : bigC (l.getD i clk0) = false := h2
      refine ⟨by unfold InI64; omega, ?_⟩
      conv => whnf
      refine ⟨i + 1, [], ⟨by omega, ?_⟩, by omega, ⟨rfl, ⟨embV_leV (.refl _) rfl (by simp [AV.cells, clksV]), ⟨rfl, trivial⟩, ⟨rfl, rfl⟩, ⟨rfl, by simp⟩, trivial⟩, trivial⟩⟩
      exact (idxP_f (p := bigC) (y := l.getD i clk0) h2).symm.trans hi2
  · have h := of_decide_eq_false h
    conv => whnf
    refine ⟨⟨rfl, ?_⟩, trivial⟩
    rw [← hi2, List.drop_eq_nil_of_le (by omega)]
    rfl

theorem bigs_c  (l : List Clk) (hl : l.length ≤ 1000000) : S 52 [clksV l, .fn 53 []] [] (.bool (l.any bigC)) [] := by
  refine spec_of_x (ct := []) cfgOK Tryd.func52 rfl rfl (Nat.le_of_ble_eq_true rfl) (by decide +kernel) (Nat.le_refl _) ?_
  conv => whnf
  refine ⟨_, _, bigs_i l hl, ?_⟩
  conv => whnf
  refine ⟨?_, trivial⟩
  show decide _ = _
  rw [idxP_any]

theorem badls_i (cs : List Clk) (hcs : cs.length ≤ 1000000) (l : List Lim) (hl : l.length ≤ 1000000) : S 65 [limsV l, .fn 57 [.ro [clksV cs]]] [] (iV (idxP (badL cs.length) l 0)) [] := by
  refine spec_of_x (ct := []) cfgOK Tryd.func65 rfl rfl (Nat.le_of_ble_eq_true rfl) (by decide +kernel) (Nat.le_refl _) ?_
  conv => whnf
  refine loops_intro (ct := []) cfgOK (by decide +kernel) (fun i : Nat => ⟨[(0, limsV l), (1, .fn 57 [.ro [clksV cs]]), (7, iV l.length), (8, iV i)], [], 1⟩) (fun i => i ≤ l.length ∧ idxP (badL cs.length) (l.drop i) i = idxP (badL cs.length) l 0) (fun i => l.length - i) 0 [] ⟨Nat.zero_le _, rfl⟩ ⟨rfl, ⟨embV_leV (.refl _) rfl (by simp [AV.cells, limsV]), ⟨rfl, LeL.refl _, trivial⟩, ⟨rfl, rfl⟩, ⟨rfl, rfl⟩, trivial⟩, trivial⟩ ?_
  intro i ⟨hi1, hi2⟩
  conv => whnf
  refine bcase_of (fun h => ?_) (fun h => ?_)
  · have h := of_decide_eq_true h
    have hlt : i < l.length := by omega
    rw [drop_cons lim0 hlt] at hi2
    conv => whnf
    refine ⟨by omega, ?_⟩
    conv => whnf
    refine ⟨_, _, limits1_spec cs hcs (l.getD i lim0), ?_⟩
    conv => whnf
    refine bcase_of (fun h2 => ?_) (fun h2 => ?_)
    · conv => whnf
      have h2 : (badL cs.length) (l.getD i lim0) = true := h2
      refine ⟨⟨rfl, ?_⟩, trivial⟩
      exact (idxP_t (p := (badL cs.length)) (y := l.getD i lim0) h2).symm.trans hi2
    · conv => whnf
      have h2 : (badL cs.length) (l.getD i lim0) = false := h2
      refine ⟨by unfold InI64; omega, ?_⟩
      conv => whnf
      refine ⟨i + 1, [], ⟨by omega, ?_⟩, by omega, ⟨rfl, ⟨embV_leV (.refl _) rfl (by simp [AV.cells, limsV]), ⟨rfl, LeL.refl _, trivial⟩, ⟨rfl, rfl⟩, ⟨rfl, by simp⟩, trivial⟩, trivial⟩⟩
      exact (idxP_f (p := (badL cs.length)) (y := l.getD i lim0) h2).symm.trans hi2
  · have h := of_decide_eq_false h
    conv => whnf
    refine ⟨⟨rfl, ?_⟩, trivial⟩
    rw [← hi2, List.drop_eq_nil_of_le (by omega)]
    rfl

theorem badls_c (cs : List Clk) (hcs : cs.length ≤ 1000000) (l : List Lim) (hl : l.length ≤ 1000000) : S 43 [limsV l, .fn 57 [.ro [clksV cs]]] [] (.bool (l.any (badL cs.length))) [] := by
  refine spec_of_x (ct := []) cfgOK Tryd.func43 rfl rfl (Nat.le_of_ble_eq_true rfl) (by decide +kernel) (Nat.le_refl _) ?_
  conv => whnf
  refine ⟨_, _, badls_i cs hcs l hl, ?_⟩
  conv => whnf
  refine ⟨?_, trivial⟩
  show decide _ = _
  rw [idxP_any]


end Go.Proofs.YtjmhlbogkeohpaaDoor
