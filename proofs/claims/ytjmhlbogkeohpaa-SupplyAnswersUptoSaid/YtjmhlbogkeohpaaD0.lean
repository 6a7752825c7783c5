/- Contracts of the program's functions, shown by walks of that machine, and the plain laws. -/
import Derived.Test.YtjmhlbogkeohpaaProg
import Derived.Test.YtjmhlbogkeohpaaL4
import Derived.RangeFuncBox
import Derived.RangeFuncLeaves
import Derived.Shelf.Abstract
import Derived.WalkKit
import Derived.OwnWalkIn
import Derived.TacticsInMore
import Derived.LoopNIn
import Derived.LoopIn
namespace Go.Proofs.Ytjmhlbogkeohpaa
open Go.Ab

def cfg : Cfg where
  ty := [(3, ⟨1, false, 8, [(.int .i64)], (.int .i64)⟩),
  (4, ⟨1, false, 1, [.bool], .bool⟩),
  (22, ⟨1, false, 24, [.slice], (.slice 3)⟩),
  (23, ⟨1, false, 8, [.ptr], (.pointer 72)⟩),
  (25, ⟨1, false, 24, [.slice], (.slice 49)⟩),
  (27, ⟨1, false, 24, [.slice], (.slice 43)⟩),
  (29, ⟨1, false, 24, [.slice], (.slice 4)⟩),
  (30, ⟨2, true, 48, [.slice, .slice], (.struct [(0, 29), (1, 22)])⟩),
  (31, ⟨2, true, 48, [.slice, .slice], (.struct [(0, 29), (1, 22)])⟩),
  (37, ⟨1, false, 8, [(.int .i64)], (.int .i64)⟩),
  (42, ⟨4, true, 32, [(.int .i64), (.int .i64), (.int .i64), (.int .i64)], (.struct [(0, 3), (1, 3), (2, 3), (3, 3)])⟩),
  (43, ⟨4, true, 32, [(.int .i64), (.int .i64), (.int .i64), (.int .i64)], (.struct [(0, 3), (1, 3), (2, 3), (3, 3)])⟩),
  (48, ⟨5, true, 56, [(.int .i64), .slice, (.int .i64), (.int .i64), .bool], (.struct [(0, 3), (1, 22), (2, 3), (3, 3), (4, 4)])⟩),
  (49, ⟨5, true, 56, [(.int .i64), .slice, (.int .i64), (.int .i64), .bool], (.struct [(0, 3), (1, 22), (2, 3), (3, 3), (4, 4)])⟩),
  (50, ⟨4, true, 48, [.bool, .slice, (.int .i64), (.int .i64)], (.struct [(0, 4), (1, 22), (2, 3), (3, 3)])⟩),
  (51, ⟨4, true, 48, [.bool, .slice, (.int .i64), (.int .i64)], (.struct [(0, 4), (1, 22), (2, 3), (3, 3)])⟩),
  (57, ⟨1, false, 24, [.slice], (.slice 25)⟩),
  (59, ⟨1, false, 24, [.slice], (.slice 27)⟩),
  (65, ⟨1, false, 24, [.slice], (.slice 31)⟩),
  (69, ⟨1, false, 24, [.slice], (.slice 51)⟩),
  (71, ⟨2, true, 32, [.slice, (.int .i64)], (.struct [(0, 22), (1, 3)])⟩),
  (72, ⟨2, true, 32, [.slice, (.int .i64)], (.struct [(0, 22), (1, 3)])⟩),
  (78, ⟨1, false, 8, [.other], .other⟩),
  (79, ⟨1, false, 24, [.slice], (.slice 98)⟩),
  (88, ⟨1, false, 8, [.other], .other⟩),
  (97, ⟨3, true, 24, [(.int .i64), (.int .i64), (.int .i64)], (.struct [(0, 3), (1, 3), (2, 3)])⟩),
  (98, ⟨3, true, 24, [(.int .i64), (.int .i64), (.int .i64)], (.struct [(0, 3), (1, 3), (2, 3)])⟩),
  (104, ⟨1, false, 8, [(.int .u64)], (.int .u64)⟩),
  (108, ⟨1, false, 4, [(.int .u32)], (.int .u32)⟩),
  (111, ⟨1, false, 8, [(.int .u64)], (.int .u64)⟩)]
  eqs := []
  fns := [(68, ⟨[0], false⟩), (40, ⟨[0], false⟩), (41, ⟨[0], false⟩), (42, ⟨[0], false⟩), (17, ⟨[0], false⟩), (10, ⟨[0], false⟩), (11, ⟨[0], false⟩), (12, ⟨[0], false⟩), (37, ⟨[0], false⟩), (26, ⟨[0], false⟩), (39, ⟨[0], false⟩), (72, ⟨[0], false⟩),
    (9, ⟨[], true⟩), (44, ⟨[], true⟩), (45, ⟨[], true⟩), (50, ⟨[], true⟩), (15, ⟨[], true⟩), (16, ⟨[], true⟩), (19, ⟨[], true⟩), (21, ⟨[], true⟩), (54, ⟨[], true⟩), (71, ⟨[], true⟩), (43, ⟨[], true⟩), (59, ⟨[], true⟩), (60, ⟨[], true⟩), (29, ⟨[], true⟩), (30, ⟨[], true⟩), (34, ⟨[], true⟩), (69, ⟨[], true⟩)]
  glob := []

theorem cfgOK : CfgOK Try.prog cfg := cfgOK_of (by kernel_rfl) (by kernel_rfl) (by kernel_rfl)

end Go.Proofs.Ytjmhlbogkeohpaa

namespace Go.Proofs.Ytjmhlbogkeohpaa
open Go.Ab

abbrev S := Ab.Spec Try.prog cfg

theorem mod_spec (x n : Int) (hn : InI64 n) : S 67 [iV x, iV n] [] (iV (modF x n)) [] := by
  refine spec_of_x (ct := []) cfgOK Try.func67 rfl rfl (Nat.le_of_ble_eq_true rfl) (by decide +kernel) (Nat.le_refl _) ?_
  conv => whnf
  refine bcase_of (fun h => ?_) (fun h => ?_)
  · conv => whnf
    have h := of_decide_eq_true h
    exact ⟨⟨rfl, by simp [modF, h]⟩, trivial⟩
  · conv => whnf
    have h := of_decide_eq_false h
    refine ⟨by omega, ?_⟩
    conv => whnf
    have hr := Int.emod_nonneg x (b := n) (by omega)
    have hr' := Int.emod_lt_of_pos x (b := n) (by omega)
    have ht := Int.tmod_eq_emod (a := x) (b := n)
    refine bcase_of (fun h2 => ?_) (fun h2 => ?_)
    · conv => whnf
      have h2 := of_decide_eq_true h2
      refine ⟨by unfold InI64 at *; split at ht <;> omega, ?_⟩
      conv => whnf
      exact ⟨⟨rfl, by unfold modF; split at ht <;> split <;> omega⟩, trivial⟩
    · conv => whnf
      have h2 := of_decide_eq_false h2
      exact ⟨⟨rfl, by unfold modF; split at ht <;> split <;> omega⟩, trivial⟩

theorem raw_spec (t : Tp) (ht : t.ok) : S 68 [.ptr 0 0 0] [tapeO t] (iV t.raw.1) [tapeO t.raw.2] := by
  refine spec_of_x (ct := []) cfgOK Try.func68 rfl rfl (Nat.le_of_ble_eq_true rfl) (by decide +kernel) (Nat.le_refl _) ?_
  conv => whnf
  refine bcase_of (fun h => ?_) (fun h => ?_)
  · conv => whnf
    have h := of_decide_eq_true h
    have e : t.raw = (0, t) := if_pos (by omega)
    rw [e]
    exact ⟨⟨rfl, rfl⟩, tape_emb rfl, trivial⟩
  · conv => whnf
    have h := of_decide_eq_false h
    obtain ⟨h1, h2, h3⟩ := ht
    have e : t.raw = (t.l.getD t.pos 0, ⟨t.l, t.pos + 1⟩) := if_neg (by omega)
    refine ⟨by unfold InI64; omega, ?_⟩
    conv => whnf
    refine ⟨by unfold InI64; omega, ?_⟩
    conv => whnf
    refine ⟨by omega, ?_⟩
    conv => whnf
    rw [e]
    exact ⟨⟨rfl, by congr 1; omega⟩, tape_emb (t := ⟨t.l, t.pos + 1⟩) (by simp), trivial⟩

theorem n_spec (t : Tp) (ht : t.ok) (n : Int) (hn : InI64 n) : S 40 [.ptr 0 0 0, iV n] [tapeO t] (iV (t.n n).1) [tapeO (t.n n).2] := by
  refine spec_of_x (ct := []) cfgOK Try.func40 rfl rfl (Nat.le_of_ble_eq_true rfl) (by decide +kernel) (Nat.le_refl _) ?_
  conv => whnf
  refine ⟨_, _, raw_spec t ht, ?_⟩
  conv => whnf
  refine ⟨_, _, mod_spec t.raw.1 n hn, ?_⟩
  conv => whnf
  exact ⟨⟨rfl, rfl⟩, tape_emb rfl, trivial⟩

theorem range_spec (t : Tp) (ht : t.ok) (lo hi : Int) (h : -1000000 ≤ lo ∧ lo ≤ 1000000 ∧ -1000000 ≤ hi ∧ hi ≤ 1000000) : S 41 [.ptr 0 0 0, iV lo, iV hi] [tapeO t] (iV (t.range lo hi).1) [tapeO (t.range lo hi).2] := by
  refine spec_of_x (ct := []) cfgOK Try.func41 rfl rfl (Nat.le_of_ble_eq_true rfl) (by decide +kernel) (Nat.le_refl _) ?_
  conv => whnf
  refine ⟨by unfold InI64; omega, ?_⟩
  conv => whnf
  refine ⟨by unfold InI64; omega, ?_⟩
  conv => whnf
  have hb := Tp.n_lt t (hi - lo + 1)
  refine ⟨_, _, n_spec t ht (hi - lo + 1) (by unfold InI64; omega), ?_⟩
  conv => whnf
  refine ⟨by unfold InI64; omega, ?_⟩
  conv => whnf
  exact ⟨⟨rfl, rfl⟩, tape_emb rfl, trivial⟩

theorem pick_spec (t : Tp) (ht : t.ok) (l : List Int) (hl : l.length ≠ 0 ∧ l.length ≤ 1000000) : S 42 [.ptr 0 0 0, intsV l] [tapeO t] (iV (t.pick l).1) [tapeO (t.pick l).2] := by
  refine spec_of_x (ct := []) cfgOK Try.func42 rfl rfl (Nat.le_of_ble_eq_true rfl) (by decide +kernel) (Nat.le_refl _) ?_
  conv => whnf
  have hb := Tp.n_lt t l.length
  refine ⟨_, _, n_spec t ht l.length (by unfold InI64; omega), ?_⟩
  conv => whnf
  refine ⟨by omega, ?_⟩
  conv => whnf
  exact ⟨⟨rfl, rfl⟩, tape_emb rfl, trivial⟩

theorem new_spec (l : List Int) : S 9 [intsV l] [] (.ptr 0 0 0) [tapeO ⟨l.take 500, 0⟩] := by
  refine spec_of_x (ct := []) cfgOK Try.func9 rfl rfl (Nat.le_of_ble_eq_true rfl) (by decide +kernel) (Nat.zero_le _) ?_
  conv => whnf
  refine ⟨by omega, ?_⟩
  conv => whnf
  refine ⟨⟨rfl, rfl, rfl, rfl⟩, embO_le ⟨.sl ?_ (fun _ => rfl) nofun (fun i hi => ?_), .refl _, trivial⟩ rfl (by simp [tapeO]), trivial⟩
  · simp; omega
  · have : rowG iV 0 l i = rowG iV 0 (l.take 500) i := by
      unfold rowG
      rw [List.getD_eq_getElem?_getD, List.getD_eq_getElem?_getD, List.getElem?_take_of_lt (by omega)]
    rw [this]
    exact .refl _

end Go.Proofs.Ytjmhlbogkeohpaa

namespace Go.Proofs.Ytjmhlbogkeohpaa
open Go.Ab
set_option maxRecDepth 100000


structure Sup where
  par : Int
  lev : List Int
  drop : Int
  cap : Int
  alw : Bool
deriving DecidableEq
def sup0 : Sup := ⟨0, [], 0, 0, false⟩
def supV (s : Sup) : AV := .agg [iV s.par, intsV s.lev, iV s.drop, iV s.cap, .bool s.alw]
def supsV (l : List Sup) : AV := .sl 5 l.length false (rowG supV sup0 l)
structure Drw where
  sup : Int
  low : Int
  high : Int
  load : Int
deriving DecidableEq
def drw0 : Drw := ⟨0, 0, 0, 0⟩
def drwV (x : Drw) : AV := .agg [iV x.sup, iV x.low, iV x.high, iV x.load]
def drwsV (l : List Drw) : AV := .sl 4 l.length false (rowG drwV drw0 l)
def boolsV (l : List Bool) : AV := .sl 1 l.length false (rowG AV.bool false l)
structure Rls where
  on : List Bool
  lev : List Int
deriving DecidableEq
def rlsV (r : Rls) : AV := .agg [boolsV r.on, intsV r.lev]
structure Chn where
  over : Bool
  sups : List Int
  first : Int
  last : Int
deriving DecidableEq
def chnV (c : Chn) : AV := .agg [.bool c.over, intsV c.sups, iV c.first, iV c.last]
structure Dem where
  volt : Int
  draw : Int
  child : Int
deriving DecidableEq
def dem0 : Dem := ⟨0, 0, 0⟩
def demV (d : Dem) : AV := .agg [iV d.volt, iV d.draw, iV d.child]
def demsV (l : List Dem) : AV := .sl 3 l.length false (rowG demV dem0 l)

def withinF (n lo hi : Int) : Bool := decide (lo ≤ n) && decide (n ≤ hi)

theorem within_spec (n lo hi : Int) : S 48 [iV n, iV lo, iV hi] [] (.bool (withinF n lo hi)) [] := by
  refine spec_of_x (ct := []) cfgOK Try.func48 rfl rfl (Nat.le_of_ble_eq_true rfl) (by decide +kernel) (Nat.le_refl _) ?_; conv => whnf
  exact ⟨rfl, trivial⟩

theorem in_spec (n lo hi : Int) : S 53 [iV n, iV lo, iV hi] [] (.bool (withinF n lo hi)) [] := by
  refine spec_of_x (ct := []) cfgOK Try.func53 rfl rfl (Nat.le_of_ble_eq_true rfl) (by decide +kernel) (Nat.le_refl _) ?_; conv => whnf
  exact ⟨rfl, trivial⟩

def bigS (s : Sup) : Bool := decide (16 < (s.lev.length : Int))

theorem check1_spec (s : Sup) : S 63 [supV s] [] (.bool (bigS s)) [] := by
  refine spec_of_x (ct := []) cfgOK Try.func63 rfl rfl (Nat.le_of_ble_eq_true rfl) (by decide +kernel) (Nat.le_refl _) ?_; conv => whnf
  exact ⟨rfl, trivial⟩

def headB (s : Sup) (k : Int) : Bool := ((((!withinF s.par (-1) (k - 1)) || ((s.lev.length : Int) == 0)) || !withinF s.drop 0 5000) || (decide (s.par < 0) && (s.drop != 0))) || !withinF s.cap 0 10000
def ascB : Int → List Int → Bool
  | _, [] => true
  | p, v :: t => !(!withinF v 1 5000 || decide (v ≤ p)) && ascB v t
def validS (s : Sup) (k : Int) : Bool := !headB s k && ascB 0 s.lev

theorem asc_step {lev : List Int} {i : Nat} (hi : i < lev.length) {c : Bool} (hc : c = (!withinF (lev.getD i 0) 1 5000 || (decide (0 < (i : Int)) && decide (lev.getD i 0 ≤ lev.getD (i - 1) 0)))) :
    ascB (if i = 0 then 0 else lev.getD (i - 1) 0) (lev.drop i) = (!c && ascB (lev.getD i 0) (lev.drop (i + 1))) := by
  rw [drop_cons 0 hi, ascB, hc]
  congr 2
  cases h : withinF (lev.getD i 0) 1 5000 with
  | false => rfl
  | true =>
    have h1 : 1 ≤ lev.getD i 0 := by unfold withinF at h; simp at h; simpa using h.1
    by_cases h0 : i = 0
    · subst h0
      simp
      have h1 : 1 ≤ lev.getD 0 0 := h1
      have : ¬ lev.getD 0 0 ≤ 0 := by omega
      simpa using this
    · have : decide (0 < (i : Int)) = true := by simp; omega
      rw [this, if_neg h0]
      simp

theorem valid_spec (s : Sup) (k : Int) (hk : -1000000 ≤ k ∧ k ≤ 1000000) (hl : s.lev.length ≤ 1000000) : S 64 [supV s, iV k] [] (.bool (validS s k)) [] := by
  refine spec_of_x (ct := []) cfgOK Try.func64 rfl rfl (Nat.le_of_ble_eq_true rfl) (by decide +kernel) (Nat.le_refl _) ?_; conv => whnf
  (refine ⟨by intros; first | omega | (unfold InI64; omega) | (simp only [List.length_append, List.length_cons, List.length_nil, List.length_set]; omega), ?_⟩; conv => whnf)
  refine ⟨_, _, within_spec s.par (-1) (k - 1), ?_⟩; conv => whnf
  refine ⟨_, _, fun _ => within_spec s.drop 0 5000, ?_⟩; conv => whnf
  refine ⟨_, _, fun _ => within_spec s.cap 0 10000, ?_⟩; conv => whnf
  refine bcase_of (fun h => ?_) (fun h => ?_)
  · (conv => whnf)
    have h : headB s k = true := h
    refine ⟨?_, trivial⟩
    show false = validS s k
    unfold validS
    rw [h]
    rfl
  · (conv => whnf)
    have h : headB s k = false := h
    refine loops_intro (ct := []) cfgOK (by decide +kernel) (fun i : Nat => ⟨[(2, .ptr 0 0 0), (42, intsV s.lev), (43, iV s.lev.length), (44, iV i)], [(0, some (.box (supV s).cells))], 1⟩) (fun i => i ≤ s.lev.length ∧ ascB (if i = 0 then 0 else s.lev.getD (i - 1) 0) (s.lev.drop i) = ascB 0 s.lev) (fun i => s.lev.length - i) 0 [(0, some 0)] ⟨Nat.zero_le _, rfl⟩ (by (repeat' first | exact trivial | exact rfl | exact ⟨rfl, rfl⟩ | exact ⟨rfl, trivial⟩ | exact ⟨rfl, LeL.refl _, trivial⟩ | exact ⟨rfl, LeL.refl _, LeL.refl _, trivial⟩ | exact embV_le (.refl _) rfl | exact embV_leV (.refl _) rfl (Nat.lt_of_sub_pos (by exact Nat.zero_lt_succ _)) | exact ⟨rfl, rfl, rfl, rfl⟩ | exact ⟨rfl, rfl, rfl, rfl, id⟩ | exact ⟨rfl, rfl, rfl, rfl, rfl⟩ | exact ⟨rfl, rfl, rfl, rfl, nofun⟩ | exact tape_emb rfl | exact embO_le (LeL.refl _) rfl (Nat.lt_of_sub_pos (by exact Nat.zero_lt_succ _)) | exact ⟨rfl, rfl, fun _ _ => .refl _⟩ | (refine ⟨rfl, ?_⟩; simp; done) | (refine ⟨rfl, ?_⟩; omega) | refine ⟨?_, ?_⟩ | refine ⟨?_, ?_, ?_⟩)) ?_
    intro i ⟨hi1, hi2⟩
    (conv => whnf)
    refine bcase_of (fun h2 => ?_) (fun h2 => ?_)
    · have hlt : i < s.lev.length := by have := of_decide_eq_true h2; omega
      (conv => whnf)
      (refine ⟨by intros; first | omega | (unfold InI64; omega) | (simp only [List.length_append, List.length_cons, List.length_nil, List.length_set]; omega), ?_⟩; conv => whnf)
      refine ⟨_, _, within_spec (s.lev.getD i 0) 1 5000, ?_⟩; conv => whnf
      (refine ⟨by intros; first | omega | (unfold InI64; omega) | (simp only [List.length_append, List.length_cons, List.length_nil, List.length_set]; omega), ?_⟩; conv => whnf)
      refine ⟨fun _ hg => by
        have hg : decide (0 < (i : Int)) = true := hg
        have := of_decide_eq_true hg
        omega, ?_⟩; conv => whnf
      have hst := asc_step hlt rfl
      rw [hi2] at hst
      have hpr : ((i : Int) - 1).toNat = i - 1 := by omega
      refine bcase_of (fun h3 => ?_) (fun h3 => ?_)
      · (conv => whnf)
        have h3 : (!withinF (s.lev.getD i 0) 1 5000 || (decide (0 < (i : Int)) && decide (s.lev.getD i 0 ≤ s.lev.getD ((i : Int) - 1).toNat 0))) = true := h3
        rw [hpr] at h3
        refine ⟨?_, trivial⟩
        show false = validS s k
        unfold validS
        rw [hst, h3]
        simp
      · have h3 : (!withinF (s.lev.getD i 0) 1 5000 || (decide (0 < (i : Int)) && decide (s.lev.getD i 0 ≤ s.lev.getD ((i : Int) - 1).toNat 0))) = false := h3
        rw [hpr] at h3
        rw [h3] at hst
        (conv => whnf)
        (refine ⟨by intros; first | omega | (unfold InI64; omega) | (simp only [List.length_append, List.length_cons, List.length_nil, List.length_set]; omega), ?_⟩; conv => whnf)
        refine ⟨i + 1, [(0, some 0)], ⟨by omega, ?_⟩, by omega, (by (repeat' first | exact trivial | exact rfl | exact ⟨rfl, rfl⟩ | exact ⟨rfl, trivial⟩ | exact ⟨rfl, LeL.refl _, trivial⟩ | exact ⟨rfl, LeL.refl _, LeL.refl _, trivial⟩ | exact embV_le (.refl _) rfl | exact embV_leV (.refl _) rfl (Nat.lt_of_sub_pos (by exact Nat.zero_lt_succ _)) | exact ⟨rfl, rfl, rfl, rfl⟩ | exact ⟨rfl, rfl, rfl, rfl, id⟩ | exact ⟨rfl, rfl, rfl, rfl, rfl⟩ | exact ⟨rfl, rfl, rfl, rfl, nofun⟩ | exact tape_emb rfl | exact embO_le (LeL.refl _) rfl (Nat.lt_of_sub_pos (by exact Nat.zero_lt_succ _)) | exact ⟨rfl, rfl, fun _ _ => .refl _⟩ | (refine ⟨rfl, ?_⟩; simp; done) | (refine ⟨rfl, ?_⟩; omega) | refine ⟨?_, ?_⟩ | refine ⟨?_, ?_, ?_⟩))⟩
        rw [if_neg (by omega), hst]
        rfl
    · have hil : i = s.lev.length := by have := of_decide_eq_false h2; omega
      (conv => whnf)
      refine ⟨?_, trivial⟩
      show true = validS s k
      unfold validS
      rw [h, ← hi2, hil, List.drop_length]
      rfl

theorem ints_spec (a b : List Int) (hl : a.length ≤ 1000000) : S 35 [intsV a, intsV b] [] (.bool (a == b)) [] := by
  refine spec_of_x (ct := []) cfgOK Try.func35 rfl rfl (Nat.le_of_ble_eq_true rfl) (by decide +kernel) (Nat.le_refl _) ?_; conv => whnf
  refine bcase_of (fun h => ?_) (fun h => ?_)
  · (conv => whnf)
    refine ⟨?_, trivial⟩
    show false = (a == b)
    have h : ¬ a.length = b.length := by
      intro e
      rw [e] at h
      simp at h
    symm
    simp
    intro e
    rw [e] at h
    exact h rfl
  · (conv => whnf)
    have h : a.length = b.length := by
      have : ((a.length : Int) != b.length) = false := h
      simp at this
      omega
    refine loops_intro (ct := []) cfgOK (by decide +kernel) (fun i : Nat => ⟨[(0, intsV a), (1, intsV b), (5, iV i)], [], 1⟩) (fun i => i ≤ a.length ∧ (a.drop i == b.drop i) = (a == b)) (fun i => a.length - i) 0 [] ⟨Nat.zero_le _, rfl⟩ (by (repeat' first | exact trivial | exact rfl | exact ⟨rfl, rfl⟩ | exact ⟨rfl, trivial⟩ | exact ⟨rfl, LeL.refl _, trivial⟩ | exact ⟨rfl, LeL.refl _, LeL.refl _, trivial⟩ | exact embV_le (.refl _) rfl | exact embV_leV (.refl _) rfl (Nat.lt_of_sub_pos (by exact Nat.zero_lt_succ _)) | exact ⟨rfl, rfl, rfl, rfl⟩ | exact ⟨rfl, rfl, rfl, rfl, id⟩ | exact ⟨rfl, rfl, rfl, rfl, rfl⟩ | exact ⟨rfl, rfl, rfl, rfl, nofun⟩ | exact tape_emb rfl | exact embO_le (LeL.refl _) rfl (Nat.lt_of_sub_pos (by exact Nat.zero_lt_succ _)) | exact ⟨rfl, rfl, fun _ _ => .refl _⟩ | (refine ⟨rfl, ?_⟩; simp; done) | (refine ⟨rfl, ?_⟩; omega) | refine ⟨?_, ?_⟩ | refine ⟨?_, ?_, ?_⟩)) ?_
    intro i ⟨hi1, hi2⟩
    (conv => whnf)
    refine bcase_of (fun h3 => ?_) (fun h3 => ?_)
    · have h3 := of_decide_eq_true h3
      (conv => whnf)
      (refine ⟨by intros; first | omega | (unfold InI64; omega) | (simp only [List.length_append, List.length_cons, List.length_nil, List.length_set]; omega), ?_⟩; conv => whnf)
      (refine ⟨by intros; first | omega | (unfold InI64; omega) | (simp only [List.length_append, List.length_cons, List.length_nil, List.length_set]; omega), ?_⟩; conv => whnf)
      rw [drop_cons 0 (l := a) (i := i) (by omega), drop_cons 0 (l := b) (i := i) (by omega)] at hi2
      refine bcase_of (fun h2 => ?_) (fun h2 => ?_)
      · (conv => whnf)
        have h2 : (a.getD i 0 != b.getD i 0) = true := h2
        refine ⟨?_, trivial⟩
        show false = (a == b)
        rw [← hi2]
        symm
        simpa using fun e => absurd e (by simpa using h2)
      · (conv => whnf)
        have h2 : (a.getD i 0 != b.getD i 0) = false := h2
        (refine ⟨by intros; first | omega | (unfold InI64; omega) | (simp only [List.length_append, List.length_cons, List.length_nil, List.length_set]; omega), ?_⟩; conv => whnf)
        refine ⟨i + 1, [], ⟨by omega, ?_⟩, by omega, (by (repeat' first | exact trivial | exact rfl | exact ⟨rfl, rfl⟩ | exact ⟨rfl, trivial⟩ | exact ⟨rfl, LeL.refl _, trivial⟩ | exact ⟨rfl, LeL.refl _, LeL.refl _, trivial⟩ | exact embV_le (.refl _) rfl | exact embV_leV (.refl _) rfl (Nat.lt_of_sub_pos (by exact Nat.zero_lt_succ _)) | exact ⟨rfl, rfl, rfl, rfl⟩ | exact ⟨rfl, rfl, rfl, rfl, id⟩ | exact ⟨rfl, rfl, rfl, rfl, rfl⟩ | exact ⟨rfl, rfl, rfl, rfl, nofun⟩ | exact tape_emb rfl | exact embO_le (LeL.refl _) rfl (Nat.lt_of_sub_pos (by exact Nat.zero_lt_succ _)) | exact ⟨rfl, rfl, fun _ _ => .refl _⟩ | (refine ⟨rfl, ?_⟩; simp; done) | (refine ⟨rfl, ?_⟩; omega) | refine ⟨?_, ?_⟩ | refine ⟨?_, ?_, ?_⟩))⟩
        rw [← hi2]
        have : a.getD i 0 = b.getD i 0 := by simpa using h2
        rw [this]
        simp
    · have h3 := of_decide_eq_false h3
      (conv => whnf)
      refine ⟨?_, trivial⟩
      show true = (a == b)
      rw [← hi2, List.drop_eq_nil_of_le (by omega), List.drop_eq_nil_of_le (by omega)]
      rfl

end Go.Proofs.Ytjmhlbogkeohpaa

namespace Go.Proofs.Ytjmhlbogkeohpaa
open Go.Ab
set_option maxRecDepth 100000

theorem bigs_i  (l : List Sup) (hl : l.length ≤ 1000000) : S 75 [supsV l, .fn 63 []] [] (iV (idxP bigS l 0)) [] := by
  refine spec_of_x (ct := []) cfgOK Try.func75 rfl rfl (Nat.le_of_ble_eq_true rfl) (by decide +kernel) (Nat.le_refl _) ?_; conv => whnf
  refine loops_intro (ct := []) cfgOK (by decide +kernel) (fun i : Nat => ⟨[(0, supsV l), (1, .fn 63 []), (7, iV l.length), (8, iV i)], [], 1⟩) (fun i => i ≤ l.length ∧ idxP bigS (l.drop i) i = idxP bigS l 0) (fun i => l.length - i) 0 [] ⟨Nat.zero_le _, rfl⟩ (by (repeat' first | exact trivial | exact rfl | exact ⟨rfl, rfl⟩ | exact ⟨rfl, trivial⟩ | exact ⟨rfl, LeL.refl _, trivial⟩ | exact ⟨rfl, LeL.refl _, LeL.refl _, trivial⟩ | exact embV_le (.refl _) rfl | exact embV_leV (.refl _) rfl (Nat.lt_of_sub_pos (by exact Nat.zero_lt_succ _)) | exact ⟨rfl, rfl, rfl, rfl⟩ | exact ⟨rfl, rfl, rfl, rfl, id⟩ | exact ⟨rfl, rfl, rfl, rfl, rfl⟩ | exact ⟨rfl, rfl, rfl, rfl, nofun⟩ | exact tape_emb rfl | exact embO_le (LeL.refl _) rfl (Nat.lt_of_sub_pos (by exact Nat.zero_lt_succ _)) | exact ⟨rfl, rfl, fun _ _ => .refl _⟩ | (refine ⟨rfl, ?_⟩; simp; done) | (refine ⟨rfl, ?_⟩; omega) | refine ⟨?_, ?_⟩ | refine ⟨?_, ?_, ?_⟩)) ?_
  intro i ⟨hi1, hi2⟩
  (conv => whnf)
  refine bcase_of (fun h => ?_) (fun h => ?_)
  · have h := of_decide_eq_true h
    have hlt : i < l.length := by omega
    rw [drop_cons sup0 hlt] at hi2
    (conv => whnf)
    (refine ⟨by intros; first | omega | (unfold InI64; omega) | (simp only [List.length_append, List.length_cons, List.length_nil, List.length_set]; omega), ?_⟩; conv => whnf)
    refine ⟨_, _, check1_spec (l.getD i sup0), ?_⟩; conv => whnf
    refine bcase_of (fun h2 => ?_) (fun h2 => ?_)
    · (conv => whnf)
      have h2 : bigS (l.getD i sup0) = true := h2
      refine ⟨⟨rfl, ?_⟩, trivial⟩
      exact (idxP_t (p := bigS) (y := l.getD i sup0) h2).symm.trans hi2
    · (conv => whnf)
      have h2 : bigS (l.getD i sup0) = false := h2
      (refine ⟨by intros; first | omega | (unfold InI64; omega) | (simp only [List.length_append, List.length_cons, List.length_nil, List.length_set]; omega), ?_⟩; conv => whnf)
      refine ⟨i + 1, [], ⟨by omega, ?_⟩, by omega, (by (repeat' first | exact trivial | exact rfl | exact ⟨rfl, rfl⟩ | exact ⟨rfl, trivial⟩ | exact ⟨rfl, LeL.refl _, trivial⟩ | exact ⟨rfl, LeL.refl _, LeL.refl _, trivial⟩ | exact embV_le (.refl _) rfl | exact embV_leV (.refl _) rfl (Nat.lt_of_sub_pos (by exact Nat.zero_lt_succ _)) | exact ⟨rfl, rfl, rfl, rfl⟩ | exact ⟨rfl, rfl, rfl, rfl, id⟩ | exact ⟨rfl, rfl, rfl, rfl, rfl⟩ | exact ⟨rfl, rfl, rfl, rfl, nofun⟩ | exact tape_emb rfl | exact embO_le (LeL.refl _) rfl (Nat.lt_of_sub_pos (by exact Nat.zero_lt_succ _)) | exact ⟨rfl, rfl, fun _ _ => .refl _⟩ | (refine ⟨rfl, ?_⟩; simp; done) | (refine ⟨rfl, ?_⟩; omega) | refine ⟨?_, ?_⟩ | refine ⟨?_, ?_, ?_⟩))⟩
      exact (idxP_f (p := bigS) (y := l.getD i sup0) h2).symm.trans hi2
  · have h := of_decide_eq_false h
    (conv => whnf)
    refine ⟨⟨rfl, ?_⟩, trivial⟩
    rw [← hi2, List.drop_eq_nil_of_le (by omega)]
    rfl

theorem bigs_c  (l : List Sup) (hl : l.length ≤ 1000000) : S 62 [supsV l, .fn 63 []] [] (.bool (l.any bigS)) [] := by
  refine spec_of_x (ct := []) cfgOK Try.func62 rfl rfl (Nat.le_of_ble_eq_true rfl) (by decide +kernel) (Nat.le_refl _) ?_; conv => whnf
  refine ⟨_, _, bigs_i  l hl, ?_⟩; conv => whnf
  refine ⟨?_, trivial⟩
  show decide _ = _
  rw [idxP_any]

def badD (n : Int) (x : Drw) : Bool := ((!withinF x.sup 0 (n - 1) || !withinF x.high 0 5000) || !withinF x.low 0 x.high) || !withinF x.load 0 10000

theorem draws1_spec (l : List Sup) (hl : l.length ≤ 1000000) (x : Drw) : S 66 [drwV x, .ro [supsV l]] [] (.bool (badD l.length x)) [] := by
  refine spec_of_x (ct := []) cfgOK Try.func66 rfl rfl (Nat.le_of_ble_eq_true rfl) (by decide +kernel) (Nat.le_refl _) ?_; conv => whnf
  (refine ⟨by intros; first | omega | (unfold InI64; omega) | (simp only [List.length_append, List.length_cons, List.length_nil, List.length_set]; omega), ?_⟩; conv => whnf)
  refine ⟨_, _, within_spec x.sup 0 (l.length - 1), ?_⟩; conv => whnf
  refine ⟨_, _, fun _ => within_spec x.high 0 5000, ?_⟩; conv => whnf
  refine ⟨_, _, fun _ => within_spec x.low 0 x.high, ?_⟩; conv => whnf
  refine ⟨_, _, fun _ => within_spec x.load 0 10000, ?_⟩; conv => whnf
  exact ⟨rfl, trivial⟩

theorem badds_i (cs : List Sup) (hcs : cs.length ≤ 1000000) (l : List Drw) (hl : l.length ≤ 1000000) : S 70 [drwsV l, .fn 66 [.ro [supsV cs]]] [] (iV (idxP (badD cs.length) l 0)) [] := by
  refine spec_of_x (ct := []) cfgOK Try.func70 rfl rfl (Nat.le_of_ble_eq_true rfl) (by decide +kernel) (Nat.le_refl _) ?_; conv => whnf
  refine loops_intro (ct := []) cfgOK (by decide +kernel) (fun i : Nat => ⟨[(0, drwsV l), (1, .fn 66 [.ro [supsV cs]]), (7, iV l.length), (8, iV i)], [], 1⟩) (fun i => i ≤ l.length ∧ idxP (badD cs.length) (l.drop i) i = idxP (badD cs.length) l 0) (fun i => l.length - i) 0 [] ⟨Nat.zero_le _, rfl⟩ (by (repeat' first | exact trivial | exact rfl | exact ⟨rfl, rfl⟩ | exact ⟨rfl, trivial⟩ | exact ⟨rfl, LeL.refl _, trivial⟩ | exact ⟨rfl, LeL.refl _, LeL.refl _, trivial⟩ | exact embV_le (.refl _) rfl | exact embV_leV (.refl _) rfl (Nat.lt_of_sub_pos (by exact Nat.zero_lt_succ _)) | exact ⟨rfl, rfl, rfl, rfl⟩ | exact ⟨rfl, rfl, rfl, rfl, id⟩ | exact ⟨rfl, rfl, rfl, rfl, rfl⟩ | exact ⟨rfl, rfl, rfl, rfl, nofun⟩ | exact tape_emb rfl | exact embO_le (LeL.refl _) rfl (Nat.lt_of_sub_pos (by exact Nat.zero_lt_succ _)) | exact ⟨rfl, rfl, fun _ _ => .refl _⟩ | (refine ⟨rfl, ?_⟩; simp; done) | (refine ⟨rfl, ?_⟩; omega) | refine ⟨?_, ?_⟩ | refine ⟨?_, ?_, ?_⟩)) ?_
  intro i ⟨hi1, hi2⟩
  (conv => whnf)
  refine bcase_of (fun h => ?_) (fun h => ?_)
  · have h := of_decide_eq_true h
    have hlt : i < l.length := by omega
    rw [drop_cons drw0 hlt] at hi2
    (conv => whnf)
    (refine ⟨by intros; first | omega | (unfold InI64; omega) | (simp only [List.length_append, List.length_cons, List.length_nil, List.length_set]; omega), ?_⟩; conv => whnf)
    refine ⟨_, _, draws1_spec cs hcs (l.getD i drw0), ?_⟩; conv => whnf
    refine bcase_of (fun h2 => ?_) (fun h2 => ?_)
    · (conv => whnf)
      have h2 : (badD cs.length) (l.getD i drw0) = true := h2
      refine ⟨⟨rfl, ?_⟩, trivial⟩
      exact (idxP_t (p := (badD cs.length)) (y := l.getD i drw0) h2).symm.trans hi2
    · (conv => whnf)
      have h2 : (badD cs.length) (l.getD i drw0) = false := h2
      (refine ⟨by intros; first | omega | (unfold InI64; omega) | (simp only [List.length_append, List.length_cons, List.length_nil, List.length_set]; omega), ?_⟩; conv => whnf)
      refine ⟨i + 1, [], ⟨by omega, ?_⟩, by omega, (by (repeat' first | exact trivial | exact rfl | exact ⟨rfl, rfl⟩ | exact ⟨rfl, trivial⟩ | exact ⟨rfl, LeL.refl _, trivial⟩ | exact ⟨rfl, LeL.refl _, LeL.refl _, trivial⟩ | exact embV_le (.refl _) rfl | exact embV_leV (.refl _) rfl (Nat.lt_of_sub_pos (by exact Nat.zero_lt_succ _)) | exact ⟨rfl, rfl, rfl, rfl⟩ | exact ⟨rfl, rfl, rfl, rfl, id⟩ | exact ⟨rfl, rfl, rfl, rfl, rfl⟩ | exact ⟨rfl, rfl, rfl, rfl, nofun⟩ | exact tape_emb rfl | exact embO_le (LeL.refl _) rfl (Nat.lt_of_sub_pos (by exact Nat.zero_lt_succ _)) | exact ⟨rfl, rfl, fun _ _ => .refl _⟩ | (refine ⟨rfl, ?_⟩; simp; done) | (refine ⟨rfl, ?_⟩; omega) | refine ⟨?_, ?_⟩ | refine ⟨?_, ?_, ?_⟩))⟩
      exact (idxP_f (p := (badD cs.length)) (y := l.getD i drw0) h2).symm.trans hi2
  · have h := of_decide_eq_false h
    (conv => whnf)
    refine ⟨⟨rfl, ?_⟩, trivial⟩
    rw [← hi2, List.drop_eq_nil_of_le (by omega)]
    rfl

theorem badds_c (cs : List Sup) (hcs : cs.length ≤ 1000000) (l : List Drw) (hl : l.length ≤ 1000000) : S 46 [drwsV l, .fn 66 [.ro [supsV cs]]] [] (.bool (l.any (badD cs.length))) [] := by
  refine spec_of_x (ct := []) cfgOK Try.func46 rfl rfl (Nat.le_of_ble_eq_true rfl) (by decide +kernel) (Nat.le_refl _) ?_; conv => whnf
  refine ⟨_, _, badds_i cs hcs l hl, ?_⟩; conv => whnf
  refine ⟨?_, trivial⟩
  show decide _ = _
  rw [idxP_any]

def valN : Nat → List Sup → Bool
  | _, [] => true
  | i, s :: t => validS s i && valN (i + 1) t
def checkF (l : List Sup) : Int := bif decide (16 < (l.length : Int)) || l.any bigS then 3 else bif valN 0 l then 0 else 1

theorem any_false_get {α : Type} (d : α) {p : α → Bool} {l : List α} (h : l.any p = false) (i : Nat) (hi : i < l.length) : p (l.getD i d) = false := by
  have := getD_mem d hi
  rw [List.any_eq_false] at h
  simpa using h _ this

theorem check_spec (l : List Sup) (hl : l.length ≤ 1000000) : S 27 [supsV l] [] (iV (checkF l)) [] := by
  refine spec_of_x (ct := []) cfgOK Try.func27 rfl rfl (Nat.le_of_ble_eq_true rfl) (by decide +kernel) (Nat.le_refl _) ?_; conv => whnf
  refine ⟨_, _, fun _ => bigs_c l hl, ?_⟩; conv => whnf
  refine bcase_of (fun h => ?_) (fun h => ?_)
  · (conv => whnf)
    have h : (decide (16 < (l.length : Int)) || l.any bigS) = true := h
    refine ⟨⟨rfl, ?_⟩, trivial⟩
    unfold checkF
    rw [h]
    rfl
  · (conv => whnf)
    have h : (decide (16 < (l.length : Int)) || l.any bigS) = false := h
    have hbig : ∀ i : Nat, i < l.length → bigS (l.getD i sup0) = false := any_false_get sup0 (by simp only [Bool.or_eq_false_iff] at h; exact h.2)
    refine loops_intro (ct := []) cfgOK (by decide +kernel) (fun i : Nat => ⟨[(0, supsV l), (12, supsV l), (13, iV l.length), (14, iV i)], [], 1⟩) (fun i => i ≤ l.length ∧ valN i (l.drop i) = valN 0 l) (fun i => l.length - i) 0 [] ⟨Nat.zero_le _, rfl⟩ (by (repeat' first | exact trivial | exact rfl | exact ⟨rfl, rfl⟩ | exact ⟨rfl, trivial⟩ | exact ⟨rfl, LeL.refl _, trivial⟩ | exact ⟨rfl, LeL.refl _, LeL.refl _, trivial⟩ | exact embV_le (.refl _) rfl | exact embV_leV (.refl _) rfl (Nat.lt_of_sub_pos (by exact Nat.zero_lt_succ _)) | exact ⟨rfl, rfl, rfl, rfl⟩ | exact ⟨rfl, rfl, rfl, rfl, id⟩ | exact ⟨rfl, rfl, rfl, rfl, rfl⟩ | exact ⟨rfl, rfl, rfl, rfl, nofun⟩ | exact tape_emb rfl | exact embO_le (LeL.refl _) rfl (Nat.lt_of_sub_pos (by exact Nat.zero_lt_succ _)) | exact ⟨rfl, rfl, fun _ _ => .refl _⟩ | (refine ⟨rfl, ?_⟩; simp; done) | (refine ⟨rfl, ?_⟩; omega) | refine ⟨?_, ?_⟩ | refine ⟨?_, ?_, ?_⟩)) ?_
    intro i ⟨hi1, hi2⟩
    (conv => whnf)
    refine bcase_of (fun h2 => ?_) (fun h2 => ?_)
    · have hlt : i < l.length := by have := of_decide_eq_true h2; omega
      have hb := hbig i hlt
      have hbl : (l.getD i sup0).lev.length ≤ 16 := by unfold bigS at hb; have := of_decide_eq_false hb; omega
      rw [drop_cons sup0 hlt, valN] at hi2
      (conv => whnf)
      (refine ⟨by intros; first | omega | (unfold InI64; omega) | (simp only [List.length_append, List.length_cons, List.length_nil, List.length_set]; omega), ?_⟩; conv => whnf)
      refine ⟨_, _, valid_spec (l.getD i sup0) i (by omega) (by omega), ?_⟩; conv => whnf
      refine bcase_of (fun h3 => ?_) (fun h3 => ?_)
      · have h3 : (!validS (l.getD i sup0) i) = true := h3
        (conv => whnf)
        refine ⟨⟨rfl, ?_⟩, trivial⟩
        unfold checkF
        rw [h, ← hi2]
        cases hv : validS (l.getD i sup0) i with
        | true => rw [hv] at h3; cases h3
        | false => rfl
      · have h3 : (!validS (l.getD i sup0) i) = false := h3
        (conv => whnf)
        (refine ⟨by intros; first | omega | (unfold InI64; omega) | (simp only [List.length_append, List.length_cons, List.length_nil, List.length_set]; omega), ?_⟩; conv => whnf)
        refine ⟨i + 1, [], ⟨by omega, ?_⟩, by omega, (by (repeat' first | exact trivial | exact rfl | exact ⟨rfl, rfl⟩ | exact ⟨rfl, trivial⟩ | exact ⟨rfl, LeL.refl _, trivial⟩ | exact ⟨rfl, LeL.refl _, LeL.refl _, trivial⟩ | exact embV_le (.refl _) rfl | exact embV_leV (.refl _) rfl (Nat.lt_of_sub_pos (by exact Nat.zero_lt_succ _)) | exact ⟨rfl, rfl, rfl, rfl⟩ | exact ⟨rfl, rfl, rfl, rfl, id⟩ | exact ⟨rfl, rfl, rfl, rfl, rfl⟩ | exact ⟨rfl, rfl, rfl, rfl, nofun⟩ | exact tape_emb rfl | exact embO_le (LeL.refl _) rfl (Nat.lt_of_sub_pos (by exact Nat.zero_lt_succ _)) | exact ⟨rfl, rfl, fun _ _ => .refl _⟩ | (refine ⟨rfl, ?_⟩; simp; done) | (refine ⟨rfl, ?_⟩; omega) | refine ⟨?_, ?_⟩ | refine ⟨?_, ?_, ?_⟩))⟩
        rw [← hi2]
        cases hv : validS (l.getD i sup0) i with
        | true => rfl
        | false => rw [hv] at h3; cases h3
    · have hil : i = l.length := by have := of_decide_eq_false h2; omega
      (conv => whnf)
      refine ⟨⟨rfl, ?_⟩, trivial⟩
      unfold checkF
      rw [h, ← hi2, hil, List.drop_length]
      rfl

theorem lt1_eq0 (n : Nat) : decide ((n : Int) < 1) = ((n : Int) == 0) := by
  by_cases h : n = 0
  · subst h; rfl
  · rw [decide_eq_false (by omega)]
    symm
    simpa using h

theorem rcheck_spec (l : List Sup) (hl : l.length ≤ 1000000) : S 28 [supsV l] [] (iV (checkF l)) [] := by
  refine spec_of_x (ct := []) cfgOK Try.func28 rfl rfl (Nat.le_of_ble_eq_true rfl) (by decide +kernel) (Nat.le_refl _) ?_; conv => whnf
  refine bcase_of (fun h => ?_) (fun h => ?_)
  · (conv => whnf)
    have h : decide (16 < (l.length : Int)) = true := h
    refine ⟨⟨rfl, ?_⟩, trivial⟩
    unfold checkF
    rw [h]
    rfl
  (conv => whnf)
  have h : decide (16 < (l.length : Int)) = false := h
  refine loops_intro (ct := [9]) cfgOK (by decide +kernel) (fun i : Nat => ⟨[(0, supsV l), (12, supsV l), (13, iV l.length), (14, iV i)], [], 1⟩) (fun i => i ≤ l.length ∧ (l.drop i).any bigS = l.any bigS) (fun i => l.length - i) 0 [] ⟨Nat.zero_le _, rfl⟩ (by (repeat' first | exact trivial | exact rfl | exact ⟨rfl, rfl⟩ | exact ⟨rfl, trivial⟩ | exact ⟨rfl, LeL.refl _, trivial⟩ | exact ⟨rfl, LeL.refl _, LeL.refl _, trivial⟩ | exact embV_le (.refl _) rfl | exact embV_leV (.refl _) rfl (Nat.lt_of_sub_pos (by exact Nat.zero_lt_succ _)) | exact ⟨rfl, rfl, rfl, rfl⟩ | exact ⟨rfl, rfl, rfl, rfl, id⟩ | exact ⟨rfl, rfl, rfl, rfl, rfl⟩ | exact ⟨rfl, rfl, rfl, rfl, nofun⟩ | exact tape_emb rfl | exact embO_le (LeL.refl _) rfl (Nat.lt_of_sub_pos (by exact Nat.zero_lt_succ _)) | exact ⟨rfl, rfl, fun _ _ => .refl _⟩ | (refine ⟨rfl, ?_⟩; simp; done) | (refine ⟨rfl, ?_⟩; omega) | refine ⟨?_, ?_⟩ | refine ⟨?_, ?_, ?_⟩)) ?_
  intro i ⟨hi1, hi2⟩
  (conv => whnf)
  refine bcase_of (fun h2 => ?_) (fun h2 => ?_)
  · have hlt : i < l.length := by have := of_decide_eq_true h2; omega
    rw [drop_cons sup0 hlt, List.any_cons] at hi2
    (conv => whnf)
    (refine ⟨by intros; first | omega | (unfold InI64; omega) | (simp only [List.length_append, List.length_cons, List.length_nil, List.length_set]; omega), ?_⟩; conv => whnf)
    refine bcase_of (fun h3 => ?_) (fun h3 => ?_)
    · have h3 : bigS (l.getD i sup0) = true := h3
      (conv => whnf)
      refine ⟨⟨rfl, ?_⟩, trivial⟩
      unfold checkF
      rw [h, ← hi2, h3]
      rfl
    · have h3 : bigS (l.getD i sup0) = false := h3
      (conv => whnf)
      (refine ⟨by intros; first | omega | (unfold InI64; omega) | (simp only [List.length_append, List.length_cons, List.length_nil, List.length_set]; omega), ?_⟩; conv => whnf)
      refine ⟨i + 1, [], ⟨by omega, ?_⟩, by omega, (by (repeat' first | exact trivial | exact rfl | exact ⟨rfl, rfl⟩ | exact ⟨rfl, trivial⟩ | exact ⟨rfl, LeL.refl _, trivial⟩ | exact ⟨rfl, LeL.refl _, LeL.refl _, trivial⟩ | exact embV_le (.refl _) rfl | exact embV_leV (.refl _) rfl (Nat.lt_of_sub_pos (by exact Nat.zero_lt_succ _)) | exact ⟨rfl, rfl, rfl, rfl⟩ | exact ⟨rfl, rfl, rfl, rfl, id⟩ | exact ⟨rfl, rfl, rfl, rfl, rfl⟩ | exact ⟨rfl, rfl, rfl, rfl, nofun⟩ | exact tape_emb rfl | exact embO_le (LeL.refl _) rfl (Nat.lt_of_sub_pos (by exact Nat.zero_lt_succ _)) | exact ⟨rfl, rfl, fun _ _ => .refl _⟩ | (refine ⟨rfl, ?_⟩; simp; done) | (refine ⟨rfl, ?_⟩; omega) | refine ⟨?_, ?_⟩ | refine ⟨?_, ?_, ?_⟩))⟩
      rw [← hi2, h3]
      rfl
  · have hil : i = l.length := by have := of_decide_eq_false h2; omega
    have hany : l.any bigS = false := by rw [← hi2, hil, List.drop_length]; rfl
    have hbig : ∀ i : Nat, i < l.length → bigS (l.getD i sup0) = false := any_false_get sup0 hany
    have hf : ∀ b, valN 0 l = b → checkF l = bif b then 0 else 1 := fun b hb => by
      unfold checkF
      rw [h, hany, hb]
      rfl
    clear hi1 hi2 hil h2
    (conv => whnf)
    refine loops_intro (ct := []) cfgOK (by decide +kernel) (fun i : Nat => ⟨[(0, supsV l), (23, supsV l), (24, iV l.length), (25, iV i)], [], 1⟩) (fun i => i ≤ l.length ∧ valN i (l.drop i) = valN 0 l) (fun i => l.length - i) 0 [] ⟨Nat.zero_le _, rfl⟩ (by (repeat' first | exact trivial | exact rfl | exact ⟨rfl, rfl⟩ | exact ⟨rfl, trivial⟩ | exact ⟨rfl, LeL.refl _, trivial⟩ | exact ⟨rfl, LeL.refl _, LeL.refl _, trivial⟩ | exact embV_le (.refl _) rfl | exact embV_leV (.refl _) rfl (Nat.lt_of_sub_pos (by exact Nat.zero_lt_succ _)) | exact ⟨rfl, rfl, rfl, rfl⟩ | exact ⟨rfl, rfl, rfl, rfl, id⟩ | exact ⟨rfl, rfl, rfl, rfl, rfl⟩ | exact ⟨rfl, rfl, rfl, rfl, nofun⟩ | exact tape_emb rfl | exact embO_le (LeL.refl _) rfl (Nat.lt_of_sub_pos (by exact Nat.zero_lt_succ _)) | exact ⟨rfl, rfl, fun _ _ => .refl _⟩ | (refine ⟨rfl, ?_⟩; simp; done) | (refine ⟨rfl, ?_⟩; omega) | refine ⟨?_, ?_⟩ | refine ⟨?_, ?_, ?_⟩)) ?_
    intro i ⟨hi1, hi2⟩
    (conv => whnf)
    refine bcase_of (fun h2 => ?_) (fun h2 => ?_)
    · have hlt : i < l.length := by have := of_decide_eq_true h2; omega
      have hb := hbig i hlt
      have hbl : (l.getD i sup0).lev.length ≤ 16 := by unfold bigS at hb; have := of_decide_eq_false hb; omega
      rw [drop_cons sup0 hlt, valN] at hi2
      (conv => whnf)
      (refine ⟨by intros; first | omega | (unfold InI64; omega) | (simp only [List.length_append, List.length_cons, List.length_nil, List.length_set]; omega), ?_⟩; conv => whnf)
      (refine ⟨by intros; first | omega | (unfold InI64; omega) | (simp only [List.length_append, List.length_cons, List.length_nil, List.length_set]; omega), ?_⟩; conv => whnf)
      refine ⟨_, _, in_spec (l.getD i sup0).par (-1) (i - 1), ?_⟩; conv => whnf
      refine ⟨_, _, fun _ => in_spec (l.getD i sup0).drop 0 5000, ?_⟩; conv => whnf
      refine ⟨_, _, fun _ => in_spec (l.getD i sup0).cap 0 10000, ?_⟩; conv => whnf
      refine bcase_of (fun h3 => ?_) (fun h3 => ?_)
      · have h3 : (((((!withinF (l.getD i sup0).par (-1) ((i : Int) - 1)) || decide (((l.getD i sup0).lev.length : Int) < 1)) || !withinF (l.getD i sup0).drop 0 5000) || (decide ((l.getD i sup0).par < 0) && ((l.getD i sup0).drop != 0))) || !withinF (l.getD i sup0).cap 0 10000) = true := h3
        rw [lt1_eq0] at h3
        (conv => whnf)
        refine ⟨⟨rfl, ?_⟩, trivial⟩
        rw [hf false (by rw [← hi2]; unfold validS; rw [show headB (l.getD i sup0) i = true from h3]; rfl)]
        rfl
      · have h3 : (((((!withinF (l.getD i sup0).par (-1) ((i : Int) - 1)) || decide (((l.getD i sup0).lev.length : Int) < 1)) || !withinF (l.getD i sup0).drop 0 5000) || (decide ((l.getD i sup0).par < 0) && ((l.getD i sup0).drop != 0))) || !withinF (l.getD i sup0).cap 0 10000) = false := h3
        rw [lt1_eq0] at h3
        have h3 : headB (l.getD i sup0) i = false := h3
        (conv => whnf)
        refine loops_intro (ct := []) cfgOK (by decide +kernel) (fun j : Nat => ⟨[(0, supsV l), (6, .ptr 5 0 0), (23, supsV l), (24, iV l.length), (25, iV i), (65, intsV (l.getD i sup0).lev), (66, iV (l.getD i sup0).lev.length), (67, iV j)], [(5, some (.box (supV (l.getD i sup0)).cells))], 20⟩) (fun j => j ≤ (l.getD i sup0).lev.length ∧ ascB (if j = 0 then 0 else (l.getD i sup0).lev.getD (j - 1) 0) ((l.getD i sup0).lev.drop j) = ascB 0 (l.getD i sup0).lev) (fun j => (l.getD i sup0).lev.length - j) 0 [] ⟨Nat.zero_le _, rfl⟩ (by (repeat' first | exact trivial | exact rfl | exact ⟨rfl, rfl⟩ | exact ⟨rfl, trivial⟩ | exact ⟨rfl, LeL.refl _, trivial⟩ | exact ⟨rfl, LeL.refl _, LeL.refl _, trivial⟩ | exact embV_le (.refl _) rfl | exact embV_leV (.refl _) rfl (Nat.lt_of_sub_pos (by exact Nat.zero_lt_succ _)) | exact ⟨rfl, rfl, rfl, rfl⟩ | exact ⟨rfl, rfl, rfl, rfl, id⟩ | exact ⟨rfl, rfl, rfl, rfl, rfl⟩ | exact ⟨rfl, rfl, rfl, rfl, nofun⟩ | exact tape_emb rfl | exact embO_le (LeL.refl _) rfl (Nat.lt_of_sub_pos (by exact Nat.zero_lt_succ _)) | exact ⟨rfl, rfl, fun _ _ => .refl _⟩ | (refine ⟨rfl, ?_⟩; simp; done) | (refine ⟨rfl, ?_⟩; omega) | refine ⟨?_, ?_⟩ | refine ⟨?_, ?_, ?_⟩)) ?_
        intro j ⟨hj1, hj2⟩
        (conv => whnf)
        refine bcase_of (fun h4 => ?_) (fun h4 => ?_)
        · have hjt : j < (l.getD i sup0).lev.length := by have := of_decide_eq_true h4; omega
          (conv => whnf)
          (refine ⟨by intros; first | omega | (unfold InI64; omega) | (simp only [List.length_append, List.length_cons, List.length_nil, List.length_set]; omega), ?_⟩; conv => whnf)
          refine ⟨_, _, in_spec ((l.getD i sup0).lev.getD j 0) 1 5000, ?_⟩; conv => whnf
          (refine ⟨by intros; first | omega | (unfold InI64; omega) | (simp only [List.length_append, List.length_cons, List.length_nil, List.length_set]; omega), ?_⟩; conv => whnf)
          refine ⟨fun _ hg => by
            have hg : decide (0 < (j : Int)) = true := hg
            have := of_decide_eq_true hg
            omega, ?_⟩; conv => whnf
          have hst := asc_step hjt rfl
          rw [hj2] at hst
          have hpr : ((j : Int) - 1).toNat = j - 1 := by omega
          refine bcase_of (fun h5 => ?_) (fun h5 => ?_)
          · (conv => whnf)
            have h5 : (!withinF ((l.getD i sup0).lev.getD j 0) 1 5000 || (decide (0 < (j : Int)) && decide ((l.getD i sup0).lev.getD j 0 ≤ (l.getD i sup0).lev.getD ((j : Int) - 1).toNat 0))) = true := h5
            rw [hpr] at h5
            refine ⟨⟨rfl, ?_⟩, trivial⟩
            rw [hf false (by rw [← hi2]; unfold validS; rw [hst, h5]; simp)]
            rfl
          · have h5 : (!withinF ((l.getD i sup0).lev.getD j 0) 1 5000 || (decide (0 < (j : Int)) && decide ((l.getD i sup0).lev.getD j 0 ≤ (l.getD i sup0).lev.getD ((j : Int) - 1).toNat 0))) = false := h5
            rw [hpr] at h5
            rw [h5] at hst
            (conv => whnf)
            (refine ⟨by intros; first | omega | (unfold InI64; omega) | (simp only [List.length_append, List.length_cons, List.length_nil, List.length_set]; omega), ?_⟩; conv => whnf)
            refine ⟨j + 1, [], ⟨by omega, ?_⟩, by omega, (by (repeat' first | exact trivial | exact rfl | exact ⟨rfl, rfl⟩ | exact ⟨rfl, trivial⟩ | exact ⟨rfl, LeL.refl _, trivial⟩ | exact ⟨rfl, LeL.refl _, LeL.refl _, trivial⟩ | exact embV_le (.refl _) rfl | exact embV_leV (.refl _) rfl (Nat.lt_of_sub_pos (by exact Nat.zero_lt_succ _)) | exact ⟨rfl, rfl, rfl, rfl⟩ | exact ⟨rfl, rfl, rfl, rfl, id⟩ | exact ⟨rfl, rfl, rfl, rfl, rfl⟩ | exact ⟨rfl, rfl, rfl, rfl, nofun⟩ | exact tape_emb rfl | exact embO_le (LeL.refl _) rfl (Nat.lt_of_sub_pos (by exact Nat.zero_lt_succ _)) | exact ⟨rfl, rfl, fun _ _ => .refl _⟩ | (refine ⟨rfl, ?_⟩; simp; done) | (refine ⟨rfl, ?_⟩; omega) | refine ⟨?_, ?_⟩ | refine ⟨?_, ?_, ?_⟩))⟩
            rw [if_neg (by omega), hst]
            rfl
        · have hjl : j = (l.getD i sup0).lev.length := by have := of_decide_eq_false h4; omega
          (conv => whnf)
          (refine ⟨by intros; first | omega | (unfold InI64; omega) | (simp only [List.length_append, List.length_cons, List.length_nil, List.length_set]; omega), ?_⟩; conv => whnf)
          refine ⟨i + 1, [], ⟨by omega, ?_⟩, by omega, (by (repeat' first | exact trivial | exact rfl | exact ⟨rfl, rfl⟩ | exact ⟨rfl, trivial⟩ | exact ⟨rfl, LeL.refl _, trivial⟩ | exact ⟨rfl, LeL.refl _, LeL.refl _, trivial⟩ | exact embV_le (.refl _) rfl | exact embV_leV (.refl _) rfl (Nat.lt_of_sub_pos (by exact Nat.zero_lt_succ _)) | exact ⟨rfl, rfl, rfl, rfl⟩ | exact ⟨rfl, rfl, rfl, rfl, id⟩ | exact ⟨rfl, rfl, rfl, rfl, rfl⟩ | exact ⟨rfl, rfl, rfl, rfl, nofun⟩ | exact tape_emb rfl | exact embO_le (LeL.refl _) rfl (Nat.lt_of_sub_pos (by exact Nat.zero_lt_succ _)) | exact ⟨rfl, rfl, fun _ _ => .refl _⟩ | (refine ⟨rfl, ?_⟩; simp; done) | (refine ⟨rfl, ?_⟩; omega) | refine ⟨?_, ?_⟩ | refine ⟨?_, ?_, ?_⟩))⟩
          rw [← hi2]
          unfold validS
          rw [h3, ← hj2, hjl, List.drop_length]
          rfl
    · have hil : i = l.length := by have := of_decide_eq_false h2; omega
      (conv => whnf)
      refine ⟨⟨rfl, ?_⟩, trivial⟩
      rw [hf true (by rw [← hi2, hil, List.drop_length]; rfl)]
      rfl

end Go.Proofs.Ytjmhlbogkeohpaa

namespace Go.Proofs.Ytjmhlbogkeohpaa
open Go.Ab
set_option maxRecDepth 100000

def drawsF (l : List Sup) (d : List Drw) : Bool := ((checkF l == 0) && decide ((d.length : Int) ≤ 32)) && !(d.any (badD l.length))

theorem draws_spec (l : List Sup) (hl : l.length ≤ 1000000) (d : List Drw) (hd : d.length ≤ 1000000) : S 31 [supsV l, drwsV d] [] (.bool (drawsF l d)) [] := by
  refine spec_of_x (ct := []) cfgOK Try.func31 rfl rfl (Nat.le_of_ble_eq_true rfl) (by decide +kernel) (Nat.le_refl _) ?_; conv => whnf
  refine ⟨_, _, check_spec l hl, ?_⟩; conv => whnf
  refine ⟨_, _, fun _ => badds_c l hl d hd, ?_⟩; conv => whnf
  exact ⟨rfl, trivial⟩

theorem badD_ref (n : Int) (x : Drw) : (((!withinF x.sup 0 (n - 1) || !withinF x.low 0 x.high) || decide (5000 < x.high)) || !withinF x.load 0 10000) = badD n x := by
  unfold badD
  cases withinF x.sup 0 (n - 1) with
  | false => rfl
  | true =>
    cases withinF x.load 0 10000 with
    | false => simp
    | true =>
      simp only [Bool.not_true, Bool.false_or, Bool.or_false]
      unfold withinF
      by_cases h1 : 0 ≤ x.low <;> by_cases h2 : x.low ≤ x.high <;> by_cases h3 : 5000 < x.high <;> by_cases h4 : 0 ≤ x.high <;> by_cases h5 : x.high ≤ 5000 <;> simp [h1, h2, h3, h4, h5] <;> omega

theorem rdraws_spec (l : List Sup) (hl : l.length ≤ 1000000) (d : List Drw) (hd : d.length ≤ 1000000) : S 32 [supsV l, drwsV d] [] (.bool (drawsF l d)) [] := by
  refine spec_of_x (ct := []) cfgOK Try.func32 rfl rfl (Nat.le_of_ble_eq_true rfl) (by decide +kernel) (Nat.le_refl _) ?_; conv => whnf
  refine ⟨_, _, rcheck_spec l hl, ?_⟩; conv => whnf
  refine bcase_of (fun h => ?_) (fun h => ?_)
  · have h : ((checkF l != 0) || decide (32 < (d.length : Int))) = true := h
    (conv => whnf)
    refine ⟨?_, trivial⟩
    show false = drawsF l d
    unfold drawsF
    by_cases h1 : checkF l = 0
    · rw [h1] at h
      have : 32 < (d.length : Int) := by simpa using h
      rw [decide_eq_false (p := (d.length : Int) ≤ 32) (by omega)]
      simp
    · have : (checkF l == 0) = false := by simpa using h1
      rw [this]
      rfl
  · have h : ((checkF l != 0) || decide (32 < (d.length : Int))) = false := h
    have h1 : checkF l = 0 ∧ (d.length : Int) ≤ 32 := by
      simp at h
      omega
    have hf : drawsF l d = !(d.any (badD l.length)) := by
      unfold drawsF
      rw [h1.1, decide_eq_true h1.2]
      rfl
    (conv => whnf)
    refine loops_intro (ct := []) cfgOK (by decide +kernel) (fun i : Nat => ⟨[(0, supsV l), (15, drwsV d), (16, iV d.length), (17, iV i)], [], 1⟩) (fun i => i ≤ d.length ∧ (d.drop i).any (badD l.length) = d.any (badD l.length)) (fun i => d.length - i) 0 [] ⟨Nat.zero_le _, rfl⟩ (by (repeat' first | exact trivial | exact rfl | exact ⟨rfl, rfl⟩ | exact ⟨rfl, trivial⟩ | exact ⟨rfl, LeL.refl _, trivial⟩ | exact ⟨rfl, LeL.refl _, LeL.refl _, trivial⟩ | exact embV_le (.refl _) rfl | exact embV_leV (.refl _) rfl (Nat.lt_of_sub_pos (by exact Nat.zero_lt_succ _)) | exact ⟨rfl, rfl, rfl, rfl⟩ | exact ⟨rfl, rfl, rfl, rfl, id⟩ | exact ⟨rfl, rfl, rfl, rfl, rfl⟩ | exact ⟨rfl, rfl, rfl, rfl, nofun⟩ | exact tape_emb rfl | exact embO_le (LeL.refl _) rfl (Nat.lt_of_sub_pos (by exact Nat.zero_lt_succ _)) | exact ⟨rfl, rfl, fun _ _ => .refl _⟩ | (refine ⟨rfl, ?_⟩; simp; done) | (refine ⟨rfl, ?_⟩; omega) | refine ⟨?_, ?_⟩ | refine ⟨?_, ?_, ?_⟩)) ?_
    intro i ⟨hi1, hi2⟩
    (conv => whnf)
    refine bcase_of (fun h2 => ?_) (fun h2 => ?_)
    · have hlt : i < d.length := by have := of_decide_eq_true h2; omega
      rw [drop_cons drw0 hlt, List.any_cons] at hi2
      (conv => whnf)
      (refine ⟨by intros; first | omega | (unfold InI64; omega) | (simp only [List.length_append, List.length_cons, List.length_nil, List.length_set]; omega), ?_⟩; conv => whnf)
      (refine ⟨by intros; first | omega | (unfold InI64; omega) | (simp only [List.length_append, List.length_cons, List.length_nil, List.length_set]; omega), ?_⟩; conv => whnf)
      refine ⟨_, _, in_spec (d.getD i drw0).sup 0 (l.length - 1), ?_⟩; conv => whnf
      refine ⟨_, _, fun _ => in_spec (d.getD i drw0).low 0 (d.getD i drw0).high, ?_⟩; conv => whnf
      refine ⟨_, _, fun _ => in_spec (d.getD i drw0).load 0 10000, ?_⟩; conv => whnf
      refine bcase_of (fun h3 => ?_) (fun h3 => ?_)
      · have h3 := (badD_ref l.length (d.getD i drw0)).symm.trans h3
        (conv => whnf)
        refine ⟨?_, trivial⟩
        show false = drawsF l d
        rw [hf, ← hi2, h3]
        rfl
      · have h3 := (badD_ref l.length (d.getD i drw0)).symm.trans h3
        (conv => whnf)
        (refine ⟨by intros; first | omega | (unfold InI64; omega) | (simp only [List.length_append, List.length_cons, List.length_nil, List.length_set]; omega), ?_⟩; conv => whnf)
        refine ⟨i + 1, [], ⟨by omega, ?_⟩, by omega, (by (repeat' first | exact trivial | exact rfl | exact ⟨rfl, rfl⟩ | exact ⟨rfl, trivial⟩ | exact ⟨rfl, LeL.refl _, trivial⟩ | exact ⟨rfl, LeL.refl _, LeL.refl _, trivial⟩ | exact embV_le (.refl _) rfl | exact embV_leV (.refl _) rfl (Nat.lt_of_sub_pos (by exact Nat.zero_lt_succ _)) | exact ⟨rfl, rfl, rfl, rfl⟩ | exact ⟨rfl, rfl, rfl, rfl, id⟩ | exact ⟨rfl, rfl, rfl, rfl, rfl⟩ | exact ⟨rfl, rfl, rfl, rfl, nofun⟩ | exact tape_emb rfl | exact embO_le (LeL.refl _) rfl (Nat.lt_of_sub_pos (by exact Nat.zero_lt_succ _)) | exact ⟨rfl, rfl, fun _ _ => .refl _⟩ | (refine ⟨rfl, ?_⟩; simp; done) | (refine ⟨rfl, ?_⟩; omega) | refine ⟨?_, ?_⟩ | refine ⟨?_, ?_, ?_⟩))⟩
        rw [← hi2, h3]
        rfl
    · have hil : i = d.length := by have := of_decide_eq_false h2; omega
      (conv => whnf)
      refine ⟨?_, trivial⟩
      show true = drawsF l d
      rw [hf, ← hi2, hil, List.drop_length]
      rfl

def rlN : List Sup → List Int → Bool
  | s :: l, k :: t => withinF k 0 (s.lev.length - 1) && rlN l t
  | _, _ => true
def railsF (l : List Sup) (r : Rls) : Bool := bif ((checkF l != 0) || ((r.on.length : Int) != l.length)) || ((r.lev.length : Int) != l.length) then false else rlN l r.lev

theorem check_bounds {l : List Sup} (h : checkF l = 0) : l.length ≤ 16 ∧ (∀ i, i < l.length → (l.getD i sup0).lev.length ≤ 16) ∧ valN 0 l = true := by
  unfold checkF at h
  cases h1 : (decide (16 < (l.length : Int)) || l.any bigS) with
  | true => rw [h1] at h; cases h
  | false =>
    rw [h1] at h
    have h2 : valN 0 l = true := by
      cases hv : valN 0 l with
      | true => rfl
      | false => rw [hv] at h; cases h
    simp only [Bool.or_eq_false_iff] at h1
    refine ⟨by have := of_decide_eq_false h1.1; omega, fun i hi => ?_, h2⟩
    have := any_false_get sup0 h1.2 i hi
    unfold bigS at this
    have := of_decide_eq_false this
    omega

theorem rails_spec (l : List Sup) (hl : l.length ≤ 1000000) (r : Rls) : S 38 [supsV l, rlsV r] [] (.bool (railsF l r)) [] := by
  refine spec_of_x (ct := []) cfgOK Try.func38 rfl rfl (Nat.le_of_ble_eq_true rfl) (by decide +kernel) (Nat.le_refl _) ?_; conv => whnf
  refine ⟨_, _, check_spec l hl, ?_⟩; conv => whnf
  refine bcase_of (fun h => ?_) (fun h => ?_)
  · have h : (((checkF l != 0) || ((r.on.length : Int) != l.length)) || ((r.lev.length : Int) != l.length)) = true := h
    (conv => whnf)
    refine ⟨?_, trivial⟩
    show false = railsF l r
    unfold railsF
    rw [h]
    rfl
  · have h : (((checkF l != 0) || ((r.on.length : Int) != l.length)) || ((r.lev.length : Int) != l.length)) = false := h
    have hf : railsF l r = rlN l r.lev := by
      unfold railsF
      rw [h]
      rfl
    have h1 : checkF l = 0 ∧ r.lev.length = l.length := by
      simp at h
      omega
    have hbd := check_bounds h1.1
    (conv => whnf)
    refine loops_intro (ct := []) cfgOK (by decide +kernel) (fun i : Nat => ⟨[(0, supsV l), (3, .ptr 0 0 0), (27, intsV r.lev), (28, iV r.lev.length), (29, iV i)], [(0, some (.box (rlsV r).cells))], 1⟩) (fun i => i ≤ l.length ∧ rlN (l.drop i) (r.lev.drop i) = rlN l r.lev) (fun i => l.length - i) 0 [(0, some 0)] ⟨Nat.zero_le _, rfl⟩ (by (repeat' first | exact trivial | exact rfl | exact ⟨rfl, rfl⟩ | exact ⟨rfl, trivial⟩ | exact ⟨rfl, LeL.refl _, trivial⟩ | exact ⟨rfl, LeL.refl _, LeL.refl _, trivial⟩ | exact embV_le (.refl _) rfl | exact embV_leV (.refl _) rfl (Nat.lt_of_sub_pos (by exact Nat.zero_lt_succ _)) | exact ⟨rfl, rfl, rfl, rfl⟩ | exact ⟨rfl, rfl, rfl, rfl, id⟩ | exact ⟨rfl, rfl, rfl, rfl, rfl⟩ | exact ⟨rfl, rfl, rfl, rfl, nofun⟩ | exact tape_emb rfl | exact embO_le (LeL.refl _) rfl (Nat.lt_of_sub_pos (by exact Nat.zero_lt_succ _)) | exact ⟨rfl, rfl, fun _ _ => .refl _⟩ | (refine ⟨rfl, ?_⟩; simp; done) | (refine ⟨rfl, ?_⟩; omega) | refine ⟨?_, ?_⟩ | refine ⟨?_, ?_, ?_⟩)) ?_
    intro i ⟨hi1, hi2⟩
    (conv => whnf)
    refine bcase_of (fun h2 => ?_) (fun h2 => ?_)
    · have hlt : i < l.length := by have := of_decide_eq_true h2; omega
      have hb := hbd.2.1 i hlt
      rw [drop_cons sup0 hlt, drop_cons (l := r.lev) 0 (by omega), rlN] at hi2
      (conv => whnf)
      (refine ⟨by intros; first | omega | (unfold InI64; omega) | (simp only [List.length_append, List.length_cons, List.length_nil, List.length_set]; omega), ?_⟩; conv => whnf)
      (refine ⟨by intros; first | omega | (unfold InI64; omega) | (simp only [List.length_append, List.length_cons, List.length_nil, List.length_set]; omega), ?_⟩; conv => whnf)
      refine ⟨by show InI64 (((l.getD i sup0).lev.length : Int) - 1); unfold InI64; omega, ?_⟩; conv => whnf
      refine ⟨_, _, within_spec (r.lev.getD i 0) 0 ((l.getD i sup0).lev.length - 1), ?_⟩; conv => whnf
      refine bcase_of (fun h3 => ?_) (fun h3 => ?_)
      · have h3 : (!withinF (r.lev.getD i 0) 0 ((l.getD i sup0).lev.length - 1)) = true := h3
        (conv => whnf)
        refine ⟨?_, trivial⟩
        show false = railsF l r
        rw [hf, ← hi2]
        cases hv : withinF (r.lev.getD i 0) 0 ((l.getD i sup0).lev.length - 1) with
        | true => rw [hv] at h3; cases h3
        | false => rfl
      · have h3 : (!withinF (r.lev.getD i 0) 0 ((l.getD i sup0).lev.length - 1)) = false := h3
        (conv => whnf)
        (refine ⟨by intros; first | omega | (unfold InI64; omega) | (simp only [List.length_append, List.length_cons, List.length_nil, List.length_set]; omega), ?_⟩; conv => whnf)
        refine ⟨i + 1, [(0, some 0)], ⟨by omega, ?_⟩, by omega, (by (repeat' first | exact trivial | exact rfl | exact ⟨rfl, rfl⟩ | exact ⟨rfl, trivial⟩ | exact ⟨rfl, LeL.refl _, trivial⟩ | exact ⟨rfl, LeL.refl _, LeL.refl _, trivial⟩ | exact embV_le (.refl _) rfl | exact embV_leV (.refl _) rfl (Nat.lt_of_sub_pos (by exact Nat.zero_lt_succ _)) | exact ⟨rfl, rfl, rfl, rfl⟩ | exact ⟨rfl, rfl, rfl, rfl, id⟩ | exact ⟨rfl, rfl, rfl, rfl, rfl⟩ | exact ⟨rfl, rfl, rfl, rfl, nofun⟩ | exact tape_emb rfl | exact embO_le (LeL.refl _) rfl (Nat.lt_of_sub_pos (by exact Nat.zero_lt_succ _)) | exact ⟨rfl, rfl, fun _ _ => .refl _⟩ | (refine ⟨rfl, ?_⟩; simp; done) | (refine ⟨rfl, ?_⟩; omega) | refine ⟨?_, ?_⟩ | refine ⟨?_, ?_, ?_⟩))⟩
        rw [← hi2]
        cases hv : withinF (r.lev.getD i 0) 0 ((l.getD i sup0).lev.length - 1) with
        | true => rfl
        | false => rw [hv] at h3; cases h3
    · have hil : i = l.length := by have := of_decide_eq_false h2; omega
      (conv => whnf)
      refine ⟨?_, trivial⟩
      show true = railsF l r
      rw [hf, ← hi2, hil, List.drop_length]
      rfl

theorem rrails_spec (l : List Sup) (hl : l.length ≤ 1000000) (r : Rls) : S 20 [supsV l, rlsV r] [] (.bool (railsF l r)) [] := by
  refine spec_of_x (ct := []) cfgOK Try.func20 rfl rfl (Nat.le_of_ble_eq_true rfl) (by decide +kernel) (Nat.le_refl _) ?_; conv => whnf
  refine ⟨_, _, rcheck_spec l hl, ?_⟩; conv => whnf
  refine bcase_of (fun h => ?_) (fun h => ?_)
  · have h : (((checkF l != 0) || ((r.on.length : Int) != l.length)) || ((r.lev.length : Int) != l.length)) = true := h
    (conv => whnf)
    refine ⟨?_, trivial⟩
    show false = railsF l r
    unfold railsF
    rw [h]
    rfl
  · have h : (((checkF l != 0) || ((r.on.length : Int) != l.length)) || ((r.lev.length : Int) != l.length)) = false := h
    have hf : railsF l r = rlN l r.lev := by
      unfold railsF
      rw [h]
      rfl
    have h1 : checkF l = 0 ∧ r.lev.length = l.length := by
      simp at h
      omega
    have hbd := check_bounds h1.1
    (conv => whnf)
    refine loops_intro (ct := []) cfgOK (by decide +kernel) (fun i : Nat => ⟨[(0, supsV l), (3, .ptr 0 0 0), (26, supsV l), (27, iV l.length), (28, iV i)], [(0, some (.box (rlsV r).cells))], 1⟩) (fun i => i ≤ l.length ∧ rlN (l.drop i) (r.lev.drop i) = rlN l r.lev) (fun i => l.length - i) 0 [(0, some 0)] ⟨Nat.zero_le _, rfl⟩ (by (repeat' first | exact trivial | exact rfl | exact ⟨rfl, rfl⟩ | exact ⟨rfl, trivial⟩ | exact ⟨rfl, LeL.refl _, trivial⟩ | exact ⟨rfl, LeL.refl _, LeL.refl _, trivial⟩ | exact embV_le (.refl _) rfl | exact embV_leV (.refl _) rfl (Nat.lt_of_sub_pos (by exact Nat.zero_lt_succ _)) | exact ⟨rfl, rfl, rfl, rfl⟩ | exact ⟨rfl, rfl, rfl, rfl, id⟩ | exact ⟨rfl, rfl, rfl, rfl, rfl⟩ | exact ⟨rfl, rfl, rfl, rfl, nofun⟩ | exact tape_emb rfl | exact embO_le (LeL.refl _) rfl (Nat.lt_of_sub_pos (by exact Nat.zero_lt_succ _)) | exact ⟨rfl, rfl, fun _ _ => .refl _⟩ | (refine ⟨rfl, ?_⟩; simp; done) | (refine ⟨rfl, ?_⟩; omega) | refine ⟨?_, ?_⟩ | refine ⟨?_, ?_, ?_⟩)) ?_
    intro i ⟨hi1, hi2⟩
    (conv => whnf)
    refine bcase_of (fun h2 => ?_) (fun h2 => ?_)
    · have hlt : i < l.length := by have := of_decide_eq_true h2; omega
      have hb := hbd.2.1 i hlt
      rw [drop_cons sup0 hlt, drop_cons (l := r.lev) 0 (by omega), rlN] at hi2
      (conv => whnf)
      (refine ⟨by intros; first | omega | (unfold InI64; omega) | (simp only [List.length_append, List.length_cons, List.length_nil, List.length_set]; omega), ?_⟩; conv => whnf)
      (refine ⟨by intros; first | omega | (unfold InI64; omega) | (simp only [List.length_append, List.length_cons, List.length_nil, List.length_set]; omega), ?_⟩; conv => whnf)
      refine ⟨by show InI64 (((l.getD i sup0).lev.length : Int) - 1); unfold InI64; omega, ?_⟩; conv => whnf
      refine ⟨_, _, in_spec (r.lev.getD i 0) 0 ((l.getD i sup0).lev.length - 1), ?_⟩; conv => whnf
      refine bcase_of (fun h3 => ?_) (fun h3 => ?_)
      · have h3 : (!withinF (r.lev.getD i 0) 0 ((l.getD i sup0).lev.length - 1)) = true := h3
        (conv => whnf)
        refine ⟨?_, trivial⟩
        show false = railsF l r
        rw [hf, ← hi2]
        cases hv : withinF (r.lev.getD i 0) 0 ((l.getD i sup0).lev.length - 1) with
        | true => rw [hv] at h3; cases h3
        | false => rfl
      · have h3 : (!withinF (r.lev.getD i 0) 0 ((l.getD i sup0).lev.length - 1)) = false := h3
        (conv => whnf)
        (refine ⟨by intros; first | omega | (unfold InI64; omega) | (simp only [List.length_append, List.length_cons, List.length_nil, List.length_set]; omega), ?_⟩; conv => whnf)
        refine ⟨i + 1, [(0, some 0)], ⟨by omega, ?_⟩, by omega, (by (repeat' first | exact trivial | exact rfl | exact ⟨rfl, rfl⟩ | exact ⟨rfl, trivial⟩ | exact ⟨rfl, LeL.refl _, trivial⟩ | exact ⟨rfl, LeL.refl _, LeL.refl _, trivial⟩ | exact embV_le (.refl _) rfl | exact embV_leV (.refl _) rfl (Nat.lt_of_sub_pos (by exact Nat.zero_lt_succ _)) | exact ⟨rfl, rfl, rfl, rfl⟩ | exact ⟨rfl, rfl, rfl, rfl, id⟩ | exact ⟨rfl, rfl, rfl, rfl, rfl⟩ | exact ⟨rfl, rfl, rfl, rfl, nofun⟩ | exact tape_emb rfl | exact embO_le (LeL.refl _) rfl (Nat.lt_of_sub_pos (by exact Nat.zero_lt_succ _)) | exact ⟨rfl, rfl, fun _ _ => .refl _⟩ | (refine ⟨rfl, ?_⟩; simp; done) | (refine ⟨rfl, ?_⟩; omega) | refine ⟨?_, ?_⟩ | refine ⟨?_, ?_, ?_⟩))⟩
        rw [← hi2]
        cases hv : withinF (r.lev.getD i 0) 0 ((l.getD i sup0).lev.length - 1) with
        | true => rfl
        | false => rw [hv] at h3; cases h3
    · have hil : i = l.length := by have := of_decide_eq_false h2; omega
      (conv => whnf)
      refine ⟨?_, trivial⟩
      show true = railsF l r
      rw [hf, ← hi2, hil, List.drop_length]
      rfl

theorem rbools_spec (a b : List Bool) (hl : a.length ≤ 1000000) : S 51 [boolsV a, boolsV b] [] (.bool (a == b)) [] := by
  refine spec_of_x (ct := []) cfgOK Try.func51 rfl rfl (Nat.le_of_ble_eq_true rfl) (by decide +kernel) (Nat.le_refl _) ?_; conv => whnf
  refine bcase_of (fun h => ?_) (fun h => ?_)
  · (conv => whnf)
    refine ⟨?_, trivial⟩
    show false = (a == b)
    have h : ¬ a.length = b.length := by
      intro e
      rw [e] at h
      simp at h
    symm
    simp
    intro e
    rw [e] at h
    exact h rfl
  · (conv => whnf)
    have h : a.length = b.length := by
      have : ((a.length : Int) != b.length) = false := h
      simp at this
      omega
    refine loops_intro (ct := []) cfgOK (by decide +kernel) (fun i : Nat => ⟨[(0, boolsV a), (1, boolsV b), (12, iV a.length), (13, iV i)], [], 1⟩) (fun i => i ≤ a.length ∧ (a.drop i == b.drop i) = (a == b)) (fun i => a.length - i) 0 [] ⟨Nat.zero_le _, rfl⟩ (by (repeat' first | exact trivial | exact rfl | exact ⟨rfl, rfl⟩ | exact ⟨rfl, trivial⟩ | exact ⟨rfl, LeL.refl _, trivial⟩ | exact ⟨rfl, LeL.refl _, LeL.refl _, trivial⟩ | exact embV_le (.refl _) rfl | exact embV_leV (.refl _) rfl (Nat.lt_of_sub_pos (by exact Nat.zero_lt_succ _)) | exact ⟨rfl, rfl, rfl, rfl⟩ | exact ⟨rfl, rfl, rfl, rfl, id⟩ | exact ⟨rfl, rfl, rfl, rfl, rfl⟩ | exact ⟨rfl, rfl, rfl, rfl, nofun⟩ | exact tape_emb rfl | exact embO_le (LeL.refl _) rfl (Nat.lt_of_sub_pos (by exact Nat.zero_lt_succ _)) | exact ⟨rfl, rfl, fun _ _ => .refl _⟩ | (refine ⟨rfl, ?_⟩; simp; done) | (refine ⟨rfl, ?_⟩; omega) | refine ⟨?_, ?_⟩ | refine ⟨?_, ?_, ?_⟩)) ?_
    intro i ⟨hi1, hi2⟩
    (conv => whnf)
    refine bcase_of (fun h3 => ?_) (fun h3 => ?_)
    · have h3 := of_decide_eq_true h3
      (conv => whnf)
      (refine ⟨by intros; first | omega | (unfold InI64; omega) | (simp only [List.length_append, List.length_cons, List.length_nil, List.length_set]; omega), ?_⟩; conv => whnf)
      (refine ⟨by intros; first | omega | (unfold InI64; omega) | (simp only [List.length_append, List.length_cons, List.length_nil, List.length_set]; omega), ?_⟩; conv => whnf)
      rw [drop_cons false (l := a) (i := i) (by omega), drop_cons false (l := b) (i := i) (by omega)] at hi2
      refine bcase_of (fun h2 => ?_) (fun h2 => ?_)
      · (conv => whnf)
        have h2 : (a.getD i false != b.getD i false) = true := h2
        refine ⟨?_, trivial⟩
        show false = (a == b)
        rw [← hi2]
        symm
        simpa using fun e => absurd e (by simpa using h2)
      · (conv => whnf)
        have h2 : (a.getD i false != b.getD i false) = false := h2
        (refine ⟨by intros; first | omega | (unfold InI64; omega) | (simp only [List.length_append, List.length_cons, List.length_nil, List.length_set]; omega), ?_⟩; conv => whnf)
        refine ⟨i + 1, [], ⟨by omega, ?_⟩, by omega, (by (repeat' first | exact trivial | exact rfl | exact ⟨rfl, rfl⟩ | exact ⟨rfl, trivial⟩ | exact ⟨rfl, LeL.refl _, trivial⟩ | exact ⟨rfl, LeL.refl _, LeL.refl _, trivial⟩ | exact embV_le (.refl _) rfl | exact embV_leV (.refl _) rfl (Nat.lt_of_sub_pos (by exact Nat.zero_lt_succ _)) | exact ⟨rfl, rfl, rfl, rfl⟩ | exact ⟨rfl, rfl, rfl, rfl, id⟩ | exact ⟨rfl, rfl, rfl, rfl, rfl⟩ | exact ⟨rfl, rfl, rfl, rfl, nofun⟩ | exact tape_emb rfl | exact embO_le (LeL.refl _) rfl (Nat.lt_of_sub_pos (by exact Nat.zero_lt_succ _)) | exact ⟨rfl, rfl, fun _ _ => .refl _⟩ | (refine ⟨rfl, ?_⟩; simp; done) | (refine ⟨rfl, ?_⟩; omega) | refine ⟨?_, ?_⟩ | refine ⟨?_, ?_, ?_⟩))⟩
        rw [← hi2]
        have : a.getD i false = b.getD i false := by simpa using h2
        rw [this]
        simp
    · have h3 := of_decide_eq_false h3
      (conv => whnf)
      refine ⟨?_, trivial⟩
      show true = (a == b)
      rw [← hi2, List.drop_eq_nil_of_le (by omega), List.drop_eq_nil_of_le (by omega)]
      rfl

theorem rints_spec (a b : List Int) (hl : a.length ≤ 1000000) : S 52 [intsV a, intsV b] [] (.bool (a == b)) [] := by
  refine spec_of_x (ct := []) cfgOK Try.func52 rfl rfl (Nat.le_of_ble_eq_true rfl) (by decide +kernel) (Nat.le_refl _) ?_; conv => whnf
  refine bcase_of (fun h => ?_) (fun h => ?_)
  · (conv => whnf)
    refine ⟨?_, trivial⟩
    show false = (a == b)
    have h : ¬ a.length = b.length := by
      intro e
      rw [e] at h
      simp at h
    symm
    simp
    intro e
    rw [e] at h
    exact h rfl
  · (conv => whnf)
    have h : a.length = b.length := by
      have : ((a.length : Int) != b.length) = false := h
      simp at this
      omega
    refine loops_intro (ct := []) cfgOK (by decide +kernel) (fun i : Nat => ⟨[(0, intsV a), (1, intsV b), (12, iV a.length), (13, iV i)], [], 1⟩) (fun i => i ≤ a.length ∧ (a.drop i == b.drop i) = (a == b)) (fun i => a.length - i) 0 [] ⟨Nat.zero_le _, rfl⟩ (by (repeat' first | exact trivial | exact rfl | exact ⟨rfl, rfl⟩ | exact ⟨rfl, trivial⟩ | exact ⟨rfl, LeL.refl _, trivial⟩ | exact ⟨rfl, LeL.refl _, LeL.refl _, trivial⟩ | exact embV_le (.refl _) rfl | exact embV_leV (.refl _) rfl (Nat.lt_of_sub_pos (by exact Nat.zero_lt_succ _)) | exact ⟨rfl, rfl, rfl, rfl⟩ | exact ⟨rfl, rfl, rfl, rfl, id⟩ | exact ⟨rfl, rfl, rfl, rfl, rfl⟩ | exact ⟨rfl, rfl, rfl, rfl, nofun⟩ | exact tape_emb rfl | exact embO_le (LeL.refl _) rfl (Nat.lt_of_sub_pos (by exact Nat.zero_lt_succ _)) | exact ⟨rfl, rfl, fun _ _ => .refl _⟩ | (refine ⟨rfl, ?_⟩; simp; done) | (refine ⟨rfl, ?_⟩; omega) | refine ⟨?_, ?_⟩ | refine ⟨?_, ?_, ?_⟩)) ?_
    intro i ⟨hi1, hi2⟩
    (conv => whnf)
    refine bcase_of (fun h3 => ?_) (fun h3 => ?_)
    · have h3 := of_decide_eq_true h3
      (conv => whnf)
      (refine ⟨by intros; first | omega | (unfold InI64; omega) | (simp only [List.length_append, List.length_cons, List.length_nil, List.length_set]; omega), ?_⟩; conv => whnf)
      (refine ⟨by intros; first | omega | (unfold InI64; omega) | (simp only [List.length_append, List.length_cons, List.length_nil, List.length_set]; omega), ?_⟩; conv => whnf)
      rw [drop_cons 0 (l := a) (i := i) (by omega), drop_cons 0 (l := b) (i := i) (by omega)] at hi2
      refine bcase_of (fun h2 => ?_) (fun h2 => ?_)
      · (conv => whnf)
        have h2 : (a.getD i 0 != b.getD i 0) = true := h2
        refine ⟨?_, trivial⟩
        show false = (a == b)
        rw [← hi2]
        symm
        simpa using fun e => absurd e (by simpa using h2)
      · (conv => whnf)
        have h2 : (a.getD i 0 != b.getD i 0) = false := h2
        (refine ⟨by intros; first | omega | (unfold InI64; omega) | (simp only [List.length_append, List.length_cons, List.length_nil, List.length_set]; omega), ?_⟩; conv => whnf)
        refine ⟨i + 1, [], ⟨by omega, ?_⟩, by omega, (by (repeat' first | exact trivial | exact rfl | exact ⟨rfl, rfl⟩ | exact ⟨rfl, trivial⟩ | exact ⟨rfl, LeL.refl _, trivial⟩ | exact ⟨rfl, LeL.refl _, LeL.refl _, trivial⟩ | exact embV_le (.refl _) rfl | exact embV_leV (.refl _) rfl (Nat.lt_of_sub_pos (by exact Nat.zero_lt_succ _)) | exact ⟨rfl, rfl, rfl, rfl⟩ | exact ⟨rfl, rfl, rfl, rfl, id⟩ | exact ⟨rfl, rfl, rfl, rfl, rfl⟩ | exact ⟨rfl, rfl, rfl, rfl, nofun⟩ | exact tape_emb rfl | exact embO_le (LeL.refl _) rfl (Nat.lt_of_sub_pos (by exact Nat.zero_lt_succ _)) | exact ⟨rfl, rfl, fun _ _ => .refl _⟩ | (refine ⟨rfl, ?_⟩; simp; done) | (refine ⟨rfl, ?_⟩; omega) | refine ⟨?_, ?_⟩ | refine ⟨?_, ?_, ?_⟩))⟩
        rw [← hi2]
        have : a.getD i 0 = b.getD i 0 := by simpa using h2
        rw [this]
        simp
    · have h3 := of_decide_eq_false h3
      (conv => whnf)
      refine ⟨?_, trivial⟩
      show true = (a == b)
      rw [← hi2, List.drop_eq_nil_of_le (by omega), List.drop_eq_nil_of_le (by omega)]
      rfl

theorem sameRails_spec (a b : Rls) (ha : a.on.length ≤ 1000000 ∧ a.lev.length ≤ 1000000) : S 18 [rlsV a, rlsV b] [] (.bool ((a.on == b.on) && (a.lev == b.lev))) [] := by
  refine spec_of_x (ct := []) cfgOK Try.func18 rfl rfl (Nat.le_of_ble_eq_true rfl) (by decide +kernel) (Nat.le_refl _) ?_; conv => whnf
  refine ⟨_, _, rbools_spec a.on b.on ha.1, ?_⟩; conv => whnf
  refine ⟨_, _, fun _ => rints_spec a.lev b.lev ha.2, ?_⟩; conv => whnf
  exact ⟨rfl, trivial⟩

def beginF (l : List Sup) (d : List Drw) : Int := bif checkF l != 0 then checkF l else bif !drawsF l d then 1 else 0

theorem begin_spec (l : List Sup) (hl : l.length ≤ 1000000) (d : List Drw) (hd : d.length ≤ 1000000) : S 49 [supsV l, drwsV d] [] (iV (beginF l d)) [] := by
  refine spec_of_x (ct := []) cfgOK Try.func49 rfl rfl (Nat.le_of_ble_eq_true rfl) (by decide +kernel) (Nat.le_refl _) ?_; conv => whnf
  refine ⟨_, _, check_spec l hl, ?_⟩; conv => whnf
  unfold beginF
  refine bcase_of (fun h => ?_) (fun h => ?_)
  · have h : (checkF l != 0) = true := h
    (conv => whnf)
    rw [h]
    exact ⟨⟨rfl, rfl⟩, trivial⟩
  · have h : (checkF l != 0) = false := h
    (conv => whnf)
    refine ⟨_, _, draws_spec l hl d hd, ?_⟩; conv => whnf
    rw [h]
    refine bcase_of (fun h2 => ?_) (fun h2 => ?_)
    · have h2 : (!drawsF l d) = true := h2
      (conv => whnf)
      rw [h2]
      exact ⟨⟨rfl, rfl⟩, trivial⟩
    · have h2 : (!drawsF l d) = false := h2
      (conv => whnf)
      rw [h2]
      exact ⟨⟨rfl, rfl⟩, trivial⟩

theorem rbegin_spec (l : List Sup) (hl : l.length ≤ 1000000) (d : List Drw) (hd : d.length ≤ 1000000) : S 58 [supsV l, drwsV d] [] (iV (beginF l d)) [] := by
  refine spec_of_x (ct := []) cfgOK Try.func58 rfl rfl (Nat.le_of_ble_eq_true rfl) (by decide +kernel) (Nat.le_refl _) ?_; conv => whnf
  refine ⟨_, _, rcheck_spec l hl, ?_⟩; conv => whnf
  unfold beginF
  refine bcase_of (fun h => ?_) (fun h => ?_)
  · have h : (checkF l != 0) = true := h
    (conv => whnf)
    rw [h]
    exact ⟨⟨rfl, rfl⟩, trivial⟩
  · have h : (checkF l != 0) = false := h
    (conv => whnf)
    refine ⟨_, _, rdraws_spec l hl d hd, ?_⟩; conv => whnf
    rw [h]
    refine bcase_of (fun h2 => ?_) (fun h2 => ?_)
    · have h2 : (!drawsF l d) = true := h2
      (conv => whnf)
      rw [h2]
      exact ⟨⟨rfl, rfl⟩, trivial⟩
    · have h2 : (!drawsF l d) = false := h2
      (conv => whnf)
      rw [h2]
      exact ⟨⟨rfl, rfl⟩, trivial⟩

end Go.Proofs.Ytjmhlbogkeohpaa

namespace Go.Proofs.Ytjmhlbogkeohpaa
open Go.Ab Go.RowKit Go.Shelf

attribute [local go_sem] Oper.semAt_some

set_option maxRecDepth 100000 in
set_option maxHeartbeats 2000000 in
theorem back_in (F : Fence) (n : Nat) (h7 : F.fn 76) (hro : F.round = none) (hn : 1 ≤ n) (l B O b off len cap : Nat) (hlen : len ≤ 1000000) (Keep : World → Prop)
    (c0 c1 c2 c3 c4 : Nat → Value) (v1 : Nat → Value) (hv : ∀ i, v1 i = .agg #[c0 i, c1 i, c2 i, c3 i, c4 i])
    (hB : ∀ w, Keep w → w.cell? ⟨B, O, none⟩ = some (.slice (some ⟨b, off, none⟩) len cap))
    (h0 : ∀ w i, Keep w → i < len → w.cell? ⟨b, off + i * 5, none⟩ = some (c0 i)) (h1 : ∀ w i, Keep w → i < len → w.cell? ⟨b, off + i * 5 + 1, none⟩ = some (c1 i)) (h2 : ∀ w i, Keep w → i < len → w.cell? ⟨b, off + i * 5 + 2, none⟩ = some (c2 i))
    (h3 : ∀ w i, Keep w → i < len → w.cell? ⟨b, off + i * 5 + 3, none⟩ = some (c3 i)) (h4 : ∀ w i, Keep w → i < len → w.cell? ⟨b, off + i * 5 + 4, none⟩ = some (c4 i))
    (J : Nat → World → Prop) (Jx : World → Prop)
    (hY : ∀ k W, k < len → J k W → YieldAt F (n - 1) Try.prog l #[.int .i64 ((len - 1 - k : Nat) : Int), v1 (len - 1 - k)] W fun e W' =>
      (e = .returned (.bool true) ∧ J (k + 1) W' ∧ Keep W') ∨ (e = .returned (.bool false) ∧ Jx W'))
    (W : World) (hW : Keep W) (hJ : J 0 W) :
    CallsIn F n Try.prog 76 #[.func (.yield l) #[] #[], .pointer (some ⟨B, O, none⟩)] W fun e W' => (∃ v, e = .returned v) ∧ (J len W' ∨ Jx W') := by
  refine callsIn_of_wp Try.func76 rfl h7 ?_ hro
  simp only [Try.ntmps76, List.size_toArray, List.length_cons, List.length_nil, Nat.reduceAdd, Nat.reduceSub, Array.replicate_succ, Array.replicate_zero, List.push_toArray, List.append_toArray, List.nil_append, List.cons_append]
  have hB0 := hB W hW
  gi_wp2
  gi_loopw [3] (fun i wr => ∃ k : Nat, k ≤ len ∧ i = .int .i64 ((len : Int) - 1 - k) ∧ J k wr ∧ Keep wr)
    (fun i _ => (intOf i + 1).toNat)
  case atStart => exact ⟨0, Nat.zero_le _, by simp, hJ, hW⟩
  case round =>
    obtain ⟨k, hk, rfl, hJs, hkp⟩ := hrel
    by_cases hlt : k < len
    · obtain ⟨fn, tmps, assign, body, hy, hR⟩ := hY k wr hlt hJs
      have hBr := hB wr hkp
      obtain ⟨i, hi⟩ : ∃ i : Nat, i = len - 1 - k := ⟨_, rfl⟩
      rw [← hi] at hy
      have hil : i < len := by omega
      have hii : ((len : Int) - 1 - k) = (i : Int) := by omega
      rw [hii]
      have e0 := h0 wr i hkp hil
      have e1 := h1 wr i hkp hil
      have e2 := h2 wr i hkp hil
      have e3 := h3 wr i hkp hil
      have e4 := h4 wr i hkp hil
      rw [hv] at hy
      have A : Aside (i + k + 1 = len) := by show i + k + 1 = len; omega
      have hi0 : ¬ ((i : Int) < 0) := by omega
      have hi1 : 0 ≤ (i : Int) := by omega
      clear hi hii hlt hk
      gi_wp2
      refine hR.mono ?_
      rintro e W3 (⟨rfl, hJ3, hk3⟩ | ⟨rfl, hJx3⟩)
      · have A' := A.out
        gi_wp2
        go_roundw
        case rel => exact ⟨k + 1, by omega, by have := A'; simp; omega, hJ3, hk3⟩
        case measure => simp [intOf]
      · gi_wp2
        refine bodyPost_ret (results_none rfl _ _ _) rfl ?_
        exact ⟨⟨_, rfl⟩, .inr hJx3⟩
    · obtain rfl : k = len := by omega
      have hneg : ((k : Int) - 1 - k) = -1 := by omega
      rw [hneg]
      gi_wp2
      go_end0
      exact ⟨⟨_, rfl⟩, .inl hJs⟩

set_option maxRecDepth 100000 in
set_option maxHeartbeats 2000000 in
theorem back_nil_in (F : Fence) (n : Nat) (h7 : F.fn 76) (hro : F.round = none) (l B O cap : Nat) (a : Option Addr) (J : World → Prop) (W : World) (hB : W.cell? ⟨B, O, none⟩ = some (.slice a 0 cap)) (hJ : J W) :
    CallsIn F n Try.prog 76 #[.func (.yield l) #[] #[], .pointer (some ⟨B, O, none⟩)] W fun e W' => (∃ v, e = .returned v) ∧ J W' := by
  refine callsIn_of_wp Try.func76 rfl h7 ?_ hro
  simp only [Try.ntmps76, List.size_toArray, List.length_cons, List.length_nil, Nat.reduceAdd, Nat.reduceSub, Array.replicate_succ, Array.replicate_zero, List.push_toArray, List.append_toArray, List.nil_append, List.cons_append]
  gi_wp2
  gi_loopw [3] (fun i wr => i = .int .i64 (-1) ∧ J wr) (fun _ _ => 0)
  case atStart => exact ⟨by simp, hJ⟩
  case round =>
    obtain ⟨rfl, hJs⟩ := hrel
    gi_wp2
    go_end0
    exact ⟨⟨_, rfl⟩, hJs⟩

theorem callsIn_FW {n n' : Nat} {P : Program} {f : FuncId} {args : Array Value} {w : World} {R : Ending → World → Prop} (h : CallsIn (FW none) n P f args w R) : CallsIn (FW none) n' P f args w R :=
  ⟨h.1, fun cs _ => h.2 cs (fun _ hd => by cases hd)⟩

theorem back_iter (l : List Sup) (hl : l.length ≤ 1000000) : IterSpec Try.prog 76 [.ro [supsV l]] l.length (fun k => iV ((l.length - 1 - k : Nat) : Int)) (fun k => supV (l.getD (l.length - 1 - k) sup0)) := by
  refine ⟨enters_of Try.func76 (by kernel_rfl) rfl, fun w I lb hI hlb hp => ?_⟩
  have h0 := hp 0 (by simp)
  have hlb1 : lb = #[lb.getD 0 Go.undef] := by
    have : lb.size = 1 := hlb
    apply Array.ext
    · simp [this]
    · intro i h1 h2
      have : i = 0 := by omega
      subst this
      simp [h1]
  rw [hlb1]
  generalize lb.getD 0 Go.undef = x at h0
  clear hlb1 hp hlb
  cases h0 with
  | ro B O vs hIB hm hr =>
    have hs := hr 0 (by simp)
    have hm0 := hm 0 (by simp)
    have hs : PRep w I (supsV l) (vs 0) := hs
    generalize vs 0 = sv at hs hm0
    cases hs with
    | @sl _ _ _ _ a cap b off cs hcap _ ha hes hcm h1 hcr =>
      by_cases hz : l.length = 0
      · refine ⟨fun _ => .bool true, fun _ => .bool true, fun k hk => absurd hk (by omega), fun y n J Jx W hW hY hJ => ?_⟩
        have hBc : W.cell? ⟨B, O, none⟩ = some (.slice a 0 cap) := by
          rw [cell?_of_heap (w := w) (hW B hIB), ← hz]
          exact hm0
        rw [hz]
        exact (back_nil_in (FW none) n trivial rfl y B O cap a (fun W => J 0 W) W hBc hJ).mono fun e W' ⟨h1, h2⟩ => ⟨h1, .inl h2⟩
      · obtain ⟨ha1, hIb⟩ := ha hz
        subst ha1
        refine ⟨fun k => .int .i64 ((l.length - 1 - k : Nat) : Int), fun k => .agg #[cs (l.length - 1 - k) 0, cs (l.length - 1 - k) 1, cs (l.length - 1 - k) 2, cs (l.length - 1 - k) 3, cs (l.length - 1 - k) 4], fun k hk => ⟨.int _ _, ?_⟩, fun y n J Jx W hW hY hJ => ?_⟩
        · refine .agg rfl fun j hj => ?_
          have hj : j < 5 := hj
          have := hcr (l.length - 1 - k) j (by omega) hj
          have e : nth (supV (l.getD (l.length - 1 - k) sup0)).cells j = nth [iV (l.getD (l.length - 1 - k) sup0).par, intsV (l.getD (l.length - 1 - k) sup0).lev, iV (l.getD (l.length - 1 - k) sup0).drop, iV (l.getD (l.length - 1 - k) sup0).cap, .bool (l.getD (l.length - 1 - k) sup0).alw] j := rfl
          rcases (by omega : j = 0 ∨ j = 1 ∨ j = 2 ∨ j = 3 ∨ j = 4) with rfl | rfl | rfl | rfl | rfl <;> exact this
        · have key : ∀ W' : World, (∀ b, I b → W'.heap[b]? = w.heap[b]?) → ∀ i j, i < l.length → j < 5 → W'.cell? ⟨b, off + (i * 5 + j), none⟩ = some (cs i j) := fun W' hW' i j hi hj => by
            rw [cell?_of_heap (w := w) (hW' b hIb)]
            exact hcm i j hi hj
          refine callsIn_FW (back_in (FW none) (n + 1) trivial rfl (by omega) y B O b off l.length cap hl (fun W' : World => ∀ b, I b → W'.heap[b]? = w.heap[b]?) (fun i => cs i 0) (fun i => cs i 1) (fun i => cs i 2) (fun i => cs i 3) (fun i => cs i 4) (fun i => .agg #[cs i 0, cs i 1, cs i 2, cs i 3, cs i 4]) (fun _ => rfl)
            (fun W' hW' => by rw [cell?_of_heap (w := w) (hW' B hIB)]; exact hm0) (fun W' i h hi => key W' h i 0 hi (by omega)) (fun W' i h hi => key W' h i 1 hi (by omega)) (fun W' i h hi => key W' h i 2 hi (by omega)) (fun W' i h hi => key W' h i 3 hi (by omega)) (fun W' i h hi => key W' h i 4 hi (by omega))
            (fun k W1 => J k W1 ∧ ∀ b, I b → W1.heap[b]? = w.heap[b]?) Jx ?_ W hW ⟨hJ, hW⟩ |>.mono ?_)
          · rintro k W1 hk ⟨hJ1, hW1⟩
            obtain ⟨fn, tmps, assign, body, hy, hR⟩ := hY k W1 hk hJ1
            refine ⟨fn, tmps, assign, body, hy, hR.mono ?_⟩
            rintro e W' (⟨rfl, h2, h3⟩ | ⟨rfl, h2⟩)
            · have hW' : ∀ b, I b → W'.heap[b]? = w.heap[b]? := fun b hb => (h3 b hb).trans (hW1 b hb)
              exact .inl ⟨rfl, ⟨h2, hW'⟩, hW'⟩
            · exact .inr ⟨rfl, h2⟩
          · rintro e W' ⟨h1, ⟨h2, _⟩ | h2⟩
            · exact ⟨h1, .inl h2⟩
            · exact ⟨h1, .inr h2⟩

theorem backward_spec (l : List Sup) : S 69 [supsV l] [] (.fn 76 [.ro [supsV l]]) [] := by
  refine spec_of_x (ct := []) cfgOK Try.func69 rfl rfl (Nat.le_of_ble_eq_true rfl) (by decide +kernel) (Nat.zero_le _) ?_; conv => whnf
  exact ⟨⟨rfl, LeL.refl _, trivial⟩, trivial⟩

end Go.Proofs.Ytjmhlbogkeohpaa
