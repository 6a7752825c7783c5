/- Contracts of the program's functions, shown by walks of that machine, and the plain laws. -/
import Derived.Test.YtjmhlbogkeohpaaD2
namespace Go.Proofs.Ytjmhlbogkeohpaa
open Go.Ab
set_option maxRecDepth 100000

structure DS where
  a : List Dem
  lv : List Int
def dInit (n : Nat) (d : List Drw) : Nat → List Dem
  | 0 => List.replicate n ⟨0, -1, -1⟩
  | i + 1 => bif decide (((dInit n d i).getD (d.getD i drw0).sup.toNat dem0).volt < (d.getD i drw0).low) then (dInit n d i).set (d.getD i drw0).sup.toNat ⟨(d.getD i drw0).low, i, -1⟩ else dInit n d i
def lvOf (l : List Sup) (i : Nat) (s : DS) : Nat := lvN (l.getD i sup0).lev (s.a.getD i dem0).volt
def needOf (l : List Sup) (i : Nat) (s : DS) : Int := (l.getD i sup0).lev.getD (lvOf l i s) 0 + (l.getD i sup0).drop
def dOne (l : List Sup) (u : List Bool) (i : Nat) (s : DS) : DS :=
  bif !u.getD i false then s
  else ⟨bif decide (0 ≤ (l.getD i sup0).par) && decide ((s.a.getD (l.getD i sup0).par.toNat dem0).volt < needOf l i s) then s.a.set (l.getD i sup0).par.toNat ⟨needOf l i s, -1, i⟩ else s.a, s.lv.set i (lvOf l i s)⟩
def dFail (l : List Sup) (u : List Bool) (i : Nat) (s : DS) : Bool := u.getD i false && !decide ((lvOf l i s : Int) < (l.getD i sup0).lev.length)
def demN (l : List Sup) (u : List Bool) : Nat → DS → DS × Int
  | 0, s => (s, -1)
  | k + 1, s => bif dFail l u k s then (s, k) else demN l u k (dOne l u k s)
def ds0 (l : List Sup) (d : List Drw) : DS := ⟨dInit l.length d d.length, List.replicate l.length 0⟩
def demF (l : List Sup) (d : List Drw) : DS × Int := demN l (usedF l d) l.length (ds0 l d)

theorem demN_up {l : List Sup} {u : List Bool} {s : DS} {k : Nat} (hk : k ≤ l.length) (h : ∀ j, j < k → dFail l u (l.length - 1 - j) (upN (dOne l u) l.length j s) = false) : demN l u l.length s = demN l u (l.length - k) (upN (dOne l u) l.length k s) := by
  induction k with
  | zero => rfl
  | succ k ih =>
    rw [ih (by omega) (fun j hj => h j (by omega)), show l.length - k = (l.length - (k + 1)) + 1 by omega, demN]
    have := h k (by omega)
    rw [show l.length - 1 - k = l.length - (k + 1) by omega] at this
    rw [this, upN, show l.length - 1 - k = l.length - (k + 1) by omega]
    rfl

theorem dInit_len (n : Nat) (d : List Drw) (i : Nat) : (dInit n d i).length = n := by
  induction i with
  | zero => simp [dInit]
  | succ i ih =>
    rw [dInit]
    cases decide (((dInit n d i).getD (d.getD i drw0).sup.toNat dem0).volt < (d.getD i drw0).low) <;> simp [ih]

structure DOk (l : List Sup) (s : DS) : Prop where
  al : s.a.length = l.length
  ll : s.lv.length = l.length

theorem dOne_ok {l : List Sup} {u : List Bool} {i : Nat} {s : DS} (h : DOk l s) : DOk l (dOne l u i s) := by
  unfold dOne
  cases u.getD i false with
  | false => exact h
  | true =>
    refine ⟨?_, by simp [h.ll]⟩
    simp only [Bool.not_true, cond_false]
    cases decide (0 ≤ (l.getD i sup0).par) && decide ((s.a.getD (l.getD i sup0).par.toNat dem0).volt < needOf l i s) <;> simp [h.al]

theorem ds0_ok (l : List Sup) (d : List Drw) : DOk l (ds0 l d) := ⟨dInit_len _ _ _, by simp [ds0]⟩

theorem up_ok (l : List Sup) (u : List Bool) (d : List Drw) (k : Nat) : DOk l (upN (dOne l u) l.length k (ds0 l d)) := by
  induction k with
  | zero => exact ds0_ok l d
  | succ k ih => exact dOne_ok ih

set_option maxHeartbeats 4000000 in
theorem demands_spec (l : List Sup) (d : List Drw) (hv : Vld l d) : S 50 [supsV l, drwsV d] [] (.tup [demsV (demF l d).1.a, intsV (demF l d).1.lv, iV (demF l d).2]) [] := by
  have vl := hv.len
  have vd := hv.dlen
  have hul := usedF_len l d
  refine spec_of_x (ct := []) cfgOK Try.func50 rfl rfl (Nat.le_of_ble_eq_true rfl) (by decide +kernel) (Nat.zero_le _) ?_; conv => whnf
  refine ⟨_, _, (repeat_spec ⟨0, -1, -1⟩ l.length (by omega)).le ⟨.sl rfl (fun _ => rfl) nofun (fun i hi => by cases i with | zero => exact .refl _ | succ i => exact absurd hi (by simp)), .refl _, trivial⟩ trivial, ?_⟩; conv => whnf
  refine ⟨⟨by omega, by show (l.length : Int) * 8 ≤ 140737488355328; omega⟩, ?_⟩; conv => whnf
  refine loops_intro (ct := []) cfgOK (by decide +kernel) (fun i : Nat => ⟨[(0, supsV l), (1, drwsV d), (4, .ptr 0 0 0), (5, .ptr 1 0 0), (6, .ptr 2 0 0), (23, drwsV d), (24, iV d.length), (25, iV i)], [(0, some (.box [.osl 3 0 l.length true])), (1, some (.box [.osl 4 0 l.length true])), (2, some (.box [iV 0])), (3, some (.row 3 l.length (rowG demV dem0 (dInit l.length d i)))), (4, some (.row 1 l.length (rowG iV 0 (List.replicate l.length 0))))], 5⟩) (fun i => i ≤ d.length) (fun i => d.length - i) 0 [(0, some 0), (1, some 1), (2, some 2), (3, some 7), (4, some 10)] (Nat.zero_le _) ?_ ?_
  · refine ⟨rfl, by (repeat' first | exact trivial | exact rfl | exact ⟨rfl, rfl⟩ | exact ⟨rfl, trivial⟩ | exact ⟨rfl, LeL.refl _, trivial⟩ | exact ⟨rfl, LeL.refl _, LeL.refl _, trivial⟩ | exact embV_le (.refl _) rfl | exact embV_leV (.refl _) rfl (Nat.lt_of_sub_pos (by exact Nat.zero_lt_succ _)) | exact ⟨rfl, rfl, rfl, rfl⟩ | exact ⟨rfl, rfl, rfl, rfl, id⟩ | exact ⟨rfl, rfl, rfl, rfl, rfl⟩ | exact ⟨rfl, rfl, rfl, rfl, nofun⟩ | exact tape_emb rfl | exact embO_le (LeL.refl _) rfl (Nat.lt_of_sub_pos (by exact Nat.zero_lt_succ _)) | exact ⟨rfl, rfl, fun _ _ => .refl _⟩ | (refine ⟨rfl, ?_⟩; simp; done) | (refine ⟨rfl, ?_⟩; omega) | refine ⟨?_, ?_⟩ | refine ⟨?_, ?_, ?_⟩), ⟨by (repeat' first | exact trivial | exact rfl | exact ⟨rfl, rfl⟩ | exact ⟨rfl, trivial⟩ | exact ⟨rfl, LeL.refl _, trivial⟩ | exact ⟨rfl, LeL.refl _, LeL.refl _, trivial⟩ | exact embV_le (.refl _) rfl | exact embV_leV (.refl _) rfl (Nat.lt_of_sub_pos (by exact Nat.zero_lt_succ _)) | exact ⟨rfl, rfl, rfl, rfl⟩ | exact ⟨rfl, rfl, rfl, rfl, id⟩ | exact ⟨rfl, rfl, rfl, rfl, rfl⟩ | exact ⟨rfl, rfl, rfl, rfl, nofun⟩ | exact tape_emb rfl | exact embO_le (LeL.refl _) rfl (Nat.lt_of_sub_pos (by exact Nat.zero_lt_succ _)) | exact ⟨rfl, rfl, fun _ _ => .refl _⟩ | (refine ⟨rfl, ?_⟩; simp; done) | (refine ⟨rfl, ?_⟩; omega) | refine ⟨?_, ?_⟩ | refine ⟨?_, ?_, ?_⟩), by (repeat' first | exact trivial | exact rfl | exact ⟨rfl, rfl⟩ | exact ⟨rfl, trivial⟩ | exact ⟨rfl, LeL.refl _, trivial⟩ | exact ⟨rfl, LeL.refl _, LeL.refl _, trivial⟩ | exact embV_le (.refl _) rfl | exact embV_leV (.refl _) rfl (Nat.lt_of_sub_pos (by exact Nat.zero_lt_succ _)) | exact ⟨rfl, rfl, rfl, rfl⟩ | exact ⟨rfl, rfl, rfl, rfl, id⟩ | exact ⟨rfl, rfl, rfl, rfl, rfl⟩ | exact ⟨rfl, rfl, rfl, rfl, nofun⟩ | exact tape_emb rfl | exact embO_le (LeL.refl _) rfl (Nat.lt_of_sub_pos (by exact Nat.zero_lt_succ _)) | exact ⟨rfl, rfl, fun _ _ => .refl _⟩ | (refine ⟨rfl, ?_⟩; simp; done) | (refine ⟨rfl, ?_⟩; omega) | refine ⟨?_, ?_⟩ | refine ⟨?_, ?_, ?_⟩), by (repeat' first | exact trivial | exact rfl | exact ⟨rfl, rfl⟩ | exact ⟨rfl, trivial⟩ | exact ⟨rfl, LeL.refl _, trivial⟩ | exact ⟨rfl, LeL.refl _, LeL.refl _, trivial⟩ | exact embV_le (.refl _) rfl | exact embV_leV (.refl _) rfl (Nat.lt_of_sub_pos (by exact Nat.zero_lt_succ _)) | exact ⟨rfl, rfl, rfl, rfl⟩ | exact ⟨rfl, rfl, rfl, rfl, id⟩ | exact ⟨rfl, rfl, rfl, rfl, rfl⟩ | exact ⟨rfl, rfl, rfl, rfl, nofun⟩ | exact tape_emb rfl | exact embO_le (LeL.refl _) rfl (Nat.lt_of_sub_pos (by exact Nat.zero_lt_succ _)) | exact ⟨rfl, rfl, fun _ _ => .refl _⟩ | (refine ⟨rfl, ?_⟩; simp; done) | (refine ⟨rfl, ?_⟩; omega) | refine ⟨?_, ?_⟩ | refine ⟨?_, ?_, ?_⟩), by (repeat' first | exact trivial | exact rfl | exact ⟨rfl, rfl⟩ | exact ⟨rfl, trivial⟩ | exact ⟨rfl, LeL.refl _, trivial⟩ | exact ⟨rfl, LeL.refl _, LeL.refl _, trivial⟩ | exact embV_le (.refl _) rfl | exact embV_leV (.refl _) rfl (Nat.lt_of_sub_pos (by exact Nat.zero_lt_succ _)) | exact ⟨rfl, rfl, rfl, rfl⟩ | exact ⟨rfl, rfl, rfl, rfl, id⟩ | exact ⟨rfl, rfl, rfl, rfl, rfl⟩ | exact ⟨rfl, rfl, rfl, rfl, nofun⟩ | exact tape_emb rfl | exact embO_le (LeL.refl _) rfl (Nat.lt_of_sub_pos (by exact Nat.zero_lt_succ _)) | exact ⟨rfl, rfl, fun _ _ => .refl _⟩ | (refine ⟨rfl, ?_⟩; simp; done) | (refine ⟨rfl, ?_⟩; omega) | refine ⟨?_, ?_⟩ | refine ⟨?_, ?_, ?_⟩), ⟨rfl, rfl, fun k _ => ?_⟩, trivial⟩⟩
    show Le (iV 0) (iV ((List.replicate l.length 0).getD k 0))
    rw [rep_getD]
    exact .refl _
  intro i hi
  (conv => whnf)
  refine bcase_of (fun h => ?_) (fun h => ?_)
  · have hlt : i < d.length := by have := of_decide_eq_true h; omega
    have hx := hv.drw _ (getD_mem drw0 hlt)
    have hml := dInit_len l.length d i
    (conv => whnf)
    (refine ⟨by intros; first | omega | (unfold InI64; omega) | (simp only [List.length_append, List.length_cons, List.length_nil, List.length_set]; omega), ?_⟩; conv => whnf)
    refine ⟨⟨hx.1, by show (d.getD i drw0).sup < (l.length : Int); omega⟩, ?_⟩; conv => whnf
    refine bcase_of (fun h2 => ?_) (fun h2 => ?_)
    · have h2 : decide (((dInit l.length d i).getD (d.getD i drw0).sup.toNat dem0).volt < (d.getD i drw0).low) = true := h2
      (conv => whnf)
      refine ⟨⟨hx.1, by show (d.getD i drw0).sup < (l.length : Int); omega⟩, ?_⟩; conv => whnf
      (refine ⟨by intros; first | omega | (unfold InI64; omega) | (simp only [List.length_append, List.length_cons, List.length_nil, List.length_set]; omega), ?_⟩; conv => whnf)
      refine ⟨i + 1, [(0, some 0), (1, some 1), (2, some 2), (3, some 3), (4, some 4)], hlt, by omega, ⟨rfl, by (repeat' first | exact trivial | exact rfl | exact ⟨rfl, rfl⟩ | exact ⟨rfl, trivial⟩ | exact ⟨rfl, LeL.refl _, trivial⟩ | exact ⟨rfl, LeL.refl _, LeL.refl _, trivial⟩ | exact embV_le (.refl _) rfl | exact embV_leV (.refl _) rfl (Nat.lt_of_sub_pos (by exact Nat.zero_lt_succ _)) | exact ⟨rfl, rfl, rfl, rfl⟩ | exact ⟨rfl, rfl, rfl, rfl, id⟩ | exact ⟨rfl, rfl, rfl, rfl, rfl⟩ | exact ⟨rfl, rfl, rfl, rfl, nofun⟩ | exact tape_emb rfl | exact embO_le (LeL.refl _) rfl (Nat.lt_of_sub_pos (by exact Nat.zero_lt_succ _)) | exact ⟨rfl, rfl, fun _ _ => .refl _⟩ | (refine ⟨rfl, ?_⟩; simp; done) | (refine ⟨rfl, ?_⟩; omega) | refine ⟨?_, ?_⟩ | refine ⟨?_, ?_, ?_⟩), ⟨by (repeat' first | exact trivial | exact rfl | exact ⟨rfl, rfl⟩ | exact ⟨rfl, trivial⟩ | exact ⟨rfl, LeL.refl _, trivial⟩ | exact ⟨rfl, LeL.refl _, LeL.refl _, trivial⟩ | exact embV_le (.refl _) rfl | exact embV_leV (.refl _) rfl (Nat.lt_of_sub_pos (by exact Nat.zero_lt_succ _)) | exact ⟨rfl, rfl, rfl, rfl⟩ | exact ⟨rfl, rfl, rfl, rfl, id⟩ | exact ⟨rfl, rfl, rfl, rfl, rfl⟩ | exact ⟨rfl, rfl, rfl, rfl, nofun⟩ | exact tape_emb rfl | exact embO_le (LeL.refl _) rfl (Nat.lt_of_sub_pos (by exact Nat.zero_lt_succ _)) | exact ⟨rfl, rfl, fun _ _ => .refl _⟩ | (refine ⟨rfl, ?_⟩; simp; done) | (refine ⟨rfl, ?_⟩; omega) | refine ⟨?_, ?_⟩ | refine ⟨?_, ?_, ?_⟩), by (repeat' first | exact trivial | exact rfl | exact ⟨rfl, rfl⟩ | exact ⟨rfl, trivial⟩ | exact ⟨rfl, LeL.refl _, trivial⟩ | exact ⟨rfl, LeL.refl _, LeL.refl _, trivial⟩ | exact embV_le (.refl _) rfl | exact embV_leV (.refl _) rfl (Nat.lt_of_sub_pos (by exact Nat.zero_lt_succ _)) | exact ⟨rfl, rfl, rfl, rfl⟩ | exact ⟨rfl, rfl, rfl, rfl, id⟩ | exact ⟨rfl, rfl, rfl, rfl, rfl⟩ | exact ⟨rfl, rfl, rfl, rfl, nofun⟩ | exact tape_emb rfl | exact embO_le (LeL.refl _) rfl (Nat.lt_of_sub_pos (by exact Nat.zero_lt_succ _)) | exact ⟨rfl, rfl, fun _ _ => .refl _⟩ | (refine ⟨rfl, ?_⟩; simp; done) | (refine ⟨rfl, ?_⟩; omega) | refine ⟨?_, ?_⟩ | refine ⟨?_, ?_, ?_⟩), by (repeat' first | exact trivial | exact rfl | exact ⟨rfl, rfl⟩ | exact ⟨rfl, trivial⟩ | exact ⟨rfl, LeL.refl _, trivial⟩ | exact ⟨rfl, LeL.refl _, LeL.refl _, trivial⟩ | exact embV_le (.refl _) rfl | exact embV_leV (.refl _) rfl (Nat.lt_of_sub_pos (by exact Nat.zero_lt_succ _)) | exact ⟨rfl, rfl, rfl, rfl⟩ | exact ⟨rfl, rfl, rfl, rfl, id⟩ | exact ⟨rfl, rfl, rfl, rfl, rfl⟩ | exact ⟨rfl, rfl, rfl, rfl, nofun⟩ | exact tape_emb rfl | exact embO_le (LeL.refl _) rfl (Nat.lt_of_sub_pos (by exact Nat.zero_lt_succ _)) | exact ⟨rfl, rfl, fun _ _ => .refl _⟩ | (refine ⟨rfl, ?_⟩; simp; done) | (refine ⟨rfl, ?_⟩; omega) | refine ⟨?_, ?_⟩ | refine ⟨?_, ?_, ?_⟩), ⟨rfl, rfl, fun k _ => ?_⟩, by (repeat' first | exact trivial | exact rfl | exact ⟨rfl, rfl⟩ | exact ⟨rfl, trivial⟩ | exact ⟨rfl, LeL.refl _, trivial⟩ | exact ⟨rfl, LeL.refl _, LeL.refl _, trivial⟩ | exact embV_le (.refl _) rfl | exact embV_leV (.refl _) rfl (Nat.lt_of_sub_pos (by exact Nat.zero_lt_succ _)) | exact ⟨rfl, rfl, rfl, rfl⟩ | exact ⟨rfl, rfl, rfl, rfl, id⟩ | exact ⟨rfl, rfl, rfl, rfl, rfl⟩ | exact ⟨rfl, rfl, rfl, rfl, nofun⟩ | exact tape_emb rfl | exact embO_le (LeL.refl _) rfl (Nat.lt_of_sub_pos (by exact Nat.zero_lt_succ _)) | exact ⟨rfl, rfl, fun _ _ => .refl _⟩ | (refine ⟨rfl, ?_⟩; simp; done) | (refine ⟨rfl, ?_⟩; omega) | refine ⟨?_, ?_⟩ | refine ⟨?_, ?_, ?_⟩), trivial⟩⟩⟩
      rw [dInit, h2]
      exact le_set (l := dInit l.length d i) (i := (d.getD i drw0).sup.toNat) (v := ⟨(d.getD i drw0).low, i, -1⟩) (by omega) rfl (.refl _) k
    · have h2 : decide (((dInit l.length d i).getD (d.getD i drw0).sup.toNat dem0).volt < (d.getD i drw0).low) = false := h2
      (conv => whnf)
      (refine ⟨by intros; first | omega | (unfold InI64; omega) | (simp only [List.length_append, List.length_cons, List.length_nil, List.length_set]; omega), ?_⟩; conv => whnf)
      refine ⟨i + 1, [(0, some 0), (1, some 1), (2, some 2), (3, some 3), (4, some 4)], hlt, by omega, ⟨rfl, by (repeat' first | exact trivial | exact rfl | exact ⟨rfl, rfl⟩ | exact ⟨rfl, trivial⟩ | exact ⟨rfl, LeL.refl _, trivial⟩ | exact ⟨rfl, LeL.refl _, LeL.refl _, trivial⟩ | exact embV_le (.refl _) rfl | exact embV_leV (.refl _) rfl (Nat.lt_of_sub_pos (by exact Nat.zero_lt_succ _)) | exact ⟨rfl, rfl, rfl, rfl⟩ | exact ⟨rfl, rfl, rfl, rfl, id⟩ | exact ⟨rfl, rfl, rfl, rfl, rfl⟩ | exact ⟨rfl, rfl, rfl, rfl, nofun⟩ | exact tape_emb rfl | exact embO_le (LeL.refl _) rfl (Nat.lt_of_sub_pos (by exact Nat.zero_lt_succ _)) | exact ⟨rfl, rfl, fun _ _ => .refl _⟩ | (refine ⟨rfl, ?_⟩; simp; done) | (refine ⟨rfl, ?_⟩; omega) | refine ⟨?_, ?_⟩ | refine ⟨?_, ?_, ?_⟩), ⟨by (repeat' first | exact trivial | exact rfl | exact ⟨rfl, rfl⟩ | exact ⟨rfl, trivial⟩ | exact ⟨rfl, LeL.refl _, trivial⟩ | exact ⟨rfl, LeL.refl _, LeL.refl _, trivial⟩ | exact embV_le (.refl _) rfl | exact embV_leV (.refl _) rfl (Nat.lt_of_sub_pos (by exact Nat.zero_lt_succ _)) | exact ⟨rfl, rfl, rfl, rfl⟩ | exact ⟨rfl, rfl, rfl, rfl, id⟩ | exact ⟨rfl, rfl, rfl, rfl, rfl⟩ | exact ⟨rfl, rfl, rfl, rfl, nofun⟩ | exact tape_emb rfl | exact embO_le (LeL.refl _) rfl (Nat.lt_of_sub_pos (by exact Nat.zero_lt_succ _)) | exact ⟨rfl, rfl, fun _ _ => .refl _⟩ | (refine ⟨rfl, ?_⟩; simp; done) | (refine ⟨rfl, ?_⟩; omega) | refine ⟨?_, ?_⟩ | refine ⟨?_, ?_, ?_⟩), by (repeat' first | exact trivial | exact rfl | exact ⟨rfl, rfl⟩ | exact ⟨rfl, trivial⟩ | exact ⟨rfl, LeL.refl _, trivial⟩ | exact ⟨rfl, LeL.refl _, LeL.refl _, trivial⟩ | exact embV_le (.refl _) rfl | exact embV_leV (.refl _) rfl (Nat.lt_of_sub_pos (by exact Nat.zero_lt_succ _)) | exact ⟨rfl, rfl, rfl, rfl⟩ | exact ⟨rfl, rfl, rfl, rfl, id⟩ | exact ⟨rfl, rfl, rfl, rfl, rfl⟩ | exact ⟨rfl, rfl, rfl, rfl, nofun⟩ | exact tape_emb rfl | exact embO_le (LeL.refl _) rfl (Nat.lt_of_sub_pos (by exact Nat.zero_lt_succ _)) | exact ⟨rfl, rfl, fun _ _ => .refl _⟩ | (refine ⟨rfl, ?_⟩; simp; done) | (refine ⟨rfl, ?_⟩; omega) | refine ⟨?_, ?_⟩ | refine ⟨?_, ?_, ?_⟩), by (repeat' first | exact trivial | exact rfl | exact ⟨rfl, rfl⟩ | exact ⟨rfl, trivial⟩ | exact ⟨rfl, LeL.refl _, trivial⟩ | exact ⟨rfl, LeL.refl _, LeL.refl _, trivial⟩ | exact embV_le (.refl _) rfl | exact embV_leV (.refl _) rfl (Nat.lt_of_sub_pos (by exact Nat.zero_lt_succ _)) | exact ⟨rfl, rfl, rfl, rfl⟩ | exact ⟨rfl, rfl, rfl, rfl, id⟩ | exact ⟨rfl, rfl, rfl, rfl, rfl⟩ | exact ⟨rfl, rfl, rfl, rfl, nofun⟩ | exact tape_emb rfl | exact embO_le (LeL.refl _) rfl (Nat.lt_of_sub_pos (by exact Nat.zero_lt_succ _)) | exact ⟨rfl, rfl, fun _ _ => .refl _⟩ | (refine ⟨rfl, ?_⟩; simp; done) | (refine ⟨rfl, ?_⟩; omega) | refine ⟨?_, ?_⟩ | refine ⟨?_, ?_, ?_⟩), ⟨rfl, rfl, fun k _ => ?_⟩, by (repeat' first | exact trivial | exact rfl | exact ⟨rfl, rfl⟩ | exact ⟨rfl, trivial⟩ | exact ⟨rfl, LeL.refl _, trivial⟩ | exact ⟨rfl, LeL.refl _, LeL.refl _, trivial⟩ | exact embV_le (.refl _) rfl | exact embV_leV (.refl _) rfl (Nat.lt_of_sub_pos (by exact Nat.zero_lt_succ _)) | exact ⟨rfl, rfl, rfl, rfl⟩ | exact ⟨rfl, rfl, rfl, rfl, id⟩ | exact ⟨rfl, rfl, rfl, rfl, rfl⟩ | exact ⟨rfl, rfl, rfl, rfl, nofun⟩ | exact tape_emb rfl | exact embO_le (LeL.refl _) rfl (Nat.lt_of_sub_pos (by exact Nat.zero_lt_succ _)) | exact ⟨rfl, rfl, fun _ _ => .refl _⟩ | (refine ⟨rfl, ?_⟩; simp; done) | (refine ⟨rfl, ?_⟩; omega) | refine ⟨?_, ?_⟩ | refine ⟨?_, ?_, ?_⟩), trivial⟩⟩⟩
      rw [dInit, h2]
      exact .refl _
  · have hil : i = d.length := by have := of_decide_eq_false h; omega
    subst hil
    (conv => whnf)
    refine ⟨_, _, used_spec l d hv, ?_⟩; conv => whnf
    refine ⟨_, _, backward_spec l, ?_⟩; conv => whnf
    generalize hu : usedF l d = u at hul
    refine range_inv (ct := []) (ct' := []) cfgOK (by decide +kernel) (by decide +kernel) (by decide +kernel) (by decide +kernel) (back_iter l (by omega)) rfl (by intro v hv; simp at hv; exact ⟨_, hv⟩)
      (fun k => ⟨[(0, supsV l), (4, .ptr 0 0 0), (5, .ptr 1 0 0), (6, .ptr 2 0 0), (9, .ptr 5 0 0)], [(5, some (.box [boolsV u])), (0, some (.box [.osl 3 0 l.length true])), (1, some (.box [.osl 4 0 l.length true])), (2, some (.box [iV 0])), (3, some (.row 3 l.length (rowG demV dem0 (upN (dOne l u) l.length k (ds0 l d)).a))), (4, some (.row 1 l.length (rowG iV 0 (upN (dOne l u) l.length k (ds0 l d)).lv)))], 6⟩)
      (fun k => ⟨[(0, supsV l), (4, .ptr 0 0 0), (5, .ptr 1 0 0), (6, .ptr 2 0 0), (9, .ptr 5 0 0), (10, iV ((l.length - 1 - k : Nat) : Int)), (11, .ptr 6 0 0)], [(6, some (.box (supV (l.getD (l.length - 1 - k) sup0)).cells)), (5, some (.box [boolsV u])), (0, some (.box [.osl 3 0 l.length true])), (1, some (.box [.osl 4 0 l.length true])), (2, some (.box [iV 0])), (3, some (.row 3 l.length (rowG demV dem0 (upN (dOne l u) l.length k (ds0 l d)).a))), (4, some (.row 1 l.length (rowG iV 0 (upN (dOne l u) l.length k (ds0 l d)).lv)))], 7⟩)
      [(0, some 0), (1, some 1), (2, some 2), (3, some 3), (4, some 4), (5, some 9)] (by (repeat' first | exact trivial | exact rfl | exact ⟨rfl, rfl⟩ | exact ⟨rfl, trivial⟩ | exact ⟨rfl, LeL.refl _, trivial⟩ | exact ⟨rfl, LeL.refl _, LeL.refl _, trivial⟩ | exact embV_le (.refl _) rfl | exact embV_leV (.refl _) rfl (Nat.lt_of_sub_pos (by exact Nat.zero_lt_succ _)) | exact ⟨rfl, rfl, rfl, rfl⟩ | exact ⟨rfl, rfl, rfl, rfl, id⟩ | exact ⟨rfl, rfl, rfl, rfl, rfl⟩ | exact ⟨rfl, rfl, rfl, rfl, nofun⟩ | exact tape_emb rfl | exact embO_le (LeL.refl _) rfl (Nat.lt_of_sub_pos (by exact Nat.zero_lt_succ _)) | exact ⟨rfl, rfl, fun _ _ => .refl _⟩ | (refine ⟨rfl, ?_⟩; simp; done) | (refine ⟨rfl, ?_⟩; omega) | refine ⟨?_, ?_⟩ | refine ⟨?_, ?_, ?_⟩)) (fun k => ∀ j, j < k → dFail l u (l.length - 1 - j) (upN (dOne l u) l.length j (ds0 l d)) = false) (fun j hj => absurd hj (Nat.not_lt_zero j)) ?_ ?_ ?_
    · intro k y hk _
      refine ⟨Nat.zero_le _, ?_⟩
      (conv => whnf)
      exact ⟨[(6, some 7)], by (repeat' first | exact trivial | exact rfl | exact ⟨rfl, rfl⟩ | exact ⟨rfl, trivial⟩ | exact ⟨rfl, LeL.refl _, trivial⟩ | exact ⟨rfl, LeL.refl _, LeL.refl _, trivial⟩ | exact embV_le (.refl _) rfl | exact embV_leV (.refl _) rfl (Nat.lt_of_sub_pos (by exact Nat.zero_lt_succ _)) | exact ⟨rfl, rfl, rfl, rfl⟩ | exact ⟨rfl, rfl, rfl, rfl, id⟩ | exact ⟨rfl, rfl, rfl, rfl, rfl⟩ | exact ⟨rfl, rfl, rfl, rfl, nofun⟩ | exact tape_emb rfl | exact embO_le (LeL.refl _) rfl (Nat.lt_of_sub_pos (by exact Nat.zero_lt_succ _)) | exact ⟨rfl, rfl, fun _ _ => .refl _⟩ | (refine ⟨rfl, ?_⟩; simp; done) | (refine ⟨rfl, ?_⟩; omega) | refine ⟨?_, ?_⟩ | refine ⟨?_, ?_, ?_⟩)⟩
    · intro k y hk hinv
      have hok := up_ok l u d k
      have hdem := demN_up (u := u) (s := ds0 l d) (by omega : k ≤ l.length) hinv
      have hs := hv.sup (l.length - 1 - k) (by omega)
      have hlv := hv.lev (l.length - 1 - k) (by omega)
      have hup : upN (dOne l u) l.length (k + 1) (ds0 l d) = dOne l u (l.length - 1 - k) (upN (dOne l u) l.length k (ds0 l d)) := rfl
      have hnext : dFail l u (l.length - 1 - k) (upN (dOne l u) l.length k (ds0 l d)) = false → ∀ j, j < k + 1 → dFail l u (l.length - 1 - j) (upN (dOne l u) l.length j (ds0 l d)) = false := fun hb j hj => by
        by_cases hji : j = k
        · subst hji; exact hb
        · exact hinv j (by omega)
      have hfin : dFail l u (l.length - 1 - k) (upN (dOne l u) l.length k (ds0 l d)) = true → demF l d = (upN (dOne l u) l.length k (ds0 l d), ((l.length - 1 - k : Nat) : Int)) := fun hb => by
        unfold demF
        rw [hu, hdem, show l.length - k = (l.length - 1 - k) + 1 by omega, demN, hb]
        rfl
      rw [hup]
      generalize hi : l.length - 1 - k = i at hs hlv hnext hfin
      have hil : i < l.length := by omega
      generalize upN (dOne l u) l.length k (ds0 l d) = s at hok hnext hfin
      obtain ⟨ha, hl2⟩ := hok
      clear hdem hup hinv
      (conv => whnf)
      refine ⟨⟨by omega, by show (i : Int) < u.length; omega⟩, ?_⟩; conv => whnf
      refine bcase_of (fun h2 => ?_) (fun h2 => ?_)
      · have h2 : (!u.getD i false) = true := h2
        have hf : dFail l u i s = false := by unfold dFail; cases hu2 : u.getD i false with
          | true => rw [hu2] at h2; cases h2
          | false => rfl
        (conv => whnf)
        refine ⟨hnext hf, [], ⟨rfl, by (repeat' first | exact trivial | exact rfl | exact ⟨rfl, rfl⟩ | exact ⟨rfl, trivial⟩ | exact ⟨rfl, LeL.refl _, trivial⟩ | exact ⟨rfl, LeL.refl _, LeL.refl _, trivial⟩ | exact embV_le (.refl _) rfl | exact embV_leV (.refl _) rfl (Nat.lt_of_sub_pos (by exact Nat.zero_lt_succ _)) | exact ⟨rfl, rfl, rfl, rfl⟩ | exact ⟨rfl, rfl, rfl, rfl, id⟩ | exact ⟨rfl, rfl, rfl, rfl, rfl⟩ | exact ⟨rfl, rfl, rfl, rfl, nofun⟩ | exact tape_emb rfl | exact embO_le (LeL.refl _) rfl (Nat.lt_of_sub_pos (by exact Nat.zero_lt_succ _)) | exact ⟨rfl, rfl, fun _ _ => .refl _⟩ | (refine ⟨rfl, ?_⟩; simp; done) | (refine ⟨rfl, ?_⟩; omega) | refine ⟨?_, ?_⟩ | refine ⟨?_, ?_, ?_⟩), ?_⟩⟩
        unfold dOne
        rw [h2]
        (repeat' first | exact trivial | exact rfl | exact ⟨rfl, rfl⟩ | exact ⟨rfl, trivial⟩ | exact ⟨rfl, LeL.refl _, trivial⟩ | exact ⟨rfl, LeL.refl _, LeL.refl _, trivial⟩ | exact embV_le (.refl _) rfl | exact embV_leV (.refl _) rfl (Nat.lt_of_sub_pos (by exact Nat.zero_lt_succ _)) | exact ⟨rfl, rfl, rfl, rfl⟩ | exact ⟨rfl, rfl, rfl, rfl, id⟩ | exact ⟨rfl, rfl, rfl, rfl, rfl⟩ | exact ⟨rfl, rfl, rfl, rfl, nofun⟩ | exact tape_emb rfl | exact embO_le (LeL.refl _) rfl (Nat.lt_of_sub_pos (by exact Nat.zero_lt_succ _)) | exact ⟨rfl, rfl, fun _ _ => .refl _⟩ | (refine ⟨rfl, ?_⟩; simp; done) | (refine ⟨rfl, ?_⟩; omega) | refine ⟨?_, ?_⟩ | refine ⟨?_, ?_, ?_⟩)
      · have h2 : (!u.getD i false) = false := h2
        have hu2 : u.getD i false = true := by simpa using h2
        (conv => whnf)
        refine ⟨⟨by omega, by show (i : Int) < l.length; omega⟩, ?_⟩; conv => whnf
        refine ⟨_, _, level_spec (l.getD i sup0) (by omega) hlv (s.a.getD i dem0).volt, ?_⟩; conv => whnf
        refine bcase_of (fun h3 => ?_) (fun h3 => ?_)
        · have h3 : (!decide ((lvOf l i s : Int) < (l.getD i sup0).lev.length)) = true := h3
          have hf := hfin (by unfold dFail; rw [hu2, h3]; rfl)
          (conv => whnf)
          rw [hf]
          refine ⟨⟨embV_le (le_len ha.symm) rfl, embV_le (le_len hl2.symm) rfl, by (repeat' first | exact trivial | exact rfl | exact ⟨rfl, rfl⟩ | exact ⟨rfl, trivial⟩ | exact ⟨rfl, LeL.refl _, trivial⟩ | exact ⟨rfl, LeL.refl _, LeL.refl _, trivial⟩ | exact embV_le (.refl _) rfl | exact embV_leV (.refl _) rfl (Nat.lt_of_sub_pos (by exact Nat.zero_lt_succ _)) | exact ⟨rfl, rfl, rfl, rfl⟩ | exact ⟨rfl, rfl, rfl, rfl, id⟩ | exact ⟨rfl, rfl, rfl, rfl, rfl⟩ | exact ⟨rfl, rfl, rfl, rfl, nofun⟩ | exact tape_emb rfl | exact embO_le (LeL.refl _) rfl (Nat.lt_of_sub_pos (by exact Nat.zero_lt_succ _)) | exact ⟨rfl, rfl, fun _ _ => .refl _⟩ | (refine ⟨rfl, ?_⟩; simp; done) | (refine ⟨rfl, ?_⟩; omega) | refine ⟨?_, ?_⟩ | refine ⟨?_, ?_, ?_⟩), trivial⟩, trivial⟩
        · have h3 : (!decide ((lvOf l i s : Int) < (l.getD i sup0).lev.length)) = false := h3
          have hf : dFail l u i s = false := by unfold dFail; rw [hu2, h3]; rfl
          have hlt : lvOf l i s < (l.getD i sup0).lev.length := by rw [Bool.not_eq_false'] at h3; have := of_decide_eq_true h3; omega
          have hvb := asc_get hlv (lvOf l i s) hlt
          (conv => whnf)
          refine ⟨⟨by omega, by show (i : Int) < l.length; omega⟩, ?_⟩; conv => whnf
          refine ⟨⟨by omega, by show ((lvOf l i s : Nat) : Int) < ((l.getD i sup0).lev.length : Int); omega⟩, ?_⟩; conv => whnf
          refine ⟨by show InI64 ((l.getD i sup0).lev.getD (lvOf l i s) 0 + (l.getD i sup0).drop); unfold InI64; omega, ?_⟩; conv => whnf
          refine ⟨fun hg => ⟨by have hg : decide (0 ≤ (l.getD i sup0).par) = true := hg; exact of_decide_eq_true hg, by show (l.getD i sup0).par < (l.length : Int); omega⟩, ?_⟩; conv => whnf
          refine bcase_of (fun h4 => ?_) (fun h4 => ?_)
          · have h4 : (decide (0 ≤ (l.getD i sup0).par) && decide ((s.a.getD (l.getD i sup0).par.toNat dem0).volt < needOf l i s)) = true := h4
            have hp : 0 ≤ (l.getD i sup0).par := by simp only [Bool.and_eq_true] at h4; exact of_decide_eq_true h4.1
            (conv => whnf)
            refine ⟨⟨hp, by show (l.getD i sup0).par < (l.length : Int); omega⟩, ?_⟩; conv => whnf
            refine ⟨hnext hf, [], ⟨rfl, by (repeat' first | exact trivial | exact rfl | exact ⟨rfl, rfl⟩ | exact ⟨rfl, trivial⟩ | exact ⟨rfl, LeL.refl _, trivial⟩ | exact ⟨rfl, LeL.refl _, LeL.refl _, trivial⟩ | exact embV_le (.refl _) rfl | exact embV_leV (.refl _) rfl (Nat.lt_of_sub_pos (by exact Nat.zero_lt_succ _)) | exact ⟨rfl, rfl, rfl, rfl⟩ | exact ⟨rfl, rfl, rfl, rfl, id⟩ | exact ⟨rfl, rfl, rfl, rfl, rfl⟩ | exact ⟨rfl, rfl, rfl, rfl, nofun⟩ | exact tape_emb rfl | exact embO_le (LeL.refl _) rfl (Nat.lt_of_sub_pos (by exact Nat.zero_lt_succ _)) | exact ⟨rfl, rfl, fun _ _ => .refl _⟩ | (refine ⟨rfl, ?_⟩; simp; done) | (refine ⟨rfl, ?_⟩; omega) | refine ⟨?_, ?_⟩ | refine ⟨?_, ?_, ?_⟩), ?_⟩⟩
            unfold dOne
            rw [h2, h4]
            refine ⟨by (repeat' first | exact trivial | exact rfl | exact ⟨rfl, rfl⟩ | exact ⟨rfl, trivial⟩ | exact ⟨rfl, LeL.refl _, trivial⟩ | exact ⟨rfl, LeL.refl _, LeL.refl _, trivial⟩ | exact embV_le (.refl _) rfl | exact embV_leV (.refl _) rfl (Nat.lt_of_sub_pos (by exact Nat.zero_lt_succ _)) | exact ⟨rfl, rfl, rfl, rfl⟩ | exact ⟨rfl, rfl, rfl, rfl, id⟩ | exact ⟨rfl, rfl, rfl, rfl, rfl⟩ | exact ⟨rfl, rfl, rfl, rfl, nofun⟩ | exact tape_emb rfl | exact embO_le (LeL.refl _) rfl (Nat.lt_of_sub_pos (by exact Nat.zero_lt_succ _)) | exact ⟨rfl, rfl, fun _ _ => .refl _⟩ | (refine ⟨rfl, ?_⟩; simp; done) | (refine ⟨rfl, ?_⟩; omega) | refine ⟨?_, ?_⟩ | refine ⟨?_, ?_, ?_⟩), by (repeat' first | exact trivial | exact rfl | exact ⟨rfl, rfl⟩ | exact ⟨rfl, trivial⟩ | exact ⟨rfl, LeL.refl _, trivial⟩ | exact ⟨rfl, LeL.refl _, LeL.refl _, trivial⟩ | exact embV_le (.refl _) rfl | exact embV_leV (.refl _) rfl (Nat.lt_of_sub_pos (by exact Nat.zero_lt_succ _)) | exact ⟨rfl, rfl, rfl, rfl⟩ | exact ⟨rfl, rfl, rfl, rfl, id⟩ | exact ⟨rfl, rfl, rfl, rfl, rfl⟩ | exact ⟨rfl, rfl, rfl, rfl, nofun⟩ | exact tape_emb rfl | exact embO_le (LeL.refl _) rfl (Nat.lt_of_sub_pos (by exact Nat.zero_lt_succ _)) | exact ⟨rfl, rfl, fun _ _ => .refl _⟩ | (refine ⟨rfl, ?_⟩; simp; done) | (refine ⟨rfl, ?_⟩; omega) | refine ⟨?_, ?_⟩ | refine ⟨?_, ?_, ?_⟩), by (repeat' first | exact trivial | exact rfl | exact ⟨rfl, rfl⟩ | exact ⟨rfl, trivial⟩ | exact ⟨rfl, LeL.refl _, trivial⟩ | exact ⟨rfl, LeL.refl _, LeL.refl _, trivial⟩ | exact embV_le (.refl _) rfl | exact embV_leV (.refl _) rfl (Nat.lt_of_sub_pos (by exact Nat.zero_lt_succ _)) | exact ⟨rfl, rfl, rfl, rfl⟩ | exact ⟨rfl, rfl, rfl, rfl, id⟩ | exact ⟨rfl, rfl, rfl, rfl, rfl⟩ | exact ⟨rfl, rfl, rfl, rfl, nofun⟩ | exact tape_emb rfl | exact embO_le (LeL.refl _) rfl (Nat.lt_of_sub_pos (by exact Nat.zero_lt_succ _)) | exact ⟨rfl, rfl, fun _ _ => .refl _⟩ | (refine ⟨rfl, ?_⟩; simp; done) | (refine ⟨rfl, ?_⟩; omega) | refine ⟨?_, ?_⟩ | refine ⟨?_, ?_, ?_⟩), by (repeat' first | exact trivial | exact rfl | exact ⟨rfl, rfl⟩ | exact ⟨rfl, trivial⟩ | exact ⟨rfl, LeL.refl _, trivial⟩ | exact ⟨rfl, LeL.refl _, LeL.refl _, trivial⟩ | exact embV_le (.refl _) rfl | exact embV_leV (.refl _) rfl (Nat.lt_of_sub_pos (by exact Nat.zero_lt_succ _)) | exact ⟨rfl, rfl, rfl, rfl⟩ | exact ⟨rfl, rfl, rfl, rfl, id⟩ | exact ⟨rfl, rfl, rfl, rfl, rfl⟩ | exact ⟨rfl, rfl, rfl, rfl, nofun⟩ | exact tape_emb rfl | exact embO_le (LeL.refl _) rfl (Nat.lt_of_sub_pos (by exact Nat.zero_lt_succ _)) | exact ⟨rfl, rfl, fun _ _ => .refl _⟩ | (refine ⟨rfl, ?_⟩; simp; done) | (refine ⟨rfl, ?_⟩; omega) | refine ⟨?_, ?_⟩ | refine ⟨?_, ?_, ?_⟩), ⟨rfl, rfl, fun q _ => ?_⟩, ⟨rfl, rfl, fun q _ => ?_⟩, trivial⟩
            · exact le_set (l := s.a) (i := (l.getD i sup0).par.toNat) (v := ⟨needOf l i s, -1, i⟩) (by omega) rfl (.refl _) q
            · exact le_set (l := s.lv) (i := i) (v := (lvOf l i s : Int)) (by omega) rfl (.refl _) q
          · have h4 : (decide (0 ≤ (l.getD i sup0).par) && decide ((s.a.getD (l.getD i sup0).par.toNat dem0).volt < needOf l i s)) = false := h4
            (conv => whnf)
            refine ⟨hnext hf, [], ⟨rfl, by (repeat' first | exact trivial | exact rfl | exact ⟨rfl, rfl⟩ | exact ⟨rfl, trivial⟩ | exact ⟨rfl, LeL.refl _, trivial⟩ | exact ⟨rfl, LeL.refl _, LeL.refl _, trivial⟩ | exact embV_le (.refl _) rfl | exact embV_leV (.refl _) rfl (Nat.lt_of_sub_pos (by exact Nat.zero_lt_succ _)) | exact ⟨rfl, rfl, rfl, rfl⟩ | exact ⟨rfl, rfl, rfl, rfl, id⟩ | exact ⟨rfl, rfl, rfl, rfl, rfl⟩ | exact ⟨rfl, rfl, rfl, rfl, nofun⟩ | exact tape_emb rfl | exact embO_le (LeL.refl _) rfl (Nat.lt_of_sub_pos (by exact Nat.zero_lt_succ _)) | exact ⟨rfl, rfl, fun _ _ => .refl _⟩ | (refine ⟨rfl, ?_⟩; simp; done) | (refine ⟨rfl, ?_⟩; omega) | refine ⟨?_, ?_⟩ | refine ⟨?_, ?_, ?_⟩), ?_⟩⟩
            unfold dOne
            rw [h2, h4]
            refine ⟨by (repeat' first | exact trivial | exact rfl | exact ⟨rfl, rfl⟩ | exact ⟨rfl, trivial⟩ | exact ⟨rfl, LeL.refl _, trivial⟩ | exact ⟨rfl, LeL.refl _, LeL.refl _, trivial⟩ | exact embV_le (.refl _) rfl | exact embV_leV (.refl _) rfl (Nat.lt_of_sub_pos (by exact Nat.zero_lt_succ _)) | exact ⟨rfl, rfl, rfl, rfl⟩ | exact ⟨rfl, rfl, rfl, rfl, id⟩ | exact ⟨rfl, rfl, rfl, rfl, rfl⟩ | exact ⟨rfl, rfl, rfl, rfl, nofun⟩ | exact tape_emb rfl | exact embO_le (LeL.refl _) rfl (Nat.lt_of_sub_pos (by exact Nat.zero_lt_succ _)) | exact ⟨rfl, rfl, fun _ _ => .refl _⟩ | (refine ⟨rfl, ?_⟩; simp; done) | (refine ⟨rfl, ?_⟩; omega) | refine ⟨?_, ?_⟩ | refine ⟨?_, ?_, ?_⟩), by (repeat' first | exact trivial | exact rfl | exact ⟨rfl, rfl⟩ | exact ⟨rfl, trivial⟩ | exact ⟨rfl, LeL.refl _, trivial⟩ | exact ⟨rfl, LeL.refl _, LeL.refl _, trivial⟩ | exact embV_le (.refl _) rfl | exact embV_leV (.refl _) rfl (Nat.lt_of_sub_pos (by exact Nat.zero_lt_succ _)) | exact ⟨rfl, rfl, rfl, rfl⟩ | exact ⟨rfl, rfl, rfl, rfl, id⟩ | exact ⟨rfl, rfl, rfl, rfl, rfl⟩ | exact ⟨rfl, rfl, rfl, rfl, nofun⟩ | exact tape_emb rfl | exact embO_le (LeL.refl _) rfl (Nat.lt_of_sub_pos (by exact Nat.zero_lt_succ _)) | exact ⟨rfl, rfl, fun _ _ => .refl _⟩ | (refine ⟨rfl, ?_⟩; simp; done) | (refine ⟨rfl, ?_⟩; omega) | refine ⟨?_, ?_⟩ | refine ⟨?_, ?_, ?_⟩), by (repeat' first | exact trivial | exact rfl | exact ⟨rfl, rfl⟩ | exact ⟨rfl, trivial⟩ | exact ⟨rfl, LeL.refl _, trivial⟩ | exact ⟨rfl, LeL.refl _, LeL.refl _, trivial⟩ | exact embV_le (.refl _) rfl | exact embV_leV (.refl _) rfl (Nat.lt_of_sub_pos (by exact Nat.zero_lt_succ _)) | exact ⟨rfl, rfl, rfl, rfl⟩ | exact ⟨rfl, rfl, rfl, rfl, id⟩ | exact ⟨rfl, rfl, rfl, rfl, rfl⟩ | exact ⟨rfl, rfl, rfl, rfl, nofun⟩ | exact tape_emb rfl | exact embO_le (LeL.refl _) rfl (Nat.lt_of_sub_pos (by exact Nat.zero_lt_succ _)) | exact ⟨rfl, rfl, fun _ _ => .refl _⟩ | (refine ⟨rfl, ?_⟩; simp; done) | (refine ⟨rfl, ?_⟩; omega) | refine ⟨?_, ?_⟩ | refine ⟨?_, ?_, ?_⟩), by (repeat' first | exact trivial | exact rfl | exact ⟨rfl, rfl⟩ | exact ⟨rfl, trivial⟩ | exact ⟨rfl, LeL.refl _, trivial⟩ | exact ⟨rfl, LeL.refl _, LeL.refl _, trivial⟩ | exact embV_le (.refl _) rfl | exact embV_leV (.refl _) rfl (Nat.lt_of_sub_pos (by exact Nat.zero_lt_succ _)) | exact ⟨rfl, rfl, rfl, rfl⟩ | exact ⟨rfl, rfl, rfl, rfl, id⟩ | exact ⟨rfl, rfl, rfl, rfl, rfl⟩ | exact ⟨rfl, rfl, rfl, rfl, nofun⟩ | exact tape_emb rfl | exact embO_le (LeL.refl _) rfl (Nat.lt_of_sub_pos (by exact Nat.zero_lt_succ _)) | exact ⟨rfl, rfl, fun _ _ => .refl _⟩ | (refine ⟨rfl, ?_⟩; simp; done) | (refine ⟨rfl, ?_⟩; omega) | refine ⟨?_, ?_⟩ | refine ⟨?_, ?_, ?_⟩), ⟨rfl, rfl, fun q _ => ?_⟩, ⟨rfl, rfl, fun q _ => ?_⟩, trivial⟩
            · exact .refl _
            · exact le_set (l := s.lv) (i := i) (v := (lvOf l i s : Int)) (by omega) rfl (.refl _) q
    · intro hinv
      have hok := up_ok l u d l.length
      have hdem := demN_up (u := u) (s := ds0 l d) (Nat.le_refl _) hinv
      have hf : demF l d = (upN (dOne l u) l.length l.length (ds0 l d), -1) := by
        unfold demF
        rw [hu, hdem, Nat.sub_self]
        rfl
      rw [hf]
      generalize upN (dOne l u) l.length l.length (ds0 l d) = s at hok
      (conv => whnf)
      exact ⟨⟨embV_le (le_len hok.al.symm) rfl, embV_le (le_len hok.ll.symm) rfl, by (repeat' first | exact trivial | exact rfl | exact ⟨rfl, rfl⟩ | exact ⟨rfl, trivial⟩ | exact ⟨rfl, LeL.refl _, trivial⟩ | exact ⟨rfl, LeL.refl _, LeL.refl _, trivial⟩ | exact embV_le (.refl _) rfl | exact embV_leV (.refl _) rfl (Nat.lt_of_sub_pos (by exact Nat.zero_lt_succ _)) | exact ⟨rfl, rfl, rfl, rfl⟩ | exact ⟨rfl, rfl, rfl, rfl, id⟩ | exact ⟨rfl, rfl, rfl, rfl, rfl⟩ | exact ⟨rfl, rfl, rfl, rfl, nofun⟩ | exact tape_emb rfl | exact embO_le (LeL.refl _) rfl (Nat.lt_of_sub_pos (by exact Nat.zero_lt_succ _)) | exact ⟨rfl, rfl, fun _ _ => .refl _⟩ | (refine ⟨rfl, ?_⟩; simp; done) | (refine ⟨rfl, ?_⟩; omega) | refine ⟨?_, ?_⟩ | refine ⟨?_, ?_, ?_⟩), trivial⟩, trivial⟩

end Go.Proofs.Ytjmhlbogkeohpaa

namespace Go.Proofs.Ytjmhlbogkeohpaa
open Go.Ab
set_option maxRecDepth 100000

def rls0 : Rls := ⟨[], []⟩
def leastF (l : List Sup) (d : List Drw) : Rls × Int :=
  bif beginF l d != 0 then (rls0, beginF l d)
  else bif decide (0 ≤ (demF l d).2) || !meetsF l ⟨usedF l d, (demF l d).1.lv⟩ d then (rls0, 9) else (⟨usedF l d, (demF l d).1.lv⟩, 0)

theorem least_spec (l : List Sup) (hl : l.length ≤ 1000000) (d : List Drw) (hd : d.length ≤ 1000000) : S 15 [supsV l, drwsV d] [] (.tup [rlsV (leastF l d).1, iV (leastF l d).2]) [] := by
  refine spec_of_x (ct := []) cfgOK Try.func15 rfl rfl (Nat.le_of_ble_eq_true rfl) (by decide +kernel) (Nat.zero_le _) ?_; conv => whnf
  refine ⟨_, _, begin_spec l hl d hd, ?_⟩; conv => whnf
  unfold leastF
  refine bcase_of (fun h => ?_) (fun h => ?_)
  · have h : (beginF l d != 0) = true := h
    (conv => whnf)
    rw [h]
    exact ⟨⟨⟨embV_le le_nil rfl, embV_le le_nil rfl, trivial⟩, ⟨rfl, rfl⟩, trivial⟩, trivial⟩
  · have h : (beginF l d != 0) = false := h
    have h0 : beginF l d = 0 := by simpa using h
    have hv := vld_of (begin_ok h0)
    rw [h]
    (conv => whnf)
    refine ⟨_, _, demands_spec l d hv, ?_⟩; conv => whnf
    refine ⟨_, _, used_spec l d hv, ?_⟩; conv => whnf
    refine ⟨_, _, fun _ => meets_spec l hl ⟨usedF l d, (demF l d).1.lv⟩ d hd, ?_⟩; conv => whnf
    refine bcase_of (fun h2 => ?_) (fun h2 => ?_)
    · have h2 : (decide (0 ≤ (demF l d).2) || !meetsF l ⟨usedF l d, (demF l d).1.lv⟩ d) = true := h2
      (conv => whnf)
      rw [h2]
      exact ⟨⟨⟨embV_le le_nil rfl, embV_le le_nil rfl, trivial⟩, ⟨rfl, rfl⟩, trivial⟩, trivial⟩
    · have h2 : (decide (0 ≤ (demF l d).2) || !meetsF l ⟨usedF l d, (demF l d).1.lv⟩ d) = false := h2
      (conv => whnf)
      rw [h2]
      exact ⟨⟨⟨embV_le (.refl _) rfl, embV_le (.refl _) rfl, trivial⟩, ⟨rfl, rfl⟩, trivial⟩, trivial⟩

def rv (v : List Int) (k : Nat) : List Int := (List.range v.length).map (fun q => if q < k ∨ v.length - k ≤ q then v.getD (v.length - 1 - q) 0 else v.getD q 0)
theorem rv_len (v : List Int) (k : Nat) : (rv v k).length = v.length := by simp [rv]
theorem rv_get (v : List Int) (k q : Nat) (h : q < v.length) : (rv v k).getD q 0 = if q < k ∨ v.length - k ≤ q then v.getD (v.length - 1 - q) 0 else v.getD q 0 := by
  unfold rv
  rw [List.getD_eq_getElem?_getD, List.getElem?_map, List.getElem?_range h]
  rfl

theorem rev_get (v : List Int) (q : Nat) (h : q < v.length) : v.reverse.getD q 0 = v.getD (v.length - 1 - q) 0 := by
  rw [List.getD_eq_getElem?_getD, List.getD_eq_getElem?_getD, List.getElem?_reverse h]

theorem reverse_spec (v : List Int) (hv : v.length ≤ 1000000) (f : Bool) : S 72 [.osl 0 0 v.length f] [.row 1 v.length (rowG iV 0 v)] (.tup []) [.row 1 v.length (rowG iV 0 v.reverse)] := by
  refine spec_of_x (ct := []) cfgOK Try.func72 rfl rfl (Nat.le_of_ble_eq_true rfl) (by decide +kernel) (Nat.le_refl _) ?_; conv => whnf
  (refine ⟨by intros; first | omega | (unfold InI64; omega) | (simp only [List.length_append, List.length_cons, List.length_nil, List.length_set]; omega), ?_⟩; conv => whnf)
  refine loops_intro (ct := []) cfgOK (by decide +kernel) (fun k : Nat => ⟨[(0, .osl 0 0 v.length f), (2, iV k), (3, iV ((v.length : Int) - 1 - k))], [(0, some (.row 1 v.length (rowG iV 0 (rv v k))))], 1⟩) (fun k => 2 * k ≤ v.length + 1) (fun k => v.length - k) 0 [] (by omega) ?_ ?_
  · refine ⟨rfl, ⟨⟨rfl, rfl, rfl, rfl, id⟩, by (repeat' first | exact trivial | exact rfl | exact ⟨rfl, rfl⟩ | exact ⟨rfl, trivial⟩ | exact ⟨rfl, LeL.refl _, trivial⟩ | exact ⟨rfl, LeL.refl _, LeL.refl _, trivial⟩ | exact embV_le (.refl _) rfl | exact embV_leV (.refl _) rfl (Nat.lt_of_sub_pos (by exact Nat.zero_lt_succ _)) | exact ⟨rfl, rfl, rfl, rfl⟩ | exact ⟨rfl, rfl, rfl, rfl, id⟩ | exact ⟨rfl, rfl, rfl, rfl, rfl⟩ | exact ⟨rfl, rfl, rfl, rfl, nofun⟩ | exact tape_emb rfl | exact embO_le (LeL.refl _) rfl (Nat.lt_of_sub_pos (by exact Nat.zero_lt_succ _)) | exact ⟨rfl, rfl, fun _ _ => .refl _⟩ | (refine ⟨rfl, ?_⟩; simp; done) | (refine ⟨rfl, ?_⟩; omega) | refine ⟨?_, ?_⟩ | refine ⟨?_, ?_, ?_⟩), by (repeat' first | exact trivial | exact rfl | exact ⟨rfl, rfl⟩ | exact ⟨rfl, trivial⟩ | exact ⟨rfl, LeL.refl _, trivial⟩ | exact ⟨rfl, LeL.refl _, LeL.refl _, trivial⟩ | exact embV_le (.refl _) rfl | exact embV_leV (.refl _) rfl (Nat.lt_of_sub_pos (by exact Nat.zero_lt_succ _)) | exact ⟨rfl, rfl, rfl, rfl⟩ | exact ⟨rfl, rfl, rfl, rfl, id⟩ | exact ⟨rfl, rfl, rfl, rfl, rfl⟩ | exact ⟨rfl, rfl, rfl, rfl, nofun⟩ | exact tape_emb rfl | exact embO_le (LeL.refl _) rfl (Nat.lt_of_sub_pos (by exact Nat.zero_lt_succ _)) | exact ⟨rfl, rfl, fun _ _ => .refl _⟩ | (refine ⟨rfl, ?_⟩; simp; done) | (refine ⟨rfl, ?_⟩; omega) | refine ⟨?_, ?_⟩ | refine ⟨?_, ?_, ?_⟩), trivial⟩, ⟨⟨rfl, rfl, fun q hq => ?_⟩, trivial⟩⟩
    show Le (iV (v.getD q 0)) (iV ((rv v 0).getD q 0))
    rw [rv_get v 0 q hq, if_neg (by omega)]
    exact .refl _
  intro k hk
  (conv => whnf)
  refine bcase_of (fun h => ?_) (fun h => ?_)
  · have hlt : 2 * k + 1 < v.length := by have h : decide ((k : Int) < (v.length : Int) - 1 - k) = true := h; have := of_decide_eq_true h; omega
    have hjc : (v.length : Int) - 1 - k = ((v.length - 1 - k : Nat) : Int) := by omega
    rw [hjc]
    (conv => whnf)
    refine ⟨⟨by omega, by show ((v.length - 1 - k : Nat) : Int) < (v.length : Int); omega⟩, ?_⟩; conv => whnf
    refine ⟨⟨by omega, by show (k : Int) < (v.length : Int); omega⟩, ?_⟩; conv => whnf
    refine ⟨⟨by omega, by show (k : Int) < (v.length : Int); omega⟩, ?_⟩; conv => whnf
    refine ⟨⟨by omega, by show ((v.length - 1 - k : Nat) : Int) < (v.length : Int); omega⟩, ?_⟩; conv => whnf
    (refine ⟨by intros; first | omega | (unfold InI64; omega) | (simp only [List.length_append, List.length_cons, List.length_nil, List.length_set]; omega), ?_⟩; conv => whnf)
    (refine ⟨by intros; first | omega | (unfold InI64; omega) | (simp only [List.length_append, List.length_cons, List.length_nil, List.length_set]; omega), ?_⟩; conv => whnf)
    refine ⟨k + 1, [], by omega, by omega, ⟨rfl, ⟨⟨rfl, rfl, rfl, rfl, id⟩, ⟨rfl, by simp⟩, ⟨rfl, by show ((v.length - 1 - k : Nat) : Int) - 1 = (v.length : Int) - 1 - ((k + 1 : Nat) : Int); omega⟩, trivial⟩, ⟨⟨rfl, rfl, fun q hq => ?_⟩, trivial⟩⟩⟩
    have hq : q < v.length := hq
    have e1 : setG (rowG iV 0 (rv v k)) k (iV ((rv v k).getD (v.length - 1 - k) 0)) (v.length - 1 - k) = iV ((rv v k).getD (v.length - 1 - k) 0) := by
      unfold setG
      cases hb : Nat.beq (v.length - 1 - k) k with
      | true => rfl
      | false => rfl
    show Le (setG (setG (rowG iV 0 (rv v k)) k (iV ((rv v k).getD (v.length - 1 - k) 0))) (v.length - 1 - k) (match setG (rowG iV 0 (rv v k)) k (iV ((rv v k).getD (v.length - 1 - k) 0)) (v.length - 1 - k) with | .agg cs => .agg (putL 0 (iV ((rv v k).getD k 0)).cells cs) | _ => iV ((rv v k).getD k 0)) q) (iV ((rv v (k + 1)).getD q 0))
    rw [e1]
    unfold setG
    rw [rv_get v (k + 1) q hq]
    cases hb : Nat.beq q (v.length - 1 - k) with
    | true =>
      have := Nat.eq_of_beq_eq_true hb
      simp only [cond_true]
      rw [rv_get v k k (by omega), if_neg (by omega), if_pos (by omega), show v.length - 1 - q = k by omega]
      exact .refl _
    | false =>
      have hne : q ≠ v.length - 1 - k := fun e => by rw [e] at hb; simp at hb
      simp only [cond_false]
      cases hb2 : Nat.beq q k with
      | true =>
        have := Nat.eq_of_beq_eq_true hb2
        simp only [cond_true]
        rw [rv_get v k _ (by omega), if_neg (by omega), if_pos (by omega), this]
        exact .refl _
      | false =>
        have hne2 : q ≠ k := fun e => by rw [e] at hb2; simp at hb2
        simp only [cond_false]
        unfold rowG
        rw [rv_get v k q hq]
        by_cases hc : q < k ∨ v.length - k ≤ q
        · rw [if_pos hc, if_pos (by omega)]
          exact .refl _
        · rw [if_neg hc, if_neg (by omega)]
          exact .refl _
  · have hlt : v.length ≤ 2 * k + 1 := by have h : decide ((k : Int) < (v.length : Int) - 1 - k) = false := h; have := of_decide_eq_false h; omega
    (conv => whnf)
    refine ⟨trivial, ⟨rfl, rfl, fun q hq => ?_⟩, trivial⟩
    have hq : q < v.length := hq
    show Le (iV ((rv v k).getD q 0)) (iV (v.reverse.getD q 0))
    rw [rv_get v k q hq, rev_get v q hq]
    by_cases hc : q < k ∨ v.length - k ≤ q
    · rw [if_pos hc]
      exact .refl _
    · rw [if_neg hc, show v.length - 1 - q = q by omega]
      exact .refl _

def chainN : Nat → List Dem → Int → List Int → Int → List Int × Int
  | 0, _, _, acc, fst => (acc, fst)
  | f + 1, a, at_, acc, fst => bif decide (0 ≤ at_) then chainN f a (a.getD at_.toNat dem0).child (acc ++ [at_]) (a.getD at_.toNat dem0).draw else (acc, fst)
def chainF (a : List Dem) (to last : Int) : Chn := ⟨false, (chainN (a.length + 1) a to [] (-1)).1.reverse, (chainN (a.length + 1) a to [] (-1)).2, last⟩

def ChildOk (a : List Dem) : Prop := ∀ j, j < a.length → (a.getD j dem0).child < 0 ∨ (j : Int) < (a.getD j dem0).child ∧ (a.getD j dem0).child < a.length

set_option maxHeartbeats 4000000 in
theorem chain_spec (a : List Dem) (ha : a.length ≤ 100000) (hc : ChildOk a) (to last : Int) (hto : to < a.length) : S 54 [demsV a, iV to, iV last] [] (chnV (chainF a to last)) [] := by
  refine spec_of_x (ct := []) cfgOK Try.func54 rfl rfl (Nat.le_of_ble_eq_true rfl) (by decide +kernel) (Nat.zero_le _) ?_; conv => whnf
  refine loops_intro (ct := [7]) cfgOK (by decide +kernel) (fun g : Nat × Int × List Int × Int => ⟨[(0, demsV a), (6, .ptr 0 0 0), (7, .ptr 1 0 0), (8, iV g.2.1)], [(0, some (.box [.bool false, .sl 0 0 true nilG, iV 0, iV 0])), (1, some (.box [.bool false, .osl 2 0 g.2.2.1.length false, iV g.2.2.2, iV last])), (2, some (.row 1 g.2.2.1.length (rowG iV 0 g.2.2.1)))], 3⟩)
    (fun g => g.2.2.1.length + g.1 ≤ a.length + 1 ∧ g.2.1 < a.length ∧ (0 ≤ g.2.1 → (a.length : Int) - g.2.1 ≤ g.1) ∧ chainN g.1 a g.2.1 g.2.2.1 g.2.2.2 = chainN (a.length + 1) a to [] (-1)) (fun g => g.1) (a.length + 1, to, [], -1) [(0, some 0), (1, some 3), (2, none)] ⟨by show 0 + (a.length + 1) ≤ a.length + 1; omega, hto, by intro h; show (a.length : Int) - to ≤ ((a.length + 1 : Nat) : Int); have h : 0 ≤ to := h; omega, rfl⟩ ?_ ?_
  · refine ⟨rfl, by (repeat' first | exact trivial | exact rfl | exact ⟨rfl, rfl⟩ | exact ⟨rfl, trivial⟩ | exact ⟨rfl, LeL.refl _, trivial⟩ | exact ⟨rfl, LeL.refl _, LeL.refl _, trivial⟩ | exact embV_le (.refl _) rfl | exact embV_leV (.refl _) rfl (Nat.lt_of_sub_pos (by exact Nat.zero_lt_succ _)) | exact ⟨rfl, rfl, rfl, rfl⟩ | exact ⟨rfl, rfl, rfl, rfl, id⟩ | exact ⟨rfl, rfl, rfl, rfl, rfl⟩ | exact ⟨rfl, rfl, rfl, rfl, nofun⟩ | exact tape_emb rfl | exact embO_le (LeL.refl _) rfl (Nat.lt_of_sub_pos (by exact Nat.zero_lt_succ _)) | exact ⟨rfl, rfl, fun _ _ => .refl _⟩ | (refine ⟨rfl, ?_⟩; simp; done) | (refine ⟨rfl, ?_⟩; omega) | refine ⟨?_, ?_⟩ | refine ⟨?_, ?_, ?_⟩), ⟨by (repeat' first | exact trivial | exact rfl | exact ⟨rfl, rfl⟩ | exact ⟨rfl, trivial⟩ | exact ⟨rfl, LeL.refl _, trivial⟩ | exact ⟨rfl, LeL.refl _, LeL.refl _, trivial⟩ | exact embV_le (.refl _) rfl | exact embV_leV (.refl _) rfl (Nat.lt_of_sub_pos (by exact Nat.zero_lt_succ _)) | exact ⟨rfl, rfl, rfl, rfl⟩ | exact ⟨rfl, rfl, rfl, rfl, id⟩ | exact ⟨rfl, rfl, rfl, rfl, rfl⟩ | exact ⟨rfl, rfl, rfl, rfl, nofun⟩ | exact tape_emb rfl | exact embO_le (LeL.refl _) rfl (Nat.lt_of_sub_pos (by exact Nat.zero_lt_succ _)) | exact ⟨rfl, rfl, fun _ _ => .refl _⟩ | (refine ⟨rfl, ?_⟩; simp; done) | (refine ⟨rfl, ?_⟩; omega) | refine ⟨?_, ?_⟩ | refine ⟨?_, ?_, ?_⟩), by (repeat' first | exact trivial | exact rfl | exact ⟨rfl, rfl⟩ | exact ⟨rfl, trivial⟩ | exact ⟨rfl, LeL.refl _, trivial⟩ | exact ⟨rfl, LeL.refl _, LeL.refl _, trivial⟩ | exact embV_le (.refl _) rfl | exact embV_leV (.refl _) rfl (Nat.lt_of_sub_pos (by exact Nat.zero_lt_succ _)) | exact ⟨rfl, rfl, rfl, rfl⟩ | exact ⟨rfl, rfl, rfl, rfl, id⟩ | exact ⟨rfl, rfl, rfl, rfl, rfl⟩ | exact ⟨rfl, rfl, rfl, rfl, nofun⟩ | exact tape_emb rfl | exact embO_le (LeL.refl _) rfl (Nat.lt_of_sub_pos (by exact Nat.zero_lt_succ _)) | exact ⟨rfl, rfl, fun _ _ => .refl _⟩ | (refine ⟨rfl, ?_⟩; simp; done) | (refine ⟨rfl, ?_⟩; omega) | refine ⟨?_, ?_⟩ | refine ⟨?_, ?_, ?_⟩), by (repeat' first | exact trivial | exact rfl | exact ⟨rfl, rfl⟩ | exact ⟨rfl, trivial⟩ | exact ⟨rfl, LeL.refl _, trivial⟩ | exact ⟨rfl, LeL.refl _, LeL.refl _, trivial⟩ | exact embV_le (.refl _) rfl | exact embV_leV (.refl _) rfl (Nat.lt_of_sub_pos (by exact Nat.zero_lt_succ _)) | exact ⟨rfl, rfl, rfl, rfl⟩ | exact ⟨rfl, rfl, rfl, rfl, id⟩ | exact ⟨rfl, rfl, rfl, rfl, rfl⟩ | exact ⟨rfl, rfl, rfl, rfl, nofun⟩ | exact tape_emb rfl | exact embO_le (LeL.refl _) rfl (Nat.lt_of_sub_pos (by exact Nat.zero_lt_succ _)) | exact ⟨rfl, rfl, fun _ _ => .refl _⟩ | (refine ⟨rfl, ?_⟩; simp; done) | (refine ⟨rfl, ?_⟩; omega) | refine ⟨?_, ?_⟩ | refine ⟨?_, ?_, ?_⟩), trivial⟩⟩
  intro ⟨f, at_, acc, fst⟩ ⟨g1, g2, g3, g4⟩
  have g1 : acc.length + f ≤ a.length + 1 := g1
  have g2 : at_ < a.length := g2
  have g3 : 0 ≤ at_ → (a.length : Int) - at_ ≤ f := g3
  have g4 : chainN f a at_ acc fst = chainN (a.length + 1) a to [] (-1) := g4
  (conv => whnf)
  refine bcase_of (fun h => ?_) (fun h => ?_)
  · have h : decide (0 ≤ at_) = true := h
    have h0 := of_decide_eq_true h
    have g5 := g3 h0
    obtain ⟨f, rfl⟩ : ∃ f', f = f' + 1 := ⟨f - 1, by omega⟩
    rw [chainN, h] at g4
    have hch := hc at_.toNat (by omega)
    (conv => whnf)
    refine ⟨by show (acc.length + 1) * 8 ≤ 140737488355328; omega, ?_⟩; conv => whnf
    refine ⟨⟨h0, g2⟩, ?_⟩; conv => whnf
    refine ⟨⟨h0, g2⟩, ?_⟩; conv => whnf
    refine ⟨(f, (a.getD at_.toNat dem0).child, acc ++ [at_], (a.getD at_.toNat dem0).draw), [(0, some 0), (1, some 1), (2, some 9)], ⟨?_, ?_, ?_, g4⟩, by show f < f + 1; omega, ?_⟩
    · show (acc ++ [at_]).length + f ≤ a.length + 1
      rw [List.length_append]
      simp only [List.length_singleton]
      omega
    · show (a.getD at_.toNat dem0).child < a.length
      omega
    · intro h1
      have h1 : 0 ≤ (a.getD at_.toNat dem0).child := h1
      show (a.length : Int) - (a.getD at_.toNat dem0).child ≤ f
      omega
    · have hlen : acc.length + 1 = (acc ++ [at_]).length := by rw [List.length_append]; rfl
      exact ⟨rfl, by (repeat' first | exact trivial | exact rfl | exact ⟨rfl, rfl⟩ | exact ⟨rfl, trivial⟩ | exact ⟨rfl, LeL.refl _, trivial⟩ | exact ⟨rfl, LeL.refl _, LeL.refl _, trivial⟩ | exact embV_le (.refl _) rfl | exact embV_leV (.refl _) rfl (Nat.lt_of_sub_pos (by exact Nat.zero_lt_succ _)) | exact ⟨rfl, rfl, rfl, rfl⟩ | exact ⟨rfl, rfl, rfl, rfl, id⟩ | exact ⟨rfl, rfl, rfl, rfl, rfl⟩ | exact ⟨rfl, rfl, rfl, rfl, nofun⟩ | exact tape_emb rfl | exact embO_le (LeL.refl _) rfl (Nat.lt_of_sub_pos (by exact Nat.zero_lt_succ _)) | exact ⟨rfl, rfl, fun _ _ => .refl _⟩ | (refine ⟨rfl, ?_⟩; simp; done) | (refine ⟨rfl, ?_⟩; omega) | refine ⟨?_, ?_⟩ | refine ⟨?_, ?_, ?_⟩), ⟨by (repeat' first | exact trivial | exact rfl | exact ⟨rfl, rfl⟩ | exact ⟨rfl, trivial⟩ | exact ⟨rfl, LeL.refl _, trivial⟩ | exact ⟨rfl, LeL.refl _, LeL.refl _, trivial⟩ | exact embV_le (.refl _) rfl | exact embV_leV (.refl _) rfl (Nat.lt_of_sub_pos (by exact Nat.zero_lt_succ _)) | exact ⟨rfl, rfl, rfl, rfl⟩ | exact ⟨rfl, rfl, rfl, rfl, id⟩ | exact ⟨rfl, rfl, rfl, rfl, rfl⟩ | exact ⟨rfl, rfl, rfl, rfl, nofun⟩ | exact tape_emb rfl | exact embO_le (LeL.refl _) rfl (Nat.lt_of_sub_pos (by exact Nat.zero_lt_succ _)) | exact ⟨rfl, rfl, fun _ _ => .refl _⟩ | (refine ⟨rfl, ?_⟩; simp; done) | (refine ⟨rfl, ?_⟩; omega) | refine ⟨?_, ?_⟩ | refine ⟨?_, ?_, ?_⟩), ⟨rfl, ⟨rfl, rfl, rfl, hlen, nofun⟩, by (repeat' first | exact trivial | exact rfl | exact ⟨rfl, rfl⟩ | exact ⟨rfl, trivial⟩ | exact ⟨rfl, LeL.refl _, trivial⟩ | exact ⟨rfl, LeL.refl _, LeL.refl _, trivial⟩ | exact embV_le (.refl _) rfl | exact embV_leV (.refl _) rfl (Nat.lt_of_sub_pos (by exact Nat.zero_lt_succ _)) | exact ⟨rfl, rfl, rfl, rfl⟩ | exact ⟨rfl, rfl, rfl, rfl, id⟩ | exact ⟨rfl, rfl, rfl, rfl, rfl⟩ | exact ⟨rfl, rfl, rfl, rfl, nofun⟩ | exact tape_emb rfl | exact embO_le (LeL.refl _) rfl (Nat.lt_of_sub_pos (by exact Nat.zero_lt_succ _)) | exact ⟨rfl, rfl, fun _ _ => .refl _⟩ | (refine ⟨rfl, ?_⟩; simp; done) | (refine ⟨rfl, ?_⟩; omega) | refine ⟨?_, ?_⟩ | refine ⟨?_, ?_, ?_⟩), by (repeat' first | exact trivial | exact rfl | exact ⟨rfl, rfl⟩ | exact ⟨rfl, trivial⟩ | exact ⟨rfl, LeL.refl _, trivial⟩ | exact ⟨rfl, LeL.refl _, LeL.refl _, trivial⟩ | exact embV_le (.refl _) rfl | exact embV_leV (.refl _) rfl (Nat.lt_of_sub_pos (by exact Nat.zero_lt_succ _)) | exact ⟨rfl, rfl, rfl, rfl⟩ | exact ⟨rfl, rfl, rfl, rfl, id⟩ | exact ⟨rfl, rfl, rfl, rfl, rfl⟩ | exact ⟨rfl, rfl, rfl, rfl, nofun⟩ | exact tape_emb rfl | exact embO_le (LeL.refl _) rfl (Nat.lt_of_sub_pos (by exact Nat.zero_lt_succ _)) | exact ⟨rfl, rfl, fun _ _ => .refl _⟩ | (refine ⟨rfl, ?_⟩; simp; done) | (refine ⟨rfl, ?_⟩; omega) | refine ⟨?_, ?_⟩ | refine ⟨?_, ?_, ?_⟩), trivial⟩, ⟨rfl, hlen, le_app rfl (.refl _)⟩, trivial⟩⟩
  · have h : decide (0 ≤ at_) = false := h
    have hfin : chainN f a at_ acc fst = (acc, fst) := by
      cases f with
      | zero => rfl
      | succ f => rw [chainN, h]; rfl
    rw [hfin] at g4
    unfold chainF
    rw [← g4]
    (conv => whnf)
    refine ⟨_, _, reverse_spec acc (by omega) false, ?_⟩; conv => whnf
    exact ⟨⟨rfl, embV_le (le_len (l := acc.reverse) (by rw [List.length_reverse])) rfl, by (repeat' first | exact trivial | exact rfl | exact ⟨rfl, rfl⟩ | exact ⟨rfl, trivial⟩ | exact ⟨rfl, LeL.refl _, trivial⟩ | exact ⟨rfl, LeL.refl _, LeL.refl _, trivial⟩ | exact embV_le (.refl _) rfl | exact embV_leV (.refl _) rfl (Nat.lt_of_sub_pos (by exact Nat.zero_lt_succ _)) | exact ⟨rfl, rfl, rfl, rfl⟩ | exact ⟨rfl, rfl, rfl, rfl, id⟩ | exact ⟨rfl, rfl, rfl, rfl, rfl⟩ | exact ⟨rfl, rfl, rfl, rfl, nofun⟩ | exact tape_emb rfl | exact embO_le (LeL.refl _) rfl (Nat.lt_of_sub_pos (by exact Nat.zero_lt_succ _)) | exact ⟨rfl, rfl, fun _ _ => .refl _⟩ | (refine ⟨rfl, ?_⟩; simp; done) | (refine ⟨rfl, ?_⟩; omega) | refine ⟨?_, ?_⟩ | refine ⟨?_, ?_, ?_⟩), by (repeat' first | exact trivial | exact rfl | exact ⟨rfl, rfl⟩ | exact ⟨rfl, trivial⟩ | exact ⟨rfl, LeL.refl _, trivial⟩ | exact ⟨rfl, LeL.refl _, LeL.refl _, trivial⟩ | exact embV_le (.refl _) rfl | exact embV_leV (.refl _) rfl (Nat.lt_of_sub_pos (by exact Nat.zero_lt_succ _)) | exact ⟨rfl, rfl, rfl, rfl⟩ | exact ⟨rfl, rfl, rfl, rfl, id⟩ | exact ⟨rfl, rfl, rfl, rfl, rfl⟩ | exact ⟨rfl, rfl, rfl, rfl, nofun⟩ | exact tape_emb rfl | exact embO_le (LeL.refl _) rfl (Nat.lt_of_sub_pos (by exact Nat.zero_lt_succ _)) | exact ⟨rfl, rfl, fun _ _ => .refl _⟩ | (refine ⟨rfl, ?_⟩; simp; done) | (refine ⟨rfl, ?_⟩; omega) | refine ⟨?_, ?_⟩ | refine ⟨?_, ?_, ?_⟩), trivial⟩, trivial⟩

def fstN (p : Nat → Bool) : Nat → Nat → Int
  | _, 0 => -1
  | i, r + 1 => bif p i then (i : Int) else fstN p (i + 1) r

theorem fstN_cases (p : Nat → Bool) (i r : Nat) : (fstN p i r = -1 ∧ ∀ j, i ≤ j → j < i + r → p j = false) ∨ ∃ j : Nat, fstN p i r = (j : Int) ∧ i ≤ j ∧ j < i + r ∧ p j = true ∧ ∀ q, i ≤ q → q < j → p q = false := by
  induction r generalizing i with
  | zero => exact .inl ⟨rfl, fun j h1 h2 => by omega⟩
  | succ r ih =>
    rw [fstN]
    cases hp : p i with
    | true => exact .inr ⟨i, rfl, by omega, by omega, hp, fun q h1 h2 => by omega⟩
    | false =>
      rcases ih (i + 1) with ⟨h1, h2⟩ | ⟨j, h1, h2, h3, h4, h5⟩
      · refine .inl ⟨h1, fun j h3 h4 => ?_⟩
        by_cases hj : j = i
        · subst hj; exact hp
        · exact h2 j (by omega) (by omega)
      · refine .inr ⟨j, h1, by omega, by omega, h4, fun q h6 h7 => ?_⟩
        by_cases hq : q = i
        · subst hq; exact hp
        · exact h5 q (by omega) h7

def chn0 : Chn := ⟨false, [], 0, 0⟩
def overI (l : List Sup) (d : List Drw) : Int := fstN (fun i => decide ((l.getD i sup0).cap < (loadsF l d).getD i 0)) 0 l.length
def highP (l : List Sup) (d : List Drw) (lv : List Int) (i : Nat) : Bool := decide ((d.getD i drw0).high < (l.getD (d.getD i drw0).sup.toNat sup0).lev.getD (lv.getD (d.getD i drw0).sup.toNat 0).toNat 0)
def highI (l : List Sup) (d : List Drw) : Int := fstN (highP l d (demF l d).1.lv) 0 d.length
def explainF (l : List Sup) (d : List Drw) : Chn × Int :=
  bif beginF l d != 0 then (chn0, beginF l d)
  else bif decide (0 ≤ overI l d) then (⟨true, [overI l d], -1, -1⟩, 0)
  else bif decide (0 ≤ (demF l d).2) then (chainF (demF l d).1.a (demF l d).2 (-1), 0)
  else bif decide (0 ≤ highI l d) then (chainF (demF l d).1.a (d.getD (highI l d).toNat drw0).sup (highI l d), 0)
  else (chn0, 8)

theorem dOne_child {l : List Sup} {u : List Bool} {i : Nat} {s : DS} (hi : i < l.length) (hp : (l.getD i sup0).par < i) (h : DOk l s) (hc : ChildOk s.a) : ChildOk (dOne l u i s).a := by
  unfold dOne
  cases u.getD i false with
  | false => exact hc
  | true =>
    simp only [Bool.not_true, cond_false]
    cases hb : decide (0 ≤ (l.getD i sup0).par) && decide ((s.a.getD (l.getD i sup0).par.toNat dem0).volt < needOf l i s) with
    | false => exact hc
    | true =>
      simp only [Bool.and_eq_true] at hb
      have hp0 := of_decide_eq_true hb.1
      simp only [cond_true]
      intro j hj
      rw [List.length_set] at hj ⊢
      rw [getD_set]
      by_cases hj2 : j = (l.getD i sup0).par.toNat ∧ (l.getD i sup0).par.toNat < s.a.length
      · rw [if_pos hj2]
        refine .inr ⟨?_, ?_⟩
        · show (j : Int) < (i : Int); omega
        · show (i : Int) < (s.a.length : Int); rw [h.al]; omega
      · rw [if_neg hj2]
        exact hc j hj

theorem dInit_child (n : Nat) (d : List Drw) (i : Nat) : ∀ j, ((dInit n d i).getD j dem0).child = -1 ∨ ((dInit n d i).getD j dem0) = dem0 := by
  induction i with
  | zero =>
    intro j
    show ((List.replicate n (⟨0, -1, -1⟩ : Dem)).getD j dem0).child = -1 ∨ _
    rw [List.getD_eq_getElem?_getD, List.getElem?_replicate]
    by_cases hj : j < n
    · rw [if_pos hj]; exact .inl rfl
    · exact .inr (by rw [dInit, List.getD_eq_getElem?_getD, List.getElem?_replicate, if_neg hj]; rfl)
  | succ i ih =>
    intro j
    rw [dInit]
    cases decide (((dInit n d i).getD (d.getD i drw0).sup.toNat dem0).volt < (d.getD i drw0).low) with
    | false => exact ih j
    | true =>
      simp only [cond_true]
      rw [getD_set]
      split
      · exact .inl rfl
      · exact ih j

theorem ds0_child (l : List Sup) (d : List Drw) : ChildOk (ds0 l d).a := by
  have key : ∀ i j, j < l.length → ((dInit l.length d i).getD j dem0).child = -1 := by
    intro i
    induction i with
    | zero =>
      intro j hj
      show ((List.replicate l.length (⟨0, -1, -1⟩ : Dem)).getD j dem0).child = -1
      rw [List.getD_eq_getElem?_getD, List.getElem?_replicate, if_pos hj]
      rfl
    | succ i ih =>
      intro j hj
      rw [dInit]
      cases decide (((dInit l.length d i).getD (d.getD i drw0).sup.toNat dem0).volt < (d.getD i drw0).low) with
      | false => exact ih j hj
      | true =>
        simp only [cond_true]
        rw [getD_set]
        split
        · rfl
        · exact ih j hj
  intro j hj
  rw [(ds0_ok l d).al] at hj
  exact .inl (by rw [show (ds0 l d).a = dInit l.length d d.length from rfl, key _ j hj]; decide)

theorem demN_keep {l : List Sup} {u : List Bool} (I : DS → Prop) (hI : ∀ i s, i < l.length → I s → I (dOne l u i s)) : ∀ (k : Nat) (s : DS), k ≤ l.length → I s → I (demN l u k s).1 := by
  intro k
  induction k with
  | zero => intro s _ h; exact h
  | succ k ih =>
    intro s hk h
    rw [demN]
    cases dFail l u k s with
    | true => exact h
    | false => exact ih _ (by omega) (hI k s (by omega) h)

theorem demF_ok {l : List Sup} {d : List Drw} (hv : Vld l d) : DOk l (demF l d).1 ∧ ChildOk (demF l d).1.a :=
  demN_keep (fun s => DOk l s ∧ ChildOk s.a) (fun i _ hi h => ⟨dOne_ok h.1, dOne_child hi (hv.sup i hi).2.1 h.1 h.2⟩) _ _ (Nat.le_refl _) ⟨ds0_ok l d, ds0_child l d⟩

theorem demN_fail {l : List Sup} {u : List Bool} : ∀ (k : Nat) (s : DS), -1 ≤ (demN l u k s).2 ∧ (demN l u k s).2 < k := by
  intro k
  induction k with
  | zero => intro _; exact ⟨Int.le_refl _, by show (-1 : Int) < 0; omega⟩
  | succ k ih =>
    intro s
    rw [demN]
    cases dFail l u k s with
    | true => show -1 ≤ (k : Int) ∧ (k : Int) < ((k + 1 : Nat) : Int); omega
    | false => have := ih (dOne l u k s); simp only [cond_false]; omega

/-- The levels that were found are levels of their supplies. -/
def LvOk (l : List Sup) (s : DS) : Prop := ∀ j, j < l.length → 0 ≤ s.lv.getD j 0 ∧ s.lv.getD j 0 < (l.getD j sup0).lev.length

theorem demN_lv {l : List Sup} {u : List Bool} : ∀ (k : Nat) (s : DS), k ≤ l.length → DOk l s → LvOk l s → LvOk l (demN l u k s).1 := by
  intro k
  induction k with
  | zero => intro s _ _ h; exact h
  | succ k ih =>
    intro s hk h0 h
    rw [demN]
    cases hf : dFail l u k s with
    | true => exact h
    | false =>
      refine ih _ (by omega) (dOne_ok h0) ?_
      intro j hj
      unfold dOne
      cases hu : u.getD k false with
      | false => exact h j hj
      | true =>
        unfold dFail at hf
        rw [hu, Bool.true_and, Bool.not_eq_false'] at hf
        have := of_decide_eq_true hf
        show 0 ≤ (s.lv.set k (lvOf l k s)).getD j 0 ∧ (s.lv.set k (lvOf l k s)).getD j 0 < _
        rw [getD_set]
        split
        · rename_i hjk; rw [hjk.1]; omega
        · exact h j hj

theorem demF_lv {l : List Sup} {d : List Drw} (hv : Vld l d) : LvOk l (demF l d).1 :=
  demN_lv _ _ (Nat.le_refl _) (ds0_ok l d) (fun j hj => by
    show 0 ≤ (List.replicate l.length (0 : Int)).getD j 0 ∧ (List.replicate l.length (0 : Int)).getD j 0 < _
    rw [rep_getD]
    have := (hv.sup j hj).2.2.1
    omega)

set_option maxHeartbeats 4000000 in
theorem explain_spec (l : List Sup) (hl : l.length ≤ 1000000) (d : List Drw) (hd : d.length ≤ 1000000) : S 21 [supsV l, drwsV d] [] (.tup [chnV (explainF l d).1, iV (explainF l d).2]) [] := by
  refine spec_of_x (ct := []) cfgOK Try.func21 rfl rfl (Nat.le_of_ble_eq_true rfl) (by decide +kernel) (Nat.zero_le _) ?_; conv => whnf
  refine ⟨_, _, begin_spec l hl d hd, ?_⟩; conv => whnf
  unfold explainF
  refine bcase_of (fun h => ?_) (fun h => ?_)
  · have h : (beginF l d != 0) = true := h
    (conv => whnf)
    rw [h]
    exact ⟨⟨⟨rfl, embV_le le_nil rfl, ⟨rfl, rfl⟩, ⟨rfl, rfl⟩, trivial⟩, ⟨rfl, rfl⟩, trivial⟩, trivial⟩
  · have h : (beginF l d != 0) = false := h
    have h0 : beginF l d = 0 := by simpa using h
    have hv := vld_of (begin_ok h0)
    rw [h]
    have hll := loadsF_len l d
    have hvl := hv.len
    have hvd := hv.dlen
    (conv => whnf)
    refine ⟨_, _, loads_spec l d hv, ?_⟩; conv => whnf
    refine loops_intro (ct := [11]) cfgOK (by decide +kernel) (fun i : Nat => ⟨[(0, supsV l), (1, drwsV d), (4, .ptr 0 0 0), (7, intsV (loadsF l d)), (25, supsV l), (26, iV l.length), (27, iV i)], [(0, some (.box [.bool false, .sl 0 0 true nilG, iV 0, iV 0]))], 1⟩) (fun i => i ≤ l.length ∧ fstN (fun i => decide ((l.getD i sup0).cap < (loadsF l d).getD i 0)) i (l.length - i) = overI l d) (fun i => l.length - i) 0 [(0, some 0)] ⟨Nat.zero_le _, rfl⟩ (by (repeat' first | exact trivial | exact rfl | exact ⟨rfl, rfl⟩ | exact ⟨rfl, trivial⟩ | exact ⟨rfl, LeL.refl _, trivial⟩ | exact ⟨rfl, LeL.refl _, LeL.refl _, trivial⟩ | exact embV_le (.refl _) rfl | exact embV_leV (.refl _) rfl (Nat.lt_of_sub_pos (by exact Nat.zero_lt_succ _)) | exact ⟨rfl, rfl, rfl, rfl⟩ | exact ⟨rfl, rfl, rfl, rfl, id⟩ | exact ⟨rfl, rfl, rfl, rfl, rfl⟩ | exact ⟨rfl, rfl, rfl, rfl, nofun⟩ | exact tape_emb rfl | exact embO_le (LeL.refl _) rfl (Nat.lt_of_sub_pos (by exact Nat.zero_lt_succ _)) | exact ⟨rfl, rfl, fun _ _ => .refl _⟩ | (refine ⟨rfl, ?_⟩; simp; done) | (refine ⟨rfl, ?_⟩; omega) | refine ⟨?_, ?_⟩ | refine ⟨?_, ?_, ?_⟩)) ?_
    intro i ⟨hi1, hi2⟩
    (conv => whnf)
    refine bcase_of (fun h2 => ?_) (fun h2 => ?_)
    · have hlt : i < l.length := by have := of_decide_eq_true h2; omega
      rw [show l.length - i = (l.length - (i + 1)) + 1 by omega, fstN] at hi2
      (conv => whnf)
      (refine ⟨by intros; first | omega | (unfold InI64; omega) | (simp only [List.length_append, List.length_cons, List.length_nil, List.length_set]; omega), ?_⟩; conv => whnf)
      refine ⟨⟨by omega, by show (i : Int) < ((loadsF l d).length : Int); omega⟩, ?_⟩; conv => whnf
      refine bcase_of (fun h3 => ?_) (fun h3 => ?_)
      · have h3 : decide ((l.getD i sup0).cap < (loadsF l d).getD i 0) = true := h3
        rw [h3] at hi2
        have hi2 : (i : Int) = overI l d := hi2
        (conv => whnf)
        rw [← hi2, decide_eq_true (by omega : (0 : Int) ≤ i)]
        refine ⟨⟨⟨rfl, embV_le ?_ rfl, ⟨rfl, rfl⟩, ⟨rfl, rfl⟩, trivial⟩, ⟨rfl, rfl⟩, trivial⟩, trivial⟩
        exact .sl rfl (fun _ => rfl) nofun (fun j hj => by cases j with | zero => exact .refl _ | succ j => exact absurd hj (by simp))
      · have h3 : decide ((l.getD i sup0).cap < (loadsF l d).getD i 0) = false := h3
        rw [h3] at hi2
        (conv => whnf)
        (refine ⟨by intros; first | omega | (unfold InI64; omega) | (simp only [List.length_append, List.length_cons, List.length_nil, List.length_set]; omega), ?_⟩; conv => whnf)
        refine ⟨i + 1, [(0, some 0)], ⟨by omega, hi2⟩, by omega, (by (repeat' first | exact trivial | exact rfl | exact ⟨rfl, rfl⟩ | exact ⟨rfl, trivial⟩ | exact ⟨rfl, LeL.refl _, trivial⟩ | exact ⟨rfl, LeL.refl _, LeL.refl _, trivial⟩ | exact embV_le (.refl _) rfl | exact embV_leV (.refl _) rfl (Nat.lt_of_sub_pos (by exact Nat.zero_lt_succ _)) | exact ⟨rfl, rfl, rfl, rfl⟩ | exact ⟨rfl, rfl, rfl, rfl, id⟩ | exact ⟨rfl, rfl, rfl, rfl, rfl⟩ | exact ⟨rfl, rfl, rfl, rfl, nofun⟩ | exact tape_emb rfl | exact embO_le (LeL.refl _) rfl (Nat.lt_of_sub_pos (by exact Nat.zero_lt_succ _)) | exact ⟨rfl, rfl, fun _ _ => .refl _⟩ | (refine ⟨rfl, ?_⟩; simp; done) | (refine ⟨rfl, ?_⟩; omega) | refine ⟨?_, ?_⟩ | refine ⟨?_, ?_, ?_⟩))⟩
    · have hil : i = l.length := by have := of_decide_eq_false h2; omega
      subst hil
      rw [Nat.sub_self] at hi2
      have hi2 : (-1 : Int) = overI l d := hi2
      rw [← hi2, decide_eq_false (by omega : ¬ (0 : Int) ≤ -1)]
      obtain ⟨hdo, hdc⟩ := demF_ok hv
      have hfb := demN_fail (l := l) (u := usedF l d) l.length (ds0 l d)
      have hfb : -1 ≤ (demF l d).2 ∧ (demF l d).2 < l.length := hfb
      have hlvo := demF_lv hv
      have hal := hdo.al
      have hlvl := hdo.ll
      (conv => whnf)
      refine ⟨_, _, demands_spec l d hv, ?_⟩; conv => whnf
      refine bcase_of (fun h3 => ?_) (fun h3 => ?_)
      · have h3 : decide (0 ≤ (demF l d).2) = true := h3
        (conv => whnf)
        refine ⟨_, _, chain_spec (demF l d).1.a (by omega) hdc (demF l d).2 (-1) (by omega), ?_⟩; conv => whnf
        rw [h3]
        exact ⟨⟨⟨rfl, embV_le (.refl _) rfl, ⟨rfl, rfl⟩, ⟨rfl, rfl⟩, trivial⟩, ⟨rfl, rfl⟩, trivial⟩, trivial⟩
      · have h3 : decide (0 ≤ (demF l d).2) = false := h3
        rw [h3]
        (conv => whnf)
        unfold highI
        generalize (demF l d).1 = s at hlvo hal hlvl hdc hdo
        generalize hP : highP l d s.lv = P
        refine loops_intro (ct := []) cfgOK (by decide +kernel) (fun i : Nat => ⟨[(0, supsV l), (4, .ptr 0 0 0), (10, demsV s.a), (11, intsV s.lv), (55, drwsV d), (56, iV d.length), (57, iV i)], [(0, some (.box [.bool false, .sl 0 0 true nilG, iV 0, iV 0]))], 1⟩) (fun i => i ≤ d.length ∧ fstN P i (d.length - i) = fstN P 0 d.length) (fun i => d.length - i) 0 [(0, some 0)] ⟨Nat.zero_le _, rfl⟩ (by (repeat' first | exact trivial | exact rfl | exact ⟨rfl, rfl⟩ | exact ⟨rfl, trivial⟩ | exact ⟨rfl, LeL.refl _, trivial⟩ | exact ⟨rfl, LeL.refl _, LeL.refl _, trivial⟩ | exact embV_le (.refl _) rfl | exact embV_leV (.refl _) rfl (Nat.lt_of_sub_pos (by exact Nat.zero_lt_succ _)) | exact ⟨rfl, rfl, rfl, rfl⟩ | exact ⟨rfl, rfl, rfl, rfl, id⟩ | exact ⟨rfl, rfl, rfl, rfl, rfl⟩ | exact ⟨rfl, rfl, rfl, rfl, nofun⟩ | exact tape_emb rfl | exact embO_le (LeL.refl _) rfl (Nat.lt_of_sub_pos (by exact Nat.zero_lt_succ _)) | exact ⟨rfl, rfl, fun _ _ => .refl _⟩ | (refine ⟨rfl, ?_⟩; simp; done) | (refine ⟨rfl, ?_⟩; omega) | refine ⟨?_, ?_⟩ | refine ⟨?_, ?_, ?_⟩)) ?_
        intro i ⟨hi1, hi3⟩
        (conv => whnf)
        refine bcase_of (fun h4 => ?_) (fun h4 => ?_)
        · have hlt : i < d.length := by have := of_decide_eq_true h4; omega
          rw [show d.length - i = (d.length - (i + 1)) + 1 by omega, fstN] at hi3
          have hx := hv.drw _ (getD_mem drw0 hlt)
          have hlx := hlvo (d.getD i drw0).sup.toNat (by omega)
          (conv => whnf)
          (refine ⟨by intros; first | omega | (unfold InI64; omega) | (simp only [List.length_append, List.length_cons, List.length_nil, List.length_set]; omega), ?_⟩; conv => whnf)
          refine ⟨⟨hx.1, hx.2.1⟩, ?_⟩; conv => whnf
          refine ⟨⟨hx.1, by show (d.getD i drw0).sup < (s.lv.length : Int); omega⟩, ?_⟩; conv => whnf
          refine ⟨hlx, ?_⟩; conv => whnf
          refine bcase_of (fun h5 => ?_) (fun h5 => ?_)
          · have h5 : highP l d s.lv i = true := h5
            rw [hP] at h5
            rw [h5] at hi3
            have hi3 : (i : Int) = fstN P 0 d.length := hi3
            rw [← hi3, decide_eq_true (by omega : (0 : Int) ≤ i)]
            (conv => whnf)
            refine ⟨_, _, chain_spec s.a (by omega) hdc (d.getD i drw0).sup i (by omega), ?_⟩; conv => whnf
            exact ⟨⟨⟨rfl, embV_le (.refl _) rfl, ⟨rfl, rfl⟩, ⟨rfl, rfl⟩, trivial⟩, ⟨rfl, rfl⟩, trivial⟩, trivial⟩
          · have h5 : highP l d s.lv i = false := h5
            rw [hP] at h5
            rw [h5] at hi3
            (conv => whnf)
            (refine ⟨by intros; first | omega | (unfold InI64; omega) | (simp only [List.length_append, List.length_cons, List.length_nil, List.length_set]; omega), ?_⟩; conv => whnf)
            refine ⟨i + 1, [(0, some 0)], ⟨by omega, hi3⟩, by omega, (by (repeat' first | exact trivial | exact rfl | exact ⟨rfl, rfl⟩ | exact ⟨rfl, trivial⟩ | exact ⟨rfl, LeL.refl _, trivial⟩ | exact ⟨rfl, LeL.refl _, LeL.refl _, trivial⟩ | exact embV_le (.refl _) rfl | exact embV_leV (.refl _) rfl (Nat.lt_of_sub_pos (by exact Nat.zero_lt_succ _)) | exact ⟨rfl, rfl, rfl, rfl⟩ | exact ⟨rfl, rfl, rfl, rfl, id⟩ | exact ⟨rfl, rfl, rfl, rfl, rfl⟩ | exact ⟨rfl, rfl, rfl, rfl, nofun⟩ | exact tape_emb rfl | exact embO_le (LeL.refl _) rfl (Nat.lt_of_sub_pos (by exact Nat.zero_lt_succ _)) | exact ⟨rfl, rfl, fun _ _ => .refl _⟩ | (refine ⟨rfl, ?_⟩; simp; done) | (refine ⟨rfl, ?_⟩; omega) | refine ⟨?_, ?_⟩ | refine ⟨?_, ?_, ?_⟩))⟩
        · have hid : i = d.length := by have := of_decide_eq_false h4; omega
          subst hid
          rw [Nat.sub_self] at hi3
          have hi3 : (-1 : Int) = fstN P 0 d.length := hi3
          rw [← hi3, decide_eq_false (by omega : ¬ (0 : Int) ≤ -1)]
          (conv => whnf)
          exact ⟨⟨⟨rfl, embV_le le_nil rfl, ⟨rfl, rfl⟩, ⟨rfl, rfl⟩, trivial⟩, ⟨rfl, rfl⟩, trivial⟩, trivial⟩

end Go.Proofs.Ytjmhlbogkeohpaa
