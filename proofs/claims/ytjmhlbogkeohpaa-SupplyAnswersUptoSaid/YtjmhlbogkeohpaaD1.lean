/- Contracts of the program's functions, shown by walks of that machine, and the plain laws. -/
import Derived.Test.YtjmhlbogkeohpaaD0
namespace Go.Proofs.Ytjmhlbogkeohpaa
open Go.Ab
set_option maxRecDepth 100000

theorem getD_set {α : Type} (d : α) (l : List α) (i : Nat) (v : α) (k : Nat) : (l.set i v).getD k d = if k = i ∧ i < l.length then v else l.getD k d := by
  rw [List.getD_eq_getElem?_getD, List.getD_eq_getElem?_getD, List.getElem?_set]
  by_cases h : i = k
  · subst h
    by_cases h2 : i < l.length
    · simp [h2]
    · simp [h2]
  · have : ¬ (k = i ∧ i < l.length) := fun h' => h h'.1.symm
    simp [h, this]

theorem le_set {α : Type} {f : α → AV} {d : α} {l : List α} {i j : Nat} {v : α} {u : AV} (hi : i < l.length) (hj : j = i) (hu : Le u (f v)) (k : Nat) : Le (setG (rowG f d l) j u k) (rowG f d (l.set i v) k) := by
  subst hj
  unfold rowG setG
  rw [getD_set]
  cases hb : Nat.beq k j with
  | true =>
    have := Nat.eq_of_beq_eq_true hb
    subst this
    rw [if_pos ⟨rfl, hi⟩]
    exact hu
  | false =>
    have : ¬ (k = j ∧ j < l.length) := fun h' => by rw [h'.1] at hb; simp at hb
    rw [if_neg this]
    exact .refl _

def backN {α : Type} (f : Nat → α → α) : Nat → α → α
  | 0, a => a
  | k + 1, a => backN f k (f k a)

def markD (n : Nat) (d : List Drw) : List Bool := d.foldl (fun a x => a.set x.sup.toNat true) (List.replicate n false)
def usedStep (l : List Sup) (i : Nat) (a : List Bool) : List Bool :=
  bif (a.getD i false || (l.getD i sup0).alw) && decide (0 ≤ (l.getD i sup0).par) then (a.set i (a.getD i false || (l.getD i sup0).alw)).set (l.getD i sup0).par.toNat true else a.set i (a.getD i false || (l.getD i sup0).alw)
def usedF (l : List Sup) (d : List Drw) : List Bool := backN (usedStep l) l.length (markD l.length d)

structure Vld (l : List Sup) (d : List Drw) : Prop where
  len : l.length ≤ 16
  dlen : d.length ≤ 32
  sup : ∀ i, i < l.length → -1 ≤ (l.getD i sup0).par ∧ (l.getD i sup0).par < i ∧ 1 ≤ (l.getD i sup0).lev.length ∧ (l.getD i sup0).lev.length ≤ 16 ∧ 0 ≤ (l.getD i sup0).drop ∧ (l.getD i sup0).drop ≤ 5000 ∧ 0 ≤ (l.getD i sup0).cap ∧ (l.getD i sup0).cap ≤ 10000
  lev : ∀ i, i < l.length → ascB 0 (l.getD i sup0).lev = true
  drw : ∀ x ∈ d, 0 ≤ x.sup ∧ x.sup < l.length ∧ 0 ≤ x.low ∧ x.low ≤ x.high ∧ x.high ≤ 5000 ∧ 0 ≤ x.load ∧ x.load ≤ 10000

theorem withinF_iff {n lo hi : Int} : withinF n lo hi = true ↔ lo ≤ n ∧ n ≤ hi := by
  unfold withinF
  simp

theorem valN_get {l : List Sup} {k : Nat} (h : valN k l = true) : ∀ i, i < l.length → validS (l.getD i sup0) ((k + i : Nat) : Int) = true := by
  induction l generalizing k with
  | nil => intro i hi; simp at hi
  | cons s t ih =>
    rw [valN, Bool.and_eq_true] at h
    intro i hi
    cases i with
    | zero => exact h.1
    | succ i =>
      have := ih h.2 i (by simpa using hi)
      rw [show k + (i + 1) = k + 1 + i by omega]
      exact this

theorem valid_of {s : Sup} {k : Int} (h : validS s k = true) : -1 ≤ s.par ∧ s.par < k ∧ 1 ≤ s.lev.length ∧ 0 ≤ s.drop ∧ s.drop ≤ 5000 ∧ 0 ≤ s.cap ∧ s.cap ≤ 10000 ∧ ascB 0 s.lev = true ∧ (s.par < 0 → s.drop = 0) := by
  unfold validS headB at h
  simp only [Bool.and_eq_true, Bool.not_eq_true', Bool.or_eq_false_iff, Bool.not_eq_false', withinF_iff] at h
  obtain ⟨⟨⟨⟨⟨h1, h2⟩, h3⟩, h4⟩, h5⟩, h6⟩ := h
  have h2' : ¬ (s.lev.length : Int) = 0 := by simpa using h2
  refine ⟨h1.1, by omega, by omega, h3.1, h3.2, h5.1, h5.2, h6, fun hp => ?_⟩
  rw [decide_eq_true hp] at h4
  simpa using h4

theorem vld_of {l : List Sup} {d : List Drw} (h : drawsF l d = true) : Vld l d := by
  unfold drawsF at h
  simp only [Bool.and_eq_true, Bool.not_eq_true'] at h
  obtain ⟨⟨h1, h2⟩, h3⟩ := h
  have h1 : checkF l = 0 := by simpa using h1
  obtain ⟨c1, c2, c3⟩ := check_bounds h1
  refine ⟨c1, by have := of_decide_eq_true h2; omega, fun i hi => ?_, fun i hi => ?_, fun x hx => ?_⟩
  · have := valid_of (valN_get c3 i hi)
    have := c2 i hi
    omega
  · exact (valid_of (valN_get c3 i hi)).2.2.2.2.2.2.2.1
  · have := (List.any_eq_false.1 h3) x hx
    unfold badD at this
    simp only [Bool.not_eq_true, Bool.or_eq_false_iff, Bool.not_eq_false', withinF_iff] at this
    omega

theorem foldl_len {α β : Type} (f : List α → β → List α) (hf : ∀ a x, (f a x).length = a.length) (d : List β) (a : List α) : (d.foldl f a).length = a.length := by
  induction d generalizing a with
  | nil => rfl
  | cons x d ih => rw [List.foldl_cons, ih, hf]

theorem markD_len (n : Nat) (d : List Drw) : (markD n d).length = n := by
  unfold markD
  rw [foldl_len _ (fun a x => List.length_set ..), List.length_replicate]

theorem usedStep_len (l : List Sup) (i : Nat) (a : List Bool) : (usedStep l i a).length = a.length := by
  unfold usedStep
  cases (a.getD i false || (l.getD i sup0).alw) && decide (0 ≤ (l.getD i sup0).par) <;> simp

theorem backN_len {α : Type} {f : Nat → List α → List α} (hf : ∀ i a, (f i a).length = a.length) (k : Nat) (a : List α) : (backN f k a).length = a.length := by
  induction k generalizing a with
  | zero => rfl
  | succ k ih => rw [backN, ih, hf]

theorem usedF_len (l : List Sup) (d : List Drw) : (usedF l d).length = l.length := by
  unfold usedF
  rw [backN_len (usedStep_len l), markD_len]

/-- the rounds from the last one down -/
def upN {α : Type} (f : Nat → α → α) (n : Nat) : Nat → α → α
  | 0, a => a
  | k + 1, a => f (n - 1 - k) (upN f n k a)

theorem backN_upN {α : Type} (f : Nat → α → α) (n k : Nat) (hk : k ≤ n) (a : α) : backN f n a = backN f (n - k) (upN f n k a) := by
  induction k with
  | zero => rfl
  | succ k ih =>
    rw [ih (by omega), show n - k = n - (k + 1) + 1 by omega, backN, upN, show n - 1 - k = n - (k + 1) by omega]

theorem upN_all {α : Type} (f : Nat → α → α) (n : Nat) (a : α) : upN f n n a = backN f n a := by
  rw [backN_upN f n n (Nat.le_refl _), Nat.sub_self]
  rfl

theorem upN_len {α : Type} {f : Nat → List α → List α} (hf : ∀ i a, (f i a).length = a.length) (n k : Nat) (a : List α) : (upN f n k a).length = a.length := by
  induction k with
  | zero => rfl
  | succ k ih => rw [upN, hf, ih]

theorem le_len {α : Type} {es n : Nat} {f : Bool} {fv : α → AV} {d : α} {l : List α} (h : n = l.length) : Le (.sl es n f (rowG fv d l)) (.sl es l.length false (rowG fv d l)) :=
  .sl h (fun _ => rfl) nofun fun _ _ => .refl _

theorem rep_getD {α : Type} (n k : Nat) (v : α) : (List.replicate n v).getD k v = v := by
  rw [List.getD_eq_getElem?_getD, List.getElem?_replicate]
  split <;> rfl

theorem used_spec (l : List Sup) (d : List Drw) (hv : Vld l d) : S 44 [supsV l, drwsV d] [] (boolsV (usedF l d)) [] := by
  obtain ⟨vl, vd, vs, _, vx⟩ := hv
  refine spec_of_x (ct := []) cfgOK Try.func44 rfl rfl (Nat.le_of_ble_eq_true rfl) (by decide +kernel) (Nat.zero_le _) ?_; conv => whnf
  refine ⟨⟨by omega, by show (l.length : Int) * 1 ≤ 140737488355328; omega⟩, ?_⟩; conv => whnf
  refine loops_intro (ct := []) cfgOK (by decide +kernel) (fun i : Nat => ⟨[(0, supsV l), (5, .ptr 0 0 0), (13, drwsV d), (14, iV d.length), (15, iV i)], [(0, some (.box [.osl 1 0 l.length true])), (1, some (.row 1 l.length (rowG AV.bool false (markD l.length (d.take i)))))], 2⟩) (fun i => i ≤ d.length) (fun i => d.length - i) 0 [(0, some 4), (1, some 3)] (Nat.zero_le _) ?_ ?_
  · refine ⟨rfl, by (repeat' first | exact trivial | exact rfl | exact ⟨rfl, rfl⟩ | exact ⟨rfl, trivial⟩ | exact ⟨rfl, LeL.refl _, trivial⟩ | exact ⟨rfl, LeL.refl _, LeL.refl _, trivial⟩ | exact embV_le (.refl _) rfl | exact embV_leV (.refl _) rfl (Nat.lt_of_sub_pos (by exact Nat.zero_lt_succ _)) | exact ⟨rfl, rfl, rfl, rfl⟩ | exact ⟨rfl, rfl, rfl, rfl, id⟩ | exact ⟨rfl, rfl, rfl, rfl, rfl⟩ | exact ⟨rfl, rfl, rfl, rfl, nofun⟩ | exact tape_emb rfl | exact embO_le (LeL.refl _) rfl (Nat.lt_of_sub_pos (by exact Nat.zero_lt_succ _)) | exact ⟨rfl, rfl, fun _ _ => .refl _⟩ | (refine ⟨rfl, ?_⟩; simp; done) | (refine ⟨rfl, ?_⟩; omega) | refine ⟨?_, ?_⟩ | refine ⟨?_, ?_, ?_⟩), ⟨by (repeat' first | exact trivial | exact rfl | exact ⟨rfl, rfl⟩ | exact ⟨rfl, trivial⟩ | exact ⟨rfl, LeL.refl _, trivial⟩ | exact ⟨rfl, LeL.refl _, LeL.refl _, trivial⟩ | exact embV_le (.refl _) rfl | exact embV_leV (.refl _) rfl (Nat.lt_of_sub_pos (by exact Nat.zero_lt_succ _)) | exact ⟨rfl, rfl, rfl, rfl⟩ | exact ⟨rfl, rfl, rfl, rfl, id⟩ | exact ⟨rfl, rfl, rfl, rfl, rfl⟩ | exact ⟨rfl, rfl, rfl, rfl, nofun⟩ | exact tape_emb rfl | exact embO_le (LeL.refl _) rfl (Nat.lt_of_sub_pos (by exact Nat.zero_lt_succ _)) | exact ⟨rfl, rfl, fun _ _ => .refl _⟩ | (refine ⟨rfl, ?_⟩; simp; done) | (refine ⟨rfl, ?_⟩; omega) | refine ⟨?_, ?_⟩ | refine ⟨?_, ?_, ?_⟩), ⟨rfl, rfl, fun k _ => ?_⟩, trivial⟩⟩
    show Le (.bool false) (.bool ((List.replicate l.length false).getD k false))
    rw [rep_getD]
    exact .refl _
  intro i hi
  (conv => whnf)
  refine bcase_of (fun h => ?_) (fun h => ?_)
  · have hlt : i < d.length := by have := of_decide_eq_true h; omega
    have hx := vx _ (getD_mem drw0 hlt)
    have hml := markD_len l.length (d.take i)
    have hsn : markD l.length (d.take (i + 1)) = (markD l.length (d.take i)).set (d.getD i drw0).sup.toNat true := foldl_take _ _ drw0 hlt
    (conv => whnf)
    (refine ⟨by intros; first | omega | (unfold InI64; omega) | (simp only [List.length_append, List.length_cons, List.length_nil, List.length_set]; omega), ?_⟩; conv => whnf)
    refine ⟨⟨hx.1, by show (d.getD i drw0).sup < (l.length : Int); omega⟩, ?_⟩; conv => whnf
    (refine ⟨by intros; first | omega | (unfold InI64; omega) | (simp only [List.length_append, List.length_cons, List.length_nil, List.length_set]; omega), ?_⟩; conv => whnf)
    refine ⟨i + 1, [(0, some 0), (1, some 1)], hlt, by omega, ⟨rfl, by (repeat' first | exact trivial | exact rfl | exact ⟨rfl, rfl⟩ | exact ⟨rfl, trivial⟩ | exact ⟨rfl, LeL.refl _, trivial⟩ | exact ⟨rfl, LeL.refl _, LeL.refl _, trivial⟩ | exact embV_le (.refl _) rfl | exact embV_leV (.refl _) rfl (Nat.lt_of_sub_pos (by exact Nat.zero_lt_succ _)) | exact ⟨rfl, rfl, rfl, rfl⟩ | exact ⟨rfl, rfl, rfl, rfl, id⟩ | exact ⟨rfl, rfl, rfl, rfl, rfl⟩ | exact ⟨rfl, rfl, rfl, rfl, nofun⟩ | exact tape_emb rfl | exact embO_le (LeL.refl _) rfl (Nat.lt_of_sub_pos (by exact Nat.zero_lt_succ _)) | exact ⟨rfl, rfl, fun _ _ => .refl _⟩ | (refine ⟨rfl, ?_⟩; simp; done) | (refine ⟨rfl, ?_⟩; omega) | refine ⟨?_, ?_⟩ | refine ⟨?_, ?_, ?_⟩), ⟨by (repeat' first | exact trivial | exact rfl | exact ⟨rfl, rfl⟩ | exact ⟨rfl, trivial⟩ | exact ⟨rfl, LeL.refl _, trivial⟩ | exact ⟨rfl, LeL.refl _, LeL.refl _, trivial⟩ | exact embV_le (.refl _) rfl | exact embV_leV (.refl _) rfl (Nat.lt_of_sub_pos (by exact Nat.zero_lt_succ _)) | exact ⟨rfl, rfl, rfl, rfl⟩ | exact ⟨rfl, rfl, rfl, rfl, id⟩ | exact ⟨rfl, rfl, rfl, rfl, rfl⟩ | exact ⟨rfl, rfl, rfl, rfl, nofun⟩ | exact tape_emb rfl | exact embO_le (LeL.refl _) rfl (Nat.lt_of_sub_pos (by exact Nat.zero_lt_succ _)) | exact ⟨rfl, rfl, fun _ _ => .refl _⟩ | (refine ⟨rfl, ?_⟩; simp; done) | (refine ⟨rfl, ?_⟩; omega) | refine ⟨?_, ?_⟩ | refine ⟨?_, ?_, ?_⟩), ⟨rfl, rfl, fun k _ => ?_⟩, trivial⟩⟩⟩
    rw [hsn]
    exact le_set (i := (d.getD i drw0).sup.toNat) (by omega) rfl (.refl _) k
  · have hil : i = d.length := by have := of_decide_eq_false h; omega
    subst hil
    rw [List.take_length]
    (conv => whnf)
    refine ⟨_, _, backward_spec l, ?_⟩; conv => whnf
    have hul : ∀ k, (upN (usedStep l) l.length k (markD l.length d)).length = l.length := fun k => by rw [upN_len (usedStep_len l), markD_len]
    refine range_inv (ct := []) (ct' := [11]) cfgOK (by decide +kernel) (by decide +kernel) (by decide +kernel) (by decide +kernel) (back_iter l (by omega)) rfl (by intro v hv; simp at hv; exact ⟨_, hv⟩)
      (fun k => ⟨[(0, supsV l), (5, .ptr 0 0 0)], [(0, some (.box [.osl 1 0 l.length true])), (1, some (.row 1 l.length (rowG AV.bool false (upN (usedStep l) l.length k (markD l.length d)))))], 2⟩)
      (fun k => ⟨[(0, supsV l), (5, .ptr 0 0 0), (8, iV ((l.length - 1 - k : Nat) : Int)), (9, .ptr 2 0 0)], [(2, some (.box (supV (l.getD (l.length - 1 - k) sup0)).cells)), (0, some (.box [.osl 1 0 l.length true])), (1, some (.row 1 l.length (rowG AV.bool false (upN (usedStep l) l.length k (markD l.length d)))))], 3⟩)
      [(0, some 0), (1, some 1)] (by (repeat' first | exact trivial | exact rfl | exact ⟨rfl, rfl⟩ | exact ⟨rfl, trivial⟩ | exact ⟨rfl, LeL.refl _, trivial⟩ | exact ⟨rfl, LeL.refl _, LeL.refl _, trivial⟩ | exact embV_le (.refl _) rfl | exact embV_leV (.refl _) rfl (Nat.lt_of_sub_pos (by exact Nat.zero_lt_succ _)) | exact ⟨rfl, rfl, rfl, rfl⟩ | exact ⟨rfl, rfl, rfl, rfl, id⟩ | exact ⟨rfl, rfl, rfl, rfl, rfl⟩ | exact ⟨rfl, rfl, rfl, rfl, nofun⟩ | exact tape_emb rfl | exact embO_le (LeL.refl _) rfl (Nat.lt_of_sub_pos (by exact Nat.zero_lt_succ _)) | exact ⟨rfl, rfl, fun _ _ => .refl _⟩ | (refine ⟨rfl, ?_⟩; simp; done) | (refine ⟨rfl, ?_⟩; omega) | refine ⟨?_, ?_⟩ | refine ⟨?_, ?_, ?_⟩)) (fun _ => True) trivial ?_ ?_ ?_
    · intro k y hk _
      refine ⟨Nat.zero_le _, ?_⟩
      (conv => whnf)
      exact ⟨[(2, some 3)], by (repeat' first | exact trivial | exact rfl | exact ⟨rfl, rfl⟩ | exact ⟨rfl, trivial⟩ | exact ⟨rfl, LeL.refl _, trivial⟩ | exact ⟨rfl, LeL.refl _, LeL.refl _, trivial⟩ | exact embV_le (.refl _) rfl | exact embV_leV (.refl _) rfl (Nat.lt_of_sub_pos (by exact Nat.zero_lt_succ _)) | exact ⟨rfl, rfl, rfl, rfl⟩ | exact ⟨rfl, rfl, rfl, rfl, id⟩ | exact ⟨rfl, rfl, rfl, rfl, rfl⟩ | exact ⟨rfl, rfl, rfl, rfl, nofun⟩ | exact tape_emb rfl | exact embO_le (LeL.refl _) rfl (Nat.lt_of_sub_pos (by exact Nat.zero_lt_succ _)) | exact ⟨rfl, rfl, fun _ _ => .refl _⟩ | (refine ⟨rfl, ?_⟩; simp; done) | (refine ⟨rfl, ?_⟩; omega) | refine ⟨?_, ?_⟩ | refine ⟨?_, ?_, ?_⟩)⟩
    · intro k y hk _
      have hs := vs (l.length - 1 - k) (by omega)
      generalize hi : l.length - 1 - k = i at hs
      have hil : i < l.length := by omega
      have hl2 := hul k
      have hup : upN (usedStep l) l.length (k + 1) (markD l.length d) = usedStep l i (upN (usedStep l) l.length k (markD l.length d)) := by rw [upN, hi]
      generalize ha : upN (usedStep l) l.length k (markD l.length d) = a at hl2 hup
      rw [hup]
      (conv => whnf)
      refine cut_intro (ct := []) (ct' := []) cfgOK (by decide +kernel) (by decide +kernel) (fun _ : Unit => ⟨[(0, supsV l), (5, .ptr 0 0 0), (8, iV i), (9, .ptr 2 0 0)], [(2, some (.box (supV (l.getD i sup0)).cells)), (0, some (.box [.osl 1 0 l.length true])), (1, some (.row 1 l.length (rowG AV.bool false (a.set i (a.getD i false || (l.getD i sup0).alw)))))], 3⟩) (fun _ => True) ?_ ?_
      · (conv => whnf)
        refine ⟨⟨by omega, by show (i : Int) < l.length; omega⟩, ?_⟩; conv => whnf
        refine ⟨⟨by omega, by show (i : Int) < l.length; omega⟩, ?_⟩; conv => whnf
        refine ⟨(), [], trivial, ⟨rfl, by (repeat' first | exact trivial | exact rfl | exact ⟨rfl, rfl⟩ | exact ⟨rfl, trivial⟩ | exact ⟨rfl, LeL.refl _, trivial⟩ | exact ⟨rfl, LeL.refl _, LeL.refl _, trivial⟩ | exact embV_le (.refl _) rfl | exact embV_leV (.refl _) rfl (Nat.lt_of_sub_pos (by exact Nat.zero_lt_succ _)) | exact ⟨rfl, rfl, rfl, rfl⟩ | exact ⟨rfl, rfl, rfl, rfl, id⟩ | exact ⟨rfl, rfl, rfl, rfl, rfl⟩ | exact ⟨rfl, rfl, rfl, rfl, nofun⟩ | exact tape_emb rfl | exact embO_le (LeL.refl _) rfl (Nat.lt_of_sub_pos (by exact Nat.zero_lt_succ _)) | exact ⟨rfl, rfl, fun _ _ => .refl _⟩ | (refine ⟨rfl, ?_⟩; simp; done) | (refine ⟨rfl, ?_⟩; omega) | refine ⟨?_, ?_⟩ | refine ⟨?_, ?_, ?_⟩), ⟨by (repeat' first | exact trivial | exact rfl | exact ⟨rfl, rfl⟩ | exact ⟨rfl, trivial⟩ | exact ⟨rfl, LeL.refl _, trivial⟩ | exact ⟨rfl, LeL.refl _, LeL.refl _, trivial⟩ | exact embV_le (.refl _) rfl | exact embV_leV (.refl _) rfl (Nat.lt_of_sub_pos (by exact Nat.zero_lt_succ _)) | exact ⟨rfl, rfl, rfl, rfl⟩ | exact ⟨rfl, rfl, rfl, rfl, id⟩ | exact ⟨rfl, rfl, rfl, rfl, rfl⟩ | exact ⟨rfl, rfl, rfl, rfl, nofun⟩ | exact tape_emb rfl | exact embO_le (LeL.refl _) rfl (Nat.lt_of_sub_pos (by exact Nat.zero_lt_succ _)) | exact ⟨rfl, rfl, fun _ _ => .refl _⟩ | (refine ⟨rfl, ?_⟩; simp; done) | (refine ⟨rfl, ?_⟩; omega) | refine ⟨?_, ?_⟩ | refine ⟨?_, ?_, ?_⟩), by (repeat' first | exact trivial | exact rfl | exact ⟨rfl, rfl⟩ | exact ⟨rfl, trivial⟩ | exact ⟨rfl, LeL.refl _, trivial⟩ | exact ⟨rfl, LeL.refl _, LeL.refl _, trivial⟩ | exact embV_le (.refl _) rfl | exact embV_leV (.refl _) rfl (Nat.lt_of_sub_pos (by exact Nat.zero_lt_succ _)) | exact ⟨rfl, rfl, rfl, rfl⟩ | exact ⟨rfl, rfl, rfl, rfl, id⟩ | exact ⟨rfl, rfl, rfl, rfl, rfl⟩ | exact ⟨rfl, rfl, rfl, rfl, nofun⟩ | exact tape_emb rfl | exact embO_le (LeL.refl _) rfl (Nat.lt_of_sub_pos (by exact Nat.zero_lt_succ _)) | exact ⟨rfl, rfl, fun _ _ => .refl _⟩ | (refine ⟨rfl, ?_⟩; simp; done) | (refine ⟨rfl, ?_⟩; omega) | refine ⟨?_, ?_⟩ | refine ⟨?_, ?_, ?_⟩), ⟨rfl, rfl, fun k _ => ?_⟩, trivial⟩⟩⟩
        exact le_set (i := i) (by omega) rfl (.refl _) k
      · intro _ _
        have hsl : (a.set i (a.getD i false || (l.getD i sup0).alw)).length = l.length := by rw [List.length_set]; exact hl2
        have hgi : (a.set i (a.getD i false || (l.getD i sup0).alw)).getD i false = (a.getD i false || (l.getD i sup0).alw) := by rw [getD_set, if_pos ⟨rfl, by omega⟩]
        (conv => whnf)
        refine ⟨⟨by omega, by show (i : Int) < l.length; omega⟩, ?_⟩; conv => whnf
        refine bcase_of (fun h2 => ?_) (fun h2 => ?_)
        · have h2 : ((a.set i (a.getD i false || (l.getD i sup0).alw)).getD i false && decide (0 ≤ (l.getD i sup0).par)) = true := h2
          rw [hgi] at h2
          have hp0 : 0 ≤ (l.getD i sup0).par := by simp only [Bool.and_eq_true] at h2; exact of_decide_eq_true h2.2
          (conv => whnf)
          refine ⟨⟨hp0, by show (l.getD i sup0).par < (l.length : Int); omega⟩, ?_⟩; conv => whnf
          refine ⟨trivial, [], ⟨rfl, by (repeat' first | exact trivial | exact rfl | exact ⟨rfl, rfl⟩ | exact ⟨rfl, trivial⟩ | exact ⟨rfl, LeL.refl _, trivial⟩ | exact ⟨rfl, LeL.refl _, LeL.refl _, trivial⟩ | exact embV_le (.refl _) rfl | exact embV_leV (.refl _) rfl (Nat.lt_of_sub_pos (by exact Nat.zero_lt_succ _)) | exact ⟨rfl, rfl, rfl, rfl⟩ | exact ⟨rfl, rfl, rfl, rfl, id⟩ | exact ⟨rfl, rfl, rfl, rfl, rfl⟩ | exact ⟨rfl, rfl, rfl, rfl, nofun⟩ | exact tape_emb rfl | exact embO_le (LeL.refl _) rfl (Nat.lt_of_sub_pos (by exact Nat.zero_lt_succ _)) | exact ⟨rfl, rfl, fun _ _ => .refl _⟩ | (refine ⟨rfl, ?_⟩; simp; done) | (refine ⟨rfl, ?_⟩; omega) | refine ⟨?_, ?_⟩ | refine ⟨?_, ?_, ?_⟩), ⟨by (repeat' first | exact trivial | exact rfl | exact ⟨rfl, rfl⟩ | exact ⟨rfl, trivial⟩ | exact ⟨rfl, LeL.refl _, trivial⟩ | exact ⟨rfl, LeL.refl _, LeL.refl _, trivial⟩ | exact embV_le (.refl _) rfl | exact embV_leV (.refl _) rfl (Nat.lt_of_sub_pos (by exact Nat.zero_lt_succ _)) | exact ⟨rfl, rfl, rfl, rfl⟩ | exact ⟨rfl, rfl, rfl, rfl, id⟩ | exact ⟨rfl, rfl, rfl, rfl, rfl⟩ | exact ⟨rfl, rfl, rfl, rfl, nofun⟩ | exact tape_emb rfl | exact embO_le (LeL.refl _) rfl (Nat.lt_of_sub_pos (by exact Nat.zero_lt_succ _)) | exact ⟨rfl, rfl, fun _ _ => .refl _⟩ | (refine ⟨rfl, ?_⟩; simp; done) | (refine ⟨rfl, ?_⟩; omega) | refine ⟨?_, ?_⟩ | refine ⟨?_, ?_, ?_⟩), ⟨rfl, rfl, fun k _ => ?_⟩, trivial⟩⟩⟩
          unfold usedStep
          rw [h2]
          exact le_set (i := (l.getD i sup0).par.toNat) (by omega) rfl (.refl _) k
        · have h2 : ((a.set i (a.getD i false || (l.getD i sup0).alw)).getD i false && decide (0 ≤ (l.getD i sup0).par)) = false := h2
          rw [hgi] at h2
          (conv => whnf)
          refine ⟨trivial, [], ⟨rfl, by (repeat' first | exact trivial | exact rfl | exact ⟨rfl, rfl⟩ | exact ⟨rfl, trivial⟩ | exact ⟨rfl, LeL.refl _, trivial⟩ | exact ⟨rfl, LeL.refl _, LeL.refl _, trivial⟩ | exact embV_le (.refl _) rfl | exact embV_leV (.refl _) rfl (Nat.lt_of_sub_pos (by exact Nat.zero_lt_succ _)) | exact ⟨rfl, rfl, rfl, rfl⟩ | exact ⟨rfl, rfl, rfl, rfl, id⟩ | exact ⟨rfl, rfl, rfl, rfl, rfl⟩ | exact ⟨rfl, rfl, rfl, rfl, nofun⟩ | exact tape_emb rfl | exact embO_le (LeL.refl _) rfl (Nat.lt_of_sub_pos (by exact Nat.zero_lt_succ _)) | exact ⟨rfl, rfl, fun _ _ => .refl _⟩ | (refine ⟨rfl, ?_⟩; simp; done) | (refine ⟨rfl, ?_⟩; omega) | refine ⟨?_, ?_⟩ | refine ⟨?_, ?_, ?_⟩), ⟨by (repeat' first | exact trivial | exact rfl | exact ⟨rfl, rfl⟩ | exact ⟨rfl, trivial⟩ | exact ⟨rfl, LeL.refl _, trivial⟩ | exact ⟨rfl, LeL.refl _, LeL.refl _, trivial⟩ | exact embV_le (.refl _) rfl | exact embV_leV (.refl _) rfl (Nat.lt_of_sub_pos (by exact Nat.zero_lt_succ _)) | exact ⟨rfl, rfl, rfl, rfl⟩ | exact ⟨rfl, rfl, rfl, rfl, id⟩ | exact ⟨rfl, rfl, rfl, rfl, rfl⟩ | exact ⟨rfl, rfl, rfl, rfl, nofun⟩ | exact tape_emb rfl | exact embO_le (LeL.refl _) rfl (Nat.lt_of_sub_pos (by exact Nat.zero_lt_succ _)) | exact ⟨rfl, rfl, fun _ _ => .refl _⟩ | (refine ⟨rfl, ?_⟩; simp; done) | (refine ⟨rfl, ?_⟩; omega) | refine ⟨?_, ?_⟩ | refine ⟨?_, ?_, ?_⟩), ⟨rfl, rfl, fun k _ => ?_⟩, trivial⟩⟩⟩
          unfold usedStep
          rw [h2]
          exact .refl _
    · intro _
      (conv => whnf)
      rw [upN_all]
      exact ⟨embV_le (le_len (usedF_len l d).symm) rfl, trivial⟩

end Go.Proofs.Ytjmhlbogkeohpaa

namespace Go.Proofs.Ytjmhlbogkeohpaa
open Go.Ab
set_option maxRecDepth 100000

def sumD (n : Nat) (d : List Drw) : List Int := d.foldl (fun a x => a.set x.sup.toNat (a.getD x.sup.toNat 0 + x.load)) (List.replicate n 0)
def loadStep (l : List Sup) (i : Nat) (a : List Int) : List Int :=
  bif decide (0 ≤ (l.getD i sup0).par) then a.set (l.getD i sup0).par.toNat (a.getD (l.getD i sup0).par.toNat 0 + a.getD i 0) else a
def loadsF (l : List Sup) (d : List Drw) : List Int := backN (loadStep l) l.length (sumD l.length d)

theorem sumD_len (n : Nat) (d : List Drw) : (sumD n d).length = n := by
  unfold sumD
  rw [foldl_len _ (fun a x => List.length_set ..), List.length_replicate]

theorem loadStep_len (l : List Sup) (i : Nat) (a : List Int) : (loadStep l i a).length = a.length := by
  unfold loadStep
  cases decide (0 ≤ (l.getD i sup0).par) <;> simp

theorem loadsF_len (l : List Sup) (d : List Drw) : (loadsF l d).length = l.length := by
  unfold loadsF
  rw [backN_len (loadStep_len l), sumD_len]

def Bnd (a : List Int) (M : Int) : Prop := ∀ j, 0 ≤ a.getD j 0 ∧ a.getD j 0 ≤ M

theorem Bnd.set {a : List Int} {M N : Int} (h : Bnd a M) (hM : M ≤ N) (i : Nat) (v : Int) (hv : 0 ≤ v ∧ v ≤ N) : Bnd (a.set i v) N := fun j => by
  rw [getD_set]
  have := h j
  split
  · exact hv
  · omega

theorem sumD_bnd (n : Nat) (d : List Drw) (hd : ∀ x ∈ d, 0 ≤ x.load ∧ x.load ≤ 10000) (i : Nat) (hi : i ≤ d.length) : Bnd (sumD n (d.take i)) (10000 * i) := by
  induction i with
  | zero => intro j; rw [List.take_zero]; have : (sumD n []).getD j 0 = 0 := rep_getD n j 0; omega
  | succ i ih =>
    have hsn : sumD n (d.take (i + 1)) = (sumD n (d.take i)).set (d.getD i drw0).sup.toNat ((sumD n (d.take i)).getD (d.getD i drw0).sup.toNat 0 + (d.getD i drw0).load) := foldl_take _ _ drw0 hi
    rw [hsn]
    have h1 := ih (by omega)
    have h2 := hd _ (getD_mem drw0 hi)
    have h3 := h1 (d.getD i drw0).sup.toNat
    exact h1.set (by omega) _ _ (by omega)

theorem loadUp_bnd (l : List Sup) (a : List Int) (M : Int) (h : Bnd a M) (k : Nat) : Bnd (upN (loadStep l) l.length k a) (M * 2 ^ k) := by
  induction k with
  | zero => show Bnd a (M * 2 ^ 0); rw [Int.pow_zero, Int.mul_one]; exact h
  | succ k ih =>
    rw [upN]
    have e : M * 2 ^ (k + 1) = M * 2 ^ k + M * 2 ^ k := by rw [Int.pow_succ, ← Int.mul_assoc]; omega
    rw [e]
    generalize upN (loadStep l) l.length k a = A at ih
    generalize M * 2 ^ k = X at ih
    have hp : 0 ≤ X := by have := ih 0; omega
    unfold loadStep
    cases decide (0 ≤ (l.getD (l.length - 1 - k) sup0).par) with
    | true =>
      have h1 := ih (l.getD (l.length - 1 - k) sup0).par.toNat
      have h2 := ih (l.length - 1 - k)
      exact ih.set (by omega) _ _ (by omega)
    | false =>
      intro j
      have := ih j
      simp only [cond_false]
      omega

theorem loadUp_small {l : List Sup} {d : List Drw} (hv : Vld l d) (k : Nat) (hk : k ≤ l.length) : Bnd (upN (loadStep l) l.length k (sumD l.length d)) 100000000000 := by
  have h1 := sumD_bnd l.length d (fun x hx => by have := hv.drw x hx; omega) d.length (Nat.le_refl _)
  rw [List.take_length] at h1
  have h2 := loadUp_bnd l _ _ h1 k
  have hvl := hv.len
  have hvd := hv.dlen
  have h3 : (2 : Int) ^ k ≤ 2 ^ 16 := by exact_mod_cast Nat.pow_le_pow_right (n := 2) (by decide) (show k ≤ 16 by omega)
  have h4 : 10000 * (d.length : Int) * 2 ^ k ≤ 320000 * 2 ^ 16 := Int.mul_le_mul (by omega) h3 (Int.pow_nonneg (by decide)) (by decide)
  intro j
  have := h2 j
  omega

theorem loads_spec (l : List Sup) (d : List Drw) (hv : Vld l d) : S 45 [supsV l, drwsV d] [] (intsV (loadsF l d)) [] := by
  have hsm := fun k hk => loadUp_small hv k hk
  obtain ⟨vl, vd, vs, _, vx⟩ := hv
  refine spec_of_x (ct := []) cfgOK Try.func45 rfl rfl (Nat.le_of_ble_eq_true rfl) (by decide +kernel) (Nat.zero_le _) ?_; conv => whnf
  refine ⟨⟨by omega, by show (l.length : Int) * 8 ≤ 140737488355328; omega⟩, ?_⟩; conv => whnf
  refine loops_intro (ct := []) cfgOK (by decide +kernel) (fun i : Nat => ⟨[(0, supsV l), (5, .ptr 0 0 0), (13, drwsV d), (14, iV d.length), (15, iV i)], [(0, some (.box [.osl 1 0 l.length true])), (1, some (.row 1 l.length (rowG iV 0 (sumD l.length (d.take i)))))], 2⟩) (fun i => i ≤ d.length) (fun i => d.length - i) 0 [(0, some 4), (1, some 3)] (Nat.zero_le _) ?_ ?_
  · refine ⟨rfl, by (repeat' first | exact trivial | exact rfl | exact ⟨rfl, rfl⟩ | exact ⟨rfl, trivial⟩ | exact ⟨rfl, LeL.refl _, trivial⟩ | exact ⟨rfl, LeL.refl _, LeL.refl _, trivial⟩ | exact embV_le (.refl _) rfl | exact embV_leV (.refl _) rfl (Nat.lt_of_sub_pos (by exact Nat.zero_lt_succ _)) | exact ⟨rfl, rfl, rfl, rfl⟩ | exact ⟨rfl, rfl, rfl, rfl, id⟩ | exact ⟨rfl, rfl, rfl, rfl, rfl⟩ | exact ⟨rfl, rfl, rfl, rfl, nofun⟩ | exact tape_emb rfl | exact embO_le (LeL.refl _) rfl (Nat.lt_of_sub_pos (by exact Nat.zero_lt_succ _)) | exact ⟨rfl, rfl, fun _ _ => .refl _⟩ | (refine ⟨rfl, ?_⟩; simp; done) | (refine ⟨rfl, ?_⟩; omega) | refine ⟨?_, ?_⟩ | refine ⟨?_, ?_, ?_⟩), ⟨by (repeat' first | exact trivial | exact rfl | exact ⟨rfl, rfl⟩ | exact ⟨rfl, trivial⟩ | exact ⟨rfl, LeL.refl _, trivial⟩ | exact ⟨rfl, LeL.refl _, LeL.refl _, trivial⟩ | exact embV_le (.refl _) rfl | exact embV_leV (.refl _) rfl (Nat.lt_of_sub_pos (by exact Nat.zero_lt_succ _)) | exact ⟨rfl, rfl, rfl, rfl⟩ | exact ⟨rfl, rfl, rfl, rfl, id⟩ | exact ⟨rfl, rfl, rfl, rfl, rfl⟩ | exact ⟨rfl, rfl, rfl, rfl, nofun⟩ | exact tape_emb rfl | exact embO_le (LeL.refl _) rfl (Nat.lt_of_sub_pos (by exact Nat.zero_lt_succ _)) | exact ⟨rfl, rfl, fun _ _ => .refl _⟩ | (refine ⟨rfl, ?_⟩; simp; done) | (refine ⟨rfl, ?_⟩; omega) | refine ⟨?_, ?_⟩ | refine ⟨?_, ?_, ?_⟩), ⟨rfl, rfl, fun k _ => ?_⟩, trivial⟩⟩
    show Le (iV 0) (iV ((List.replicate l.length 0).getD k 0))
    rw [rep_getD]
    exact .refl _
  intro i hi
  (conv => whnf)
  refine bcase_of (fun h => ?_) (fun h => ?_)
  · have hlt : i < d.length := by have := of_decide_eq_true h; omega
    have hx := vx _ (getD_mem drw0 hlt)
    have hml := sumD_len l.length (d.take i)
    have hbd := sumD_bnd l.length d (fun x hx => by have := vx x hx; omega) i (by omega) (d.getD i drw0).sup.toNat
    have hsn : sumD l.length (d.take (i + 1)) = (sumD l.length (d.take i)).set (d.getD i drw0).sup.toNat ((sumD l.length (d.take i)).getD (d.getD i drw0).sup.toNat 0 + (d.getD i drw0).load) := foldl_take _ _ drw0 hlt
    (conv => whnf)
    (refine ⟨by intros; first | omega | (unfold InI64; omega) | (simp only [List.length_append, List.length_cons, List.length_nil, List.length_set]; omega), ?_⟩; conv => whnf)
    refine ⟨⟨hx.1, by show (d.getD i drw0).sup < (l.length : Int); omega⟩, ?_⟩; conv => whnf
    refine ⟨by show InI64 ((sumD l.length (d.take i)).getD (d.getD i drw0).sup.toNat 0 + (d.getD i drw0).load); unfold InI64; omega, ?_⟩; conv => whnf
    refine ⟨⟨hx.1, by show (d.getD i drw0).sup < (l.length : Int); omega⟩, ?_⟩; conv => whnf
    (refine ⟨by intros; first | omega | (unfold InI64; omega) | (simp only [List.length_append, List.length_cons, List.length_nil, List.length_set]; omega), ?_⟩; conv => whnf)
    refine ⟨i + 1, [(0, some 0), (1, some 1)], hlt, by omega, ⟨rfl, by (repeat' first | exact trivial | exact rfl | exact ⟨rfl, rfl⟩ | exact ⟨rfl, trivial⟩ | exact ⟨rfl, LeL.refl _, trivial⟩ | exact ⟨rfl, LeL.refl _, LeL.refl _, trivial⟩ | exact embV_le (.refl _) rfl | exact embV_leV (.refl _) rfl (Nat.lt_of_sub_pos (by exact Nat.zero_lt_succ _)) | exact ⟨rfl, rfl, rfl, rfl⟩ | exact ⟨rfl, rfl, rfl, rfl, id⟩ | exact ⟨rfl, rfl, rfl, rfl, rfl⟩ | exact ⟨rfl, rfl, rfl, rfl, nofun⟩ | exact tape_emb rfl | exact embO_le (LeL.refl _) rfl (Nat.lt_of_sub_pos (by exact Nat.zero_lt_succ _)) | exact ⟨rfl, rfl, fun _ _ => .refl _⟩ | (refine ⟨rfl, ?_⟩; simp; done) | (refine ⟨rfl, ?_⟩; omega) | refine ⟨?_, ?_⟩ | refine ⟨?_, ?_, ?_⟩), ⟨by (repeat' first | exact trivial | exact rfl | exact ⟨rfl, rfl⟩ | exact ⟨rfl, trivial⟩ | exact ⟨rfl, LeL.refl _, trivial⟩ | exact ⟨rfl, LeL.refl _, LeL.refl _, trivial⟩ | exact embV_le (.refl _) rfl | exact embV_leV (.refl _) rfl (Nat.lt_of_sub_pos (by exact Nat.zero_lt_succ _)) | exact ⟨rfl, rfl, rfl, rfl⟩ | exact ⟨rfl, rfl, rfl, rfl, id⟩ | exact ⟨rfl, rfl, rfl, rfl, rfl⟩ | exact ⟨rfl, rfl, rfl, rfl, nofun⟩ | exact tape_emb rfl | exact embO_le (LeL.refl _) rfl (Nat.lt_of_sub_pos (by exact Nat.zero_lt_succ _)) | exact ⟨rfl, rfl, fun _ _ => .refl _⟩ | (refine ⟨rfl, ?_⟩; simp; done) | (refine ⟨rfl, ?_⟩; omega) | refine ⟨?_, ?_⟩ | refine ⟨?_, ?_, ?_⟩), ⟨rfl, rfl, fun k _ => ?_⟩, trivial⟩⟩⟩
    rw [hsn]
    exact le_set (i := (d.getD i drw0).sup.toNat) (by omega) rfl (.refl _) k
  · have hil : i = d.length := by have := of_decide_eq_false h; omega
    subst hil
    rw [List.take_length]
    (conv => whnf)
    refine ⟨_, _, backward_spec l, ?_⟩; conv => whnf
    have hul : ∀ k, (upN (loadStep l) l.length k (sumD l.length d)).length = l.length := fun k => by rw [upN_len (loadStep_len l), sumD_len]
    refine range_inv (ct := []) (ct' := []) cfgOK (by decide +kernel) (by decide +kernel) (by decide +kernel) (by decide +kernel) (back_iter l (by omega)) rfl (by intro v hv; simp at hv; exact ⟨_, hv⟩)
      (fun k => ⟨[(0, supsV l), (5, .ptr 0 0 0)], [(0, some (.box [.osl 1 0 l.length true])), (1, some (.row 1 l.length (rowG iV 0 (upN (loadStep l) l.length k (sumD l.length d)))))], 2⟩)
      (fun k => ⟨[(0, supsV l), (5, .ptr 0 0 0), (8, iV ((l.length - 1 - k : Nat) : Int)), (9, .ptr 2 0 0)], [(2, some (.box (supV (l.getD (l.length - 1 - k) sup0)).cells)), (0, some (.box [.osl 1 0 l.length true])), (1, some (.row 1 l.length (rowG iV 0 (upN (loadStep l) l.length k (sumD l.length d)))))], 3⟩)
      [(0, some 0), (1, some 1)] (by (repeat' first | exact trivial | exact rfl | exact ⟨rfl, rfl⟩ | exact ⟨rfl, trivial⟩ | exact ⟨rfl, LeL.refl _, trivial⟩ | exact ⟨rfl, LeL.refl _, LeL.refl _, trivial⟩ | exact embV_le (.refl _) rfl | exact embV_leV (.refl _) rfl (Nat.lt_of_sub_pos (by exact Nat.zero_lt_succ _)) | exact ⟨rfl, rfl, rfl, rfl⟩ | exact ⟨rfl, rfl, rfl, rfl, id⟩ | exact ⟨rfl, rfl, rfl, rfl, rfl⟩ | exact ⟨rfl, rfl, rfl, rfl, nofun⟩ | exact tape_emb rfl | exact embO_le (LeL.refl _) rfl (Nat.lt_of_sub_pos (by exact Nat.zero_lt_succ _)) | exact ⟨rfl, rfl, fun _ _ => .refl _⟩ | (refine ⟨rfl, ?_⟩; simp; done) | (refine ⟨rfl, ?_⟩; omega) | refine ⟨?_, ?_⟩ | refine ⟨?_, ?_, ?_⟩)) (fun _ => True) trivial ?_ ?_ ?_
    · intro k y hk _
      refine ⟨Nat.zero_le _, ?_⟩
      (conv => whnf)
      exact ⟨[(2, some 3)], by (repeat' first | exact trivial | exact rfl | exact ⟨rfl, rfl⟩ | exact ⟨rfl, trivial⟩ | exact ⟨rfl, LeL.refl _, trivial⟩ | exact ⟨rfl, LeL.refl _, LeL.refl _, trivial⟩ | exact embV_le (.refl _) rfl | exact embV_leV (.refl _) rfl (Nat.lt_of_sub_pos (by exact Nat.zero_lt_succ _)) | exact ⟨rfl, rfl, rfl, rfl⟩ | exact ⟨rfl, rfl, rfl, rfl, id⟩ | exact ⟨rfl, rfl, rfl, rfl, rfl⟩ | exact ⟨rfl, rfl, rfl, rfl, nofun⟩ | exact tape_emb rfl | exact embO_le (LeL.refl _) rfl (Nat.lt_of_sub_pos (by exact Nat.zero_lt_succ _)) | exact ⟨rfl, rfl, fun _ _ => .refl _⟩ | (refine ⟨rfl, ?_⟩; simp; done) | (refine ⟨rfl, ?_⟩; omega) | refine ⟨?_, ?_⟩ | refine ⟨?_, ?_, ?_⟩)⟩
    · intro k y hk _
      have hs := vs (l.length - 1 - k) (by omega)
      have hup : upN (loadStep l) l.length (k + 1) (sumD l.length d) = loadStep l (l.length - 1 - k) (upN (loadStep l) l.length k (sumD l.length d)) := rfl
      generalize hi : l.length - 1 - k = i at hs hup
      have hil : i < l.length := by omega
      have hl2 := hul k
      have hbd := hsm k (by omega)
      generalize ha : upN (loadStep l) l.length k (sumD l.length d) = a at hl2 hup hbd
      have hb1 := hbd (l.getD i sup0).par.toNat
      have hb2 := hbd i
      rw [hup]
      (conv => whnf)
      refine bcase_of (fun h2 => ?_) (fun h2 => ?_)
      · have h2 : decide (0 ≤ (l.getD i sup0).par) = true := h2
        have hp0 := of_decide_eq_true h2
        (conv => whnf)
        refine ⟨⟨hp0, by show (l.getD i sup0).par < (l.length : Int); omega⟩, ?_⟩; conv => whnf
        refine ⟨⟨by omega, by show (i : Int) < l.length; omega⟩, ?_⟩; conv => whnf
        refine ⟨by show InI64 (a.getD (l.getD i sup0).par.toNat 0 + a.getD i 0); unfold InI64; omega, ?_⟩; conv => whnf
        refine ⟨⟨hp0, by show (l.getD i sup0).par < (l.length : Int); omega⟩, ?_⟩; conv => whnf
        refine ⟨trivial, [], ⟨rfl, by (repeat' first | exact trivial | exact rfl | exact ⟨rfl, rfl⟩ | exact ⟨rfl, trivial⟩ | exact ⟨rfl, LeL.refl _, trivial⟩ | exact ⟨rfl, LeL.refl _, LeL.refl _, trivial⟩ | exact embV_le (.refl _) rfl | exact embV_leV (.refl _) rfl (Nat.lt_of_sub_pos (by exact Nat.zero_lt_succ _)) | exact ⟨rfl, rfl, rfl, rfl⟩ | exact ⟨rfl, rfl, rfl, rfl, id⟩ | exact ⟨rfl, rfl, rfl, rfl, rfl⟩ | exact ⟨rfl, rfl, rfl, rfl, nofun⟩ | exact tape_emb rfl | exact embO_le (LeL.refl _) rfl (Nat.lt_of_sub_pos (by exact Nat.zero_lt_succ _)) | exact ⟨rfl, rfl, fun _ _ => .refl _⟩ | (refine ⟨rfl, ?_⟩; simp; done) | (refine ⟨rfl, ?_⟩; omega) | refine ⟨?_, ?_⟩ | refine ⟨?_, ?_, ?_⟩), ⟨by (repeat' first | exact trivial | exact rfl | exact ⟨rfl, rfl⟩ | exact ⟨rfl, trivial⟩ | exact ⟨rfl, LeL.refl _, trivial⟩ | exact ⟨rfl, LeL.refl _, LeL.refl _, trivial⟩ | exact embV_le (.refl _) rfl | exact embV_leV (.refl _) rfl (Nat.lt_of_sub_pos (by exact Nat.zero_lt_succ _)) | exact ⟨rfl, rfl, rfl, rfl⟩ | exact ⟨rfl, rfl, rfl, rfl, id⟩ | exact ⟨rfl, rfl, rfl, rfl, rfl⟩ | exact ⟨rfl, rfl, rfl, rfl, nofun⟩ | exact tape_emb rfl | exact embO_le (LeL.refl _) rfl (Nat.lt_of_sub_pos (by exact Nat.zero_lt_succ _)) | exact ⟨rfl, rfl, fun _ _ => .refl _⟩ | (refine ⟨rfl, ?_⟩; simp; done) | (refine ⟨rfl, ?_⟩; omega) | refine ⟨?_, ?_⟩ | refine ⟨?_, ?_, ?_⟩), ⟨rfl, rfl, fun k _ => ?_⟩, trivial⟩⟩⟩
        unfold loadStep
        rw [h2]
        exact le_set (i := (l.getD i sup0).par.toNat) (by omega) rfl (.refl _) k
      · have h2 : decide (0 ≤ (l.getD i sup0).par) = false := h2
        (conv => whnf)
        refine ⟨trivial, [], ⟨rfl, by (repeat' first | exact trivial | exact rfl | exact ⟨rfl, rfl⟩ | exact ⟨rfl, trivial⟩ | exact ⟨rfl, LeL.refl _, trivial⟩ | exact ⟨rfl, LeL.refl _, LeL.refl _, trivial⟩ | exact embV_le (.refl _) rfl | exact embV_leV (.refl _) rfl (Nat.lt_of_sub_pos (by exact Nat.zero_lt_succ _)) | exact ⟨rfl, rfl, rfl, rfl⟩ | exact ⟨rfl, rfl, rfl, rfl, id⟩ | exact ⟨rfl, rfl, rfl, rfl, rfl⟩ | exact ⟨rfl, rfl, rfl, rfl, nofun⟩ | exact tape_emb rfl | exact embO_le (LeL.refl _) rfl (Nat.lt_of_sub_pos (by exact Nat.zero_lt_succ _)) | exact ⟨rfl, rfl, fun _ _ => .refl _⟩ | (refine ⟨rfl, ?_⟩; simp; done) | (refine ⟨rfl, ?_⟩; omega) | refine ⟨?_, ?_⟩ | refine ⟨?_, ?_, ?_⟩), ⟨by (repeat' first | exact trivial | exact rfl | exact ⟨rfl, rfl⟩ | exact ⟨rfl, trivial⟩ | exact ⟨rfl, LeL.refl _, trivial⟩ | exact ⟨rfl, LeL.refl _, LeL.refl _, trivial⟩ | exact embV_le (.refl _) rfl | exact embV_leV (.refl _) rfl (Nat.lt_of_sub_pos (by exact Nat.zero_lt_succ _)) | exact ⟨rfl, rfl, rfl, rfl⟩ | exact ⟨rfl, rfl, rfl, rfl, id⟩ | exact ⟨rfl, rfl, rfl, rfl, rfl⟩ | exact ⟨rfl, rfl, rfl, rfl, nofun⟩ | exact tape_emb rfl | exact embO_le (LeL.refl _) rfl (Nat.lt_of_sub_pos (by exact Nat.zero_lt_succ _)) | exact ⟨rfl, rfl, fun _ _ => .refl _⟩ | (refine ⟨rfl, ?_⟩; simp; done) | (refine ⟨rfl, ?_⟩; omega) | refine ⟨?_, ?_⟩ | refine ⟨?_, ?_, ?_⟩), ⟨rfl, rfl, fun k _ => ?_⟩, trivial⟩⟩⟩
        unfold loadStep
        rw [h2]
        exact .refl _
    · intro _
      (conv => whnf)
      rw [upN_all]
      exact ⟨embV_le (le_len (loadsF_len l d).symm) rfl, trivial⟩

end Go.Proofs.Ytjmhlbogkeohpaa

namespace Go.Proofs.Ytjmhlbogkeohpaa
open Go.Ab
set_option maxRecDepth 100000

def usedR (l : List Sup) (d : List Drw) : List Bool := bif !drawsF l d then [] else usedF l d
theorem Used_spec (l : List Sup) (hl : l.length ≤ 1000000) (d : List Drw) (hd : d.length ≤ 1000000) : S 16 [supsV l, drwsV d] [] (boolsV (usedR l d)) [] := by
  refine spec_of_x (ct := []) cfgOK Try.func16 rfl rfl (Nat.le_of_ble_eq_true rfl) (by decide +kernel) (Nat.zero_le _) ?_; conv => whnf
  refine ⟨_, _, draws_spec l hl d hd, ?_⟩; conv => whnf
  unfold usedR
  refine bcase_of (fun h => ?_) (fun h => ?_)
  · have h : (!drawsF l d) = true := h
    (conv => whnf)
    rw [h]
    exact ⟨embV_le le_nil rfl, trivial⟩
  · have h : (!drawsF l d) = false := h
    (conv => whnf)
    refine ⟨_, _, used_spec l d (vld_of (by simpa using h)), ?_⟩; conv => whnf
    rw [h]
    exact ⟨embV_le (.refl _) rfl, trivial⟩

theorem begin_ok {l : List Sup} {d : List Drw} (h : beginF l d = 0) : drawsF l d = true := by
  unfold beginF at h
  cases hc : checkF l != 0 with
  | true => rw [hc] at h; have : checkF l = 0 := h; rw [this] at hc; cases hc
  | false =>
    rw [hc] at h
    cases hd : drawsF l d with
    | true => rfl
    | false => rw [hd] at h; cases h

def loadsR (l : List Sup) (d : List Drw) : List Int := bif beginF l d != 0 then [] else loadsF l d
theorem Loads_spec (l : List Sup) (hl : l.length ≤ 1000000) (d : List Drw) (hd : d.length ≤ 1000000) : S 19 [supsV l, drwsV d] [] (.tup [intsV (loadsR l d), iV (beginF l d)]) [] := by
  refine spec_of_x (ct := []) cfgOK Try.func19 rfl rfl (Nat.le_of_ble_eq_true rfl) (by decide +kernel) (Nat.zero_le _) ?_; conv => whnf
  refine ⟨_, _, begin_spec l hl d hd, ?_⟩; conv => whnf
  unfold loadsR
  refine bcase_of (fun h => ?_) (fun h => ?_)
  · have h : (beginF l d != 0) = true := h
    (conv => whnf)
    rw [h]
    exact ⟨⟨embV_le le_nil rfl, by (repeat' first | exact trivial | exact rfl | exact ⟨rfl, rfl⟩ | exact ⟨rfl, trivial⟩ | exact ⟨rfl, LeL.refl _, trivial⟩ | exact ⟨rfl, LeL.refl _, LeL.refl _, trivial⟩ | exact embV_le (.refl _) rfl | exact embV_leV (.refl _) rfl (Nat.lt_of_sub_pos (by exact Nat.zero_lt_succ _)) | exact ⟨rfl, rfl, rfl, rfl⟩ | exact ⟨rfl, rfl, rfl, rfl, id⟩ | exact ⟨rfl, rfl, rfl, rfl, rfl⟩ | exact ⟨rfl, rfl, rfl, rfl, nofun⟩ | exact tape_emb rfl | exact embO_le (LeL.refl _) rfl (Nat.lt_of_sub_pos (by exact Nat.zero_lt_succ _)) | exact ⟨rfl, rfl, fun _ _ => .refl _⟩ | (refine ⟨rfl, ?_⟩; simp; done) | (refine ⟨rfl, ?_⟩; omega) | refine ⟨?_, ?_⟩ | refine ⟨?_, ?_, ?_⟩), trivial⟩, trivial⟩
  · have h : (beginF l d != 0) = false := h
    have h0 : beginF l d = 0 := by simpa using h
    (conv => whnf)
    refine ⟨_, _, loads_spec l d (vld_of (begin_ok h0)), ?_⟩; conv => whnf
    rw [h, h0]
    exact ⟨⟨embV_le (.refl _) rfl, by (repeat' first | exact trivial | exact rfl | exact ⟨rfl, rfl⟩ | exact ⟨rfl, trivial⟩ | exact ⟨rfl, LeL.refl _, trivial⟩ | exact ⟨rfl, LeL.refl _, LeL.refl _, trivial⟩ | exact embV_le (.refl _) rfl | exact embV_leV (.refl _) rfl (Nat.lt_of_sub_pos (by exact Nat.zero_lt_succ _)) | exact ⟨rfl, rfl, rfl, rfl⟩ | exact ⟨rfl, rfl, rfl, rfl, id⟩ | exact ⟨rfl, rfl, rfl, rfl, rfl⟩ | exact ⟨rfl, rfl, rfl, rfl, nofun⟩ | exact tape_emb rfl | exact embO_le (LeL.refl _) rfl (Nat.lt_of_sub_pos (by exact Nat.zero_lt_succ _)) | exact ⟨rfl, rfl, fun _ _ => .refl _⟩ | (refine ⟨rfl, ?_⟩; simp; done) | (refine ⟨rfl, ?_⟩; omega) | refine ⟨?_, ?_⟩ | refine ⟨?_, ?_, ?_⟩), trivial⟩, trivial⟩

def voltF (l : List Sup) (r : Rls) (k : Nat) : Int := (l.getD k sup0).lev.getD (r.lev.getD k 0).toNat 0
def mBad (l : List Sup) (r : Rls) (u : List Bool) (ld : List Int) (i : Nat) : Bool :=
  bif !r.on.getD i false then u.getD i false
  else (decide (0 ≤ (l.getD i sup0).par) && (!r.on.getD (l.getD i sup0).par.toNat false || decide (voltF l r (l.getD i sup0).par.toNat < voltF l r i + (l.getD i sup0).drop))) || decide ((l.getD i sup0).cap < ld.getD i 0)
def dBad (l : List Sup) (r : Rls) (x : Drw) : Bool := !withinF (voltF l r x.sup.toNat) x.low x.high
def meets0 (l : List Sup) (r : Rls) (d : List Drw) : Bool := (List.range l.length).all (fun i => !mBad l r (usedF l d) (loadsF l d) i) && !(d.any (dBad l r))
def meetsF (l : List Sup) (r : Rls) (d : List Drw) : Bool := bif !railsF l r || !drawsF l d then false else meets0 l r d

structure Rok (l : List Sup) (r : Rls) : Prop where
  on : r.on.length = l.length
  len : r.lev.length = l.length
  lev : ∀ i, i < l.length → 0 ≤ r.lev.getD i 0 ∧ (r.lev.getD i 0).toNat < (l.getD i sup0).lev.length ∧ r.lev.getD i 0 < (l.getD i sup0).lev.length

theorem rlN_iff {l : List Sup} {r : List Int} (h : r.length = l.length) : rlN l r = true ↔ ∀ i, i < l.length → 0 ≤ r.getD i 0 ∧ r.getD i 0 < (l.getD i sup0).lev.length := by
  induction l generalizing r with
  | nil => simp [rlN]
  | cons s l ih =>
    cases r with
    | nil => simp at h
    | cons k r =>
      rw [rlN, Bool.and_eq_true, withinF_iff, ih (by simpa using h)]
      constructor
      · rintro ⟨h1, h2⟩ i hi
        cases i with
        | zero => show 0 ≤ k ∧ k < s.lev.length; omega
        | succ i => exact h2 i (by simpa using hi)
      · intro h2
        refine ⟨?_, fun i hi => h2 (i + 1) (by simpa using hi)⟩
        have : 0 ≤ k ∧ k < s.lev.length := h2 0 (by simp)
        omega

theorem rails_iff {l : List Sup} {r : Rls} : railsF l r = true ↔ checkF l = 0 ∧ Rok l r := by
  unfold railsF
  cases h : ((checkF l != 0) || ((r.on.length : Int) != l.length)) || ((r.lev.length : Int) != l.length) with
  | true =>
    simp only [cond_true]
    constructor
    · intro h; cases h
    · rintro ⟨h1, h2⟩
      rw [h1, h2.on, h2.len] at h
      simp at h
  | false =>
    simp only [cond_false]
    have h' : checkF l = 0 ∧ r.on.length = l.length ∧ r.lev.length = l.length := by
      simp at h
      omega
    rw [rlN_iff h'.2.2]
    constructor
    · intro h1
      exact ⟨h'.1, h'.2.1, h'.2.2, fun i hi => by have := h1 i hi; omega⟩
    · intro h1 i hi
      have := h1.2.lev i hi
      omega

theorem asc_get {p : Int} {v : List Int} (h : ascB p v = true) : ∀ j, j < v.length → p < v.getD j 0 ∧ 1 ≤ v.getD j 0 ∧ v.getD j 0 ≤ 5000 := by
  induction v generalizing p with
  | nil => intro j hj; simp at hj
  | cons a v ih =>
    rw [ascB, Bool.and_eq_true, Bool.not_eq_true', Bool.or_eq_false_iff, Bool.not_eq_false', withinF_iff] at h
    have h1 := of_decide_eq_false h.1.2
    intro j hj
    cases j with
    | zero => show p < a ∧ 1 ≤ a ∧ a ≤ 5000; omega
    | succ j =>
      have := ih h.2 j (by simpa using hj)
      show p < v.getD j 0 ∧ 1 ≤ v.getD j 0 ∧ v.getD j 0 ≤ 5000
      omega

theorem all_range_false {n i : Nat} {p : Nat → Bool} (hi : i < n) (h : p i = false) : (List.range n).all p = false := by
  rw [List.all_eq_false]
  exact ⟨i, by simpa using hi, by simp [h]⟩

theorem all_range_true {n : Nat} {p : Nat → Bool} (h : ∀ i, i < n → p i = true) : (List.range n).all p = true := by
  rw [List.all_eq_true]
  intro i hi
  exact h i (by simpa using hi)

theorem volt_bnd {l : List Sup} {d : List Drw} {r : Rls} (hv : Vld l d) (hr : Rok l r) (i : Nat) (hi : i < l.length) : 1 ≤ voltF l r i ∧ voltF l r i ≤ 5000 := by
  have := asc_get (hv.lev i hi) _ (hr.lev i hi).2.1
  unfold voltF
  omega

theorem meets1_spec (l : List Sup) (r : Rls) (d : List Drw) (hv : Vld l d) (hr : Rok l r) (x : Drw) (hx : x ∈ d) : S 47 [drwV x, .ro [supsV l], .ro (rlsV r).cells] [] (.bool (dBad l r x)) [] := by
  have h1 := hv.drw x hx
  have h2 := hr.lev x.sup.toNat (by omega)
  have h3 := hr.len
  refine spec_of_x (ct := []) cfgOK Try.func47 rfl rfl (Nat.le_of_ble_eq_true rfl) (by decide +kernel) (Nat.le_refl _) ?_; conv => whnf
  (refine ⟨by intros; first | omega | (unfold InI64; omega) | (simp only [List.length_append, List.length_cons, List.length_nil, List.length_set]; omega), ?_⟩; conv => whnf)
  (refine ⟨by intros; first | omega | (unfold InI64; omega) | (simp only [List.length_append, List.length_cons, List.length_nil, List.length_set]; omega), ?_⟩; conv => whnf)
  refine ⟨⟨h2.1, h2.2.2⟩, ?_⟩; conv => whnf
  refine ⟨_, _, within_spec (voltF l r x.sup.toNat) x.low x.high, ?_⟩; conv => whnf
  exact ⟨rfl, trivial⟩

theorem mdraws_i (s : List Sup) (r : Rls) (l : List Drw) (hv : Vld s l) (hr : Rok s r) : S 70 [drwsV l, .fn 47 [.ro [supsV s], .ro (rlsV r).cells]] [] (iV (idxP (dBad s r) l 0)) [] := by
  have hl := hv.dlen
  refine spec_of_x (ct := []) cfgOK Try.func70 rfl rfl (Nat.le_of_ble_eq_true rfl) (by decide +kernel) (Nat.le_refl _) ?_; conv => whnf
  refine loops_intro (ct := []) cfgOK (by decide +kernel) (fun i : Nat => ⟨[(0, drwsV l), (1, .fn 47 [.ro [supsV s], .ro (rlsV r).cells]), (7, iV l.length), (8, iV i)], [], 1⟩) (fun i => i ≤ l.length ∧ idxP (dBad s r) (l.drop i) i = idxP (dBad s r) l 0) (fun i => l.length - i) 0 [] ⟨Nat.zero_le _, rfl⟩ (by (repeat' first | exact trivial | exact rfl | exact ⟨rfl, rfl⟩ | exact ⟨rfl, trivial⟩ | exact ⟨rfl, LeL.refl _, trivial⟩ | exact ⟨rfl, LeL.refl _, LeL.refl _, trivial⟩ | exact embV_le (.refl _) rfl | exact embV_leV (.refl _) rfl (Nat.lt_of_sub_pos (by exact Nat.zero_lt_succ _)) | exact ⟨rfl, rfl, rfl, rfl⟩ | exact ⟨rfl, rfl, rfl, rfl, id⟩ | exact ⟨rfl, rfl, rfl, rfl, rfl⟩ | exact ⟨rfl, rfl, rfl, rfl, nofun⟩ | exact tape_emb rfl | exact embO_le (LeL.refl _) rfl (Nat.lt_of_sub_pos (by exact Nat.zero_lt_succ _)) | exact ⟨rfl, rfl, fun _ _ => .refl _⟩ | (refine ⟨rfl, ?_⟩; simp; done) | (refine ⟨rfl, ?_⟩; omega) | refine ⟨?_, ?_⟩ | refine ⟨?_, ?_, ?_⟩)) ?_
  intro i ⟨hi1, hi2⟩
  (conv => whnf)
  refine bcase_of (fun h => ?_) (fun h => ?_)
  · have h := of_decide_eq_true h
    have hlt : i < l.length := by omega
    rw [drop_cons drw0 hlt] at hi2
    (conv => whnf)
    (refine ⟨by intros; first | omega | (unfold InI64; omega) | (simp only [List.length_append, List.length_cons, List.length_nil, List.length_set]; omega), ?_⟩; conv => whnf)
    refine ⟨_, _, meets1_spec s r l hv hr (l.getD i drw0) (getD_mem drw0 hlt), ?_⟩; conv => whnf
    refine bcase_of (fun h2 => ?_) (fun h2 => ?_)
    · (conv => whnf)
      have h2 : dBad s r (l.getD i drw0) = true := h2
      refine ⟨⟨rfl, ?_⟩, trivial⟩
      exact (idxP_t (p := dBad s r) (y := l.getD i drw0) h2).symm.trans hi2
    · (conv => whnf)
      have h2 : dBad s r (l.getD i drw0) = false := h2
      (refine ⟨by intros; first | omega | (unfold InI64; omega) | (simp only [List.length_append, List.length_cons, List.length_nil, List.length_set]; omega), ?_⟩; conv => whnf)
      refine ⟨i + 1, [], ⟨by omega, ?_⟩, by omega, (by (repeat' first | exact trivial | exact rfl | exact ⟨rfl, rfl⟩ | exact ⟨rfl, trivial⟩ | exact ⟨rfl, LeL.refl _, trivial⟩ | exact ⟨rfl, LeL.refl _, LeL.refl _, trivial⟩ | exact embV_le (.refl _) rfl | exact embV_leV (.refl _) rfl (Nat.lt_of_sub_pos (by exact Nat.zero_lt_succ _)) | exact ⟨rfl, rfl, rfl, rfl⟩ | exact ⟨rfl, rfl, rfl, rfl, id⟩ | exact ⟨rfl, rfl, rfl, rfl, rfl⟩ | exact ⟨rfl, rfl, rfl, rfl, nofun⟩ | exact tape_emb rfl | exact embO_le (LeL.refl _) rfl (Nat.lt_of_sub_pos (by exact Nat.zero_lt_succ _)) | exact ⟨rfl, rfl, fun _ _ => .refl _⟩ | (refine ⟨rfl, ?_⟩; simp; done) | (refine ⟨rfl, ?_⟩; omega) | refine ⟨?_, ?_⟩ | refine ⟨?_, ?_, ?_⟩))⟩
      exact (idxP_f (p := dBad s r) (y := l.getD i drw0) h2).symm.trans hi2
  · have h := of_decide_eq_false h
    (conv => whnf)
    refine ⟨⟨rfl, ?_⟩, trivial⟩
    rw [← hi2, List.drop_eq_nil_of_le (by omega)]
    rfl

theorem mdraws_c (s : List Sup) (r : Rls) (l : List Drw) (hv : Vld s l) (hr : Rok s r) : S 46 [drwsV l, .fn 47 [.ro [supsV s], .ro (rlsV r).cells]] [] (.bool (l.any (dBad s r))) [] := by
  refine spec_of_x (ct := []) cfgOK Try.func46 rfl rfl (Nat.le_of_ble_eq_true rfl) (by decide +kernel) (Nat.le_refl _) ?_; conv => whnf
  refine ⟨_, _, mdraws_i s r l hv hr, ?_⟩; conv => whnf
  refine ⟨?_, trivial⟩
  show decide _ = _
  rw [idxP_any]

theorem meets_spec (l : List Sup) (hl : l.length ≤ 1000000) (r : Rls) (d : List Drw) (hd : d.length ≤ 1000000) : S 14 [supsV l, rlsV r, drwsV d] [] (.bool (meetsF l r d)) [] := by
  refine spec_of_x (ct := []) cfgOK Try.func14 rfl rfl (Nat.le_of_ble_eq_true rfl) (by decide +kernel) (Nat.le_refl _) ?_; conv => whnf
  refine ⟨_, _, rails_spec l hl r, ?_⟩; conv => whnf
  refine ⟨_, _, fun _ => draws_spec l hl d hd, ?_⟩; conv => whnf
  unfold meetsF
  refine bcase_of (fun h => ?_) (fun h => ?_)
  · have h : (!railsF l r || !drawsF l d) = true := h
    (conv => whnf)
    rw [h]
    exact ⟨rfl, trivial⟩
  · have h : (!railsF l r || !drawsF l d) = false := h
    (conv => whnf)
    rw [h]
    have h' : railsF l r = true ∧ drawsF l d = true := by simpa using h
    have hv := vld_of h'.2
    have hr := (rails_iff.1 h'.1).2
    have hul := usedF_len l d
    have hll := loadsF_len l d
    have hvl := hv.len
    have hvd := hv.dlen
    have ron := hr.on
    have rlen := hr.len
    refine ⟨_, _, used_spec l d hv, ?_⟩; conv => whnf
    refine ⟨_, _, loads_spec l d hv, ?_⟩; conv => whnf
    refine loops_intro (ct := []) cfgOK (by decide +kernel) (fun i : Nat => ⟨[(2, drwsV d), (3, .ptr 0 0 0), (4, .ptr 1 0 0), (7, boolsV (usedF l d)), (8, intsV (loadsF l d)), (28, supsV l), (29, iV l.length), (30, iV i)], [(0, some (.box [supsV l])), (1, some (.box (rlsV r).cells))], 2⟩) (fun i => i ≤ l.length ∧ ∀ j, j < i → mBad l r (usedF l d) (loadsF l d) j = false) (fun i => l.length - i) 0 [(0, some 0), (1, some 1)] ⟨Nat.zero_le _, fun j hj => absurd hj (Nat.not_lt_zero j)⟩ (by (repeat' first | exact trivial | exact rfl | exact ⟨rfl, rfl⟩ | exact ⟨rfl, trivial⟩ | exact ⟨rfl, LeL.refl _, trivial⟩ | exact ⟨rfl, LeL.refl _, LeL.refl _, trivial⟩ | exact embV_le (.refl _) rfl | exact embV_leV (.refl _) rfl (Nat.lt_of_sub_pos (by exact Nat.zero_lt_succ _)) | exact ⟨rfl, rfl, rfl, rfl⟩ | exact ⟨rfl, rfl, rfl, rfl, id⟩ | exact ⟨rfl, rfl, rfl, rfl, rfl⟩ | exact ⟨rfl, rfl, rfl, rfl, nofun⟩ | exact tape_emb rfl | exact embO_le (LeL.refl _) rfl (Nat.lt_of_sub_pos (by exact Nat.zero_lt_succ _)) | exact ⟨rfl, rfl, fun _ _ => .refl _⟩ | (refine ⟨rfl, ?_⟩; simp; done) | (refine ⟨rfl, ?_⟩; omega) | refine ⟨?_, ?_⟩ | refine ⟨?_, ?_, ?_⟩)) ?_
    intro i ⟨hi1, hi2⟩
    (conv => whnf)
    refine bcase_of (fun h2 => ?_) (fun h2 => ?_)
    · have hlt : i < l.length := by have := of_decide_eq_true h2; omega
      have hs := hv.sup i hlt
      have hri := hr.lev i hlt
      have hvi := volt_bnd hv hr i hlt
      have hnext : mBad l r (usedF l d) (loadsF l d) i = false → ∀ j, j < i + 1 → mBad l r (usedF l d) (loadsF l d) j = false := fun hb j hj => by
        by_cases hji : j = i
        · subst hji; exact hb
        · exact hi2 j (by omega)
      have hstop : mBad l r (usedF l d) (loadsF l d) i = true → meets0 l r d = false := fun hb => by
        unfold meets0
        rw [all_range_false hlt (by rw [hb]; rfl)]
        rfl
      (conv => whnf)
      (refine ⟨by intros; first | omega | (unfold InI64; omega) | (simp only [List.length_append, List.length_cons, List.length_nil, List.length_set]; omega), ?_⟩; conv => whnf)
      refine ⟨⟨by omega, by show (i : Int) < r.on.length; omega⟩, ?_⟩; conv => whnf
      refine bcase_of (fun h3 => ?_) (fun h3 => ?_)
      · have h3 : (!r.on.getD i false) = true := h3
        (conv => whnf)
        refine ⟨⟨by omega, by show (i : Int) < (usedF l d).length; omega⟩, ?_⟩; conv => whnf
        refine bcase_of (fun h4 => ?_) (fun h4 => ?_)
        · have h4 : (usedF l d).getD i false = true := h4
          (conv => whnf)
          refine ⟨?_, trivial⟩
          show false = meets0 l r d
          rw [hstop (by unfold mBad; rw [h3, h4]; rfl)]
        · have h4 : (usedF l d).getD i false = false := h4
          (conv => whnf)
          (refine ⟨by intros; first | omega | (unfold InI64; omega) | (simp only [List.length_append, List.length_cons, List.length_nil, List.length_set]; omega), ?_⟩; conv => whnf)
          refine ⟨i + 1, [(0, some 0), (1, some 1)], ⟨by omega, hnext (by unfold mBad; rw [h3, h4]; rfl)⟩, by omega, (by (repeat' first | exact trivial | exact rfl | exact ⟨rfl, rfl⟩ | exact ⟨rfl, trivial⟩ | exact ⟨rfl, LeL.refl _, trivial⟩ | exact ⟨rfl, LeL.refl _, LeL.refl _, trivial⟩ | exact embV_le (.refl _) rfl | exact embV_leV (.refl _) rfl (Nat.lt_of_sub_pos (by exact Nat.zero_lt_succ _)) | exact ⟨rfl, rfl, rfl, rfl⟩ | exact ⟨rfl, rfl, rfl, rfl, id⟩ | exact ⟨rfl, rfl, rfl, rfl, rfl⟩ | exact ⟨rfl, rfl, rfl, rfl, nofun⟩ | exact tape_emb rfl | exact embO_le (LeL.refl _) rfl (Nat.lt_of_sub_pos (by exact Nat.zero_lt_succ _)) | exact ⟨rfl, rfl, fun _ _ => .refl _⟩ | (refine ⟨rfl, ?_⟩; simp; done) | (refine ⟨rfl, ?_⟩; omega) | refine ⟨?_, ?_⟩ | refine ⟨?_, ?_, ?_⟩))⟩
      · have h3 : (!r.on.getD i false) = false := h3
        (conv => whnf)
        refine ⟨fun hg => ⟨by have hg : decide (0 ≤ (l.getD i sup0).par) = true := hg; exact of_decide_eq_true hg, by show (l.getD i sup0).par < (r.on.length : Int); omega⟩, ?_⟩; conv => whnf
        refine ⟨fun hg _ => ⟨by have hg : decide (0 ≤ (l.getD i sup0).par) = true := hg; exact of_decide_eq_true hg, by show (l.getD i sup0).par < (l.length : Int); omega⟩, ?_⟩; conv => whnf
        refine ⟨fun hg _ => ⟨by have hg : decide (0 ≤ (l.getD i sup0).par) = true := hg; exact of_decide_eq_true hg, by show (l.getD i sup0).par < (r.lev.length : Int); omega⟩, ?_⟩; conv => whnf
        refine ⟨fun hg _ => by
          have hg : decide (0 ≤ (l.getD i sup0).par) = true := hg
          have hg := of_decide_eq_true hg
          have := hr.lev (l.getD i sup0).par.toNat (by omega)
          exact ⟨this.1, this.2.2⟩, ?_⟩; conv => whnf
        refine ⟨fun _ _ => ⟨by omega, by show (i : Int) < r.lev.length; omega⟩, ?_⟩; conv => whnf
        refine ⟨fun _ _ => ⟨hri.1, hri.2.2⟩, ?_⟩; conv => whnf
        refine ⟨fun _ _ => by show InI64 (voltF l r i + (l.getD i sup0).drop); unfold InI64; omega, ?_⟩; conv => whnf
        refine ⟨fun _ => ⟨by omega, by show (i : Int) < (loadsF l d).length; omega⟩, ?_⟩; conv => whnf
        refine bcase_of (fun h4 => ?_) (fun h4 => ?_)
        · have h4 : ((decide (0 ≤ (l.getD i sup0).par) && (!r.on.getD (l.getD i sup0).par.toNat false || decide (voltF l r (l.getD i sup0).par.toNat < voltF l r i + (l.getD i sup0).drop))) || decide ((l.getD i sup0).cap < (loadsF l d).getD i 0)) = true := h4
          (conv => whnf)
          refine ⟨?_, trivial⟩
          show false = meets0 l r d
          rw [hstop (by unfold mBad; rw [h3, h4]; rfl)]
        · have h4 : ((decide (0 ≤ (l.getD i sup0).par) && (!r.on.getD (l.getD i sup0).par.toNat false || decide (voltF l r (l.getD i sup0).par.toNat < voltF l r i + (l.getD i sup0).drop))) || decide ((l.getD i sup0).cap < (loadsF l d).getD i 0)) = false := h4
          (conv => whnf)
          (refine ⟨by intros; first | omega | (unfold InI64; omega) | (simp only [List.length_append, List.length_cons, List.length_nil, List.length_set]; omega), ?_⟩; conv => whnf)
          refine ⟨i + 1, [(0, some 0), (1, some 1)], ⟨by omega, hnext (by unfold mBad; rw [h3, h4]; rfl)⟩, by omega, (by (repeat' first | exact trivial | exact rfl | exact ⟨rfl, rfl⟩ | exact ⟨rfl, trivial⟩ | exact ⟨rfl, LeL.refl _, trivial⟩ | exact ⟨rfl, LeL.refl _, LeL.refl _, trivial⟩ | exact embV_le (.refl _) rfl | exact embV_leV (.refl _) rfl (Nat.lt_of_sub_pos (by exact Nat.zero_lt_succ _)) | exact ⟨rfl, rfl, rfl, rfl⟩ | exact ⟨rfl, rfl, rfl, rfl, id⟩ | exact ⟨rfl, rfl, rfl, rfl, rfl⟩ | exact ⟨rfl, rfl, rfl, rfl, nofun⟩ | exact tape_emb rfl | exact embO_le (LeL.refl _) rfl (Nat.lt_of_sub_pos (by exact Nat.zero_lt_succ _)) | exact ⟨rfl, rfl, fun _ _ => .refl _⟩ | (refine ⟨rfl, ?_⟩; simp; done) | (refine ⟨rfl, ?_⟩; omega) | refine ⟨?_, ?_⟩ | refine ⟨?_, ?_, ?_⟩))⟩
    · have hil : i = l.length := by have := of_decide_eq_false h2; omega
      subst hil
      (conv => whnf)
      refine ⟨_, _, mdraws_c l r d hv hr, ?_⟩; conv => whnf
      refine ⟨?_, trivial⟩
      show _ = meets0 l r d
      unfold meets0
      rw [all_range_true (fun j hj => by rw [hi2 j hj]; rfl)]
      rfl

end Go.Proofs.Ytjmhlbogkeohpaa
