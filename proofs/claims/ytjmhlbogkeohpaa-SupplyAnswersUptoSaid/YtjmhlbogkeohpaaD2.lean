/- Contracts of the program's functions, shown by walks of that machine, and the plain laws. -/
import Derived.Test.YtjmhlbogkeohpaaD1
namespace Go.Proofs.Ytjmhlbogkeohpaa
open Go.Ab
set_option maxRecDepth 100000

theorem ext_getD {α : Type} (d : α) {a b : List α} (h1 : a.length = b.length) (h2 : ∀ j, j < a.length → a.getD j d = b.getD j d) : a = b := by
  apply List.ext_getElem h1
  intro j hj hj'
  have := h2 j hj
  rw [List.getD_eq_getElem?_getD, List.getD_eq_getElem?_getD, List.getElem?_eq_getElem hj, List.getElem?_eq_getElem hj'] at this
  exact this

def atD (d : List Drw) (i : Nat) : Bool := d.any (fun x => x.sup == (i : Int))

theorem markD_get (n : Nat) (d : List Drw) (hd : ∀ x ∈ d, 0 ≤ x.sup ∧ x.sup < n) (j : Nat) : (markD n d).getD j false = atD d j := by
  unfold markD atD
  have key : ∀ (d : List Drw) (a : List Bool), a.length = n → (∀ x ∈ d, 0 ≤ x.sup ∧ x.sup < n) → (d.foldl (fun a x => a.set x.sup.toNat true) a).getD j false = (a.getD j false || d.any (fun x => x.sup == (j : Int))) := by
    intro d
    induction d with
    | nil => intro a _ _; simp
    | cons x d ih =>
      intro a ha hd
      have hx := hd x (by simp)
      rw [List.foldl_cons, ih _ (by simpa using ha) (fun y hy => hd y (by simp [hy])), getD_set, List.any_cons]
      by_cases hj : j = x.sup.toNat
      · have : (x.sup == (j : Int)) = true := by simp; omega
        rw [if_pos ⟨hj, by omega⟩, this]
        simp
      · have : (x.sup == (j : Int)) = false := by simp; omega
        rw [if_neg (fun h => hj h.1), this]
        simp
  rw [key d _ (by simp) hd, rep_getD]
  simp

structure RUsed (l : List Sup) (d : List Drw) (k : Nat) (b : List Bool) : Prop where
  len : b.length = l.length
  hi : ∀ j, j < l.length → l.length - k ≤ j → b.getD j false = (upN (usedStep l) l.length k (markD l.length d)).getD j false
  lo : ∀ j, j < l.length - k → (upN (usedStep l) l.length k (markD l.length d)).getD j false = (b.getD j false || atD d j)

def rusStep (l : List Sup) (d : List Drw) (i : Nat) (b : List Bool) : List Bool :=
  bif (b.getD i false || (l.getD i sup0).alw || atD d i) && decide (0 ≤ (l.getD i sup0).par) then (b.set i (b.getD i false || (l.getD i sup0).alw || atD d i)).set (l.getD i sup0).par.toNat true else b.set i (b.getD i false || (l.getD i sup0).alw || atD d i)

theorem RUsed.step {l : List Sup} {d : List Drw} (hv : Vld l d) {k : Nat} {b : List Bool} (h : RUsed l d k b) (hk : k < l.length) : RUsed l d (k + 1) (rusStep l d (l.length - 1 - k) b) := by
  obtain ⟨h1, h2, h3⟩ := h
  have hup : upN (usedStep l) l.length (k + 1) (markD l.length d) = usedStep l (l.length - 1 - k) (upN (usedStep l) l.length k (markD l.length d)) := rfl
  have hal : (upN (usedStep l) l.length k (markD l.length d)).length = l.length := by rw [upN_len (usedStep_len l), markD_len]
  generalize upN (usedStep l) l.length k (markD l.length d) = a at h2 h3 hup hal
  have hs := hv.sup (l.length - 1 - k) (by omega)
  have hai := h3 (l.length - 1 - k) (by omega)
  generalize hi : l.length - 1 - k = i at hup hs hai
  have hF : (a.getD i false || (l.getD i sup0).alw) = (b.getD i false || (l.getD i sup0).alw || atD d i) := by
    rw [hai]
    cases b.getD i false <;> cases (l.getD i sup0).alw <;> cases atD d i <;> rfl
  refine ⟨?_, ?_, ?_⟩
  · unfold rusStep
    cases (b.getD i false || (l.getD i sup0).alw || atD d i) && decide (0 ≤ (l.getD i sup0).par) <;> simp [h1]
  all_goals
    rw [hup]
    unfold rusStep usedStep
    rw [hF]
    generalize (b.getD i false || (l.getD i sup0).alw || atD d i) = F
    cases hc : F && decide (0 ≤ (l.getD i sup0).par) with
    | true =>
      simp only [cond_true]
      simp only [Bool.and_eq_true] at hc
      have hp := of_decide_eq_true hc.2
      intro j hj
      try intro hj2
      simp only [getD_set, List.length_set, h1, hal]
      by_cases hjp : j = (l.getD i sup0).par.toNat ∧ (l.getD i sup0).par.toNat < l.length
      · rw [if_pos hjp, if_pos hjp]
        try rfl
      · rw [if_neg hjp, if_neg hjp]
        by_cases hji : j = i ∧ i < l.length
        · rw [if_pos hji, if_pos hji]
          try omega
        · rw [if_neg hji, if_neg hji]
          first | exact h2 j (by omega) (by omega) | exact h3 j (by omega)
    | false =>
      simp only [cond_false]
      intro j hj
      try intro hj2
      simp only [getD_set, h1, hal]
      by_cases hji : j = i ∧ i < l.length
      · rw [if_pos hji, if_pos hji]
        try omega
      · rw [if_neg hji, if_neg hji]
        first | exact h2 j (by omega) (by omega) | exact h3 j (by omega)

theorem RUsed.done {l : List Sup} {d : List Drw} {b : List Bool} (h : RUsed l d l.length b) : b = usedF l d := by
  refine ext_getD false (by rw [h.len, usedF_len]) fun j hj => ?_
  rw [h.hi j (by rw [← h.len]; exact hj) (by omega), upN_all]
  rfl

theorem RUsed.start {l : List Sup} {d : List Drw} (hv : Vld l d) : RUsed l d 0 (List.replicate l.length false) := by
  refine ⟨by simp, fun j hj h => by omega, fun j hj => ?_⟩
  rw [rep_getD]
  show (markD l.length d).getD j false = _
  rw [markD_get _ _ (fun x hx => by have := hv.drw x hx; omega)]
  simp

theorem rused_spec (l : List Sup) (d : List Drw) (hv : Vld l d) : S 59 [supsV l, drwsV d] [] (boolsV (usedF l d)) [] := by
  have vl := hv.len
  have vd := hv.dlen
  refine spec_of_x (ct := []) cfgOK Try.func59 rfl rfl (Nat.le_of_ble_eq_true rfl) (by decide +kernel) (Nat.zero_le _) ?_; conv => whnf
  refine ⟨⟨by omega, by show (l.length : Int) * 1 ≤ 140737488355328; omega⟩, ?_⟩; conv => whnf
  (refine ⟨by intros; first | omega | (unfold InI64; omega) | (simp only [List.length_append, List.length_cons, List.length_nil, List.length_set]; omega), ?_⟩; conv => whnf)
  refine loops_intro (ct := []) cfgOK (by decide +kernel) (fun g : Nat × List Bool => ⟨[(0, supsV l), (1, drwsV d), (5, .osl 0 0 l.length true), (6, iV ((l.length : Int) - 1 - g.1))], [(0, some (.row 1 l.length (rowG AV.bool false g.2)))], 1⟩) (fun g => g.1 ≤ l.length ∧ RUsed l d g.1 g.2) (fun g => l.length - g.1) (0, List.replicate l.length false) [(0, some 3)] ⟨Nat.zero_le _, RUsed.start hv⟩ ?_ ?_
  · refine ⟨rfl, by (repeat' first | exact trivial | exact rfl | exact ⟨rfl, rfl⟩ | exact ⟨rfl, trivial⟩ | exact ⟨rfl, LeL.refl _, trivial⟩ | exact ⟨rfl, LeL.refl _, LeL.refl _, trivial⟩ | exact embV_le (.refl _) rfl | exact embV_leV (.refl _) rfl (Nat.lt_of_sub_pos (by exact Nat.zero_lt_succ _)) | exact ⟨rfl, rfl, rfl, rfl⟩ | exact ⟨rfl, rfl, rfl, rfl, id⟩ | exact ⟨rfl, rfl, rfl, rfl, rfl⟩ | exact ⟨rfl, rfl, rfl, rfl, nofun⟩ | exact tape_emb rfl | exact embO_le (LeL.refl _) rfl (Nat.lt_of_sub_pos (by exact Nat.zero_lt_succ _)) | exact ⟨rfl, rfl, fun _ _ => .refl _⟩ | (refine ⟨rfl, ?_⟩; simp; done) | (refine ⟨rfl, ?_⟩; omega) | refine ⟨?_, ?_⟩ | refine ⟨?_, ?_, ?_⟩), ⟨⟨rfl, rfl, fun k _ => ?_⟩, trivial⟩⟩
    show Le (.bool false) (.bool ((List.replicate l.length false).getD k false))
    rw [rep_getD]
    exact .refl _
  intro ⟨k, b⟩ ⟨hk, hR⟩
  have hk : k ≤ l.length := hk
  have hR : RUsed l d k b := hR
  (conv => whnf)
  refine bcase_of (fun h => ?_) (fun h => ?_)
  · have hlt : k < l.length := by have h : decide (0 ≤ (l.length : Int) - 1 - k) = true := h; have := of_decide_eq_true h; omega
    have hst := hR.step hv hlt
    have hs := hv.sup (l.length - 1 - k) (by omega)
    have hbl := hR.len
    have hic : (l.length : Int) - 1 - k = ((l.length - 1 - k : Nat) : Int) := by omega
    rw [hic]
    generalize hi : l.length - 1 - k = i at hst hs
    have hil : i < l.length := by omega
    (conv => whnf)
    refine ⟨⟨by omega, by show (i : Int) < l.length; omega⟩, ?_⟩; conv => whnf
    refine ⟨fun _ => ⟨by omega, by show (i : Int) < l.length; omega⟩, ?_⟩; conv => whnf
    refine ⟨⟨by omega, by show (i : Int) < l.length; omega⟩, ?_⟩; conv => whnf
    refine loops_intro (ct := []) cfgOK (by decide +kernel) (fun j : Nat => ⟨[(0, supsV l), (1, drwsV d), (5, .osl 0 0 l.length true), (6, iV i), (34, drwsV d), (35, iV d.length), (36, iV j)], [(0, some (.row 1 l.length (rowG AV.bool false (b.set i (b.getD i false || (l.getD i sup0).alw || atD (d.take j) i)))))], 1⟩) (fun j => j ≤ d.length) (fun j => d.length - j) 0 [(0, some 0)] (Nat.zero_le _) ?_ ?_
    · refine ⟨rfl, by (repeat' first | exact trivial | exact rfl | exact ⟨rfl, rfl⟩ | exact ⟨rfl, trivial⟩ | exact ⟨rfl, LeL.refl _, trivial⟩ | exact ⟨rfl, LeL.refl _, LeL.refl _, trivial⟩ | exact embV_le (.refl _) rfl | exact embV_leV (.refl _) rfl (Nat.lt_of_sub_pos (by exact Nat.zero_lt_succ _)) | exact ⟨rfl, rfl, rfl, rfl⟩ | exact ⟨rfl, rfl, rfl, rfl, id⟩ | exact ⟨rfl, rfl, rfl, rfl, rfl⟩ | exact ⟨rfl, rfl, rfl, rfl, nofun⟩ | exact tape_emb rfl | exact embO_le (LeL.refl _) rfl (Nat.lt_of_sub_pos (by exact Nat.zero_lt_succ _)) | exact ⟨rfl, rfl, fun _ _ => .refl _⟩ | (refine ⟨rfl, ?_⟩; simp; done) | (refine ⟨rfl, ?_⟩; omega) | refine ⟨?_, ?_⟩ | refine ⟨?_, ?_, ?_⟩), ⟨⟨rfl, rfl, fun q _ => ?_⟩, trivial⟩⟩
      rw [List.take_zero]
      exact le_set (l := b) (i := i) (by omega) rfl (by rw [show atD [] i = false from rfl, Bool.or_false]; exact .refl _) q
    intro j hj
    (conv => whnf)
    refine bcase_of (fun h2 => ?_) (fun h2 => ?_)
    · have hjl : j < d.length := by have := of_decide_eq_true h2; omega
      have hsn : atD (d.take (j + 1)) i = (atD (d.take j) i || ((d.getD j drw0).sup == (i : Int))) := by
        unfold atD
        rw [take_snoc drw0 hjl, List.any_append]
        simp
      have hbs : (b.set i (b.getD i false || (l.getD i sup0).alw || atD (d.take j) i)).getD i false = (b.getD i false || (l.getD i sup0).alw || atD (d.take j) i) := by rw [getD_set, if_pos ⟨rfl, by omega⟩]
      have hset : (b.set i (b.getD i false || (l.getD i sup0).alw || atD (d.take (j + 1)) i)) = (b.set i (b.getD i false || (l.getD i sup0).alw || atD (d.take j) i)).set i ((b.set i (b.getD i false || (l.getD i sup0).alw || atD (d.take j) i)).getD i false || ((d.getD j drw0).sup == (i : Int))) := by
        rw [hbs, List.set_set, hsn, Bool.or_assoc]
        simp only [Bool.or_assoc]
      (conv => whnf)
      (refine ⟨by intros; first | omega | (unfold InI64; omega) | (simp only [List.length_append, List.length_cons, List.length_nil, List.length_set]; omega), ?_⟩; conv => whnf)
      refine ⟨⟨by omega, by show (i : Int) < l.length; omega⟩, ?_⟩; conv => whnf
      refine ⟨⟨by omega, by show (i : Int) < l.length; omega⟩, ?_⟩; conv => whnf
      (refine ⟨by intros; first | omega | (unfold InI64; omega) | (simp only [List.length_append, List.length_cons, List.length_nil, List.length_set]; omega), ?_⟩; conv => whnf)
      refine ⟨j + 1, [(0, some 0)], hjl, by omega, ⟨rfl, by (repeat' first | exact trivial | exact rfl | exact ⟨rfl, rfl⟩ | exact ⟨rfl, trivial⟩ | exact ⟨rfl, LeL.refl _, trivial⟩ | exact ⟨rfl, LeL.refl _, LeL.refl _, trivial⟩ | exact embV_le (.refl _) rfl | exact embV_leV (.refl _) rfl (Nat.lt_of_sub_pos (by exact Nat.zero_lt_succ _)) | exact ⟨rfl, rfl, rfl, rfl⟩ | exact ⟨rfl, rfl, rfl, rfl, id⟩ | exact ⟨rfl, rfl, rfl, rfl, rfl⟩ | exact ⟨rfl, rfl, rfl, rfl, nofun⟩ | exact tape_emb rfl | exact embO_le (LeL.refl _) rfl (Nat.lt_of_sub_pos (by exact Nat.zero_lt_succ _)) | exact ⟨rfl, rfl, fun _ _ => .refl _⟩ | (refine ⟨rfl, ?_⟩; simp; done) | (refine ⟨rfl, ?_⟩; omega) | refine ⟨?_, ?_⟩ | refine ⟨?_, ?_, ?_⟩), ⟨⟨rfl, rfl, fun q _ => ?_⟩, trivial⟩⟩⟩
      rw [hset]
      exact le_set (i := i) (by rw [List.length_set]; omega) rfl (.refl _) q
    · have hje : j = d.length := by have := of_decide_eq_false h2; omega
      subst hje
      rw [List.take_length]
      have hbs : (b.set i (b.getD i false || (l.getD i sup0).alw || atD d i)).getD i false = (b.getD i false || (l.getD i sup0).alw || atD d i) := by rw [getD_set, if_pos ⟨rfl, by omega⟩]
      (conv => whnf)
      refine ⟨⟨by omega, by show (i : Int) < l.length; omega⟩, ?_⟩; conv => whnf
      refine ⟨⟨by omega, by show (i : Int) < l.length; omega⟩, ?_⟩; conv => whnf
      refine bcase_of (fun h3 => ?_) (fun h3 => ?_)
      · have h3 : ((b.set i (b.getD i false || (l.getD i sup0).alw || atD d i)).getD i false && decide (0 ≤ (l.getD i sup0).par)) = true := h3
        rw [hbs] at h3
        have hp0 : 0 ≤ (l.getD i sup0).par := by simp only [Bool.and_eq_true] at h3; exact of_decide_eq_true h3.2
        (conv => whnf)
        refine ⟨⟨hp0, by show (l.getD i sup0).par < (l.length : Int); omega⟩, ?_⟩; conv => whnf
        refine ⟨by show InI64 ((i : Int) - 1); unfold InI64; omega, ?_⟩; conv => whnf
        refine ⟨(k + 1, rusStep l d i b), [(0, some 0)], ⟨by omega, hst⟩, by show l.length - (k + 1) < l.length - k; omega, ⟨rfl, ⟨by (repeat' first | exact trivial | exact rfl | exact ⟨rfl, rfl⟩ | exact ⟨rfl, trivial⟩ | exact ⟨rfl, LeL.refl _, trivial⟩ | exact ⟨rfl, LeL.refl _, LeL.refl _, trivial⟩ | exact embV_le (.refl _) rfl | exact embV_leV (.refl _) rfl (Nat.lt_of_sub_pos (by exact Nat.zero_lt_succ _)) | exact ⟨rfl, rfl, rfl, rfl⟩ | exact ⟨rfl, rfl, rfl, rfl, id⟩ | exact ⟨rfl, rfl, rfl, rfl, rfl⟩ | exact ⟨rfl, rfl, rfl, rfl, nofun⟩ | exact tape_emb rfl | exact embO_le (LeL.refl _) rfl (Nat.lt_of_sub_pos (by exact Nat.zero_lt_succ _)) | exact ⟨rfl, rfl, fun _ _ => .refl _⟩ | (refine ⟨rfl, ?_⟩; simp; done) | (refine ⟨rfl, ?_⟩; omega) | refine ⟨?_, ?_⟩ | refine ⟨?_, ?_, ?_⟩), by (repeat' first | exact trivial | exact rfl | exact ⟨rfl, rfl⟩ | exact ⟨rfl, trivial⟩ | exact ⟨rfl, LeL.refl _, trivial⟩ | exact ⟨rfl, LeL.refl _, LeL.refl _, trivial⟩ | exact embV_le (.refl _) rfl | exact embV_leV (.refl _) rfl (Nat.lt_of_sub_pos (by exact Nat.zero_lt_succ _)) | exact ⟨rfl, rfl, rfl, rfl⟩ | exact ⟨rfl, rfl, rfl, rfl, id⟩ | exact ⟨rfl, rfl, rfl, rfl, rfl⟩ | exact ⟨rfl, rfl, rfl, rfl, nofun⟩ | exact tape_emb rfl | exact embO_le (LeL.refl _) rfl (Nat.lt_of_sub_pos (by exact Nat.zero_lt_succ _)) | exact ⟨rfl, rfl, fun _ _ => .refl _⟩ | (refine ⟨rfl, ?_⟩; simp; done) | (refine ⟨rfl, ?_⟩; omega) | refine ⟨?_, ?_⟩ | refine ⟨?_, ?_, ?_⟩), by (repeat' first | exact trivial | exact rfl | exact ⟨rfl, rfl⟩ | exact ⟨rfl, trivial⟩ | exact ⟨rfl, LeL.refl _, trivial⟩ | exact ⟨rfl, LeL.refl _, LeL.refl _, trivial⟩ | exact embV_le (.refl _) rfl | exact embV_leV (.refl _) rfl (Nat.lt_of_sub_pos (by exact Nat.zero_lt_succ _)) | exact ⟨rfl, rfl, rfl, rfl⟩ | exact ⟨rfl, rfl, rfl, rfl, id⟩ | exact ⟨rfl, rfl, rfl, rfl, rfl⟩ | exact ⟨rfl, rfl, rfl, rfl, nofun⟩ | exact tape_emb rfl | exact embO_le (LeL.refl _) rfl (Nat.lt_of_sub_pos (by exact Nat.zero_lt_succ _)) | exact ⟨rfl, rfl, fun _ _ => .refl _⟩ | (refine ⟨rfl, ?_⟩; simp; done) | (refine ⟨rfl, ?_⟩; omega) | refine ⟨?_, ?_⟩ | refine ⟨?_, ?_, ?_⟩), ⟨rfl, by show (i : Int) - 1 = (l.length : Int) - 1 - ((k + 1 : Nat) : Int); omega⟩, trivial⟩, ⟨⟨rfl, rfl, fun q _ => ?_⟩, trivial⟩⟩⟩
        unfold rusStep
        rw [h3]
        exact le_set (i := (l.getD i sup0).par.toNat) (by rw [List.length_set]; omega) rfl (.refl _) q
      · have h3 : ((b.set i (b.getD i false || (l.getD i sup0).alw || atD d i)).getD i false && decide (0 ≤ (l.getD i sup0).par)) = false := h3
        rw [hbs] at h3
        (conv => whnf)
        refine ⟨by show InI64 ((i : Int) - 1); unfold InI64; omega, ?_⟩; conv => whnf
        refine ⟨(k + 1, rusStep l d i b), [(0, some 0)], ⟨by omega, hst⟩, by show l.length - (k + 1) < l.length - k; omega, ⟨rfl, ⟨by (repeat' first | exact trivial | exact rfl | exact ⟨rfl, rfl⟩ | exact ⟨rfl, trivial⟩ | exact ⟨rfl, LeL.refl _, trivial⟩ | exact ⟨rfl, LeL.refl _, LeL.refl _, trivial⟩ | exact embV_le (.refl _) rfl | exact embV_leV (.refl _) rfl (Nat.lt_of_sub_pos (by exact Nat.zero_lt_succ _)) | exact ⟨rfl, rfl, rfl, rfl⟩ | exact ⟨rfl, rfl, rfl, rfl, id⟩ | exact ⟨rfl, rfl, rfl, rfl, rfl⟩ | exact ⟨rfl, rfl, rfl, rfl, nofun⟩ | exact tape_emb rfl | exact embO_le (LeL.refl _) rfl (Nat.lt_of_sub_pos (by exact Nat.zero_lt_succ _)) | exact ⟨rfl, rfl, fun _ _ => .refl _⟩ | (refine ⟨rfl, ?_⟩; simp; done) | (refine ⟨rfl, ?_⟩; omega) | refine ⟨?_, ?_⟩ | refine ⟨?_, ?_, ?_⟩), by (repeat' first | exact trivial | exact rfl | exact ⟨rfl, rfl⟩ | exact ⟨rfl, trivial⟩ | exact ⟨rfl, LeL.refl _, trivial⟩ | exact ⟨rfl, LeL.refl _, LeL.refl _, trivial⟩ | exact embV_le (.refl _) rfl | exact embV_leV (.refl _) rfl (Nat.lt_of_sub_pos (by exact Nat.zero_lt_succ _)) | exact ⟨rfl, rfl, rfl, rfl⟩ | exact ⟨rfl, rfl, rfl, rfl, id⟩ | exact ⟨rfl, rfl, rfl, rfl, rfl⟩ | exact ⟨rfl, rfl, rfl, rfl, nofun⟩ | exact tape_emb rfl | exact embO_le (LeL.refl _) rfl (Nat.lt_of_sub_pos (by exact Nat.zero_lt_succ _)) | exact ⟨rfl, rfl, fun _ _ => .refl _⟩ | (refine ⟨rfl, ?_⟩; simp; done) | (refine ⟨rfl, ?_⟩; omega) | refine ⟨?_, ?_⟩ | refine ⟨?_, ?_, ?_⟩), by (repeat' first | exact trivial | exact rfl | exact ⟨rfl, rfl⟩ | exact ⟨rfl, trivial⟩ | exact ⟨rfl, LeL.refl _, trivial⟩ | exact ⟨rfl, LeL.refl _, LeL.refl _, trivial⟩ | exact embV_le (.refl _) rfl | exact embV_leV (.refl _) rfl (Nat.lt_of_sub_pos (by exact Nat.zero_lt_succ _)) | exact ⟨rfl, rfl, rfl, rfl⟩ | exact ⟨rfl, rfl, rfl, rfl, id⟩ | exact ⟨rfl, rfl, rfl, rfl, rfl⟩ | exact ⟨rfl, rfl, rfl, rfl, nofun⟩ | exact tape_emb rfl | exact embO_le (LeL.refl _) rfl (Nat.lt_of_sub_pos (by exact Nat.zero_lt_succ _)) | exact ⟨rfl, rfl, fun _ _ => .refl _⟩ | (refine ⟨rfl, ?_⟩; simp; done) | (refine ⟨rfl, ?_⟩; omega) | refine ⟨?_, ?_⟩ | refine ⟨?_, ?_, ?_⟩), ⟨rfl, by show (i : Int) - 1 = (l.length : Int) - 1 - ((k + 1 : Nat) : Int); omega⟩, trivial⟩, ⟨⟨rfl, rfl, fun q _ => ?_⟩, trivial⟩⟩⟩
        unfold rusStep
        rw [h3]
        exact .refl _
  · have hke : k = l.length := by have h : decide (0 ≤ (l.length : Int) - 1 - k) = false := h; have := of_decide_eq_false h; omega
    subst hke
    have hd := hR.done
    subst hd
    (conv => whnf)
    exact ⟨embV_le (le_len (usedF_len l d).symm) rfl, trivial⟩

def dsum (d : List Drw) (i : Nat) : Int := d.foldl (fun s x => bif x.sup == (i : Int) then s + x.load else s) 0

theorem dsum_take {d : List Drw} {j i : Nat} (h : j < d.length) : dsum (d.take (j + 1)) i = bif (d.getD j drw0).sup == (i : Int) then dsum (d.take j) i + (d.getD j drw0).load else dsum (d.take j) i := foldl_take _ _ drw0 h

theorem sumD_get (n : Nat) (d : List Drw) (hd : ∀ x ∈ d, 0 ≤ x.sup ∧ x.sup < n) (j : Nat) : (sumD n d).getD j 0 = dsum d j := by
  unfold sumD dsum
  have key : ∀ (d : List Drw) (a : List Int) (s : Int), a.length = n → (∀ x ∈ d, 0 ≤ x.sup ∧ x.sup < n) → a.getD j 0 = s → (d.foldl (fun a x => a.set x.sup.toNat (a.getD x.sup.toNat 0 + x.load)) a).getD j 0 = d.foldl (fun s x => bif x.sup == (j : Int) then s + x.load else s) s := by
    intro d
    induction d with
    | nil => intro a s _ _ h; exact h
    | cons x d ih =>
      intro a s ha hd h
      have hx := hd x (by simp)
      rw [List.foldl_cons, List.foldl_cons]
      refine ih _ _ (by simpa using ha) (fun y hy => hd y (by simp [hy])) ?_
      rw [getD_set]
      by_cases hj : j = x.sup.toNat
      · have : (x.sup == (j : Int)) = true := by simp; omega
        rw [if_pos ⟨hj, by omega⟩, this, ← hj, h]
        rfl
      · have : (x.sup == (j : Int)) = false := by simp; omega
        rw [if_neg (fun h => hj h.1), this]
        exact h
  exact key d _ 0 (by simp) hd (rep_getD _ _ _)

theorem dsum_bnd {d : List Drw} (hd : ∀ x ∈ d, 0 ≤ x.load ∧ x.load ≤ 10000) (i j : Nat) (hj : j ≤ d.length) : 0 ≤ dsum (d.take j) i ∧ dsum (d.take j) i ≤ 10000 * j := by
  induction j with
  | zero => rw [List.take_zero]; exact ⟨Int.le_refl _, Int.le_refl _⟩
  | succ j ih =>
    have := ih (by omega)
    have h2 := hd _ (getD_mem drw0 hj)
    rw [dsum_take hj]
    cases (d.getD j drw0).sup == (i : Int) with
    | true => simp only [cond_true]; omega
    | false => simp only [cond_false]; omega

structure RLoad (l : List Sup) (d : List Drw) (k : Nat) (b : List Int) : Prop where
  len : b.length = l.length
  pos : ∀ j, 0 ≤ b.getD j 0
  hi : ∀ j, j < l.length → l.length - k ≤ j → b.getD j 0 = (upN (loadStep l) l.length k (sumD l.length d)).getD j 0
  lo : ∀ j, j < l.length - k → (upN (loadStep l) l.length k (sumD l.length d)).getD j 0 = b.getD j 0 + dsum d j

def rloStep (l : List Sup) (d : List Drw) (i : Nat) (b : List Int) : List Int :=
  bif decide (0 ≤ (l.getD i sup0).par) then (b.set i (b.getD i 0 + dsum d i)).set (l.getD i sup0).par.toNat (b.getD (l.getD i sup0).par.toNat 0 + (b.getD i 0 + dsum d i)) else b.set i (b.getD i 0 + dsum d i)

theorem RLoad.step {l : List Sup} {d : List Drw} (hv : Vld l d) {k : Nat} {b : List Int} (h : RLoad l d k b) (hk : k < l.length) : RLoad l d (k + 1) (rloStep l d (l.length - 1 - k) b) := by
  obtain ⟨h1, h0, h2, h3⟩ := h
  have hdp : ∀ i, 0 ≤ dsum d i := fun i => by
    have := (dsum_bnd (d := d) (fun x hx => by have := hv.drw x hx; omega) i d.length (Nat.le_refl _)).1
    rwa [List.take_length] at this
  have hup : upN (loadStep l) l.length (k + 1) (sumD l.length d) = loadStep l (l.length - 1 - k) (upN (loadStep l) l.length k (sumD l.length d)) := rfl
  have hal : (upN (loadStep l) l.length k (sumD l.length d)).length = l.length := by rw [upN_len (loadStep_len l), sumD_len]
  generalize upN (loadStep l) l.length k (sumD l.length d) = a at h2 h3 hup hal
  have hs := hv.sup (l.length - 1 - k) (by omega)
  have hai := h3 (l.length - 1 - k) (by omega)
  generalize hi : l.length - 1 - k = i at hup hs hai
  have hb0 := h0 i
  have hd0 := hdp i
  refine ⟨?_, ?_, ?_, ?_⟩
  · unfold rloStep
    cases decide (0 ≤ (l.getD i sup0).par) <;> simp [h1]
  · intro j
    have hb1 := h0 j
    have hb2 := h0 (l.getD i sup0).par.toNat
    unfold rloStep
    cases decide (0 ≤ (l.getD i sup0).par) <;> simp only [cond_true, cond_false, getD_set] <;> repeat' split
    all_goals omega
  all_goals
    rw [hup]
    unfold rloStep loadStep
    cases hc : decide (0 ≤ (l.getD i sup0).par) with
    | true =>
      simp only [cond_true]
      have hp := of_decide_eq_true hc
      intro j hj
      try intro hj2
      simp only [getD_set, List.length_set, h1, hal]
      have hap := h3 (l.getD i sup0).par.toNat (by omega)
      by_cases hjp : j = (l.getD i sup0).par.toNat ∧ (l.getD i sup0).par.toNat < l.length
      · rw [if_pos hjp, if_pos hjp]
        try rw [hjp.1]
        omega
      · rw [if_neg hjp, if_neg hjp]
        by_cases hji : j = i ∧ i < l.length
        · rw [if_pos hji, hji.1]
          omega
        · rw [if_neg hji]
          first | exact h2 j (by omega) (by omega) | exact h3 j (by omega)
    | false =>
      simp only [cond_false]
      intro j hj
      try intro hj2
      simp only [getD_set, h1]
      by_cases hji : j = i ∧ i < l.length
      · rw [if_pos hji, hji.1]
        omega
      · rw [if_neg hji]
        first | exact h2 j (by omega) (by omega) | exact h3 j (by omega)

theorem RLoad.done {l : List Sup} {d : List Drw} {b : List Int} (h : RLoad l d l.length b) : b = loadsF l d := by
  refine ext_getD 0 (by rw [h.len, loadsF_len]) fun j hj => ?_
  rw [h.hi j (by rw [← h.len]; exact hj) (by omega), upN_all]
  rfl

theorem RLoad.start {l : List Sup} {d : List Drw} (hv : Vld l d) : RLoad l d 0 (List.replicate l.length 0) := by
  refine ⟨by simp, fun j => by rw [rep_getD]; omega, fun j hj h => by omega, fun j hj => ?_⟩
  rw [rep_getD]
  show (sumD l.length d).getD j 0 = _
  rw [sumD_get _ _ (fun x hx => by have := hv.drw x hx; omega)]
  simp

theorem RLoad.small {l : List Sup} {d : List Drw} (hv : Vld l d) {k : Nat} {b : List Int} (h : RLoad l d k b) (hk : k ≤ l.length) (j : Nat) : 0 ≤ b.getD j 0 ∧ b.getD j 0 ≤ 100000000000 := by
  have h1 := loadUp_small hv k hk j
  refine ⟨h.pos j, ?_⟩
  have hd := (dsum_bnd (d := d) (fun x hx => by have := hv.drw x hx; omega) j d.length (Nat.le_refl _)).1
  rw [List.take_length] at hd
  by_cases h2 : j < l.length - k
  · have := h.lo j h2; omega
  · by_cases h3 : j < l.length
    · have := h.hi j h3 (by omega); omega
    · rw [getD_out 0 (by rw [h.len]; omega)]; omega

theorem rloads_spec (l : List Sup) (d : List Drw) (hv : Vld l d) : S 60 [supsV l, drwsV d] [] (intsV (loadsF l d)) [] := by
  have vl := hv.len
  have vd := hv.dlen
  refine spec_of_x (ct := []) cfgOK Try.func60 rfl rfl (Nat.le_of_ble_eq_true rfl) (by decide +kernel) (Nat.zero_le _) ?_; conv => whnf
  refine ⟨⟨by omega, by show (l.length : Int) * 8 ≤ 140737488355328; omega⟩, ?_⟩; conv => whnf
  (refine ⟨by intros; first | omega | (unfold InI64; omega) | (simp only [List.length_append, List.length_cons, List.length_nil, List.length_set]; omega), ?_⟩; conv => whnf)
  refine loops_intro (ct := []) cfgOK (by decide +kernel) (fun g : Nat × List Int => ⟨[(0, supsV l), (1, drwsV d), (5, .osl 0 0 l.length true), (6, iV ((l.length : Int) - 1 - g.1))], [(0, some (.row 1 l.length (rowG iV 0 g.2)))], 1⟩) (fun g => g.1 ≤ l.length ∧ RLoad l d g.1 g.2) (fun g => l.length - g.1) (0, List.replicate l.length 0) [(0, some 3)] ⟨Nat.zero_le _, RLoad.start hv⟩ ?_ ?_
  · refine ⟨rfl, by (repeat' first | exact trivial | exact rfl | exact ⟨rfl, rfl⟩ | exact ⟨rfl, trivial⟩ | exact ⟨rfl, LeL.refl _, trivial⟩ | exact ⟨rfl, LeL.refl _, LeL.refl _, trivial⟩ | exact embV_le (.refl _) rfl | exact embV_leV (.refl _) rfl (Nat.lt_of_sub_pos (by exact Nat.zero_lt_succ _)) | exact ⟨rfl, rfl, rfl, rfl⟩ | exact ⟨rfl, rfl, rfl, rfl, id⟩ | exact ⟨rfl, rfl, rfl, rfl, rfl⟩ | exact ⟨rfl, rfl, rfl, rfl, nofun⟩ | exact tape_emb rfl | exact embO_le (LeL.refl _) rfl (Nat.lt_of_sub_pos (by exact Nat.zero_lt_succ _)) | exact ⟨rfl, rfl, fun _ _ => .refl _⟩ | (refine ⟨rfl, ?_⟩; simp; done) | (refine ⟨rfl, ?_⟩; omega) | refine ⟨?_, ?_⟩ | refine ⟨?_, ?_, ?_⟩), ⟨⟨rfl, rfl, fun k _ => ?_⟩, trivial⟩⟩
    show Le (iV 0) (iV ((List.replicate l.length 0).getD k 0))
    rw [rep_getD]
    exact .refl _
  intro ⟨k, b⟩ ⟨hk, hR⟩
  have hk : k ≤ l.length := hk
  have hR : RLoad l d k b := hR
  (conv => whnf)
  refine bcase_of (fun h => ?_) (fun h => ?_)
  · have hlt : k < l.length := by have h : decide (0 ≤ (l.length : Int) - 1 - k) = true := h; have := of_decide_eq_true h; omega
    have hst := hR.step hv hlt
    have hs := hv.sup (l.length - 1 - k) (by omega)
    have hbl := hR.len
    have hsm := hR.small hv hk
    have hic : (l.length : Int) - 1 - k = ((l.length - 1 - k : Nat) : Int) := by omega
    rw [hic]
    generalize hi : l.length - 1 - k = i at hst hs
    have hil : i < l.length := by omega
    have hbi := hsm i
    (conv => whnf)
    refine loops_intro (ct := []) cfgOK (by decide +kernel) (fun j : Nat => ⟨[(0, supsV l), (1, drwsV d), (5, .osl 0 0 l.length true), (6, iV i), (20, drwsV d), (21, iV d.length), (22, iV j)], [(0, some (.row 1 l.length (rowG iV 0 (b.set i (b.getD i 0 + dsum (d.take j) i)))))], 1⟩) (fun j => j ≤ d.length) (fun j => d.length - j) 0 [(0, some 0)] (Nat.zero_le _) ?_ ?_
    · refine ⟨rfl, by (repeat' first | exact trivial | exact rfl | exact ⟨rfl, rfl⟩ | exact ⟨rfl, trivial⟩ | exact ⟨rfl, LeL.refl _, trivial⟩ | exact ⟨rfl, LeL.refl _, LeL.refl _, trivial⟩ | exact embV_le (.refl _) rfl | exact embV_leV (.refl _) rfl (Nat.lt_of_sub_pos (by exact Nat.zero_lt_succ _)) | exact ⟨rfl, rfl, rfl, rfl⟩ | exact ⟨rfl, rfl, rfl, rfl, id⟩ | exact ⟨rfl, rfl, rfl, rfl, rfl⟩ | exact ⟨rfl, rfl, rfl, rfl, nofun⟩ | exact tape_emb rfl | exact embO_le (LeL.refl _) rfl (Nat.lt_of_sub_pos (by exact Nat.zero_lt_succ _)) | exact ⟨rfl, rfl, fun _ _ => .refl _⟩ | (refine ⟨rfl, ?_⟩; simp; done) | (refine ⟨rfl, ?_⟩; omega) | refine ⟨?_, ?_⟩ | refine ⟨?_, ?_, ?_⟩), ⟨⟨rfl, rfl, fun q _ => ?_⟩, trivial⟩⟩
      rw [List.take_zero, show b.set i (b.getD i 0 + dsum [] i) = b from ext_getD 0 (by simp) (fun q hq => by
        rw [getD_set]
        split
        · rename_i h
          rw [h.1]
          exact Int.add_zero _
        · rfl)]
      exact .refl _
    intro j hj
    have hdb := dsum_bnd (d := d) (fun x hx => by have := hv.drw x hx; omega) i j hj
    (conv => whnf)
    refine bcase_of (fun h2 => ?_) (fun h2 => ?_)
    · have hjl : j < d.length := by have := of_decide_eq_true h2; omega
      have hx := hv.drw _ (getD_mem drw0 hjl)
      have hsn := dsum_take (i := i) hjl
      have hbs : (b.set i (b.getD i 0 + dsum (d.take j) i)).getD i 0 = b.getD i 0 + dsum (d.take j) i := by rw [getD_set, if_pos ⟨rfl, by omega⟩]
      (conv => whnf)
      (refine ⟨by intros; first | omega | (unfold InI64; omega) | (simp only [List.length_append, List.length_cons, List.length_nil, List.length_set]; omega), ?_⟩; conv => whnf)
      refine bcase_of (fun h3 => ?_) (fun h3 => ?_)
      · have h3 : ((d.getD j drw0).sup == (i : Int)) = true := h3
        rw [h3] at hsn
        have hset : (b.set i (b.getD i 0 + dsum (d.take (j + 1)) i)) = (b.set i (b.getD i 0 + dsum (d.take j) i)).set i ((b.set i (b.getD i 0 + dsum (d.take j) i)).getD i 0 + (d.getD j drw0).load) := by
          rw [hbs, List.set_set, hsn]
          simp only [cond_true]
          rw [Int.add_assoc]
        (conv => whnf)
        refine ⟨⟨by omega, by show (i : Int) < l.length; omega⟩, ?_⟩; conv => whnf
        refine ⟨by show InI64 ((b.set i (b.getD i 0 + dsum (d.take j) i)).getD i 0 + (d.getD j drw0).load); rw [hbs]; unfold InI64; omega, ?_⟩; conv => whnf
        refine ⟨⟨by omega, by show (i : Int) < l.length; omega⟩, ?_⟩; conv => whnf
        (refine ⟨by intros; first | omega | (unfold InI64; omega) | (simp only [List.length_append, List.length_cons, List.length_nil, List.length_set]; omega), ?_⟩; conv => whnf)
        refine ⟨j + 1, [(0, some 0)], hjl, by omega, ⟨rfl, by (repeat' first | exact trivial | exact rfl | exact ⟨rfl, rfl⟩ | exact ⟨rfl, trivial⟩ | exact ⟨rfl, LeL.refl _, trivial⟩ | exact ⟨rfl, LeL.refl _, LeL.refl _, trivial⟩ | exact embV_le (.refl _) rfl | exact embV_leV (.refl _) rfl (Nat.lt_of_sub_pos (by exact Nat.zero_lt_succ _)) | exact ⟨rfl, rfl, rfl, rfl⟩ | exact ⟨rfl, rfl, rfl, rfl, id⟩ | exact ⟨rfl, rfl, rfl, rfl, rfl⟩ | exact ⟨rfl, rfl, rfl, rfl, nofun⟩ | exact tape_emb rfl | exact embO_le (LeL.refl _) rfl (Nat.lt_of_sub_pos (by exact Nat.zero_lt_succ _)) | exact ⟨rfl, rfl, fun _ _ => .refl _⟩ | (refine ⟨rfl, ?_⟩; simp; done) | (refine ⟨rfl, ?_⟩; omega) | refine ⟨?_, ?_⟩ | refine ⟨?_, ?_, ?_⟩), ⟨⟨rfl, rfl, fun q _ => ?_⟩, trivial⟩⟩⟩
        rw [hset]
        exact le_set (i := i) (by rw [List.length_set]; omega) rfl (.refl _) q
      · have h3 : ((d.getD j drw0).sup == (i : Int)) = false := h3
        rw [h3] at hsn
        simp only [cond_false] at hsn
        (conv => whnf)
        (refine ⟨by intros; first | omega | (unfold InI64; omega) | (simp only [List.length_append, List.length_cons, List.length_nil, List.length_set]; omega), ?_⟩; conv => whnf)
        refine ⟨j + 1, [(0, some 0)], hjl, by omega, ⟨rfl, by (repeat' first | exact trivial | exact rfl | exact ⟨rfl, rfl⟩ | exact ⟨rfl, trivial⟩ | exact ⟨rfl, LeL.refl _, trivial⟩ | exact ⟨rfl, LeL.refl _, LeL.refl _, trivial⟩ | exact embV_le (.refl _) rfl | exact embV_leV (.refl _) rfl (Nat.lt_of_sub_pos (by exact Nat.zero_lt_succ _)) | exact ⟨rfl, rfl, rfl, rfl⟩ | exact ⟨rfl, rfl, rfl, rfl, id⟩ | exact ⟨rfl, rfl, rfl, rfl, rfl⟩ | exact ⟨rfl, rfl, rfl, rfl, nofun⟩ | exact tape_emb rfl | exact embO_le (LeL.refl _) rfl (Nat.lt_of_sub_pos (by exact Nat.zero_lt_succ _)) | exact ⟨rfl, rfl, fun _ _ => .refl _⟩ | (refine ⟨rfl, ?_⟩; simp; done) | (refine ⟨rfl, ?_⟩; omega) | refine ⟨?_, ?_⟩ | refine ⟨?_, ?_, ?_⟩), ⟨⟨rfl, rfl, fun q _ => ?_⟩, trivial⟩⟩⟩
        rw [hsn]
        exact .refl _
    · have hje : j = d.length := by have := of_decide_eq_false h2; omega
      subst hje
      rw [List.take_length] at hdb
      rw [List.take_length]
      have hbs : (b.set i (b.getD i 0 + dsum d i)).getD i 0 = b.getD i 0 + dsum d i := by rw [getD_set, if_pos ⟨rfl, by omega⟩]
      have hbp : 0 ≤ (l.getD i sup0).par → (b.set i (b.getD i 0 + dsum d i)).getD (l.getD i sup0).par.toNat 0 = b.getD (l.getD i sup0).par.toNat 0 := fun hp => by rw [getD_set, if_neg (by omega)]
      have hbq := hsm (l.getD i sup0).par.toNat
      (conv => whnf)
      refine ⟨⟨by omega, by show (i : Int) < l.length; omega⟩, ?_⟩; conv => whnf
      refine bcase_of (fun h3 => ?_) (fun h3 => ?_)
      · have h3 : decide (0 ≤ (l.getD i sup0).par) = true := h3
        have hp0 := of_decide_eq_true h3
        (conv => whnf)
        refine ⟨⟨hp0, by show (l.getD i sup0).par < (l.length : Int); omega⟩, ?_⟩; conv => whnf
        refine ⟨⟨by omega, by show (i : Int) < l.length; omega⟩, ?_⟩; conv => whnf
        refine ⟨by show InI64 ((b.set i (b.getD i 0 + dsum d i)).getD (l.getD i sup0).par.toNat 0 + (b.set i (b.getD i 0 + dsum d i)).getD i 0); rw [hbs, hbp hp0]; unfold InI64; omega, ?_⟩; conv => whnf
        refine ⟨⟨hp0, by show (l.getD i sup0).par < (l.length : Int); omega⟩, ?_⟩; conv => whnf
        refine ⟨by show InI64 ((i : Int) - 1); unfold InI64; omega, ?_⟩; conv => whnf
        refine ⟨(k + 1, rloStep l d i b), [(0, some 0)], ⟨by omega, hst⟩, by show l.length - (k + 1) < l.length - k; omega, ⟨rfl, ⟨by (repeat' first | exact trivial | exact rfl | exact ⟨rfl, rfl⟩ | exact ⟨rfl, trivial⟩ | exact ⟨rfl, LeL.refl _, trivial⟩ | exact ⟨rfl, LeL.refl _, LeL.refl _, trivial⟩ | exact embV_le (.refl _) rfl | exact embV_leV (.refl _) rfl (Nat.lt_of_sub_pos (by exact Nat.zero_lt_succ _)) | exact ⟨rfl, rfl, rfl, rfl⟩ | exact ⟨rfl, rfl, rfl, rfl, id⟩ | exact ⟨rfl, rfl, rfl, rfl, rfl⟩ | exact ⟨rfl, rfl, rfl, rfl, nofun⟩ | exact tape_emb rfl | exact embO_le (LeL.refl _) rfl (Nat.lt_of_sub_pos (by exact Nat.zero_lt_succ _)) | exact ⟨rfl, rfl, fun _ _ => .refl _⟩ | (refine ⟨rfl, ?_⟩; simp; done) | (refine ⟨rfl, ?_⟩; omega) | refine ⟨?_, ?_⟩ | refine ⟨?_, ?_, ?_⟩), by (repeat' first | exact trivial | exact rfl | exact ⟨rfl, rfl⟩ | exact ⟨rfl, trivial⟩ | exact ⟨rfl, LeL.refl _, trivial⟩ | exact ⟨rfl, LeL.refl _, LeL.refl _, trivial⟩ | exact embV_le (.refl _) rfl | exact embV_leV (.refl _) rfl (Nat.lt_of_sub_pos (by exact Nat.zero_lt_succ _)) | exact ⟨rfl, rfl, rfl, rfl⟩ | exact ⟨rfl, rfl, rfl, rfl, id⟩ | exact ⟨rfl, rfl, rfl, rfl, rfl⟩ | exact ⟨rfl, rfl, rfl, rfl, nofun⟩ | exact tape_emb rfl | exact embO_le (LeL.refl _) rfl (Nat.lt_of_sub_pos (by exact Nat.zero_lt_succ _)) | exact ⟨rfl, rfl, fun _ _ => .refl _⟩ | (refine ⟨rfl, ?_⟩; simp; done) | (refine ⟨rfl, ?_⟩; omega) | refine ⟨?_, ?_⟩ | refine ⟨?_, ?_, ?_⟩), by (repeat' first | exact trivial | exact rfl | exact ⟨rfl, rfl⟩ | exact ⟨rfl, trivial⟩ | exact ⟨rfl, LeL.refl _, trivial⟩ | exact ⟨rfl, LeL.refl _, LeL.refl _, trivial⟩ | exact embV_le (.refl _) rfl | exact embV_leV (.refl _) rfl (Nat.lt_of_sub_pos (by exact Nat.zero_lt_succ _)) | exact ⟨rfl, rfl, rfl, rfl⟩ | exact ⟨rfl, rfl, rfl, rfl, id⟩ | exact ⟨rfl, rfl, rfl, rfl, rfl⟩ | exact ⟨rfl, rfl, rfl, rfl, nofun⟩ | exact tape_emb rfl | exact embO_le (LeL.refl _) rfl (Nat.lt_of_sub_pos (by exact Nat.zero_lt_succ _)) | exact ⟨rfl, rfl, fun _ _ => .refl _⟩ | (refine ⟨rfl, ?_⟩; simp; done) | (refine ⟨rfl, ?_⟩; omega) | refine ⟨?_, ?_⟩ | refine ⟨?_, ?_, ?_⟩), ⟨rfl, by show (i : Int) - 1 = (l.length : Int) - 1 - ((k + 1 : Nat) : Int); omega⟩, trivial⟩, ⟨⟨rfl, rfl, fun q _ => ?_⟩, trivial⟩⟩⟩
        unfold rloStep
        rw [h3]
        exact le_set (i := (l.getD i sup0).par.toNat) (by rw [List.length_set]; omega) rfl (by show Le (iV ((b.set i (b.getD i 0 + dsum d i)).getD (l.getD i sup0).par.toNat 0 + (b.set i (b.getD i 0 + dsum d i)).getD i 0)) _; rw [hbs, hbp hp0]; exact .refl _) q
      · have h3 : decide (0 ≤ (l.getD i sup0).par) = false := h3
        (conv => whnf)
        refine ⟨by show InI64 ((i : Int) - 1); unfold InI64; omega, ?_⟩; conv => whnf
        refine ⟨(k + 1, rloStep l d i b), [(0, some 0)], ⟨by omega, hst⟩, by show l.length - (k + 1) < l.length - k; omega, ⟨rfl, ⟨by (repeat' first | exact trivial | exact rfl | exact ⟨rfl, rfl⟩ | exact ⟨rfl, trivial⟩ | exact ⟨rfl, LeL.refl _, trivial⟩ | exact ⟨rfl, LeL.refl _, LeL.refl _, trivial⟩ | exact embV_le (.refl _) rfl | exact embV_leV (.refl _) rfl (Nat.lt_of_sub_pos (by exact Nat.zero_lt_succ _)) | exact ⟨rfl, rfl, rfl, rfl⟩ | exact ⟨rfl, rfl, rfl, rfl, id⟩ | exact ⟨rfl, rfl, rfl, rfl, rfl⟩ | exact ⟨rfl, rfl, rfl, rfl, nofun⟩ | exact tape_emb rfl | exact embO_le (LeL.refl _) rfl (Nat.lt_of_sub_pos (by exact Nat.zero_lt_succ _)) | exact ⟨rfl, rfl, fun _ _ => .refl _⟩ | (refine ⟨rfl, ?_⟩; simp; done) | (refine ⟨rfl, ?_⟩; omega) | refine ⟨?_, ?_⟩ | refine ⟨?_, ?_, ?_⟩), by (repeat' first | exact trivial | exact rfl | exact ⟨rfl, rfl⟩ | exact ⟨rfl, trivial⟩ | exact ⟨rfl, LeL.refl _, trivial⟩ | exact ⟨rfl, LeL.refl _, LeL.refl _, trivial⟩ | exact embV_le (.refl _) rfl | exact embV_leV (.refl _) rfl (Nat.lt_of_sub_pos (by exact Nat.zero_lt_succ _)) | exact ⟨rfl, rfl, rfl, rfl⟩ | exact ⟨rfl, rfl, rfl, rfl, id⟩ | exact ⟨rfl, rfl, rfl, rfl, rfl⟩ | exact ⟨rfl, rfl, rfl, rfl, nofun⟩ | exact tape_emb rfl | exact embO_le (LeL.refl _) rfl (Nat.lt_of_sub_pos (by exact Nat.zero_lt_succ _)) | exact ⟨rfl, rfl, fun _ _ => .refl _⟩ | (refine ⟨rfl, ?_⟩; simp; done) | (refine ⟨rfl, ?_⟩; omega) | refine ⟨?_, ?_⟩ | refine ⟨?_, ?_, ?_⟩), by (repeat' first | exact trivial | exact rfl | exact ⟨rfl, rfl⟩ | exact ⟨rfl, trivial⟩ | exact ⟨rfl, LeL.refl _, trivial⟩ | exact ⟨rfl, LeL.refl _, LeL.refl _, trivial⟩ | exact embV_le (.refl _) rfl | exact embV_leV (.refl _) rfl (Nat.lt_of_sub_pos (by exact Nat.zero_lt_succ _)) | exact ⟨rfl, rfl, rfl, rfl⟩ | exact ⟨rfl, rfl, rfl, rfl, id⟩ | exact ⟨rfl, rfl, rfl, rfl, rfl⟩ | exact ⟨rfl, rfl, rfl, rfl, nofun⟩ | exact tape_emb rfl | exact embO_le (LeL.refl _) rfl (Nat.lt_of_sub_pos (by exact Nat.zero_lt_succ _)) | exact ⟨rfl, rfl, fun _ _ => .refl _⟩ | (refine ⟨rfl, ?_⟩; simp; done) | (refine ⟨rfl, ?_⟩; omega) | refine ⟨?_, ?_⟩ | refine ⟨?_, ?_, ?_⟩), ⟨rfl, by show (i : Int) - 1 = (l.length : Int) - 1 - ((k + 1 : Nat) : Int); omega⟩, trivial⟩, ⟨⟨rfl, rfl, fun q _ => ?_⟩, trivial⟩⟩⟩
        unfold rloStep
        rw [h3]
        exact .refl _
  · have hke : k = l.length := by have h : decide (0 ≤ (l.length : Int) - 1 - k) = false := h; have := of_decide_eq_false h; omega
    subst hke
    have hd := hR.done
    subst hd
    (conv => whnf)
    exact ⟨embV_le (le_len (loadsF_len l d).symm) rfl, trivial⟩

end Go.Proofs.Ytjmhlbogkeohpaa

namespace Go.Proofs.Ytjmhlbogkeohpaa
open Go.Ab
set_option maxRecDepth 100000

theorem volts_spec (l : List Sup) (r : Rls) (hr : Rok l r) (k : Int) (hk : 0 ≤ k ∧ k < l.length) : S 65 [supsV l, rlsV r, iV k] [] (iV (voltF l r k.toNat)) [] := by
  have h2 := hr.lev k.toNat (by omega)
  have h3 := hr.len
  refine spec_of_x (ct := []) cfgOK Try.func65 rfl rfl (Nat.le_of_ble_eq_true rfl) (by decide +kernel) (Nat.le_refl _) ?_; conv => whnf
  (refine ⟨by intros; first | omega | (unfold InI64; omega) | (simp only [List.length_append, List.length_cons, List.length_nil, List.length_set]; omega), ?_⟩; conv => whnf)
  (refine ⟨by intros; first | omega | (unfold InI64; omega) | (simp only [List.length_append, List.length_cons, List.length_nil, List.length_set]; omega), ?_⟩; conv => whnf)
  refine ⟨⟨h2.1, h2.2.2⟩, ?_⟩; conv => whnf
  exact ⟨⟨rfl, rfl⟩, trivial⟩

theorem rmeets_spec (l : List Sup) (r : Rls) (d : List Drw) (hv : Vld l d) (hr : Rok l r) : S 55 [supsV l, rlsV r, drwsV d] [] (.bool (meets0 l r d)) [] := by
  have hul := usedF_len l d
  have hll := loadsF_len l d
  have hvl := hv.len
  have hvd := hv.dlen
  have ron := hr.on
  have rlen := hr.len
  refine spec_of_x (ct := []) cfgOK Try.func55 rfl rfl (Nat.le_of_ble_eq_true rfl) (by decide +kernel) (Nat.le_refl _) ?_; conv => whnf
  refine ⟨_, _, rused_spec l d hv, ?_⟩; conv => whnf
  refine ⟨_, _, rloads_spec l d hv, ?_⟩; conv => whnf
  refine loops_intro (ct := [11]) cfgOK (by decide +kernel) (fun i : Nat => ⟨[(0, supsV l), (2, drwsV d), (4, .ptr 0 0 0), (7, boolsV (usedF l d)), (8, intsV (loadsF l d)), (19, supsV l), (20, iV l.length), (21, iV i)], [(0, some (.box (rlsV r).cells))], 1⟩) (fun i => i ≤ l.length ∧ ∀ j, j < i → mBad l r (usedF l d) (loadsF l d) j = false) (fun i => l.length - i) 0 [(0, some 0)] ⟨Nat.zero_le _, fun j hj => absurd hj (Nat.not_lt_zero j)⟩ (by (repeat' first | exact trivial | exact rfl | exact ⟨rfl, rfl⟩ | exact ⟨rfl, trivial⟩ | exact ⟨rfl, LeL.refl _, trivial⟩ | exact ⟨rfl, LeL.refl _, LeL.refl _, trivial⟩ | exact embV_le (.refl _) rfl | exact embV_leV (.refl _) rfl (Nat.lt_of_sub_pos (by exact Nat.zero_lt_succ _)) | exact ⟨rfl, rfl, rfl, rfl⟩ | exact ⟨rfl, rfl, rfl, rfl, id⟩ | exact ⟨rfl, rfl, rfl, rfl, rfl⟩ | exact ⟨rfl, rfl, rfl, rfl, nofun⟩ | exact tape_emb rfl | exact embO_le (LeL.refl _) rfl (Nat.lt_of_sub_pos (by exact Nat.zero_lt_succ _)) | exact ⟨rfl, rfl, fun _ _ => .refl _⟩ | (refine ⟨rfl, ?_⟩; simp; done) | (refine ⟨rfl, ?_⟩; omega) | refine ⟨?_, ?_⟩ | refine ⟨?_, ?_, ?_⟩)) ?_
  intro i ⟨hi1, hi2⟩
  (conv => whnf)
  refine bcase_of (fun h2 => ?_) (fun h2 => ?_)
  · have hlt : i < l.length := by have := of_decide_eq_true h2; omega
    have hs := hv.sup i hlt
    have hri := hr.lev i hlt
    have hvi := volt_bnd hv hr i hlt
    have hnext : mBad l r (usedF l d) (loadsF l d) i = false → ∀ j, j < i + 1 → mBad l r (usedF l d) (loadsF l d) j = false := fun hb j hj => by
      by_cases hji : j = i
      · subst hji; exact hb
      · exact hi2 j (by omega)
    have hstop : mBad l r (usedF l d) (loadsF l d) i = true → meets0 l r d = false := fun hb => by
      unfold meets0
      rw [all_range_false hlt (by rw [hb]; rfl)]
      rfl
    (conv => whnf)
    (refine ⟨by intros; first | omega | (unfold InI64; omega) | (simp only [List.length_append, List.length_cons, List.length_nil, List.length_set]; omega), ?_⟩; conv => whnf)
    refine ⟨⟨by omega, by show (i : Int) < (usedF l d).length; omega⟩, ?_⟩; conv => whnf
    refine ⟨fun _ => ⟨by omega, by show (i : Int) < r.on.length; omega⟩, ?_⟩; conv => whnf
    refine bcase_of (fun h3 => ?_) (fun h3 => ?_)
    · have h3 : ((usedF l d).getD i false && !r.on.getD i false) = true := h3
      simp only [Bool.and_eq_true] at h3
      (conv => whnf)
      refine ⟨?_, trivial⟩
      show false = meets0 l r d
      rw [hstop (by unfold mBad; rw [h3.1, h3.2]; rfl)]
    · have h3 : ((usedF l d).getD i false && !r.on.getD i false) = false := h3
      (conv => whnf)
      refine ⟨⟨by omega, by show (i : Int) < r.on.length; omega⟩, ?_⟩; conv => whnf
      refine bcase_of (fun h4 => ?_) (fun h4 => ?_)
      · have h4 : (!r.on.getD i false) = true := h4
        rw [h4, Bool.and_true] at h3
        (conv => whnf)
        (refine ⟨by intros; first | omega | (unfold InI64; omega) | (simp only [List.length_append, List.length_cons, List.length_nil, List.length_set]; omega), ?_⟩; conv => whnf)
        refine ⟨i + 1, [(0, some 0)], ⟨by omega, hnext (by unfold mBad; rw [h3, h4]; rfl)⟩, by omega, (by (repeat' first | exact trivial | exact rfl | exact ⟨rfl, rfl⟩ | exact ⟨rfl, trivial⟩ | exact ⟨rfl, LeL.refl _, trivial⟩ | exact ⟨rfl, LeL.refl _, LeL.refl _, trivial⟩ | exact embV_le (.refl _) rfl | exact embV_leV (.refl _) rfl (Nat.lt_of_sub_pos (by exact Nat.zero_lt_succ _)) | exact ⟨rfl, rfl, rfl, rfl⟩ | exact ⟨rfl, rfl, rfl, rfl, id⟩ | exact ⟨rfl, rfl, rfl, rfl, rfl⟩ | exact ⟨rfl, rfl, rfl, rfl, nofun⟩ | exact tape_emb rfl | exact embO_le (LeL.refl _) rfl (Nat.lt_of_sub_pos (by exact Nat.zero_lt_succ _)) | exact ⟨rfl, rfl, fun _ _ => .refl _⟩ | (refine ⟨rfl, ?_⟩; simp; done) | (refine ⟨rfl, ?_⟩; omega) | refine ⟨?_, ?_⟩ | refine ⟨?_, ?_, ?_⟩))⟩
      · have h4 : (!r.on.getD i false) = false := h4
        (conv => whnf)
        refine ⟨⟨by omega, by show (i : Int) < (loadsF l d).length; omega⟩, ?_⟩; conv => whnf
        refine ⟨fun _ hg => ⟨by have hg : decide (0 ≤ (l.getD i sup0).par) = true := hg; exact of_decide_eq_true hg, by show (l.getD i sup0).par < (r.on.length : Int); omega⟩, ?_⟩; conv => whnf
        refine ⟨_, _, fun _ hg _ => volts_spec l r hr (l.getD i sup0).par ⟨by have hg : decide (0 ≤ (l.getD i sup0).par) = true := hg; exact of_decide_eq_true hg, by omega⟩, ?_⟩; conv => whnf
        refine ⟨_, _, fun _ _ _ => volts_spec l r hr i ⟨by omega, by omega⟩, ?_⟩; conv => whnf
        refine ⟨fun _ _ _ => by show InI64 (voltF l r i + (l.getD i sup0).drop); unfold InI64; omega, ?_⟩; conv => whnf
        refine bcase_of (fun h5 => ?_) (fun h5 => ?_)
        · have h5 : (decide ((l.getD i sup0).cap < (loadsF l d).getD i 0) || (decide (0 ≤ (l.getD i sup0).par) && (!r.on.getD (l.getD i sup0).par.toNat false || decide (voltF l r (l.getD i sup0).par.toNat < voltF l r i + (l.getD i sup0).drop)))) = true := h5
          rw [Bool.or_comm] at h5
          (conv => whnf)
          refine ⟨?_, trivial⟩
          show false = meets0 l r d
          rw [hstop (by unfold mBad; rw [h4, h5]; rfl)]
        · have h5 : (decide ((l.getD i sup0).cap < (loadsF l d).getD i 0) || (decide (0 ≤ (l.getD i sup0).par) && (!r.on.getD (l.getD i sup0).par.toNat false || decide (voltF l r (l.getD i sup0).par.toNat < voltF l r i + (l.getD i sup0).drop)))) = false := h5
          rw [Bool.or_comm] at h5
          (conv => whnf)
          (refine ⟨by intros; first | omega | (unfold InI64; omega) | (simp only [List.length_append, List.length_cons, List.length_nil, List.length_set]; omega), ?_⟩; conv => whnf)
          refine ⟨i + 1, [(0, some 0)], ⟨by omega, hnext (by unfold mBad; rw [h4, h5]; rfl)⟩, by omega, (by (repeat' first | exact trivial | exact rfl | exact ⟨rfl, rfl⟩ | exact ⟨rfl, trivial⟩ | exact ⟨rfl, LeL.refl _, trivial⟩ | exact ⟨rfl, LeL.refl _, LeL.refl _, trivial⟩ | exact embV_le (.refl _) rfl | exact embV_leV (.refl _) rfl (Nat.lt_of_sub_pos (by exact Nat.zero_lt_succ _)) | exact ⟨rfl, rfl, rfl, rfl⟩ | exact ⟨rfl, rfl, rfl, rfl, id⟩ | exact ⟨rfl, rfl, rfl, rfl, rfl⟩ | exact ⟨rfl, rfl, rfl, rfl, nofun⟩ | exact tape_emb rfl | exact embO_le (LeL.refl _) rfl (Nat.lt_of_sub_pos (by exact Nat.zero_lt_succ _)) | exact ⟨rfl, rfl, fun _ _ => .refl _⟩ | (refine ⟨rfl, ?_⟩; simp; done) | (refine ⟨rfl, ?_⟩; omega) | refine ⟨?_, ?_⟩ | refine ⟨?_, ?_, ?_⟩))⟩
  · have hil : i = l.length := by have := of_decide_eq_false h2; omega
    subst hil
    have hf : meets0 l r d = !(d.any (dBad l r)) := by
      unfold meets0
      rw [all_range_true (fun j hj => by rw [hi2 j hj]; rfl)]
      rfl
    (conv => whnf)
    refine loops_intro (ct := []) cfgOK (by decide +kernel) (fun i : Nat => ⟨[(0, supsV l), (4, .ptr 0 0 0), (81, drwsV d), (82, iV d.length), (83, iV i)], [(0, some (.box (rlsV r).cells))], 1⟩) (fun i => i ≤ d.length ∧ (d.drop i).any (dBad l r) = d.any (dBad l r)) (fun i => d.length - i) 0 [(0, some 0)] ⟨Nat.zero_le _, rfl⟩ (by (repeat' first | exact trivial | exact rfl | exact ⟨rfl, rfl⟩ | exact ⟨rfl, trivial⟩ | exact ⟨rfl, LeL.refl _, trivial⟩ | exact ⟨rfl, LeL.refl _, LeL.refl _, trivial⟩ | exact embV_le (.refl _) rfl | exact embV_leV (.refl _) rfl (Nat.lt_of_sub_pos (by exact Nat.zero_lt_succ _)) | exact ⟨rfl, rfl, rfl, rfl⟩ | exact ⟨rfl, rfl, rfl, rfl, id⟩ | exact ⟨rfl, rfl, rfl, rfl, rfl⟩ | exact ⟨rfl, rfl, rfl, rfl, nofun⟩ | exact tape_emb rfl | exact embO_le (LeL.refl _) rfl (Nat.lt_of_sub_pos (by exact Nat.zero_lt_succ _)) | exact ⟨rfl, rfl, fun _ _ => .refl _⟩ | (refine ⟨rfl, ?_⟩; simp; done) | (refine ⟨rfl, ?_⟩; omega) | refine ⟨?_, ?_⟩ | refine ⟨?_, ?_, ?_⟩)) ?_
    intro i ⟨hi1, hi2⟩
    (conv => whnf)
    refine bcase_of (fun h3 => ?_) (fun h3 => ?_)
    · have hlt : i < d.length := by have := of_decide_eq_true h3; omega
      have hx := hv.drw _ (getD_mem drw0 hlt)
      rw [drop_cons drw0 hlt, List.any_cons] at hi2
      (conv => whnf)
      (refine ⟨by intros; first | omega | (unfold InI64; omega) | (simp only [List.length_append, List.length_cons, List.length_nil, List.length_set]; omega), ?_⟩; conv => whnf)
      refine ⟨_, _, volts_spec l r hr (d.getD i drw0).sup ⟨hx.1, hx.2.1⟩, ?_⟩; conv => whnf
      refine ⟨_, _, in_spec (voltF l r (d.getD i drw0).sup.toNat) (d.getD i drw0).low (d.getD i drw0).high, ?_⟩; conv => whnf
      refine bcase_of (fun h4 => ?_) (fun h4 => ?_)
      · have h4 : dBad l r (d.getD i drw0) = true := h4
        (conv => whnf)
        refine ⟨?_, trivial⟩
        show false = meets0 l r d
        rw [hf, ← hi2, h4]
        rfl
      · have h4 : dBad l r (d.getD i drw0) = false := h4
        (conv => whnf)
        (refine ⟨by intros; first | omega | (unfold InI64; omega) | (simp only [List.length_append, List.length_cons, List.length_nil, List.length_set]; omega), ?_⟩; conv => whnf)
        refine ⟨i + 1, [(0, some 0)], ⟨by omega, ?_⟩, by omega, (by (repeat' first | exact trivial | exact rfl | exact ⟨rfl, rfl⟩ | exact ⟨rfl, trivial⟩ | exact ⟨rfl, LeL.refl _, trivial⟩ | exact ⟨rfl, LeL.refl _, LeL.refl _, trivial⟩ | exact embV_le (.refl _) rfl | exact embV_leV (.refl _) rfl (Nat.lt_of_sub_pos (by exact Nat.zero_lt_succ _)) | exact ⟨rfl, rfl, rfl, rfl⟩ | exact ⟨rfl, rfl, rfl, rfl, id⟩ | exact ⟨rfl, rfl, rfl, rfl, rfl⟩ | exact ⟨rfl, rfl, rfl, rfl, nofun⟩ | exact tape_emb rfl | exact embO_le (LeL.refl _) rfl (Nat.lt_of_sub_pos (by exact Nat.zero_lt_succ _)) | exact ⟨rfl, rfl, fun _ _ => .refl _⟩ | (refine ⟨rfl, ?_⟩; simp; done) | (refine ⟨rfl, ?_⟩; omega) | refine ⟨?_, ?_⟩ | refine ⟨?_, ?_, ?_⟩))⟩
        rw [← hi2, h4]
        rfl
    · have hid : i = d.length := by have := of_decide_eq_false h3; omega
      (conv => whnf)
      refine ⟨?_, trivial⟩
      show true = meets0 l r d
      rw [hf, ← hi2, hid, List.drop_length]
      rfl

theorem rMeets_spec (l : List Sup) (hl : l.length ≤ 1000000) (r : Rls) (d : List Drw) (hd : d.length ≤ 1000000) : S 22 [supsV l, rlsV r, drwsV d] [] (.bool (meetsF l r d)) [] := by
  refine spec_of_x (ct := []) cfgOK Try.func22 rfl rfl (Nat.le_of_ble_eq_true rfl) (by decide +kernel) (Nat.le_refl _) ?_; conv => whnf
  refine ⟨_, _, rdraws_spec l hl d hd, ?_⟩; conv => whnf
  refine ⟨_, _, fun _ => rrails_spec l hl r, ?_⟩; conv => whnf
  refine ⟨_, _, fun h => by
    have h : (drawsF l d && railsF l r) = true := h
    rw [Bool.and_eq_true] at h
    exact rmeets_spec l r d (vld_of h.1) (rails_iff.1 h.2).2, ?_⟩; conv => whnf
  refine ⟨?_, trivial⟩
  show ((drawsF l d && railsF l r) && meets0 l r d) = meetsF l r d
  unfold meetsF
  cases drawsF l d <;> cases railsF l r <;> cases meets0 l r d <;> rfl

def lvN : List Int → Int → Nat
  | [], _ => 0
  | x :: t, v => bif decide (v ≤ x) then 0 else lvN t v + 1

theorem lvN_le (v : Int) (l : List Int) : lvN l v ≤ l.length := by
  induction l with
  | nil => exact Nat.le_refl _
  | cons x l ih =>
    rw [lvN]
    cases decide (v ≤ x) <;> simp <;> omega

theorem lvN_lt {v : Int} {l : List Int} : ∀ j, j < lvN l v → l.getD j 0 < v := by
  induction l with
  | nil => intro j hj; simp [lvN] at hj
  | cons x l ih =>
    rw [lvN]
    cases h : decide (v ≤ x) with
    | true => intro j hj; simp at hj
    | false =>
      have := of_decide_eq_false h
      intro j hj
      cases j with
      | zero => show x < v; omega
      | succ j => exact ih j (by simpa using hj)

theorem lvN_ge {v : Int} {l : List Int} (h : lvN l v < l.length) : v ≤ l.getD (lvN l v) 0 := by
  induction l with
  | nil => simp at h
  | cons x l ih =>
    rw [lvN] at h ⊢
    cases hd : decide (v ≤ x) with
    | true => exact of_decide_eq_true hd
    | false =>
      rw [hd] at h
      exact ih (by simpa using h)

theorem lvN_eq {v : Int} {l : List Int} {k : Nat} (h0 : k ≤ l.length) (h1 : ∀ j, j < k → l.getD j 0 < v) (h2 : k < l.length → v ≤ l.getD k 0) : k = lvN l v := by
  have h3 := lvN_le v l
  rcases Nat.lt_trichotomy k (lvN l v) with h | h | h
  · have := lvN_lt k h
    have := h2 (by omega)
    omega
  · exact h
  · have := lvN_ge (v := v) (l := l) (by omega)
    have := h1 _ h
    omega

theorem asc_lt {p : Int} {v : List Int} (h : ascB p v = true) : ∀ i j, i < j → j < v.length → v.getD i 0 < v.getD j 0 := by
  induction v generalizing p with
  | nil => intro i j _ hj; simp at hj
  | cons a v ih =>
    rw [ascB, Bool.and_eq_true] at h
    intro i j hij hj
    cases j with
    | zero => omega
    | succ j =>
      cases i with
      | zero => exact (asc_get h.2 j (by simpa using hj)).1
      | succ i => exact ih h.2 i j (by omega) (by simpa using hj)

theorem rlevel_spec (s : Sup) (hs : s.lev.length ≤ 1000000) (v : Int) : S 61 [supV s, iV v] [] (iV (bif decide (lvN s.lev v < s.lev.length) then (lvN s.lev v : Int) else -1)) [] := by
  refine spec_of_x (ct := []) cfgOK Try.func61 rfl rfl (Nat.le_of_ble_eq_true rfl) (by decide +kernel) (Nat.le_refl _) ?_; conv => whnf
  refine loops_intro (ct := []) cfgOK (by decide +kernel) (fun i : Nat => ⟨[(1, iV v), (8, intsV s.lev), (9, iV s.lev.length), (10, iV i)], [], 1⟩) (fun i => i ≤ s.lev.length ∧ ∀ j, j < i → s.lev.getD j 0 < v) (fun i => s.lev.length - i) 0 [] ⟨Nat.zero_le _, fun j hj => absurd hj (Nat.not_lt_zero j)⟩ (by (repeat' first | exact trivial | exact rfl | exact ⟨rfl, rfl⟩ | exact ⟨rfl, trivial⟩ | exact ⟨rfl, LeL.refl _, trivial⟩ | exact ⟨rfl, LeL.refl _, LeL.refl _, trivial⟩ | exact embV_le (.refl _) rfl | exact embV_leV (.refl _) rfl (Nat.lt_of_sub_pos (by exact Nat.zero_lt_succ _)) | exact ⟨rfl, rfl, rfl, rfl⟩ | exact ⟨rfl, rfl, rfl, rfl, id⟩ | exact ⟨rfl, rfl, rfl, rfl, rfl⟩ | exact ⟨rfl, rfl, rfl, rfl, nofun⟩ | exact tape_emb rfl | exact embO_le (LeL.refl _) rfl (Nat.lt_of_sub_pos (by exact Nat.zero_lt_succ _)) | exact ⟨rfl, rfl, fun _ _ => .refl _⟩ | (refine ⟨rfl, ?_⟩; simp; done) | (refine ⟨rfl, ?_⟩; omega) | refine ⟨?_, ?_⟩ | refine ⟨?_, ?_, ?_⟩)) ?_
  intro i ⟨hi1, hi2⟩
  (conv => whnf)
  refine bcase_of (fun h => ?_) (fun h => ?_)
  · have hlt : i < s.lev.length := by have := of_decide_eq_true h; omega
    (conv => whnf)
    (refine ⟨by intros; first | omega | (unfold InI64; omega) | (simp only [List.length_append, List.length_cons, List.length_nil, List.length_set]; omega), ?_⟩; conv => whnf)
    refine bcase_of (fun h2 => ?_) (fun h2 => ?_)
    · have h2 : decide (v ≤ s.lev.getD i 0) = true := h2
      (conv => whnf)
      refine ⟨⟨rfl, ?_⟩, trivial⟩
      rw [← lvN_eq (k := i) (by omega) hi2 (fun _ => of_decide_eq_true h2), decide_eq_true hlt]
      rfl
    · have h2 : decide (v ≤ s.lev.getD i 0) = false := h2
      have := of_decide_eq_false h2
      (conv => whnf)
      (refine ⟨by intros; first | omega | (unfold InI64; omega) | (simp only [List.length_append, List.length_cons, List.length_nil, List.length_set]; omega), ?_⟩; conv => whnf)
      refine ⟨i + 1, [], ⟨by omega, fun j hj => ?_⟩, by omega, (by (repeat' first | exact trivial | exact rfl | exact ⟨rfl, rfl⟩ | exact ⟨rfl, trivial⟩ | exact ⟨rfl, LeL.refl _, trivial⟩ | exact ⟨rfl, LeL.refl _, LeL.refl _, trivial⟩ | exact embV_le (.refl _) rfl | exact embV_leV (.refl _) rfl (Nat.lt_of_sub_pos (by exact Nat.zero_lt_succ _)) | exact ⟨rfl, rfl, rfl, rfl⟩ | exact ⟨rfl, rfl, rfl, rfl, id⟩ | exact ⟨rfl, rfl, rfl, rfl, rfl⟩ | exact ⟨rfl, rfl, rfl, rfl, nofun⟩ | exact tape_emb rfl | exact embO_le (LeL.refl _) rfl (Nat.lt_of_sub_pos (by exact Nat.zero_lt_succ _)) | exact ⟨rfl, rfl, fun _ _ => .refl _⟩ | (refine ⟨rfl, ?_⟩; simp; done) | (refine ⟨rfl, ?_⟩; omega) | refine ⟨?_, ?_⟩ | refine ⟨?_, ?_, ?_⟩))⟩
      by_cases hji : j = i
      · subst hji; omega
      · exact hi2 j (by omega)
  · have hil : i = s.lev.length := by have := of_decide_eq_false h; omega
    subst hil
    (conv => whnf)
    refine ⟨⟨rfl, ?_⟩, trivial⟩
    rw [← lvN_eq (k := s.lev.length) (by omega) hi2 (fun h => absurd h (by omega)), decide_eq_false (by omega)]
    rfl

theorem nan1_spec (x : Int) : S 79 [iV x] [] (.bool false) [] := by
  refine spec_of_x (ct := []) cfgOK Try.func79 rfl rfl (Nat.le_of_ble_eq_true rfl) (by decide +kernel) (Nat.le_refl _) ?_; conv => whnf
  refine ⟨?_, trivial⟩
  show (x != x) = false
  simp
theorem nan2_spec (x : Int) : S 82 [iV x] [] (.bool false) [] := by
  refine spec_of_x (ct := []) cfgOK Try.func82 rfl rfl (Nat.le_of_ble_eq_true rfl) (by decide +kernel) (Nat.le_refl _) ?_; conv => whnf
  refine ⟨?_, trivial⟩
  show (x != x) = false
  simp
theorem less_spec (x y : Int) : S 78 [iV x, iV y] [] (.bool (decide (x < y))) [] := by
  refine spec_of_x (ct := []) cfgOK Try.func78 rfl rfl (Nat.le_of_ble_eq_true rfl) (by decide +kernel) (Nat.le_refl _) ?_; conv => whnf
  refine ⟨_, _, nan2_spec x, ?_⟩; conv => whnf
  refine ⟨_, _, fun _ => nan2_spec y, ?_⟩; conv => whnf
  exact ⟨rfl, trivial⟩

theorem wrap_u64 {n : Int} (h : 0 ≤ n ∧ n < 18446744073709551616) : IntKind.u64.wrap n = n := by
  show (if (false && decide (n % (2 ^ 64 : Int) ≥ 2 ^ 63)) = true then n % (2 ^ 64 : Int) - 2 ^ 64 else n % (2 ^ 64 : Int)) = n
  rw [Bool.false_and, if_neg (by decide)]
  exact Int.emod_eq_of_lt h.1 (by omega)

theorem half_eq (n : Nat) (h : n ≤ 1000000000) : IntKind.i64.wrap (shrI .u64 (IntKind.u64.wrap (n : Int)) 1) = ((n / 2 : Nat) : Int) := by
  rw [wrap_u64 (by omega)]
  have e : shrI .u64 (n : Int) 1 = ((n / 2 : Nat) : Int) := by
    show (n : Int).fdiv (2 ^ 1) = _
    rw [Int.fdiv_eq_ediv_of_nonneg _ (by decide)]
    omega
  rw [e]
  exact wrap_i64 (by unfold InI64; omega)

theorem search_spec (v : List Int) (hv : v.length ≤ 1000000) (x : Int) (hs : ∀ i j, i < j → j < v.length → v.getD i 0 < v.getD j 0) : S 74 [intsV v, iV x] [] (.tup [iV (lvN v x), .bool (decide ((lvN v x : Int) < v.length) && (v.getD (lvN v x) 0 == x))]) [] := by
  refine spec_of_x (ct := []) cfgOK Try.func74 rfl rfl (Nat.le_of_ble_eq_true rfl) (by decide +kernel) (Nat.le_refl _) ?_; conv => whnf
  refine loops_intro (ct := [5]) cfgOK (by decide +kernel) (fun g : Nat × Nat => ⟨[(0, intsV v), (1, iV x), (6, iV v.length), (7, iV g.1), (8, iV g.2)], [], 1⟩) (fun g => g.1 ≤ g.2 ∧ g.2 ≤ v.length ∧ (∀ j, j < g.1 → v.getD j 0 < x) ∧ (∀ j, g.2 ≤ j → j < v.length → x ≤ v.getD j 0)) (fun g => g.2 - g.1) (0, v.length) [] ⟨Nat.zero_le _, Nat.le_refl _, fun j hj => absurd hj (Nat.not_lt_zero j), fun j h1 h2 => absurd h2 (by show ¬ j < v.length; have h1 : v.length ≤ j := h1; omega)⟩ (by (repeat' first | exact trivial | exact rfl | exact ⟨rfl, rfl⟩ | exact ⟨rfl, trivial⟩ | exact ⟨rfl, LeL.refl _, trivial⟩ | exact ⟨rfl, LeL.refl _, LeL.refl _, trivial⟩ | exact embV_le (.refl _) rfl | exact embV_leV (.refl _) rfl (Nat.lt_of_sub_pos (by exact Nat.zero_lt_succ _)) | exact ⟨rfl, rfl, rfl, rfl⟩ | exact ⟨rfl, rfl, rfl, rfl, id⟩ | exact ⟨rfl, rfl, rfl, rfl, rfl⟩ | exact ⟨rfl, rfl, rfl, rfl, nofun⟩ | exact tape_emb rfl | exact embO_le (LeL.refl _) rfl (Nat.lt_of_sub_pos (by exact Nat.zero_lt_succ _)) | exact ⟨rfl, rfl, fun _ _ => .refl _⟩ | (refine ⟨rfl, ?_⟩; simp; done) | (refine ⟨rfl, ?_⟩; omega) | refine ⟨?_, ?_⟩ | refine ⟨?_, ?_, ?_⟩)) ?_
  intro ⟨lo, hi⟩ ⟨g1, g2, g3, g4⟩
  have g1 : lo ≤ hi := g1
  have g2 : hi ≤ v.length := g2
  have g3 : ∀ j, j < lo → v.getD j 0 < x := g3
  have g4 : ∀ j, hi ≤ j → j < v.length → x ≤ v.getD j 0 := g4
  (conv => whnf)
  refine bcase_of (fun h => ?_) (fun h => ?_)
  · have hlt : lo < hi := by have h : decide ((lo : Int) < hi) = true := h; have := of_decide_eq_true h; omega
    (conv => whnf)
    refine cut_intro (ct := []) (ct' := []) cfgOK (by decide +kernel) (by decide +kernel) (fun _ : Unit => ⟨[(0, intsV v), (1, iV x), (6, iV v.length), (7, iV lo), (8, iV hi), (9, iV ((lo + hi) / 2 : Nat))], [], 1⟩) (fun _ => True) ?_ ?_
    · (conv => whnf)
      refine ⟨by show InI64 ((lo : Int) + hi); unfold InI64; omega, ?_⟩; conv => whnf
      (refine ⟨by intros; first | omega | (unfold InI64; omega) | (simp only [List.length_append, List.length_cons, List.length_nil, List.length_set]; omega), ?_⟩; conv => whnf)
      refine ⟨(), [], trivial, ⟨rfl, ⟨by (repeat' first | exact trivial | exact rfl | exact ⟨rfl, rfl⟩ | exact ⟨rfl, trivial⟩ | exact ⟨rfl, LeL.refl _, trivial⟩ | exact ⟨rfl, LeL.refl _, LeL.refl _, trivial⟩ | exact embV_le (.refl _) rfl | exact embV_leV (.refl _) rfl (Nat.lt_of_sub_pos (by exact Nat.zero_lt_succ _)) | exact ⟨rfl, rfl, rfl, rfl⟩ | exact ⟨rfl, rfl, rfl, rfl, id⟩ | exact ⟨rfl, rfl, rfl, rfl, rfl⟩ | exact ⟨rfl, rfl, rfl, rfl, nofun⟩ | exact tape_emb rfl | exact embO_le (LeL.refl _) rfl (Nat.lt_of_sub_pos (by exact Nat.zero_lt_succ _)) | exact ⟨rfl, rfl, fun _ _ => .refl _⟩ | (refine ⟨rfl, ?_⟩; simp; done) | (refine ⟨rfl, ?_⟩; omega) | refine ⟨?_, ?_⟩ | refine ⟨?_, ?_, ?_⟩), by (repeat' first | exact trivial | exact rfl | exact ⟨rfl, rfl⟩ | exact ⟨rfl, trivial⟩ | exact ⟨rfl, LeL.refl _, trivial⟩ | exact ⟨rfl, LeL.refl _, LeL.refl _, trivial⟩ | exact embV_le (.refl _) rfl | exact embV_leV (.refl _) rfl (Nat.lt_of_sub_pos (by exact Nat.zero_lt_succ _)) | exact ⟨rfl, rfl, rfl, rfl⟩ | exact ⟨rfl, rfl, rfl, rfl, id⟩ | exact ⟨rfl, rfl, rfl, rfl, rfl⟩ | exact ⟨rfl, rfl, rfl, rfl, nofun⟩ | exact tape_emb rfl | exact embO_le (LeL.refl _) rfl (Nat.lt_of_sub_pos (by exact Nat.zero_lt_succ _)) | exact ⟨rfl, rfl, fun _ _ => .refl _⟩ | (refine ⟨rfl, ?_⟩; simp; done) | (refine ⟨rfl, ?_⟩; omega) | refine ⟨?_, ?_⟩ | refine ⟨?_, ?_, ?_⟩), by (repeat' first | exact trivial | exact rfl | exact ⟨rfl, rfl⟩ | exact ⟨rfl, trivial⟩ | exact ⟨rfl, LeL.refl _, trivial⟩ | exact ⟨rfl, LeL.refl _, LeL.refl _, trivial⟩ | exact embV_le (.refl _) rfl | exact embV_leV (.refl _) rfl (Nat.lt_of_sub_pos (by exact Nat.zero_lt_succ _)) | exact ⟨rfl, rfl, rfl, rfl⟩ | exact ⟨rfl, rfl, rfl, rfl, id⟩ | exact ⟨rfl, rfl, rfl, rfl, rfl⟩ | exact ⟨rfl, rfl, rfl, rfl, nofun⟩ | exact tape_emb rfl | exact embO_le (LeL.refl _) rfl (Nat.lt_of_sub_pos (by exact Nat.zero_lt_succ _)) | exact ⟨rfl, rfl, fun _ _ => .refl _⟩ | (refine ⟨rfl, ?_⟩; simp; done) | (refine ⟨rfl, ?_⟩; omega) | refine ⟨?_, ?_⟩ | refine ⟨?_, ?_, ?_⟩), by (repeat' first | exact trivial | exact rfl | exact ⟨rfl, rfl⟩ | exact ⟨rfl, trivial⟩ | exact ⟨rfl, LeL.refl _, trivial⟩ | exact ⟨rfl, LeL.refl _, LeL.refl _, trivial⟩ | exact embV_le (.refl _) rfl | exact embV_leV (.refl _) rfl (Nat.lt_of_sub_pos (by exact Nat.zero_lt_succ _)) | exact ⟨rfl, rfl, rfl, rfl⟩ | exact ⟨rfl, rfl, rfl, rfl, id⟩ | exact ⟨rfl, rfl, rfl, rfl, rfl⟩ | exact ⟨rfl, rfl, rfl, rfl, nofun⟩ | exact tape_emb rfl | exact embO_le (LeL.refl _) rfl (Nat.lt_of_sub_pos (by exact Nat.zero_lt_succ _)) | exact ⟨rfl, rfl, fun _ _ => .refl _⟩ | (refine ⟨rfl, ?_⟩; simp; done) | (refine ⟨rfl, ?_⟩; omega) | refine ⟨?_, ?_⟩ | refine ⟨?_, ?_, ?_⟩), by (repeat' first | exact trivial | exact rfl | exact ⟨rfl, rfl⟩ | exact ⟨rfl, trivial⟩ | exact ⟨rfl, LeL.refl _, trivial⟩ | exact ⟨rfl, LeL.refl _, LeL.refl _, trivial⟩ | exact embV_le (.refl _) rfl | exact embV_leV (.refl _) rfl (Nat.lt_of_sub_pos (by exact Nat.zero_lt_succ _)) | exact ⟨rfl, rfl, rfl, rfl⟩ | exact ⟨rfl, rfl, rfl, rfl, id⟩ | exact ⟨rfl, rfl, rfl, rfl, rfl⟩ | exact ⟨rfl, rfl, rfl, rfl, nofun⟩ | exact tape_emb rfl | exact embO_le (LeL.refl _) rfl (Nat.lt_of_sub_pos (by exact Nat.zero_lt_succ _)) | exact ⟨rfl, rfl, fun _ _ => .refl _⟩ | (refine ⟨rfl, ?_⟩; simp; done) | (refine ⟨rfl, ?_⟩; omega) | refine ⟨?_, ?_⟩ | refine ⟨?_, ?_, ?_⟩), ⟨rfl, ?_⟩, trivial⟩, trivial⟩⟩
      exact half_eq (lo + hi) (by omega)
    · intro _ _
      generalize hm : (lo + hi) / 2 = m
      have hm1 : lo ≤ m ∧ m < hi := by omega
      (conv => whnf)
      (refine ⟨by intros; first | omega | (unfold InI64; omega) | (simp only [List.length_append, List.length_cons, List.length_nil, List.length_set]; omega), ?_⟩; conv => whnf)
      refine ⟨_, _, less_spec (v.getD m 0) x, ?_⟩; conv => whnf
      refine bcase_of (fun h2 => ?_) (fun h2 => ?_)
      · have h2 : decide (v.getD m 0 < x) = true := h2
        have h2 := of_decide_eq_true h2
        (conv => whnf)
        (refine ⟨by intros; first | omega | (unfold InI64; omega) | (simp only [List.length_append, List.length_cons, List.length_nil, List.length_set]; omega), ?_⟩; conv => whnf)
        refine ⟨(m + 1, hi), [], ⟨by show m + 1 ≤ hi; omega, g2, fun j hj => ?_, g4⟩, by show hi - (m + 1) < hi - lo; omega, ⟨rfl, ⟨by (repeat' first | exact trivial | exact rfl | exact ⟨rfl, rfl⟩ | exact ⟨rfl, trivial⟩ | exact ⟨rfl, LeL.refl _, trivial⟩ | exact ⟨rfl, LeL.refl _, LeL.refl _, trivial⟩ | exact embV_le (.refl _) rfl | exact embV_leV (.refl _) rfl (Nat.lt_of_sub_pos (by exact Nat.zero_lt_succ _)) | exact ⟨rfl, rfl, rfl, rfl⟩ | exact ⟨rfl, rfl, rfl, rfl, id⟩ | exact ⟨rfl, rfl, rfl, rfl, rfl⟩ | exact ⟨rfl, rfl, rfl, rfl, nofun⟩ | exact tape_emb rfl | exact embO_le (LeL.refl _) rfl (Nat.lt_of_sub_pos (by exact Nat.zero_lt_succ _)) | exact ⟨rfl, rfl, fun _ _ => .refl _⟩ | (refine ⟨rfl, ?_⟩; simp; done) | (refine ⟨rfl, ?_⟩; omega) | refine ⟨?_, ?_⟩ | refine ⟨?_, ?_, ?_⟩), by (repeat' first | exact trivial | exact rfl | exact ⟨rfl, rfl⟩ | exact ⟨rfl, trivial⟩ | exact ⟨rfl, LeL.refl _, trivial⟩ | exact ⟨rfl, LeL.refl _, LeL.refl _, trivial⟩ | exact embV_le (.refl _) rfl | exact embV_leV (.refl _) rfl (Nat.lt_of_sub_pos (by exact Nat.zero_lt_succ _)) | exact ⟨rfl, rfl, rfl, rfl⟩ | exact ⟨rfl, rfl, rfl, rfl, id⟩ | exact ⟨rfl, rfl, rfl, rfl, rfl⟩ | exact ⟨rfl, rfl, rfl, rfl, nofun⟩ | exact tape_emb rfl | exact embO_le (LeL.refl _) rfl (Nat.lt_of_sub_pos (by exact Nat.zero_lt_succ _)) | exact ⟨rfl, rfl, fun _ _ => .refl _⟩ | (refine ⟨rfl, ?_⟩; simp; done) | (refine ⟨rfl, ?_⟩; omega) | refine ⟨?_, ?_⟩ | refine ⟨?_, ?_, ?_⟩), by (repeat' first | exact trivial | exact rfl | exact ⟨rfl, rfl⟩ | exact ⟨rfl, trivial⟩ | exact ⟨rfl, LeL.refl _, trivial⟩ | exact ⟨rfl, LeL.refl _, LeL.refl _, trivial⟩ | exact embV_le (.refl _) rfl | exact embV_leV (.refl _) rfl (Nat.lt_of_sub_pos (by exact Nat.zero_lt_succ _)) | exact ⟨rfl, rfl, rfl, rfl⟩ | exact ⟨rfl, rfl, rfl, rfl, id⟩ | exact ⟨rfl, rfl, rfl, rfl, rfl⟩ | exact ⟨rfl, rfl, rfl, rfl, nofun⟩ | exact tape_emb rfl | exact embO_le (LeL.refl _) rfl (Nat.lt_of_sub_pos (by exact Nat.zero_lt_succ _)) | exact ⟨rfl, rfl, fun _ _ => .refl _⟩ | (refine ⟨rfl, ?_⟩; simp; done) | (refine ⟨rfl, ?_⟩; omega) | refine ⟨?_, ?_⟩ | refine ⟨?_, ?_, ?_⟩), ⟨rfl, by simp⟩, by (repeat' first | exact trivial | exact rfl | exact ⟨rfl, rfl⟩ | exact ⟨rfl, trivial⟩ | exact ⟨rfl, LeL.refl _, trivial⟩ | exact ⟨rfl, LeL.refl _, LeL.refl _, trivial⟩ | exact embV_le (.refl _) rfl | exact embV_leV (.refl _) rfl (Nat.lt_of_sub_pos (by exact Nat.zero_lt_succ _)) | exact ⟨rfl, rfl, rfl, rfl⟩ | exact ⟨rfl, rfl, rfl, rfl, id⟩ | exact ⟨rfl, rfl, rfl, rfl, rfl⟩ | exact ⟨rfl, rfl, rfl, rfl, nofun⟩ | exact tape_emb rfl | exact embO_le (LeL.refl _) rfl (Nat.lt_of_sub_pos (by exact Nat.zero_lt_succ _)) | exact ⟨rfl, rfl, fun _ _ => .refl _⟩ | (refine ⟨rfl, ?_⟩; simp; done) | (refine ⟨rfl, ?_⟩; omega) | refine ⟨?_, ?_⟩ | refine ⟨?_, ?_, ?_⟩), trivial⟩, trivial⟩⟩
        have hj : j < m + 1 := hj
        by_cases hjm : j = m
        · subst hjm; exact h2
        · have := hs j m (by omega) (by omega)
          omega
      · have h2 : decide (v.getD m 0 < x) = false := h2
        have h2 := of_decide_eq_false h2
        (conv => whnf)
        refine ⟨(lo, m), [], ⟨hm1.1, by show m ≤ v.length; omega, g3, fun j hj hj2 => ?_⟩, by show m - lo < hi - lo; omega, (by (repeat' first | exact trivial | exact rfl | exact ⟨rfl, rfl⟩ | exact ⟨rfl, trivial⟩ | exact ⟨rfl, LeL.refl _, trivial⟩ | exact ⟨rfl, LeL.refl _, LeL.refl _, trivial⟩ | exact embV_le (.refl _) rfl | exact embV_leV (.refl _) rfl (Nat.lt_of_sub_pos (by exact Nat.zero_lt_succ _)) | exact ⟨rfl, rfl, rfl, rfl⟩ | exact ⟨rfl, rfl, rfl, rfl, id⟩ | exact ⟨rfl, rfl, rfl, rfl, rfl⟩ | exact ⟨rfl, rfl, rfl, rfl, nofun⟩ | exact tape_emb rfl | exact embO_le (LeL.refl _) rfl (Nat.lt_of_sub_pos (by exact Nat.zero_lt_succ _)) | exact ⟨rfl, rfl, fun _ _ => .refl _⟩ | (refine ⟨rfl, ?_⟩; simp; done) | (refine ⟨rfl, ?_⟩; omega) | refine ⟨?_, ?_⟩ | refine ⟨?_, ?_, ?_⟩))⟩
        have hj : m ≤ j := hj
        by_cases hjm : j = m
        · subst hjm; omega
        · have := hs m j (by omega) hj2
          omega
  · have hlt : lo = hi := by have h : decide ((lo : Int) < hi) = false := h; have := of_decide_eq_false h; omega
    subst hlt
    have hk := lvN_eq (k := lo) g2 g3 (fun h => g4 lo (Nat.le_refl _) h)
    (conv => whnf)
    refine ⟨fun hg => by
      have hg : decide ((lo : Int) < v.length) = true := hg
      have := of_decide_eq_true hg
      omega, ?_⟩; conv => whnf
    refine ⟨fun hg _ => by
      have hg : decide ((lo : Int) < v.length) = true := hg
      have := of_decide_eq_true hg
      omega, ?_⟩; conv => whnf
    refine ⟨_, _, fun _ _ => nan1_spec (v.getD lo 0), ?_⟩; conv => whnf
    refine ⟨_, _, fun _ _ _ => nan1_spec x, ?_⟩; conv => whnf
    rw [← hk]
    refine ⟨⟨⟨rfl, rfl⟩, ?_, trivial⟩, trivial⟩
    show (decide ((lo : Int) < v.length) && ((v.getD lo 0 == x) || (false && false))) = (decide ((lo : Int) < v.length) && (v.getD lo 0 == x))
    simp

theorem level_spec (s : Sup) (hs : s.lev.length ≤ 1000000) (ha : ascB 0 s.lev = true) (v : Int) : S 57 [supV s, iV v] [] (.tup [iV (lvN s.lev v), .bool (decide ((lvN s.lev v : Int) < s.lev.length))]) [] := by
  refine spec_of_x (ct := []) cfgOK Try.func57 rfl rfl (Nat.le_of_ble_eq_true rfl) (by decide +kernel) (Nat.le_refl _) ?_; conv => whnf
  refine ⟨_, _, search_spec s.lev hs v (asc_lt ha), ?_⟩; conv => whnf
  exact ⟨⟨⟨rfl, rfl⟩, rfl, trivial⟩, trivial⟩

end Go.Proofs.Ytjmhlbogkeohpaa

namespace Go.Proofs.Ytjmhlbogkeohpaa
open Go.Ab
set_option maxRecDepth 100000

theorem and_small {n : Int} (h : 0 ≤ n ∧ n < 4294967296) : andI .u64 n 4294967295 = n := by
  unfold andI
  have e : (BitVec.ofInt IntKind.u64.bits n &&& BitVec.ofInt IntKind.u64.bits 4294967295).toNat = n.toNat := by
    show (BitVec.ofInt 64 n &&& BitVec.ofInt 64 4294967295).toNat = n.toNat
    obtain ⟨k, rfl⟩ : ∃ k : Nat, n = k := ⟨n.toNat, by omega⟩
    rw [BitVec.toNat_and]
    have e1 : (BitVec.ofInt 64 (k : Int)).toNat = k := by
      rw [BitVec.toNat_ofInt]
      omega
    have e2 : (BitVec.ofInt 64 4294967295).toNat = 2 ^ 32 - 1 := by decide
    rw [e1, e2, Nat.and_two_pow_sub_one_eq_mod]
    omega
  rw [e, wrap_u64 (by omega)]
  omega

theorem shr_small {n : Int} (h : 0 ≤ n ∧ n < 4294967296) : shrI .u64 n 32 = 0 := by
  show n.fdiv (2 ^ 32) = 0
  rw [Int.fdiv_eq_ediv_of_nonneg _ (by decide)]
  exact Int.ediv_eq_zero_of_lt h.1 (by omega)

abbrev uV (n : Int) : AV := .int .u64 n

theorem mul64_spec (n : Int) (h : 0 ≤ n ∧ n < 4294967296) : S 81 [uV 1, uV n] [] (.tup [uV 0, uV n]) [] := by
  refine spec_of_x (ct := []) cfgOK Try.func81 rfl rfl (Nat.le_of_ble_eq_true rfl) (by decide +kernel) (Nat.le_refl _) ?_; conv => whnf
  (refine ⟨by intros; first | omega | (unfold InI64; omega) | (simp only [List.length_append, List.length_cons, List.length_nil, List.length_set]; omega), ?_⟩; conv => whnf)
  (refine ⟨by intros; first | omega | (unfold InI64; omega) | (simp only [List.length_append, List.length_cons, List.length_nil, List.length_set]; omega), ?_⟩; conv => whnf)
  (refine ⟨by intros; first | omega | (unfold InI64; omega) | (simp only [List.length_append, List.length_cons, List.length_nil, List.length_set]; omega), ?_⟩; conv => whnf)
  (refine ⟨by intros; first | omega | (unfold InI64; omega) | (simp only [List.length_append, List.length_cons, List.length_nil, List.length_set]; omega), ?_⟩; conv => whnf)
  (refine ⟨by intros; first | omega | (unfold InI64; omega) | (simp only [List.length_append, List.length_cons, List.length_nil, List.length_set]; omega), ?_⟩; conv => whnf)
  refine ⟨⟨⟨rfl, ?_⟩, ⟨rfl, ?_⟩, trivial⟩, trivial⟩
  · have a1 := and_small (n := 1) (by omega)
    have a0 := and_small (n := 0) (by omega)
    have an := and_small h
    have s1 := shr_small (n := 1) (by omega)
    have s0 := shr_small (n := 0) (by omega)
    have sn := shr_small h
    have w0 := wrap_u64 (n := 0) (by omega)
    have wn := wrap_u64 (n := n) (by omega)
    simp only [a1, a0, an, s1, s0, sn, w0, wn, Int.zero_mul, Int.mul_zero, Int.one_mul, Int.add_zero]
  · show IntKind.u64.wrap (1 * n) = n
    rw [Int.one_mul, wrap_u64 (by omega)]

theorem mul_spec (n : Int) (h : 0 ≤ n ∧ n < 4294967296) : S 77 [uV 1, uV n] [] (.tup [uV 0, uV n]) [] := by
  refine spec_of_x (ct := []) cfgOK Try.func77 rfl rfl (Nat.le_of_ble_eq_true rfl) (by decide +kernel) (Nat.le_refl _) ?_; conv => whnf
  refine ⟨_, _, mul64_spec n h, ?_⟩; conv => whnf
  exact ⟨⟨⟨rfl, rfl⟩, ⟨rfl, rfl⟩, trivial⟩, trivial⟩

def rp (v : Dem) (n len : Nat) : List Dem := List.replicate n v ++ List.replicate (len - n) dem0

theorem rp_len (v : Dem) {n len : Nat} (h : n ≤ len) : (rp v n len).length = len := by
  unfold rp
  simp
  omega

theorem rp_get (v : Dem) (n len j : Nat) : (rp v n len).getD j dem0 = if j < n then v else dem0 := by
  unfold rp
  by_cases h : j < n
  · rw [if_pos h, List.getD_eq_getElem?_getD, List.getElem?_append_left (by simpa using h), List.getElem?_replicate, if_pos h]
    rfl
  · rw [if_neg h, List.getD_eq_getElem?_getD, List.getElem?_append_right (by simp; omega), List.getElem?_replicate]
    split <;> rfl

theorem repeat_spec (v : Dem) (n : Nat) (hn : n ≤ 1000000) : S 71 [demsV [v], iV n] [] (.osl 0 0 n true) [.row 3 n (rowG demV dem0 (List.replicate n v))] := by
  refine spec_of_x (ct := []) cfgOK Try.func71 rfl rfl (Nat.le_of_ble_eq_true rfl) (by decide +kernel) (Nat.zero_le _) ?_; conv => whnf
  have e1 : IntKind.u64.wrap ((1 : Nat) : Int) = 1 := wrap_u64 (by omega)
  have e2 : IntKind.u64.wrap (n : Int) = n := wrap_u64 (by omega)
  refine ⟨_, _, (mul_spec n (by omega)).le ⟨by show Le (uV (IntKind.u64.wrap ((1 : Nat) : Int))) _; rw [e1]; exact .refl _, by show Le (uV (IntKind.u64.wrap (n : Int))) _; rw [e2]; exact .refl _, trivial⟩ trivial, ?_⟩; conv => whnf
  refine bcase_of (fun h2 => ?_) (fun h2 => ?_)
  · exfalso
    have h2 : (false || decide ((9223372036854775807 : Int) < n)) = true := h2
    simp at h2
    omega
  · (conv => whnf)
    have e3 : IntKind.i64.wrap (n : Int) = n := wrap_i64 (by unfold InI64; omega)
    refine ⟨by
      show 0 ≤ IntKind.i64.wrap (n : Int) ∧ IntKind.i64.wrap (n : Int) * 24 ≤ 140737488355328
      rw [e3]
      omega, ?_⟩; conv => whnf
    have e4 : (IntKind.i64.wrap (n : Int)).toNat = n := by rw [e3]; rfl
    refine loops_intro (ct := []) cfgOK (by decide +kernel) (fun k : Nat => ⟨[(7, .osl 0 0 n true), (8, iV k)], [(0, some (.row 3 n (rowG demV dem0 (rp v k n))))], 1⟩) (fun k => k ≤ n ∧ (0 < n → 0 < k)) (fun k => n - k) (Nat.min 1 n) [(0, some 22)] ⟨Nat.min_le_right _ _, fun h => Nat.lt_min.2 ⟨by omega, h⟩⟩ ?_ ?_
    · refine ⟨rfl, ⟨⟨rfl, rfl, rfl, e4, id⟩, ⟨rfl, by show ((Nat.min 1 (IntKind.i64.wrap (n : Int)).toNat : Nat) : Int) = ((Nat.min 1 n : Nat) : Int); rw [e4]⟩, trivial⟩, ⟨⟨rfl, e4, fun j _ => ?_⟩, trivial⟩⟩
      show Le (cpG 0 (Nat.min 1 (IntKind.i64.wrap (n : Int)).toNat) (fun _ => demV dem0) (rowG demV dem0 [v]) j) (demV ((rp v (Nat.min 1 n) n).getD j dem0))
      rw [e4, rp_get]
      by_cases hj : j < Nat.min 1 n
      · rw [cpG_in (Nat.zero_le _) (by omega), if_pos hj]
        have : Nat.min 1 n ≤ 1 := Nat.min_le_left _ _
        have hj0 : j = 0 := by omega
        subst hj0
        exact .refl _
      · rw [cpG_out (by omega), if_neg hj]
        exact .refl _
    · intro k ⟨hk1, hk2⟩
      (conv => whnf)
      refine bcase_of (fun h => ?_) (fun h => ?_)
      · have hlt : k < n := by have h : decide ((k : Int) < n) = true := h; have := of_decide_eq_true h; omega
        (conv => whnf)
        (refine ⟨by intros; first | omega | (unfold InI64; omega) | (simp only [List.length_append, List.length_cons, List.length_nil, List.length_set]; omega), ?_⟩; conv => whnf)
        (refine ⟨by intros; first | omega | (unfold InI64; omega) | (simp only [List.length_append, List.length_cons, List.length_nil, List.length_set]; omega), ?_⟩; conv => whnf)
        have hmin : Nat.min k (n - k) ≤ k ∧ Nat.min k (n - k) ≤ n - k := ⟨Nat.min_le_left _ _, Nat.min_le_right _ _⟩
        have hpos : 0 < Nat.min k (n - k) := Nat.lt_min.2 ⟨hk2 (by omega), by omega⟩
        refine ⟨by show InI64 ((k : Int) + ((Nat.min k (n - k) : Nat) : Int)); unfold InI64; omega, ?_⟩; conv => whnf
        refine ⟨k + Nat.min k (n - k), [(0, some 0)], ⟨by omega, fun _ => by omega⟩, by omega, ⟨rfl, ⟨by (repeat' first | exact trivial | exact rfl | exact ⟨rfl, rfl⟩ | exact ⟨rfl, trivial⟩ | exact ⟨rfl, LeL.refl _, trivial⟩ | exact ⟨rfl, LeL.refl _, LeL.refl _, trivial⟩ | exact embV_le (.refl _) rfl | exact embV_leV (.refl _) rfl (Nat.lt_of_sub_pos (by exact Nat.zero_lt_succ _)) | exact ⟨rfl, rfl, rfl, rfl⟩ | exact ⟨rfl, rfl, rfl, rfl, id⟩ | exact ⟨rfl, rfl, rfl, rfl, rfl⟩ | exact ⟨rfl, rfl, rfl, rfl, nofun⟩ | exact tape_emb rfl | exact embO_le (LeL.refl _) rfl (Nat.lt_of_sub_pos (by exact Nat.zero_lt_succ _)) | exact ⟨rfl, rfl, fun _ _ => .refl _⟩ | (refine ⟨rfl, ?_⟩; simp; done) | (refine ⟨rfl, ?_⟩; omega) | refine ⟨?_, ?_⟩ | refine ⟨?_, ?_, ?_⟩), ⟨rfl, ?_⟩, trivial⟩, ⟨⟨rfl, rfl, fun j _ => ?_⟩, trivial⟩⟩⟩
        · show (k : Int) + ((Nat.min k (n - k) : Nat) : Int) = ((k + Nat.min k (n - k) : Nat) : Int)
          omega
        · show Le (cpG (0 + k) (Nat.min k (n - k)) (rowG demV dem0 (rp v k n)) (rowG demV dem0 (rp v k n)) j) (demV ((rp v (k + Nat.min k (n - k)) n).getD j dem0))
          generalize Nat.min k (n - k) = q at hmin hpos
          rw [rp_get, Nat.zero_add]
          by_cases hj : k ≤ j ∧ j < k + q
          · rw [cpG_in hj.1 hj.2, if_pos hj.2]
            unfold rowG
            rw [rp_get, if_pos (by omega)]
            exact .refl _
          · rw [cpG_out hj]
            unfold rowG
            rw [rp_get]
            by_cases hj2 : j < k
            · rw [if_pos hj2, if_pos (by omega)]
              exact .refl _
            · rw [if_neg hj2, if_neg (by omega)]
              exact .refl _
      · have hke : k = n := by have h : decide ((k : Int) < n) = false := h; have := of_decide_eq_false h; omega
        subst hke
        (conv => whnf)
        refine ⟨⟨rfl, rfl, rfl, rfl, id⟩, ⟨rfl, rfl, fun j hj => ?_⟩, trivial⟩
        show Le (demV ((rp v k k).getD j dem0)) (demV ((List.replicate k v).getD j dem0))
        rw [rp_get, if_pos hj, List.getD_eq_getElem?_getD, List.getElem?_replicate, if_pos hj]
        exact .refl _

end Go.Proofs.Ytjmhlbogkeohpaa
