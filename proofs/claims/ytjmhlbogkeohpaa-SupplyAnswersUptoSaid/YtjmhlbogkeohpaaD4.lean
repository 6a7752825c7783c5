/- Contracts of the program's functions, shown by walks of that machine, and the plain laws. -/
import Derived.Test.YtjmhlbogkeohpaaD3
namespace Go.Proofs.Ytjmhlbogkeohpaa
open Go.Ab
set_option maxRecDepth 100000

def jnB (l : List Sup) (u : List Bool) (c : List Int) (i : Nat) : Bool := (!withinF (c.getD i 0) 0 (l.length - 1) || !u.getD (c.getD i 0).toNat false) || (decide (0 < (i : Int)) && ((l.getD (c.getD (i - 1) 0).toNat sup0).par != c.getD i 0))
def jnAll (l : List Sup) (u : List Bool) (c : List Int) : Bool := (List.range c.length).all (fun i => !jnB l u c i)
def lvK (l : List Sup) (k v : Int) : Nat := lvN (l.getD k.toNat sup0).lev v
def okK (l : List Sup) (k v : Int) : Bool := decide (lvK l k v < (l.getD k.toNat sup0).lev.length)
def voK (l : List Sup) (k v : Int) : Int := (l.getD k.toNat sup0).lev.getD (lvK l k v) 0
def rwN (l : List Sup) (d : List Drw) (last : Int) : List Int → Int → Bool
  | [], _ => false
  | k :: t, v => bif !t.isEmpty then (bif !okK l k v then false else rwN l d last t (voK l k v + (l.getD k.toNat sup0).drop))
    else bif !okK l k v || decide (last < 0) then !okK l k v && decide (last < 0)
    else ((d.getD last.toNat drw0).sup == k) && decide ((d.getD last.toNat drw0).high < voK l k v)
def ovB (l : List Sup) (d : List Drw) (c : Chn) : Bool := ((((c.sups.length : Int) == 1) && (c.first == -1)) && (c.last == -1)) && decide ((l.getD (c.sups.getD 0 0).toNat sup0).cap < (loadsF l d).getD (c.sups.getD 0 0).toNat 0)
def rchkF (l : List Sup) (d : List Drw) (c : Chn) : Bool :=
  bif (beginF l d != 0) || ((c.sups.length : Int) == 0) then false
  else bif !jnAll l (usedF l d) c.sups then false
  else bif c.over then ovB l d c
  else bif !withinF c.first (-1) (d.length - 1) || !withinF c.last (-1) (d.length - 1) then false
  else bif decide (0 ≤ c.first) then (bif (d.getD c.first.toNat drw0).sup != c.sups.getD 0 0 then false else rwN l d c.last c.sups (d.getD c.first.toNat drw0).low)
  else rwN l d c.last c.sups 0

theorem jn_of {l : List Sup} {u : List Bool} {c : List Int} {i : Nat} (h : jnB l u c i = false) : 0 ≤ c.getD i 0 ∧ c.getD i 0 < l.length ∧ u.getD (c.getD i 0).toNat false = true := by
  unfold jnB at h
  simp only [Bool.or_eq_false_iff, Bool.not_eq_false', withinF_iff] at h
  exact ⟨h.1.1.1, by omega, h.1.2⟩

set_option maxHeartbeats 8000000 in
theorem rchain_spec (l : List Sup) (hl : l.length ≤ 1000000) (d : List Drw) (hd : d.length ≤ 1000000) (c : Chn) (hcl : c.sups.length ≤ 1000000) : S 24 [supsV l, drwsV d, chnV c] [] (.bool (rchkF l d c)) [] := by
  refine spec_of_x (ct := [20]) cfgOK Try.func24 rfl rfl (Nat.le_of_ble_eq_true rfl) (by decide +kernel) (Nat.le_refl _) ?_
  (conv => whnf)
  refine ⟨_, _, rbegin_spec l hl d hd, ?_⟩; conv => whnf
  unfold rchkF
  refine bcase_of (fun h => ?_) (fun h => ?_)
  · have h : ((beginF l d != 0) || ((c.sups.length : Int) == 0)) = true := h
    (conv => whnf)
    rw [h]
    exact ⟨rfl, trivial⟩
  have h : ((beginF l d != 0) || ((c.sups.length : Int) == 0)) = false := h
  rw [h]
  have h' : beginF l d = 0 ∧ c.sups.length ≠ 0 := by
    simp only [Bool.or_eq_false_iff] at h
    exact ⟨by simpa using h.1, fun e => by rw [e] at h; simp at h⟩
  have hv := vld_of (begin_ok h'.1)
  have hul := usedF_len l d
  have hll := loadsF_len l d
  have hvl := hv.len
  have hvd := hv.dlen
  have hc0 := h'.2
  clear h h'
  (conv => whnf)
  refine ⟨_, _, rused_spec l d hv, ?_⟩; conv => whnf
  generalize hu : usedF l d = u at hul
  refine loops_intro (ct := [10]) cfgOK (by decide +kernel) (fun i : Nat => ⟨[(0, supsV l), (1, drwsV d), (5, .ptr 0 0 0), (7, boolsV u), (29, intsV c.sups), (30, iV c.sups.length), (31, iV i)], [(0, some (.box (chnV c).cells))], 1⟩) (fun i => i ≤ c.sups.length ∧ ∀ j, j < i → jnB l u c.sups j = false) (fun i => c.sups.length - i) 0 [(0, some 0)] ⟨Nat.zero_le _, fun j hj => absurd hj (Nat.not_lt_zero j)⟩ (by (repeat' first | exact trivial | exact rfl | exact ⟨rfl, rfl⟩ | exact ⟨rfl, trivial⟩ | exact ⟨rfl, LeL.refl _, trivial⟩ | exact ⟨rfl, LeL.refl _, LeL.refl _, trivial⟩ | exact embV_le (.refl _) rfl | exact embV_leV (.refl _) rfl (Nat.lt_of_sub_pos (by exact Nat.zero_lt_succ _)) | exact ⟨rfl, rfl, rfl, rfl⟩ | exact ⟨rfl, rfl, rfl, rfl, id⟩ | exact ⟨rfl, rfl, rfl, rfl, rfl⟩ | exact ⟨rfl, rfl, rfl, rfl, nofun⟩ | exact tape_emb rfl | exact embO_le (LeL.refl _) rfl (Nat.lt_of_sub_pos (by exact Nat.zero_lt_succ _)) | exact ⟨rfl, rfl, fun _ _ => .refl _⟩ | (refine ⟨rfl, ?_⟩; simp; done) | (refine ⟨rfl, ?_⟩; omega) | refine ⟨?_, ?_⟩ | refine ⟨?_, ?_, ?_⟩)) ?_
  intro i ⟨hi1, hi2⟩
  (conv => whnf)
  refine bcase_of (fun h2 => ?_) (fun h2 => ?_)
  · have hlt : i < c.sups.length := by have := of_decide_eq_true h2; omega
    have hpr : ((i : Int) - 1).toNat = i - 1 := by omega
    (conv => whnf)
    (refine ⟨by intros; first | omega | (unfold InI64; omega) | (simp only [List.length_append, List.length_cons, List.length_nil, List.length_set]; omega), ?_⟩; conv => whnf)
    (refine ⟨by intros; first | omega | (unfold InI64; omega) | (simp only [List.length_append, List.length_cons, List.length_nil, List.length_set]; omega), ?_⟩; conv => whnf)
    refine ⟨_, _, in_spec (c.sups.getD i 0) 0 (l.length - 1), ?_⟩; conv => whnf
    refine ⟨fun hg => by
      have hg : (!withinF (c.sups.getD i 0) 0 (l.length - 1)) = false := hg
      rw [Bool.not_eq_false', withinF_iff] at hg
      exact ⟨hg.1, by show c.sups.getD i 0 < (u.length : Int); omega⟩, ?_⟩; conv => whnf
    (refine ⟨by intros; first | omega | (unfold InI64; omega) | (simp only [List.length_append, List.length_cons, List.length_nil, List.length_set]; omega), ?_⟩; conv => whnf)
    refine ⟨fun _ hg => by
      have hg : decide (0 < (i : Int)) = true := hg
      have := of_decide_eq_true hg
      omega, ?_⟩; conv => whnf
    refine ⟨fun _ hg => by
      have hg : decide (0 < (i : Int)) = true := hg
      have := of_decide_eq_true hg
      have hj := jn_of (hi2 (i - 1) (by omega))
      show 0 ≤ c.sups.getD ((i : Int) - 1).toNat 0 ∧ c.sups.getD ((i : Int) - 1).toNat 0 < (l.length : Int)
      rw [hpr]
      exact ⟨hj.1, hj.2.1⟩, ?_⟩; conv => whnf
    refine bcase_of (fun h3 => ?_) (fun h3 => ?_)
    · have h3 : ((!withinF (c.sups.getD i 0) 0 (l.length - 1) || !u.getD (c.sups.getD i 0).toNat false) || (decide (0 < (i : Int)) && ((l.getD (c.sups.getD ((i : Int) - 1).toNat 0).toNat sup0).par != c.sups.getD i 0))) = true := h3
      rw [hpr] at h3
      have h3 : jnB l u c.sups i = true := h3
      have hf : jnAll l u c.sups = false := all_range_false hlt (by rw [h3]; rfl)
      (conv => whnf)
      rw [hf]
      exact ⟨rfl, trivial⟩
    · have h3 : ((!withinF (c.sups.getD i 0) 0 (l.length - 1) || !u.getD (c.sups.getD i 0).toNat false) || (decide (0 < (i : Int)) && ((l.getD (c.sups.getD ((i : Int) - 1).toNat 0).toNat sup0).par != c.sups.getD i 0))) = false := h3
      rw [hpr] at h3
      have h3 : jnB l u c.sups i = false := h3
      (conv => whnf)
      (refine ⟨by intros; first | omega | (unfold InI64; omega) | (simp only [List.length_append, List.length_cons, List.length_nil, List.length_set]; omega), ?_⟩; conv => whnf)
      refine ⟨i + 1, [(0, some 0)], ⟨by omega, fun j hj => ?_⟩, by omega, (by (repeat' first | exact trivial | exact rfl | exact ⟨rfl, rfl⟩ | exact ⟨rfl, trivial⟩ | exact ⟨rfl, LeL.refl _, trivial⟩ | exact ⟨rfl, LeL.refl _, LeL.refl _, trivial⟩ | exact embV_le (.refl _) rfl | exact embV_leV (.refl _) rfl (Nat.lt_of_sub_pos (by exact Nat.zero_lt_succ _)) | exact ⟨rfl, rfl, rfl, rfl⟩ | exact ⟨rfl, rfl, rfl, rfl, id⟩ | exact ⟨rfl, rfl, rfl, rfl, rfl⟩ | exact ⟨rfl, rfl, rfl, rfl, nofun⟩ | exact tape_emb rfl | exact embO_le (LeL.refl _) rfl (Nat.lt_of_sub_pos (by exact Nat.zero_lt_succ _)) | exact ⟨rfl, rfl, fun _ _ => .refl _⟩ | (refine ⟨rfl, ?_⟩; simp; done) | (refine ⟨rfl, ?_⟩; omega) | refine ⟨?_, ?_⟩ | refine ⟨?_, ?_, ?_⟩))⟩
      by_cases hji : j = i
      · subst hji; exact h3
      · exact hi2 j (by omega)
  · have hil : i = c.sups.length := by have := of_decide_eq_false h2; omega
    subst hil
    have hf : jnAll l u c.sups = true := all_range_true (fun j hj => by rw [hi2 j hj]; rfl)
    rw [hf]
    have hk0 := jn_of (hi2 0 (by omega))
    (conv => whnf)
    refine bcase_of (fun h3 => ?_) (fun h3 => ?_)
    · have h3 : c.over = true := h3
      (conv => whnf)
      rw [h3]
      refine ⟨⟨by omega, by show (0 : Int) < (c.sups.length : Int); omega⟩, ?_⟩; conv => whnf
      refine bcase_of (fun h4 => ?_) (fun h4 => ?_)
      · have h4 : (((((c.sups.length : Int) == 1) && (c.first == -1)) && (c.last == -1)) == true) = true := h4
        rw [beq_true] at h4
        (conv => whnf)
        refine ⟨_, _, rloads_spec l d hv, ?_⟩; conv => whnf
        refine ⟨fun _ => ⟨hk0.1, by show c.sups.getD 0 0 < ((loadsF l d).length : Int); omega⟩, ?_⟩; conv => whnf
        refine ⟨fun _ => ⟨hk0.1, hk0.2.1⟩, ?_⟩; conv => whnf
        exact ⟨rfl, trivial⟩
      · have h4 : (((((c.sups.length : Int) == 1) && (c.first == -1)) && (c.last == -1)) == true) = false := h4
        rw [beq_true] at h4
        (conv => whnf)
        repeat (refine ⟨fun hg => absurd (hg.symm.trans h4) (by decide), ?_⟩; conv => whnf)
        refine ⟨h4, ?_⟩; conv => whnf
        refine ⟨?_, trivial⟩
        show false = ovB l d c
        unfold ovB
        rw [h4]
        rfl
    · have h3 : c.over = false := h3
      (conv => whnf)
      rw [h3]
      (refine ⟨by intros; first | omega | (unfold InI64; omega) | (simp only [List.length_append, List.length_cons, List.length_nil, List.length_set]; omega), ?_⟩; conv => whnf)
      refine ⟨_, _, in_spec c.first (-1) (d.length - 1), ?_⟩; conv => whnf
      (refine ⟨by intros; first | omega | (unfold InI64; omega) | (simp only [List.length_append, List.length_cons, List.length_nil, List.length_set]; omega), ?_⟩; conv => whnf)
      refine ⟨_, _, fun _ => in_spec c.last (-1) (d.length - 1), ?_⟩; conv => whnf
      refine bcase_of (fun h4 => ?_) (fun h4 => ?_)
      · have h4 : (!withinF c.first (-1) (d.length - 1) || !withinF c.last (-1) (d.length - 1)) = true := h4
        (conv => whnf)
        rw [h4]
        exact ⟨rfl, trivial⟩
      · have h4 : (!withinF c.first (-1) (d.length - 1) || !withinF c.last (-1) (d.length - 1)) = false := h4
        rw [h4]
        simp only [Bool.or_eq_false_iff, Bool.not_eq_false', withinF_iff] at h4
        (conv => whnf)
        refine cut_intro (ct := []) (ct' := []) cfgOK (by decide +kernel) (by decide +kernel) (fun v : Int => ⟨[(0, supsV l), (1, drwsV d), (5, .ptr 0 0 0), (11, iV v)], [(0, some (.box (chnV c).cells))], 1⟩) (fun v => (bif decide (0 ≤ c.first) then (bif (d.getD c.first.toNat drw0).sup != c.sups.getD 0 0 then false else rwN l d c.last c.sups (d.getD c.first.toNat drw0).low) else rwN l d c.last c.sups 0) = rwN l d c.last c.sups v) ?_ ?_
        · (conv => whnf)
          refine bcase_of (fun h5 => ?_) (fun h5 => ?_)
          · have h5 : decide (0 ≤ c.first) = true := h5
            have hp := of_decide_eq_true h5
            rw [h5]
            (conv => whnf)
            refine ⟨⟨hp, by show c.first < (d.length : Int); omega⟩, ?_⟩; conv => whnf
            refine ⟨⟨by omega, by show (0 : Int) < (c.sups.length : Int); omega⟩, ?_⟩; conv => whnf
            refine bcase_of (fun h6 => ?_) (fun h6 => ?_)
            · have h6 : ((d.getD c.first.toNat drw0).sup != c.sups.getD 0 0) = true := h6
              rw [h6]
              (conv => whnf)
              exact ⟨rfl, trivial⟩
            · have h6 : ((d.getD c.first.toNat drw0).sup != c.sups.getD 0 0) = false := h6
              rw [h6]
              (conv => whnf)
              refine ⟨⟨hp, by show c.first < (d.length : Int); omega⟩, ?_⟩; conv => whnf
              exact ⟨(d.getD c.first.toNat drw0).low, [], rfl, by (repeat' first | exact trivial | exact rfl | exact ⟨rfl, rfl⟩ | exact ⟨rfl, trivial⟩ | exact ⟨rfl, LeL.refl _, trivial⟩ | exact ⟨rfl, LeL.refl _, LeL.refl _, trivial⟩ | exact embV_le (.refl _) rfl | exact embV_leV (.refl _) rfl (Nat.lt_of_sub_pos (by exact Nat.zero_lt_succ _)) | exact ⟨rfl, rfl, rfl, rfl⟩ | exact ⟨rfl, rfl, rfl, rfl, id⟩ | exact ⟨rfl, rfl, rfl, rfl, rfl⟩ | exact ⟨rfl, rfl, rfl, rfl, nofun⟩ | exact tape_emb rfl | exact embO_le (LeL.refl _) rfl (Nat.lt_of_sub_pos (by exact Nat.zero_lt_succ _)) | exact ⟨rfl, rfl, fun _ _ => .refl _⟩ | (refine ⟨rfl, ?_⟩; simp; done) | (refine ⟨rfl, ?_⟩; omega) | refine ⟨?_, ?_⟩ | refine ⟨?_, ?_, ?_⟩)⟩
          · have h5 : decide (0 ≤ c.first) = false := h5
            rw [h5]
            (conv => whnf)
            exact ⟨0, [], rfl, by (repeat' first | exact trivial | exact rfl | exact ⟨rfl, rfl⟩ | exact ⟨rfl, trivial⟩ | exact ⟨rfl, LeL.refl _, trivial⟩ | exact ⟨rfl, LeL.refl _, LeL.refl _, trivial⟩ | exact embV_le (.refl _) rfl | exact embV_leV (.refl _) rfl (Nat.lt_of_sub_pos (by exact Nat.zero_lt_succ _)) | exact ⟨rfl, rfl, rfl, rfl⟩ | exact ⟨rfl, rfl, rfl, rfl, id⟩ | exact ⟨rfl, rfl, rfl, rfl, rfl⟩ | exact ⟨rfl, rfl, rfl, rfl, nofun⟩ | exact tape_emb rfl | exact embO_le (LeL.refl _) rfl (Nat.lt_of_sub_pos (by exact Nat.zero_lt_succ _)) | exact ⟨rfl, rfl, fun _ _ => .refl _⟩ | (refine ⟨rfl, ?_⟩; simp; done) | (refine ⟨rfl, ?_⟩; omega) | refine ⟨?_, ?_⟩ | refine ⟨?_, ?_, ?_⟩)⟩
        · intro v0 hv0
          rw [show (bif decide (0 ≤ c.first) then (bif (d.getD c.first.toNat drw0).sup != c.sups.getD 0 0 then false else rwN l d c.last c.sups (d.getD c.first.toNat drw0).low) else rwN l d c.last c.sups 0) = rwN l d c.last c.sups v0 from hv0]
          clear hv0 hi1 h2
          (conv => whnf)
          refine loops_intro (ct := []) cfgOK (by decide +kernel) (fun g : Nat × Int => ⟨[(0, supsV l), (1, drwsV d), (5, .ptr 0 0 0), (11, iV g.2), (139, intsV c.sups), (140, iV c.sups.length), (141, iV g.1)], [(0, some (.box (chnV c).cells))], 1⟩) (fun g => g.1 ≤ c.sups.length ∧ rwN l d c.last (c.sups.drop g.1) g.2 = rwN l d c.last c.sups v0) (fun g => c.sups.length - g.1) (0, v0) [] ⟨Nat.zero_le _, rfl⟩ (by (repeat' first | exact trivial | exact rfl | exact ⟨rfl, rfl⟩ | exact ⟨rfl, trivial⟩ | exact ⟨rfl, LeL.refl _, trivial⟩ | exact ⟨rfl, LeL.refl _, LeL.refl _, trivial⟩ | exact embV_le (.refl _) rfl | exact embV_leV (.refl _) rfl (Nat.lt_of_sub_pos (by exact Nat.zero_lt_succ _)) | exact ⟨rfl, rfl, rfl, rfl⟩ | exact ⟨rfl, rfl, rfl, rfl, id⟩ | exact ⟨rfl, rfl, rfl, rfl, rfl⟩ | exact ⟨rfl, rfl, rfl, rfl, nofun⟩ | exact tape_emb rfl | exact embO_le (LeL.refl _) rfl (Nat.lt_of_sub_pos (by exact Nat.zero_lt_succ _)) | exact ⟨rfl, rfl, fun _ _ => .refl _⟩ | (refine ⟨rfl, ?_⟩; simp; done) | (refine ⟨rfl, ?_⟩; omega) | refine ⟨?_, ?_⟩ | refine ⟨?_, ?_, ?_⟩)) ?_
          intro ⟨i, v⟩ ⟨g1, g2⟩
          have g1 : i ≤ c.sups.length := g1
          have g2 : rwN l d c.last (c.sups.drop i) v = rwN l d c.last c.sups v0 := g2
          (conv => whnf)
          refine bcase_of (fun h5 => ?_) (fun h5 => ?_)
          · have hlt : i < c.sups.length := by have h5 : decide ((i : Int) < c.sups.length) = true := h5; have := of_decide_eq_true h5; omega
            rw [drop_cons 0 hlt, rwN] at g2
            have hk := jn_of (hi2 i hlt)
            have hs := hv.sup (c.sups.getD i 0).toNat (by omega)
            have hlv := hv.lev (c.sups.getD i 0).toNat (by omega)
            have hemp : (!(c.sups.drop (i + 1)).isEmpty) = decide ((i : Int) < (c.sups.length : Int) - 1) := by
              by_cases hx : i + 1 < c.sups.length
              · rw [decide_eq_true (by omega)]
                cases hd2 : c.sups.drop (i + 1) with
                | nil => have := congrArg List.length hd2; simp at this; omega
                | cons => rfl
              · rw [decide_eq_false (by omega), List.drop_eq_nil_of_le (by omega)]
                rfl
            rw [hemp] at g2
            have hsp := rlevel_spec (l.getD (c.sups.getD i 0).toNat sup0) (by omega) v
            (conv => whnf)
            refine ⟨⟨by omega, by show (i : Int) < (c.sups.length : Int); omega⟩, ?_⟩; conv => whnf
            refine ⟨⟨hk.1, hk.2.1⟩, ?_⟩; conv => whnf
            by_cases hok : lvK l (c.sups.getD i 0) v < (l.getD (c.sups.getD i 0).toNat sup0).lev.length
            · have hok1 : okK l (c.sups.getD i 0) v = true := decide_eq_true hok
              have hvb := asc_get hlv (lvK l (c.sups.getD i 0) v) hok
              rw [show decide (lvN (l.getD (c.sups.getD i 0).toNat sup0).lev v < (l.getD (c.sups.getD i 0).toNat sup0).lev.length) = true from hok1] at hsp
              simp only [cond_true] at hsp
              refine ⟨_, _, hsp, ?_⟩; conv => whnf
              refine ⟨by show InI64 ((c.sups.length : Int) - 1); unfold InI64; omega, ?_⟩; conv => whnf
              rw [hok1] at g2
              refine bcase_of (fun h6 => ?_) (fun h6 => ?_)
              · have h6 : decide ((i : Int) < (c.sups.length : Int) - 1) = true := h6
                rw [h6] at g2
                (conv => whnf)
                refine ⟨⟨hk.1, hk.2.1⟩, ?_⟩; conv => whnf
                refine ⟨⟨by omega, by show ((lvK l (c.sups.getD i 0) v : Nat) : Int) < ((l.getD (c.sups.getD i 0).toNat sup0).lev.length : Int); omega⟩, ?_⟩; conv => whnf
                refine ⟨⟨hk.1, hk.2.1⟩, ?_⟩; conv => whnf
                refine ⟨by show InI64 (voK l (c.sups.getD i 0) v + (l.getD (c.sups.getD i 0).toNat sup0).drop); unfold voK InI64; omega, ?_⟩; conv => whnf
                (refine ⟨by intros; first | omega | (unfold InI64; omega) | (simp only [List.length_append, List.length_cons, List.length_nil, List.length_set]; omega), ?_⟩; conv => whnf)
                exact ⟨(i + 1, voK l (c.sups.getD i 0) v + (l.getD (c.sups.getD i 0).toNat sup0).drop), [], ⟨hlt, g2⟩, by show c.sups.length - (i + 1) < c.sups.length - i; omega, ⟨rfl, ⟨by (repeat' first | exact trivial | exact rfl | exact ⟨rfl, rfl⟩ | exact ⟨rfl, trivial⟩ | exact ⟨rfl, LeL.refl _, trivial⟩ | exact ⟨rfl, LeL.refl _, LeL.refl _, trivial⟩ | exact embV_le (.refl _) rfl | exact embV_leV (.refl _) rfl (Nat.lt_of_sub_pos (by exact Nat.zero_lt_succ _)) | exact ⟨rfl, rfl, rfl, rfl⟩ | exact ⟨rfl, rfl, rfl, rfl, id⟩ | exact ⟨rfl, rfl, rfl, rfl, rfl⟩ | exact ⟨rfl, rfl, rfl, rfl, nofun⟩ | exact tape_emb rfl | exact embO_le (LeL.refl _) rfl (Nat.lt_of_sub_pos (by exact Nat.zero_lt_succ _)) | exact ⟨rfl, rfl, fun _ _ => .refl _⟩ | (refine ⟨rfl, ?_⟩; simp; done) | (refine ⟨rfl, ?_⟩; omega) | refine ⟨?_, ?_⟩ | refine ⟨?_, ?_, ?_⟩), by (repeat' first | exact trivial | exact rfl | exact ⟨rfl, rfl⟩ | exact ⟨rfl, trivial⟩ | exact ⟨rfl, LeL.refl _, trivial⟩ | exact ⟨rfl, LeL.refl _, LeL.refl _, trivial⟩ | exact embV_le (.refl _) rfl | exact embV_leV (.refl _) rfl (Nat.lt_of_sub_pos (by exact Nat.zero_lt_succ _)) | exact ⟨rfl, rfl, rfl, rfl⟩ | exact ⟨rfl, rfl, rfl, rfl, id⟩ | exact ⟨rfl, rfl, rfl, rfl, rfl⟩ | exact ⟨rfl, rfl, rfl, rfl, nofun⟩ | exact tape_emb rfl | exact embO_le (LeL.refl _) rfl (Nat.lt_of_sub_pos (by exact Nat.zero_lt_succ _)) | exact ⟨rfl, rfl, fun _ _ => .refl _⟩ | (refine ⟨rfl, ?_⟩; simp; done) | (refine ⟨rfl, ?_⟩; omega) | refine ⟨?_, ?_⟩ | refine ⟨?_, ?_, ?_⟩), by (repeat' first | exact trivial | exact rfl | exact ⟨rfl, rfl⟩ | exact ⟨rfl, trivial⟩ | exact ⟨rfl, LeL.refl _, trivial⟩ | exact ⟨rfl, LeL.refl _, LeL.refl _, trivial⟩ | exact embV_le (.refl _) rfl | exact embV_leV (.refl _) rfl (Nat.lt_of_sub_pos (by exact Nat.zero_lt_succ _)) | exact ⟨rfl, rfl, rfl, rfl⟩ | exact ⟨rfl, rfl, rfl, rfl, id⟩ | exact ⟨rfl, rfl, rfl, rfl, rfl⟩ | exact ⟨rfl, rfl, rfl, rfl, nofun⟩ | exact tape_emb rfl | exact embO_le (LeL.refl _) rfl (Nat.lt_of_sub_pos (by exact Nat.zero_lt_succ _)) | exact ⟨rfl, rfl, fun _ _ => .refl _⟩ | (refine ⟨rfl, ?_⟩; simp; done) | (refine ⟨rfl, ?_⟩; omega) | refine ⟨?_, ?_⟩ | refine ⟨?_, ?_, ?_⟩), ⟨rfl, rfl⟩, by (repeat' first | exact trivial | exact rfl | exact ⟨rfl, rfl⟩ | exact ⟨rfl, trivial⟩ | exact ⟨rfl, LeL.refl _, trivial⟩ | exact ⟨rfl, LeL.refl _, LeL.refl _, trivial⟩ | exact embV_le (.refl _) rfl | exact embV_leV (.refl _) rfl (Nat.lt_of_sub_pos (by exact Nat.zero_lt_succ _)) | exact ⟨rfl, rfl, rfl, rfl⟩ | exact ⟨rfl, rfl, rfl, rfl, id⟩ | exact ⟨rfl, rfl, rfl, rfl, rfl⟩ | exact ⟨rfl, rfl, rfl, rfl, nofun⟩ | exact tape_emb rfl | exact embO_le (LeL.refl _) rfl (Nat.lt_of_sub_pos (by exact Nat.zero_lt_succ _)) | exact ⟨rfl, rfl, fun _ _ => .refl _⟩ | (refine ⟨rfl, ?_⟩; simp; done) | (refine ⟨rfl, ?_⟩; omega) | refine ⟨?_, ?_⟩ | refine ⟨?_, ?_, ?_⟩), by (repeat' first | exact trivial | exact rfl | exact ⟨rfl, rfl⟩ | exact ⟨rfl, trivial⟩ | exact ⟨rfl, LeL.refl _, trivial⟩ | exact ⟨rfl, LeL.refl _, LeL.refl _, trivial⟩ | exact embV_le (.refl _) rfl | exact embV_leV (.refl _) rfl (Nat.lt_of_sub_pos (by exact Nat.zero_lt_succ _)) | exact ⟨rfl, rfl, rfl, rfl⟩ | exact ⟨rfl, rfl, rfl, rfl, id⟩ | exact ⟨rfl, rfl, rfl, rfl, rfl⟩ | exact ⟨rfl, rfl, rfl, rfl, nofun⟩ | exact tape_emb rfl | exact embO_le (LeL.refl _) rfl (Nat.lt_of_sub_pos (by exact Nat.zero_lt_succ _)) | exact ⟨rfl, rfl, fun _ _ => .refl _⟩ | (refine ⟨rfl, ?_⟩; simp; done) | (refine ⟨rfl, ?_⟩; omega) | refine ⟨?_, ?_⟩ | refine ⟨?_, ?_, ?_⟩), ⟨rfl, by simp⟩, trivial⟩, by (repeat' first | exact trivial | exact rfl | exact ⟨rfl, rfl⟩ | exact ⟨rfl, trivial⟩ | exact ⟨rfl, LeL.refl _, trivial⟩ | exact ⟨rfl, LeL.refl _, LeL.refl _, trivial⟩ | exact embV_le (.refl _) rfl | exact embV_leV (.refl _) rfl (Nat.lt_of_sub_pos (by exact Nat.zero_lt_succ _)) | exact ⟨rfl, rfl, rfl, rfl⟩ | exact ⟨rfl, rfl, rfl, rfl, id⟩ | exact ⟨rfl, rfl, rfl, rfl, rfl⟩ | exact ⟨rfl, rfl, rfl, rfl, nofun⟩ | exact tape_emb rfl | exact embO_le (LeL.refl _) rfl (Nat.lt_of_sub_pos (by exact Nat.zero_lt_succ _)) | exact ⟨rfl, rfl, fun _ _ => .refl _⟩ | (refine ⟨rfl, ?_⟩; simp; done) | (refine ⟨rfl, ?_⟩; omega) | refine ⟨?_, ?_⟩ | refine ⟨?_, ?_, ?_⟩)⟩⟩
              · have h6 : decide ((i : Int) < (c.sups.length : Int) - 1) = false := h6
                rw [h6] at g2
                (conv => whnf)
                refine bcase_of (fun h7 => ?_) (fun h7 => ?_)
                · have h7 : (decide (((lvK l (c.sups.getD i 0) v : Nat) : Int) < 0) || decide (c.last < 0)) = true := h7
                  rw [decide_eq_false (by omega), Bool.false_or] at h7
                  rw [h7] at g2
                  (conv => whnf)
                  refine ⟨?_, trivial⟩
                  show (decide (((lvK l (c.sups.getD i 0) v : Nat) : Int) < 0) && decide (c.last < 0)) = _
                  rw [← g2, decide_eq_false (by omega)]
                  rfl
                · have h7 : (decide (((lvK l (c.sups.getD i 0) v : Nat) : Int) < 0) || decide (c.last < 0)) = false := h7
                  rw [decide_eq_false (by omega), Bool.false_or] at h7
                  rw [h7] at g2
                  have h8 := of_decide_eq_false h7
                  (conv => whnf)
                  refine ⟨⟨by omega, by show c.last < (d.length : Int); omega⟩, ?_⟩; conv => whnf
                  refine ⟨fun _ => ⟨hk.1, hk.2.1⟩, ?_⟩; conv => whnf
                  refine ⟨fun _ => ⟨by omega, by show ((lvK l (c.sups.getD i 0) v : Nat) : Int) < ((l.getD (c.sups.getD i 0).toNat sup0).lev.length : Int); omega⟩, ?_⟩; conv => whnf
                  refine ⟨fun _ => ⟨by omega, by show c.last < (d.length : Int); omega⟩, ?_⟩; conv => whnf
                  exact ⟨g2, trivial⟩
            · have hok1 : okK l (c.sups.getD i 0) v = false := decide_eq_false hok
              rw [show decide (lvN (l.getD (c.sups.getD i 0).toNat sup0).lev v < (l.getD (c.sups.getD i 0).toNat sup0).lev.length) = false from hok1] at hsp
              simp only [cond_false] at hsp
              refine ⟨_, _, hsp, ?_⟩; conv => whnf
              refine ⟨by show InI64 ((c.sups.length : Int) - 1); unfold InI64; omega, ?_⟩; conv => whnf
              rw [hok1] at g2
              refine bcase_of (fun h6 => ?_) (fun h6 => ?_)
              · have h6 : decide ((i : Int) < (c.sups.length : Int) - 1) = true := h6
                rw [h6] at g2
                (conv => whnf)
                exact ⟨g2, trivial⟩
              · have h6 : decide ((i : Int) < (c.sups.length : Int) - 1) = false := h6
                rw [h6] at g2
                (conv => whnf)
                exact ⟨g2, trivial⟩
          · have hil : i = c.sups.length := by have h5 : decide ((i : Int) < c.sups.length) = false := h5; have := of_decide_eq_false h5; omega
            rw [hil, List.drop_length] at g2
            (conv => whnf)
            exact ⟨g2, trivial⟩

end Go.Proofs.Ytjmhlbogkeohpaa

namespace Go.Proofs.Ytjmhlbogkeohpaa
open Go.Ab
set_option maxRecDepth 100000

/-! Plain laws: who is used, what is loaded -/
abbrev sAt (l : List Sup) (i : Nat) : Sup := l.getD i sup0
abbrev bAt (a : List Bool) (i : Nat) : Bool := a.getD i false
abbrev nAt (a : List Int) (i : Nat) : Int := a.getD i 0

theorem usedStep_get {l : List Sup} {i : Nat} {a : List Bool} (hi : i < a.length) (hp : (sAt l i).par < i) (j : Nat) :
    bAt (usedStep l i a) j = true ↔ bAt a j = true ∨ (j = i ∧ (sAt l i).alw = true) ∨ ((sAt l i).par = j ∧ (bAt a i = true ∨ (sAt l i).alw = true)) := by
  unfold usedStep bAt sAt at *
  generalize l.getD i sup0 = s at *
  cases hx : (a.getD i false || s.alw) with
  | false =>
    simp only [Bool.false_and, cond_false]
    simp only [Bool.or_eq_false_iff] at hx
    rw [getD_set, hx.1, hx.2]
    by_cases hj : j = i
    · subst hj; rw [if_pos ⟨rfl, hi⟩, hx.1]; simp
    · rw [if_neg (fun h => hj h.1)]; simp [hj]
  | true =>
    have hx' : a.getD i false = true ∨ s.alw = true := by simpa using hx
    by_cases hp0 : 0 ≤ s.par
    · simp only [Bool.true_and, decide_eq_true hp0, cond_true]
      rw [getD_set, getD_set, List.length_set]
      by_cases hj : j = s.par.toNat
      · have : j < a.length := by omega
        rw [if_pos ⟨hj, by omega⟩]
        simp only [true_iff]
        exact .inr (.inr ⟨by omega, hx'⟩)
      · rw [if_neg (fun h => hj h.1)]
        have hj' : ¬ s.par = j := by omega
        by_cases hji : j = i
        · subst hji; rw [if_pos ⟨rfl, hi⟩]; simp only [true_iff, true_and]; exact hx'.elim .inl (fun h => .inr (.inl h))
        · rw [if_neg (fun h => hji h.1)]; simp only [hji, hj', false_and, or_false]
    · simp only [Bool.true_and, decide_eq_false hp0, cond_false]
      rw [getD_set]
      have hj' : ¬ s.par = j := by omega
      by_cases hji : j = i
      · subst hji; rw [if_pos ⟨rfl, hi⟩]; simp only [true_iff, true_and]; exact hx'.elim .inl (fun h => .inr (.inl h))
      · rw [if_neg (fun h => hji h.1)]; simp only [hji, hj', false_and, or_false]

theorem used_up {l : List Sup} {d : List Drw} (hv : Vld l d) : ∀ k, k ≤ l.length → ∀ j : Nat,
    bAt (upN (usedStep l) l.length k (markD l.length d)) j = true ↔ atD d j = true ∨ (l.length - k ≤ j ∧ j < l.length ∧ (sAt l j).alw = true) ∨ ∃ c, l.length - k ≤ c ∧ c < l.length ∧ (sAt l c).par = j ∧ bAt (upN (usedStep l) l.length k (markD l.length d)) c = true := by
  intro k
  induction k with
  | zero =>
    intro _ j
    show (markD l.length d).getD j false = true ↔ _
    rw [markD_get _ _ (fun x hx => by have := hv.drw x hx; omega)]
    constructor
    · exact .inl
    · rintro (h | h | ⟨c, h⟩)
      · exact h
      · omega
      · omega
  | succ k ih =>
    intro hk j
    have ih := ih (by omega)
    have hup : upN (usedStep l) l.length (k + 1) (markD l.length d) = usedStep l (l.length - 1 - k) (upN (usedStep l) l.length k (markD l.length d)) := rfl
    have hal : (upN (usedStep l) l.length k (markD l.length d)).length = l.length := by rw [upN_len (usedStep_len l), markD_len]
    have hs := hv.sup (l.length - 1 - k) (by omega)
    rw [hup]
    generalize upN (usedStep l) l.length k (markD l.length d) = a at ih hal
    generalize hi : l.length - 1 - k = i at hs
    have get := usedStep_get (l := l) (a := a) (i := i) (by omega) (by unfold sAt; omega)
    have hne : ¬ (sAt l i).par = (i : Int) := by unfold sAt; omega
    have hgt : ∀ c, i < c → (bAt (usedStep l i a) c = true ↔ bAt a c = true) := fun c hc => by
      rw [get c]
      constructor
      · rintro (h | h | h)
        · exact h
        · omega
        · have : (sAt l i).par = (c : Int) := h.1
          unfold sAt at this
          omega
      · exact .inl
    constructor
    · intro h
      rcases (get j).1 h with h | h | h
      · rcases (ih j).1 h with h | h | ⟨c, h1, h2, h3, h4⟩
        · exact .inl h
        · exact .inr (.inl ⟨by omega, h.2⟩)
        · exact .inr (.inr ⟨c, by omega, h2, h3, (hgt c (by omega)).2 h4⟩)
      · rw [h.1]
        exact .inr (.inl ⟨by omega, by omega, h.2⟩)
      · refine .inr (.inr ⟨i, by omega, by omega, h.1, (get i).2 ?_⟩)
        rcases h.2 with h | h
        · exact .inl h
        · exact .inr (.inl ⟨rfl, h⟩)
    · rintro (h | ⟨h1, h2, h3⟩ | ⟨c, h1, h2, h3, h4⟩)
      · exact (get j).2 (.inl ((ih j).2 (.inl h)))
      · by_cases hji : j = i
        · subst hji; exact (get j).2 (.inr (.inl ⟨rfl, h3⟩))
        · exact (get j).2 (.inl ((ih j).2 (.inr (.inl ⟨by omega, h2, h3⟩))))
      · by_cases hci : c = i
        · subst hci
          refine (get j).2 (.inr (.inr ⟨h3, ?_⟩))
          rcases (get c).1 h4 with h | h | h
          · exact .inl h
          · exact .inr h.2
          · exact absurd h.1 hne
        · exact (get j).2 (.inl ((ih j).2 (.inr (.inr ⟨c, by omega, h2, h3, (hgt c (by omega)).1 h4⟩))))

/-- Who is used: by a draw, always, or by a child. -/
theorem used_iff {l : List Sup} {d : List Drw} (hv : Vld l d) (j : Nat) :
    bAt (usedF l d) j = true ↔ atD d j = true ∨ (j < l.length ∧ (sAt l j).alw = true) ∨ ∃ c, c < l.length ∧ (sAt l c).par = j ∧ bAt (usedF l d) c = true := by
  have := used_up hv l.length (Nat.le_refl _) j
  rw [upN_all] at this
  unfold usedF
  rw [this]
  constructor
  · rintro (h | h | ⟨c, h⟩)
    · exact .inl h
    · exact .inr (.inl h.2)
    · exact .inr (.inr ⟨c, h.2⟩)
  · rintro (h | h | ⟨c, h⟩)
    · exact .inl h
    · exact .inr (.inl ⟨by omega, h⟩)
    · exact .inr (.inr ⟨c, by omega, h⟩)

theorem used_lt {l : List Sup} {d : List Drw} {j : Nat} (h : bAt (usedF l d) j = true) : j < l.length := by
  rcases Nat.lt_or_ge j l.length with h1 | h1
  · exact h1
  · unfold bAt at h
    rw [getD_out false (by rw [usedF_len]; exact h1)] at h
    cases h

theorem used_mono {l : List Sup} {d d' : List Drw} (hv : Vld l d) (hv' : Vld l d') (h : ∀ j, atD d j = true → atD d' j = true) : ∀ j, bAt (usedF l d) j = true → bAt (usedF l d') j = true := by
  have key : ∀ m j, l.length - j ≤ m → bAt (usedF l d) j = true → bAt (usedF l d') j = true := by
    intro m
    induction m with
    | zero => intro j hm hj; have := used_lt hj; omega
    | succ m ih =>
      intro j hm hj
      rw [used_iff hv] at hj
      rw [used_iff hv']
      rcases hj with hj | hj | ⟨c, h1, h2, h3⟩
      · exact .inl (h j hj)
      · exact .inr (.inl hj)
      · have := (hv.sup c h1).2.1
        unfold sAt at h2
        exact .inr (.inr ⟨c, h1, h2, ih c (by omega) h3⟩)
  intro j
  exact key _ j (Nat.le_refl _)

theorem used_same {l : List Sup} {d d' : List Drw} (hv : Vld l d) (hv' : Vld l d') (h : ∀ j, atD d j = atD d' j) : usedF l d = usedF l d' := by
  refine ext_getD false (by rw [usedF_len, usedF_len]) fun j _ => ?_
  have h1 := used_mono hv hv' (fun j hj => by rw [← h j]; exact hj) j
  have h2 := used_mono hv' hv (fun j hj => by rw [h j]; exact hj) j
  unfold bAt at h1 h2
  cases ha : (usedF l d).getD j false <;> cases hb : (usedF l d').getD j false <;> simp_all

theorem used_par {l : List Sup} {d : List Drw} (hv : Vld l d) {c : Nat} (h : bAt (usedF l d) c = true) (hp : 0 ≤ (sAt l c).par) : bAt (usedF l d) (sAt l c).par.toNat = true := by
  rw [used_iff hv]
  exact .inr (.inr ⟨c, used_lt h, by omega, h⟩)

theorem used_draw {l : List Sup} {d : List Drw} (hv : Vld l d) {x : Drw} (h : x ∈ d) : bAt (usedF l d) x.sup.toNat = true := by
  rw [used_iff hv]
  refine .inl ?_
  unfold atD
  rw [List.any_eq_true]
  have := hv.drw x h
  refine ⟨x, h, ?_⟩
  rw [beq_iff_eq]
  omega

/-! Loads -/
def ldAt (x : Drw) (i : Nat) : Int := bif x.sup == (i : Int) then x.load else 0

theorem dsum_cons (x : Drw) (d : List Drw) (i : Nat) : dsum (x :: d) i = ldAt x i + dsum d i := by
  have key : ∀ (d : List Drw) (s : Int), d.foldl (fun s x => bif x.sup == (i : Int) then s + x.load else s) s = s + dsum d i := by
    intro d
    induction d with
    | nil => intro s; show s = s + 0; omega
    | cons y d ih =>
      intro s
      unfold dsum
      rw [List.foldl_cons, List.foldl_cons, ih, ih]
      cases y.sup == (i : Int) <;> simp <;> omega
  show d.foldl _ _ = _
  rw [key]
  unfold ldAt
  cases hb : x.sup == (i : Int) <;> simp [hb]

theorem dsum_app (a b : List Drw) (i : Nat) : dsum (a ++ b) i = dsum a i + dsum b i := by
  induction a with
  | nil => show dsum b i = 0 + dsum b i; omega
  | cons x a ih => rw [List.cons_append, dsum_cons, dsum_cons, ih]; omega

theorem dsum_perm {a b : List Drw} (h : a.Perm b) (i : Nat) : dsum a i = dsum b i := by
  induction h with
  | nil => rfl
  | cons x _ ih => rw [dsum_cons, dsum_cons, ih]
  | swap x y l => rw [dsum_cons, dsum_cons, dsum_cons, dsum_cons]; omega
  | trans _ _ h1 h2 => exact h1.trans h2

theorem loadStep_get {l : List Sup} {i : Nat} {a : List Int} (hi : i < a.length) (hp : (sAt l i).par < i) (j : Nat) :
    nAt (loadStep l i a) j = nAt a j + (if (sAt l i).par = j then nAt a i else 0) := by
  unfold loadStep nAt sAt at *
  generalize l.getD i sup0 = s at *
  by_cases hp0 : 0 ≤ s.par
  · rw [decide_eq_true hp0, cond_true, getD_set]
    by_cases hj : j = s.par.toNat
    · have e : s.par = (j : Int) := by omega
      rw [if_pos ⟨hj, by omega⟩, if_pos e, hj]
    · have e : ¬ s.par = (j : Int) := by omega
      rw [if_neg (fun h => hj h.1), if_neg e]
      omega
  · have e : ¬ s.par = (j : Int) := by omega
    rw [decide_eq_false hp0, cond_false, if_neg e]
    omega

theorem load_lin {l : List Sup} {d : List Drw} (hv : Vld l d) {a b c : List Int} (ha : a.length = l.length) (hb : b.length = l.length) (hc : c.length = l.length) (h : ∀ j, nAt c j = nAt a j + nAt b j) : ∀ k, k ≤ l.length → ∀ j, nAt (upN (loadStep l) l.length k c) j = nAt (upN (loadStep l) l.length k a) j + nAt (upN (loadStep l) l.length k b) j := by
  intro k
  induction k with
  | zero => intro _; exact h
  | succ k ih =>
    intro hk j
    have ih := ih (by omega)
    have hs := (hv.sup (l.length - 1 - k) (by omega)).2.1
    rw [upN, upN, upN, loadStep_get (by rw [upN_len (loadStep_len l)]; omega) hs, loadStep_get (by rw [upN_len (loadStep_len l)]; omega) hs, loadStep_get (by rw [upN_len (loadStep_len l)]; omega) hs, ih j, ih (l.length - 1 - k)]
    split <;> omega

theorem vld_sup {l : List Sup} {d : List Drw} (hv : Vld l d) : ∀ x ∈ d, 0 ≤ x.sup ∧ x.sup < l.length := fun x hx => by have := hv.drw x hx; omega

/-- Loads add up. -/
theorem loads_add {l : List Sup} {a b : List Drw} (ha : Vld l a) (hb : Vld l b) (hab : ∀ x ∈ a ++ b, 0 ≤ x.sup ∧ x.sup < l.length) (j : Nat) : nAt (loadsF l (a ++ b)) j = nAt (loadsF l a) j + nAt (loadsF l b) j := by
  have := load_lin ha (sumD_len l.length a) (sumD_len l.length b) (sumD_len l.length (a ++ b)) (fun j => by
    unfold nAt
    rw [sumD_get _ _ hab, sumD_get _ _ (vld_sup ha), sumD_get _ _ (vld_sup hb), dsum_app]) l.length (Nat.le_refl _) j
  rw [upN_all, upN_all, upN_all] at this
  exact this

theorem loads_same {l : List Sup} {a b : List Drw} (ha : Vld l a) (hb : Vld l b) (h : ∀ j, dsum a j = dsum b j) : loadsF l a = loadsF l b := by
  unfold loadsF
  rw [show sumD l.length a = sumD l.length b from ext_getD 0 (by rw [sumD_len, sumD_len]) fun j _ => by rw [sumD_get _ _ (vld_sup ha), sumD_get _ _ (vld_sup hb), h j]]

theorem loads_nonneg {l : List Sup} {d : List Drw} (hv : Vld l d) (j : Nat) : 0 ≤ nAt (loadsF l d) j ∧ nAt (loadsF l d) j ≤ 100000000000 := by
  have := loadUp_small hv l.length (Nat.le_refl _)
  rw [upN_all] at this
  exact this j

theorem loads_used {l : List Sup} {d : List Drw} (hv : Vld l d) (j : Nat) (h : 0 < nAt (loadsF l d) j) : bAt (usedF l d) j = true := by
  have key : ∀ k, k ≤ l.length → ∀ j, 0 < nAt (upN (loadStep l) l.length k (sumD l.length d)) j → bAt (upN (usedStep l) l.length k (markD l.length d)) j = true := by
    intro k
    induction k with
    | zero =>
      intro _ j hj
      show (markD l.length d).getD j false = true
      have hj : 0 < (sumD l.length d).getD j 0 := hj
      rw [sumD_get _ _ (vld_sup hv)] at hj
      rw [markD_get _ _ (vld_sup hv)]
      have key2 : ∀ d : List Drw, 0 < dsum d j → atD d j = true := by
        intro d
        induction d with
        | nil => intro h; exact absurd h (by show ¬ (0 : Int) < 0; omega)
        | cons x d ih =>
          rw [dsum_cons]
          unfold ldAt atD
          rw [List.any_cons]
          cases hx : x.sup == (j : Int) with
          | true => intro _; rfl
          | false => intro h; exact ih (by simpa using h)
      exact key2 d hj
    | succ k ih =>
      intro hk j hj
      have ih := ih (by omega)
      have hs := (hv.sup (l.length - 1 - k) (by omega)).2.1
      have h0 := loadUp_small hv k (by omega)
      rw [upN] at hj ⊢
      rw [loadStep_get (by rw [upN_len (loadStep_len l), sumD_len]; omega) hs] at hj
      rw [usedStep_get (by rw [upN_len (usedStep_len l), markD_len]; omega) hs]
      by_cases h1 : 0 < nAt (upN (loadStep l) l.length k (sumD l.length d)) j
      · exact .inl (ih j h1)
      · split at hj
        · rename_i hp
          have hz := h0 j
          unfold nAt at h1 hj
          exact .inr (.inr ⟨hp, .inl (ih _ (by unfold nAt; omega))⟩)
        · omega
  have := key l.length (Nat.le_refl _) j
  rw [upN_all, upN_all] at this
  exact this h

def rsum (f : Nat → Int) : Nat → Int
  | 0 => 0
  | n + 1 => rsum f n + f n

theorem rsum_ext {f g : Nat → Int} : ∀ n, (∀ j, j < n → f j = g j) → rsum f n = rsum g n := by
  intro n
  induction n with
  | zero => intro _; rfl
  | succ n ih => intro h; rw [rsum, rsum, ih (fun j hj => h j (by omega)), h n (by omega)]

theorem rsum_add (f g : Nat → Int) (n : Nat) : rsum (fun j => f j + g j) n = rsum f n + rsum g n := by
  induction n with
  | zero => rfl
  | succ n ih => rw [rsum, rsum, rsum, ih]; omega

theorem rsum_one (i : Nat) (c : Int) (n : Nat) : rsum (fun j => if j = i then c else 0) n = if i < n then c else 0 := by
  induction n with
  | zero => rfl
  | succ n ih =>
    rw [rsum, ih]
    by_cases h : i < n
    · rw [if_pos h, if_neg (by omega), if_pos (by omega)]; omega
    · by_cases h2 : n = i
      · rw [if_neg h, if_pos h2, if_pos (by omega)]; omega
      · rw [if_neg h, if_neg h2, if_neg (by omega)]; omega

def tot (d : List Drw) : Int := d.foldr (fun x s => x.load + s) 0

theorem tot_app (a b : List Drw) : tot (a ++ b) = tot a + tot b := by
  induction a with
  | nil => show tot b = 0 + tot b; omega
  | cons x a ih => show x.load + tot (a ++ b) = x.load + tot a + tot b; rw [ih]; omega

theorem rsum_dsum (n : Nat) (d : List Drw) (hd : ∀ x ∈ d, 0 ≤ x.sup ∧ x.sup < n) : rsum (dsum d) n = tot d := by
  induction d with
  | nil =>
    show rsum (fun _ => 0) n = 0
    have := rsum_add (fun _ => 0) (fun _ => 0) n
    simp only [Int.add_zero] at this
    omega
  | cons x d ih =>
    have hx := hd x (List.mem_cons_self ..)
    rw [rsum_ext (g := fun j => (if j = x.sup.toNat then x.load else 0) + dsum d j) n (fun j _ => ?_), rsum_add, rsum_one, ih (fun y hy => hd y (List.mem_cons_of_mem _ hy)), if_pos (by omega)]
    · rfl
    · rw [dsum_cons, ldAt]
      by_cases h : j = x.sup.toNat
      · rw [if_pos h, show (x.sup == (j : Int)) = true by rw [beq_iff_eq]; omega]; rfl
      · rw [if_neg h, show (x.sup == (j : Int)) = false by rw [beq_eq_false_iff_ne]; omega]; rfl

def rootW (l : List Sup) (m : Nat) (b : List Int) (j : Nat) : Int := if j < m ∨ (sAt l j).par < 0 then nAt b j else 0

theorem loads_roots {l : List Sup} {d : List Drw} (hv : Vld l d) : rsum (rootW l 0 (loadsF l d)) l.length = tot d := by
  have key : ∀ k, k ≤ l.length → rsum (rootW l (l.length - k) (upN (loadStep l) l.length k (sumD l.length d))) l.length = tot d := by
    intro k
    induction k with
    | zero =>
      intro _
      rw [← rsum_dsum l.length d (vld_sup hv)]
      refine rsum_ext _ fun j hj => ?_
      unfold rootW
      rw [if_pos (.inl (by omega))]
      exact sumD_get _ _ (vld_sup hv) j
    | succ k ih =>
      intro hk
      have ih := ih (by omega)
      have hs := (hv.sup (l.length - 1 - k) (by omega)).2.1
      have get := loadStep_get (l := l) (a := upN (loadStep l) l.length k (sumD l.length d)) (i := l.length - 1 - k) (by rw [upN_len (loadStep_len l), sumD_len]; omega) hs
      rw [← ih, upN]
      generalize upN (loadStep l) l.length k (sumD l.length d) = b at get
      generalize hi : l.length - 1 - k = i at hs get
      have hm : l.length - k = i + 1 := by omega
      have hm' : l.length - (k + 1) = i := by omega
      rw [hm, hm']
      by_cases hp : (sAt l i).par < 0
      · refine rsum_ext _ fun j hj => ?_
        unfold rootW
        have hne : ¬ (sAt l i).par = (j : Int) := by omega
        rw [get j, if_neg hne]
        by_cases hji : j = i
        · subst hji; rw [if_pos (.inr hp), if_pos (.inr hp)]; omega
        · have : (j < i ∨ (sAt l j).par < 0) ↔ (j < i + 1 ∨ (sAt l j).par < 0) := by omega
          simp only [this, Int.add_zero]
      · rw [rsum_ext (g := fun j => (if j < i ∨ (sAt l j).par < 0 then nAt b j else 0) + (if j = (sAt l i).par.toNat then nAt b i else 0)) _ (fun j hj => ?_),
          rsum_ext (f := rootW l (i + 1) b) (g := fun j => (if j < i ∨ (sAt l j).par < 0 then nAt b j else 0) + (if j = i then nAt b i else 0)) _ (fun j hj => ?_), rsum_add, rsum_add, rsum_one, rsum_one, if_pos (by unfold sAt at *; omega), if_pos (by omega)]
        · unfold rootW
          by_cases hji : j = i
          · subst hji; rw [if_pos (.inl (by omega)), if_neg (by omega), if_pos rfl]; omega
          · have : (j < i ∨ (sAt l j).par < 0) ↔ (j < i + 1 ∨ (sAt l j).par < 0) := by omega
            simp only [this, if_neg hji, Int.add_zero]
        · unfold rootW
          rw [get j]
          by_cases hjp : j = (sAt l i).par.toNat
          · have : (sAt l i).par = (j : Int) := by omega
            have hlt : j < i := by unfold sAt at *; omega
            rw [if_pos this, if_pos hjp, if_pos (.inl hlt), if_pos (.inl hlt)]
          · have : ¬ (sAt l i).par = (j : Int) := by omega
            rw [if_neg this, if_neg hjp, Int.add_zero, Int.add_zero]
  have := key l.length (Nat.le_refl _)
  rw [upN_all, Nat.sub_self] at this
  exact this

end Go.Proofs.Ytjmhlbogkeohpaa

namespace Go.Proofs.Ytjmhlbogkeohpaa
open Go.Ab
set_option maxRecDepth 100000

/-! Plain laws: what is demanded, and the least rails -/
abbrev dAt (a : List Dem) (i : Nat) : Dem := a.getD i dem0
abbrev xAt (d : List Drw) (i : Nat) : Drw := d.getD i drw0

structure DI (n : Nat) (d : List Drw) (i : Nat) (a : List Dem) : Prop where
  len : a.length = n
  just : ∀ j, j < n → dAt a j = ⟨0, -1, -1⟩ ∨ ∃ q, q < i ∧ (xAt d q).sup = j ∧ dAt a j = ⟨(xAt d q).low, q, -1⟩
  low : ∀ q, q < i → (xAt d q).low ≤ (dAt a (xAt d q).sup.toNat).volt

theorem dInit_di {n : Nat} {d : List Drw} (hd : ∀ x ∈ d, 0 ≤ x.sup ∧ x.sup < n) : ∀ i, i ≤ d.length → DI n d i (dInit n d i) := by
  intro i
  induction i with
  | zero =>
    intro _
    refine ⟨dInit_len _ _ _, fun j hj => .inl ?_, fun q hq => by omega⟩
    show (List.replicate n (⟨0, -1, -1⟩ : Dem)).getD j dem0 = _
    rw [List.getD_eq_getElem?_getD, List.getElem?_replicate, if_pos hj]
    rfl
  | succ i ih =>
    intro hi
    obtain ⟨h1, h2, h3⟩ := ih (by omega)
    have hx := hd _ (getD_mem drw0 (show i < d.length by omega))
    rw [dInit]
    generalize dInit n d i = a at h1 h2 h3
    by_cases hb : (dAt a (xAt d i).sup.toNat).volt < (xAt d i).low
    · rw [show decide ((a.getD (d.getD i drw0).sup.toNat dem0).volt < (d.getD i drw0).low) = true from decide_eq_true hb, cond_true]
      refine ⟨by rw [List.length_set, h1], fun j hj => ?_, fun q hq => ?_⟩
      · unfold dAt
        rw [getD_set]
        split
        · rename_i h; exact .inr ⟨i, by omega, by unfold xAt; omega, rfl⟩
        · rcases h2 j hj with h | ⟨q, h4, h5⟩
          · exact .inl h
          · exact .inr ⟨q, by omega, h5⟩
      · unfold dAt
        rw [getD_set]
        by_cases hqi : q = i
        · subst hqi
          rw [if_pos ⟨rfl, by omega⟩]
          exact Int.le_refl _
        · have h4 := h3 q (by omega)
          split
          · rename_i h
            unfold dAt at h4 hb
            show (xAt d q).low ≤ (xAt d i).low
            rw [h.1] at h4
            unfold xAt at *
            omega
          · exact h4
    · rw [show decide ((a.getD (d.getD i drw0).sup.toNat dem0).volt < (d.getD i drw0).low) = false from decide_eq_false hb, cond_false]
      refine ⟨h1, fun j hj => ?_, fun q hq => ?_⟩
      · rcases h2 j hj with h | ⟨q, h4, h5⟩
        · exact .inl h
        · exact .inr ⟨q, by omega, h5⟩
      · by_cases hqi : q = i
        · subst hqi; omega
        · exact h3 q (by omega)

structure Dm (l : List Sup) (d : List Drw) (u : List Bool) (k : Nat) (s : DS) : Prop where
  al : s.a.length = l.length
  ll : s.lv.length = l.length
  just : ∀ j, j < l.length → dAt s.a j = ⟨0, -1, -1⟩ ∨ (∃ q, q < d.length ∧ (xAt d q).sup = j ∧ dAt s.a j = ⟨(xAt d q).low, q, -1⟩) ∨
    ∃ c : Nat, k ≤ c ∧ c < l.length ∧ bAt u c = true ∧ (sAt l c).par = j ∧ lvOf l c s < (sAt l c).lev.length ∧ dAt s.a j = ⟨needOf l c s, -1, c⟩
  low : ∀ q, q < d.length → (xAt d q).low ≤ (dAt s.a (xAt d q).sup.toNat).volt
  up : ∀ c, k ≤ c → c < l.length → bAt u c = true → 0 ≤ (sAt l c).par → needOf l c s ≤ (dAt s.a (sAt l c).par.toNat).volt
  ok : ∀ c, k ≤ c → c < l.length → bAt u c = true → lvOf l c s < (sAt l c).lev.length ∧ nAt s.lv c = lvOf l c s
  zero : ∀ c, c < l.length → c < k ∨ bAt u c = false → nAt s.lv c = 0

theorem ds0_dm {l : List Sup} {d : List Drw} (hv : Vld l d) (u : List Bool) : Dm l d u l.length (ds0 l d) := by
  obtain ⟨h1, h2, h3⟩ := dInit_di (vld_sup hv) d.length (Nat.le_refl _)
  refine ⟨h1, by simp [ds0], fun j hj => ?_, h3, fun c hc hc' => by omega, fun c hc hc' => by omega, fun c hc _ => rep_getD _ _ _⟩
  rcases h2 j hj with h | h
  · exact .inl h
  · exact .inr (.inl h)

theorem dm_step {l : List Sup} {d : List Drw} {u : List Bool} {k : Nat} {s : DS} (hv : Vld l d) (hk : k < l.length) (h : Dm l d u (k + 1) s) (hf : dFail l u k s = false) : Dm l d u k (dOne l u k s) := by
  obtain ⟨al, ll, just, low, up, ok, zero⟩ := h
  have hs := (hv.sup k hk)
  unfold dOne
  cases hu : u.getD k false with
  | false =>
    simp only [Bool.not_false, cond_true]
    have hne : ∀ c, k ≤ c → bAt u c = true → k + 1 ≤ c := fun c h1 h2 => by
      rcases Nat.eq_or_lt_of_le h1 with h | h
      · subst h; unfold bAt at h2; rw [hu] at h2; cases h2
      · exact h
    refine ⟨al, ll, fun j hj => ?_, low, fun c h1 h2 h3 => up c (hne c h1 h3) h2 h3, fun c h1 h2 h3 => ok c (hne c h1 h3) h2 h3, fun c h1 h2 => zero c h1 ?_⟩
    · rcases just j hj with h | h | ⟨c, h1, h2⟩
      · exact .inl h
      · exact .inr (.inl h)
      · exact .inr (.inr ⟨c, by omega, h2⟩)
    · rcases h2 with h2 | h2
      · exact .inl (by omega)
      · exact .inr h2
  | true =>
    unfold dFail at hf
    rw [hu, Bool.true_and, Bool.not_eq_false'] at hf
    have hf := of_decide_eq_true hf
    simp only [Bool.not_true, cond_false]
    generalize hA : (bif decide (0 ≤ (l.getD k sup0).par) && decide ((s.a.getD (l.getD k sup0).par.toNat dem0).volt < needOf l k s) then s.a.set (l.getD k sup0).par.toNat ⟨needOf l k s, -1, k⟩ else s.a) = A
    have hAl : A.length = l.length := by
      rw [← hA]
      cases decide (0 ≤ (l.getD k sup0).par) && decide ((s.a.getD (l.getD k sup0).par.toNat dem0).volt < needOf l k s) <;> simp [al]
    have hget : ∀ j, dAt A j = dAt s.a j ∧ ((sAt l k).par = (j : Int) → needOf l k s ≤ (dAt s.a j).volt) ∨ (sAt l k).par = (j : Int) ∧ (dAt s.a j).volt < needOf l k s ∧ dAt A j = ⟨needOf l k s, -1, k⟩ := by
      intro j
      rw [← hA]
      by_cases hp : 0 ≤ (l.getD k sup0).par
      · by_cases hn : (s.a.getD (l.getD k sup0).par.toNat dem0).volt < needOf l k s
        · rw [decide_eq_true hp, decide_eq_true hn]
          simp only [Bool.and_self, cond_true]
          unfold dAt
          rw [getD_set]
          by_cases hj : j = (l.getD k sup0).par.toNat
          · rw [if_pos ⟨hj, by omega⟩]
            refine .inr ⟨by unfold sAt; omega, by rw [hj]; exact hn, rfl⟩
          · rw [if_neg (fun h => hj h.1)]
            exact .inl ⟨rfl, fun h => by unfold sAt at h; omega⟩
        · rw [decide_eq_true hp, decide_eq_false hn]
          refine .inl ⟨rfl, fun h => ?_⟩
          have : j = (l.getD k sup0).par.toNat := by unfold sAt at h; omega
          rw [this]
          exact Int.not_lt.1 hn
      · rw [decide_eq_false hp]
        refine .inl ⟨rfl, fun h => by unfold sAt at h; omega⟩
    have hge : ∀ j, (dAt s.a j).volt ≤ (dAt A j).volt := fun j => by
      rcases hget j with h | h
      · rw [h.1]; exact Int.le_refl _
      · rw [h.2.2]; exact Int.le_of_lt h.2.1
    have hsame : ∀ c, k ≤ c → dAt A c = dAt s.a c := fun c hc => by
      rcases hget c with h | h
      · exact h.1
      · have := h.1; unfold sAt at this; omega
    have hlv : ∀ c, k ≤ c → ∀ x, lvOf l c ⟨A, x⟩ = lvOf l c s := fun c hc x => by
      have := hsame c hc
      unfold lvOf
      unfold dAt at this
      simp only [this]
    have hnd : ∀ c, k ≤ c → ∀ x, needOf l c ⟨A, x⟩ = needOf l c s := fun c hc x => by
      unfold needOf
      rw [hlv c hc]
    refine ⟨hAl, by simp [ll], fun j hj => ?_, fun q hq => Int.le_trans (low q hq) (hge _), fun c h1 h2 h3 h4 => ?_, fun c h1 h2 h3 => ?_, fun c h1 h2 => ?_⟩
    · show dAt A j = _ ∨ _
      rcases hget j with h | h
      · show dAt A j = _ ∨ (∃ q, q < d.length ∧ (xAt d q).sup = j ∧ dAt A j = _) ∨ ∃ c : Nat, _ ∧ _ ∧ _ ∧ _ ∧ _ ∧ dAt A j = _
        rw [h.1]
        rcases just j hj with h | h | ⟨c, h1, h2, h3, h4, h5, h6⟩
        · exact .inl h
        · exact .inr (.inl h)
        · refine .inr (.inr ⟨c, by omega, h2, h3, h4, ?_, ?_⟩)
          · rw [hlv c (by omega)]; exact h5
          · rw [hnd c (by omega)]; exact h6
      · refine .inr (.inr ⟨k, Nat.le_refl _, hk, hu, h.1, ?_, ?_⟩)
        · rw [hlv k (Nat.le_refl _)]; unfold sAt; omega
        · rw [hnd k (Nat.le_refl _)]; exact h.2.2
    · show needOf l c _ ≤ (dAt A (sAt l c).par.toNat).volt
      rw [hnd c h1]
      rcases Nat.eq_or_lt_of_le h1 with h | h
      · subst h
        rcases hget (sAt l k).par.toNat with h | h
        · rw [h.1]; exact h.2 (by omega)
        · rw [h.2.2]; exact Int.le_refl _
      · exact Int.le_trans (up c h h2 h3 h4) (hge _)
    · rw [hlv c h1]
      show _ ∧ nAt (s.lv.set k (lvOf l k s)) c = _
      unfold nAt
      rw [getD_set]
      rcases Nat.eq_or_lt_of_le h1 with h | h
      · subst h
        rw [if_pos ⟨rfl, by omega⟩]
        exact ⟨by unfold sAt; omega, rfl⟩
      · rw [if_neg (by omega)]
        exact ok c h h2 h3
    · show nAt (s.lv.set k (lvOf l k s)) c = 0
      unfold nAt
      rw [getD_set]
      have hck : c ≠ k := fun h => by
        rcases h2 with h2 | h2
        · omega
        · subst h; unfold bAt at h2; rw [hu] at h2; cases h2
      rw [if_neg (fun h => hck h.1)]
      refine zero c h1 ?_
      rcases h2 with h2 | h2
      · exact .inl (by omega)
      · exact .inr h2

theorem demN_dm {l : List Sup} {d : List Drw} {u : List Bool} (hv : Vld l d) : ∀ (k : Nat) (s : DS), k ≤ l.length → Dm l d u k s →
    ((demN l u k s).2 = -1 ∧ Dm l d u 0 (demN l u k s).1) ∨ ∃ q : Nat, (demN l u k s).2 = q ∧ q < k ∧ Dm l d u (q + 1) (demN l u k s).1 ∧ dFail l u q (demN l u k s).1 = true := by
  intro k
  induction k with
  | zero => intro s _ h; exact .inl ⟨rfl, h⟩
  | succ k ih =>
    intro s hk h
    rw [demN]
    cases hf : dFail l u k s with
    | true => exact .inr ⟨k, rfl, by omega, h, hf⟩
    | false =>
      simp only [cond_false]
      rcases ih _ (by omega) (dm_step hv (by omega) h hf) with h | ⟨q, h1, h2, h3⟩
      · exact .inl h
      · exact .inr ⟨q, h1, by omega, h3⟩

theorem demF_dm {l : List Sup} {d : List Drw} (hv : Vld l d) : ((demF l d).2 = -1 ∧ Dm l d (usedF l d) 0 (demF l d).1) ∨ ∃ q : Nat, (demF l d).2 = q ∧ q < l.length ∧ Dm l d (usedF l d) (q + 1) (demF l d).1 ∧ dFail l (usedF l d) q (demF l d).1 = true :=
  demN_dm hv _ _ (Nat.le_refl _) (ds0_dm hv _)

/-! What it is to meet -/
structure Mt (l : List Sup) (r : Rls) (d : List Drw) : Prop where
  used : ∀ i, bAt (usedF l d) i = true → bAt r.on i = true
  par : ∀ i, i < l.length → bAt r.on i = true → 0 ≤ (sAt l i).par → bAt r.on (sAt l i).par.toNat = true ∧ voltF l r i + (sAt l i).drop ≤ voltF l r (sAt l i).par.toNat
  cap : ∀ i, i < l.length → bAt r.on i = true → nAt (loadsF l d) i ≤ (sAt l i).cap
  drw : ∀ x ∈ d, x.low ≤ voltF l r x.sup.toNat ∧ voltF l r x.sup.toNat ≤ x.high

theorem meets0_iff {l : List Sup} {r : Rls} {d : List Drw} : meets0 l r d = true ↔ Mt l r d := by
  unfold meets0
  rw [Bool.and_eq_true, List.all_eq_true, Bool.not_eq_true', List.any_eq_false]
  have hb : ∀ i, (!mBad l r (usedF l d) (loadsF l d) i) = true ↔ (bAt r.on i = false → bAt (usedF l d) i = false) ∧ (bAt r.on i = true → (0 ≤ (sAt l i).par → bAt r.on (sAt l i).par.toNat = true ∧ voltF l r i + (sAt l i).drop ≤ voltF l r (sAt l i).par.toNat) ∧ nAt (loadsF l d) i ≤ (sAt l i).cap) := by
    intro i
    unfold mBad bAt sAt nAt
    cases hon : r.on.getD i false with
    | false => simp
    | true =>
      simp only [Bool.not_true, cond_false, Bool.not_eq_true', Bool.or_eq_false_iff, Bool.and_eq_false_iff, decide_eq_false_iff_not, Int.not_lt, Bool.not_eq_false']
      constructor
      · rintro ⟨h1, h2⟩
        refine ⟨nofun, fun _ => ⟨fun hp => ?_, h2⟩⟩
        rcases h1 with h1 | h1
        · exact absurd hp h1
        · exact h1
      · rintro ⟨_, h⟩
        obtain ⟨h1, h2⟩ := h (by trivial)
        refine ⟨?_, h2⟩
        by_cases hp : 0 ≤ (l.getD i sup0).par
        · exact .inr (h1 hp)
        · exact .inl hp
  have hd : ∀ x, ¬ dBad l r x = true ↔ x.low ≤ voltF l r x.sup.toNat ∧ voltF l r x.sup.toNat ≤ x.high := by
    intro x
    unfold dBad
    rw [Bool.not_eq_true, Bool.not_eq_false', withinF_iff]
  constructor
  · rintro ⟨h1, h2⟩
    have h1 : ∀ i, i < l.length → _ := fun i hi => (hb i).1 (h1 i (List.mem_range.2 hi))
    refine ⟨fun i hi => ?_, fun i hi ho => ((h1 i hi).2 ho).1, fun i hi ho => ((h1 i hi).2 ho).2, fun x hx => (hd x).1 (h2 x hx)⟩
    have hlt := used_lt hi
    cases ho : bAt r.on i with
    | true => rfl
    | false => rw [(h1 i hlt).1 ho] at hi; cases hi
  · rintro ⟨h1, h2, h3, h4⟩
    refine ⟨fun i hi => (hb i).2 ⟨fun ho => ?_, fun ho => ⟨h2 i (List.mem_range.1 hi) ho, h3 i (List.mem_range.1 hi) ho⟩⟩, fun x hx => (hd x).2 (h4 x hx)⟩
    cases hu : bAt (usedF l d) i with
    | false => rfl
    | true => rw [h1 i hu] at ho; cases ho

theorem draws_check {l : List Sup} {d : List Drw} (h : drawsF l d = true) : checkF l = 0 := by
  unfold drawsF at h
  simp only [Bool.and_eq_true] at h
  simpa using h.1.1

theorem meetsF_iff {l : List Sup} {r : Rls} {d : List Drw} (h : drawsF l d = true) : meetsF l r d = true ↔ Rok l r ∧ Mt l r d := by
  unfold meetsF
  rw [h]
  cases hr : railsF l r with
  | false =>
    simp
    intro hk
    rw [rails_iff.2 ⟨draws_check h, hk⟩] at hr
    cases hr
  | true =>
    simp only [Bool.not_true, Bool.or_self, cond_false]
    rw [meets0_iff]
    exact ⟨fun hm => ⟨(rails_iff.1 hr).2, hm⟩, fun hm => hm.2⟩

theorem lvN_min {v : Int} {lev : List Int} {t : Nat} (hv : v ≤ lev.getD t 0) : lvN lev v ≤ t := by
  rcases Nat.lt_or_ge t (lvN lev v) with h | h
  · have := lvN_lt t h; omega
  · exact h

theorem asc_le {p : Int} {v : List Int} (h : ascB p v = true) {i j : Nat} (hij : i ≤ j) (hj : j < v.length) : v.getD i 0 ≤ v.getD j 0 := by
  rcases Nat.eq_or_lt_of_le hij with h1 | h1
  · subst h1; exact Int.le_refl _
  · exact Int.le_of_lt (asc_lt h i j h1 hj)

/-- No rails that meet are below the demands. -/
theorem dm_le {l : List Sup} {d : List Drw} {k : Nat} {s : DS} {r : Rls} (hv : Vld l d) (hr : Rok l r) (hm : Mt l r d) (h : Dm l d (usedF l d) k s) : ∀ j, bAt (usedF l d) j = true → (dAt s.a j).volt ≤ voltF l r j := by
  have key : ∀ m j, l.length - j ≤ m → bAt (usedF l d) j = true → (dAt s.a j).volt ≤ voltF l r j := by
    intro m
    induction m with
    | zero => intro j h1 h2; have := used_lt h2; omega
    | succ m ih =>
      intro j h1 hj
      have hlt := used_lt hj
      rcases h.just j hlt with h2 | ⟨q, h2, h3, h4⟩ | ⟨c, h2, h3, h4, h5, h6, h7⟩
      · rw [h2]
        have := volt_bnd hv hr j hlt
        show 0 ≤ _
        omega
      · rw [h4]
        have := (hm.drw _ (getD_mem drw0 h2)).1
        have e : (d.getD q drw0).sup.toNat = j := by unfold xAt at h3; omega
        rw [e] at this
        exact this
      · rw [h7]
        have hc := (hv.sup c h3).2.1
        have h8 := ih c (by unfold sAt at h5; omega) h4
        have h9 := hm.par c h3 (hm.used c h4) (by omega)
        have e : (sAt l c).par.toNat = j := by omega
        rw [e] at h9
        have h10 := hr.lev c h3
        have h11 : lvOf l c s ≤ (r.lev.getD c 0).toNat := lvN_min h8
        have h12 := asc_le (hv.lev c h3) h11 h10.2.1
        refine Int.le_trans ?_ h9.2
        show (l.getD c sup0).lev.getD (lvOf l c s) 0 + (l.getD c sup0).drop ≤ voltF l r c + (sAt l c).drop
        unfold voltF sAt
        omega
  exact fun j => key _ j (Nat.le_refl _)

theorem fail_none {l : List Sup} {d : List Drw} {q : Nat} {s : DS} {r : Rls} (hv : Vld l d) (hr : Rok l r) (hm : Mt l r d) (h : Dm l d (usedF l d) (q + 1) s) (hf : dFail l (usedF l d) q s = true) : False := by
  unfold dFail at hf
  rw [Bool.and_eq_true, Bool.not_eq_true'] at hf
  have h1 := of_decide_eq_false hf.2
  have hlt := used_lt (l := l) (d := d) (j := q) hf.1
  have h2 := dm_le hv hr hm h q hf.1
  have h3 := hr.lev q hlt
  have h4 : lvOf l q s ≤ (r.lev.getD q 0).toNat := lvN_min h2
  omega

/-- The least rails: ranges, and what they meet. -/
theorem least_rok {l : List Sup} {d : List Drw} {s : DS} (hv : Vld l d) (h : Dm l d (usedF l d) 0 s) : Rok l ⟨usedF l d, s.lv⟩ := by
  refine ⟨usedF_len l d, h.ll, fun i hi => ?_⟩
  cases hu : bAt (usedF l d) i with
  | true =>
    have := h.ok i (Nat.zero_le _) hi hu
    unfold nAt sAt at this
    show 0 ≤ s.lv.getD i 0 ∧ (s.lv.getD i 0).toNat < _ ∧ s.lv.getD i 0 < _
    omega
  | false =>
    have := h.zero i hi (.inr hu)
    unfold nAt at this
    have h1 := (hv.sup i hi).2.2.1
    show 0 ≤ s.lv.getD i 0 ∧ (s.lv.getD i 0).toNat < _ ∧ s.lv.getD i 0 < _
    omega

theorem least_volt {l : List Sup} {d : List Drw} {s : DS} (h : Dm l d (usedF l d) 0 s) {i : Nat} (hu : bAt (usedF l d) i = true) : voltF l ⟨usedF l d, s.lv⟩ i = (sAt l i).lev.getD (lvOf l i s) 0 := by
  have := (h.ok i (Nat.zero_le _) (used_lt hu) hu).2
  unfold nAt at this
  unfold voltF
  show (l.getD i sup0).lev.getD (s.lv.getD i 0).toNat 0 = _
  rw [this]
  rfl

theorem least_mt {l : List Sup} {d : List Drw} {s : DS} (hv : Vld l d) (h : Dm l d (usedF l d) 0 s) (hcap : ∀ i, bAt (usedF l d) i = true → nAt (loadsF l d) i ≤ (sAt l i).cap)
    (hhi : ∀ x ∈ d, voltF l ⟨usedF l d, s.lv⟩ x.sup.toNat ≤ x.high) : Mt l ⟨usedF l d, s.lv⟩ d := by
  refine ⟨fun i hi => hi, fun i hi ho hp => ⟨used_par hv ho hp, ?_⟩, fun i hi ho => hcap i ho, fun x hx => ⟨?_, hhi x hx⟩⟩
  · have hpu := used_par hv ho hp
    have h1 := h.up i (Nat.zero_le _) hi ho hp
    have h2 := h.ok _ (Nat.zero_le _) (used_lt hpu) hpu
    rw [least_volt h ho, least_volt h hpu]
    have h3 := lvN_ge (v := (dAt s.a (sAt l i).par.toNat).volt) (l := (sAt l (sAt l i).par.toNat).lev) h2.1
    exact Int.le_trans h1 h3
  · have hu := used_draw hv hx
    obtain ⟨q, hq, rfl⟩ : ∃ q, q < d.length ∧ x = xAt d q := by
      obtain ⟨q, hq, e⟩ := List.mem_iff_getElem.1 hx
      exact ⟨q, hq, by unfold xAt; rw [List.getD_eq_getElem?_getD, List.getElem?_eq_getElem hq, e]; rfl⟩
    rw [least_volt h hu]
    exact Int.le_trans (h.low q hq) (lvN_ge (h.ok _ (Nat.zero_le _) (used_lt hu) hu).1)

structure Best (l : List Sup) (d : List Drw) (r : Rls) : Prop where
  ok : meetsF l r d = true
  on : r.on = usedF l d
  zero : ∀ i, bAt (usedF l d) i = false → nAt r.lev i = 0
  least : ∀ q, meetsF l q d = true → ∀ i, bAt (usedF l d) i = true → bAt q.on i = true ∧ nAt r.lev i ≤ nAt q.lev i

theorem begin_draws {l : List Sup} {d : List Drw} (h : drawsF l d = true) : beginF l d = 0 := by
  unfold beginF
  rw [h, draws_check h]
  rfl

/-- Least: the best rails, or there are none. -/
theorem least_best {l : List Sup} {d : List Drw} (h : drawsF l d = true) : ((leastF l d).2 = 0 ∧ Best l d (leastF l d).1) ∨ (leastF l d = (rls0, 9) ∧ ∀ q, meetsF l q d = false) := by
  have hv := vld_of h
  unfold leastF
  rw [begin_draws h]
  simp only [bne_self_eq_false, cond_false]
  rcases demF_dm hv with ⟨h1, h2⟩ | ⟨q, h1, h2, h3, h4⟩
  · generalize demF l d = p at h1 h2
    obtain ⟨s, f⟩ := p
    simp only at h1 h2
    subst h1
    cases hm : meetsF l ⟨usedF l d, s.lv⟩ d with
    | true =>
      refine .inl ⟨rfl, ?_⟩
      show Best l d ⟨usedF l d, s.lv⟩
      refine ⟨hm, rfl, fun i hi => ?_, fun q hq i hi => ?_⟩
      · by_cases hl : i < l.length
        · exact h2.zero i hl (.inr hi)
        · exact getD_out 0 (by show s.lv.length ≤ i; rw [h2.ll]; omega)
      · obtain ⟨hr, hmt⟩ := (meetsF_iff h).1 hq
        refine ⟨hmt.used i hi, ?_⟩
        have h5 := dm_le hv hr hmt h2 i hi
        have h6 : lvOf l i s ≤ (q.lev.getD i 0).toNat := lvN_min h5
        have h7 := (h2.ok i (Nat.zero_le _) (used_lt hi) hi).2
        have h8 := hr.lev i (used_lt hi)
        show nAt s.lv i ≤ nAt q.lev i
        rw [h7]
        unfold nAt
        omega
    | false =>
      refine .inr ⟨rfl, fun q => ?_⟩
      cases hq : meetsF l q d with
      | false => rfl
      | true =>
        obtain ⟨hr, hmt⟩ := (meetsF_iff h).1 hq
        exfalso
        have hle := dm_le hv hr hmt h2
        have := (meetsF_iff h).2 ⟨least_rok hv h2, least_mt hv h2 (fun i hi => hmt.cap i (used_lt hi) (hmt.used i hi)) (fun x hx => ?_)⟩
        · rw [hm] at this; cases this
        · have hu := used_draw hv hx
          rw [least_volt h2 hu]
          have h6 : lvOf l x.sup.toNat s ≤ (q.lev.getD x.sup.toNat 0).toNat := lvN_min (hle _ hu)
          have h8 := hr.lev _ (used_lt hu)
          have h9 := asc_le (hv.lev _ (used_lt hu)) h6 h8.2.1
          have h10 := (hmt.drw x hx).2
          unfold voltF at h10
          unfold sAt
          omega
  · refine .inr ⟨?_, fun r => ?_⟩
    · rw [h1, decide_eq_true (by omega : (0 : Int) ≤ (q : Nat))]
      rfl
    · cases hq : meetsF l r d with
      | false => rfl
      | true =>
        obtain ⟨hr, hmt⟩ := (meetsF_iff h).1 hq
        exact (fail_none hv hr hmt h3 h4).elim

theorem Best.unique {l : List Sup} {d : List Drw} {r r' : Rls} (hd : drawsF l d = true) (h : Best l d r) (h' : Best l d r') : r = r' := by
  have e1 : r.on = r'.on := h.on.trans h'.on.symm
  have l1 := ((meetsF_iff hd).1 h.ok).1.len
  have l2 := ((meetsF_iff hd).1 h'.ok).1.len
  have e2 : r.lev = r'.lev := by
    refine ext_getD 0 (by omega) fun j _ => ?_
    cases hu : bAt (usedF l d) j with
    | true =>
      have a1 := (h.least _ h'.ok j hu).2
      have a2 := (h'.least _ h.ok j hu).2
      unfold nAt at a1 a2
      omega
    | false =>
      have a1 := h.zero j hu
      have a2 := h'.zero j hu
      unfold nAt at a1 a2
      omega
  cases r; cases r'
  simp only at e1 e2
  rw [e1, e2]

end Go.Proofs.Ytjmhlbogkeohpaa

namespace Go.Proofs.Ytjmhlbogkeohpaa
open Go.Ab
set_option maxRecDepth 100000

/-! Plain laws: chains -/
def jnL (l : List Sup) (u : List Bool) : List Int → Prop
  | [] => True
  | k :: t => (0 ≤ k ∧ k < l.length ∧ bAt u k.toNat = true ∧ (∀ k', t.head? = some k' → (sAt l k.toNat).par = k')) ∧ jnL l u t

theorem jnAll_iff {l : List Sup} {u : List Bool} {c : List Int} : jnAll l u c = true ↔ ∀ i, i < c.length → 0 ≤ nAt c i ∧ nAt c i < l.length ∧ bAt u (nAt c i).toNat = true ∧ (0 < i → (sAt l (nAt c (i - 1)).toNat).par = nAt c i) := by
  unfold jnAll
  rw [List.all_eq_true]
  have hb : ∀ i, (!jnB l u c i) = true ↔ 0 ≤ nAt c i ∧ nAt c i < l.length ∧ bAt u (nAt c i).toNat = true ∧ (0 < i → (sAt l (nAt c (i - 1)).toNat).par = nAt c i) := by
    intro i
    unfold jnB nAt bAt sAt
    simp only [Bool.not_eq_true', Bool.or_eq_false_iff, Bool.not_eq_false', withinF_iff, Bool.and_eq_false_iff, decide_eq_false_iff_not, bne_eq_false_iff_eq]
    constructor
    · rintro ⟨⟨h1, h2⟩, h3⟩
      refine ⟨h1.1, by omega, h2, fun h => ?_⟩
      rcases h3 with h3 | h3
      · omega
      · exact h3
    · rintro ⟨h1, h2, h3, h4⟩
      refine ⟨⟨⟨h1, by omega⟩, h3⟩, ?_⟩
      by_cases h : 0 < i
      · exact .inr (h4 h)
      · exact .inl (by omega)
  constructor
  · exact fun h i hi => (hb i).1 (h i (List.mem_range.2 hi))
  · exact fun h i hi => (hb i).2 (h i (List.mem_range.1 hi))

theorem jnL_all {l : List Sup} {u : List Bool} {c : List Int} (h : jnL l u c) : jnAll l u c = true := by
  rw [jnAll_iff]
  induction c with
  | nil => intro i hi; simp at hi
  | cons k t ih =>
    intro i hi
    obtain ⟨⟨h1, h2, h3, h4⟩, h5⟩ := h
    cases i with
    | zero => exact ⟨h1, h2, h3, fun h => by omega⟩
    | succ i =>
      obtain ⟨a1, a2, a3, a4⟩ := ih h5 i (by simpa using hi)
      refine ⟨a1, a2, a3, fun _ => ?_⟩
      cases i with
      | zero =>
        cases t with
        | nil => simp at hi
        | cons k' t => exact h4 k' rfl
      | succ i => exact a4 (by omega)

structure Good (l : List Sup) (d : List Drw) (last : Int) (c : List Int) (fst : Int) : Prop where
  ne : c ≠ []
  jn : jnL l (usedF l d) c
  lo : -1 ≤ fst
  hi : fst < d.length
  yes : 0 ≤ fst → (xAt d fst.toNat).sup = nAt c 0 ∧ rwN l d last c (xAt d fst.toNat).low = true
  no : fst < 0 → rwN l d last c 0 = true

theorem chain_good {l : List Sup} {d : List Drw} {s : DS} {k : Nat} {last : Int} (hv : Vld l d) (h : Dm l d (usedF l d) k s) :
    ∀ (f at_ : Nat) (t : List Int) (x : Int), l.length - at_ < f → jnL l (usedF l d) ((at_ : Int) :: t) → rwN l d last ((at_ : Int) :: t) (dAt s.a at_).volt = true →
      Good l d last (chainN f s.a at_ t.reverse x).1.reverse (chainN f s.a at_ t.reverse x).2 := by
  intro f
  induction f with
  | zero => intro at_ t x hf; omega
  | succ f ih =>
    intro at_ t x hf hj hw
    have hlt : at_ < l.length := by have := hj.1.2.1; omega
    rw [chainN, decide_eq_true (by omega : (0 : Int) ≤ (at_ : Nat)), cond_true]
    have e : ((at_ : Int)).toNat = at_ := rfl
    rw [e, show t.reverse ++ [(at_ : Int)] = ((at_ : Int) :: t).reverse from List.reverse_cons.symm]
    have stop : ∀ y : Int, chainN f s.a (-1) ((at_ : Int) :: t).reverse y = (((at_ : Int) :: t).reverse, y) := fun y => by
      cases f with
      | zero => rfl
      | succ f => rw [chainN]; rfl
    rcases h.just at_ hlt with h1 | ⟨q, h1, h2, h3⟩ | ⟨c, h1, h2, h3, h4, h5, h6⟩
    · unfold dAt at h1
      rw [h1, stop, List.reverse_reverse]
      refine ⟨by simp, hj, Int.le_refl (-1), by show (-1 : Int) < _; omega, fun h => absurd h (by show ¬ (0 : Int) ≤ -1; decide), fun _ => ?_⟩
      unfold dAt at hw
      rw [h1] at hw
      exact hw
    · unfold dAt at h3
      rw [h3, stop, List.reverse_reverse]
      refine ⟨by simp, hj, by show (-1 : Int) ≤ (q : Int); omega, by show (q : Int) < _; omega, fun _ => ⟨h2, ?_⟩, fun h => absurd h (by show ¬ (q : Int) < 0; omega)⟩
      unfold dAt at hw
      rw [h3] at hw
      exact hw
    · unfold dAt at h6
      rw [h6]
      have hc := (hv.sup c h2).2.1
      refine ih c ((at_ : Int) :: t) (-1) (by unfold sAt at h4; omega) ?_ ?_
      · refine ⟨⟨by omega, by omega, h3, fun k' hk => ?_⟩, hj⟩
        simp at hk
        rw [← hk]
        exact h4
      · rw [rwN]
        have hok : okK l c (dAt s.a c).volt = true := decide_eq_true h5
        simp only [List.isEmpty_cons, Bool.not_false, cond_true, hok, Bool.not_true, cond_false]
        unfold dAt at hw
        rw [h6] at hw
        exact hw

theorem chain_chk {l : List Sup} {d : List Drw} {s : DS} {k : Nat} {last : Int} (hd : drawsF l d = true) (h : Dm l d (usedF l d) k s) (to : Nat) (hlt : to < l.length) (hu : bAt (usedF l d) to = true)
    (hl : -1 ≤ last ∧ last < d.length) (hw : rwN l d last [(to : Int)] (dAt s.a to).volt = true) : rchkF l d (chainF s.a to last) = true := by
  obtain ⟨h1, h2, h3, h4, h5, h6⟩ := chain_good (last := last) (vld_of hd) h (s.a.length + 1) to [] (-1) (by rw [h.al]; omega) ⟨⟨by omega, by omega, hu, nofun⟩, trivial⟩ hw
  unfold chainF rchkF
  rw [begin_draws hd]
  simp only [List.reverse_nil] at h1 h2 h3 h4 h5 h6
  generalize (chainN (s.a.length + 1) s.a (to : Int) [] (-1)).1.reverse = c at *
  generalize (chainN (s.a.length + 1) s.a (to : Int) [] (-1)).2 = f at *
  have hc0 : ((c.length : Int) == 0) = false := by
    rw [beq_eq_false_iff_ne]
    intro e
    have : c.length = 0 := by omega
    exact h1 (List.length_eq_zero_iff.1 this)
  simp only [hc0, bne_self_eq_false, Bool.or_self, cond_false, jnL_all h2, Bool.not_true]
  have w1 : withinF f (-1) (d.length - 1) = true := withinF_iff.2 (by omega)
  have w2 : withinF last (-1) (d.length - 1) = true := withinF_iff.2 (by omega)
  rw [w1, w2]
  simp only [Bool.not_true, Bool.or_self, cond_false]
  by_cases hf : 0 ≤ f
  · obtain ⟨a1, a2⟩ := h5 hf
    have : (xAt d f.toNat).sup = c.getD 0 0 := a1
    unfold xAt at this a2
    rw [decide_eq_true hf, this, a2]
    simp
  · rw [decide_eq_false hf]
    exact h6 (by omega)

/-- Explain: an accepted chain exactly if there are no rails. -/
theorem explain_best {l : List Sup} {d : List Drw} (h : drawsF l d = true) : ((leastF l d).2 = 0 → explainF l d = (chn0, 8)) ∧ ((leastF l d).2 ≠ 0 → (explainF l d).2 = 0 ∧ rchkF l d (explainF l d).1 = true) := by
  have hv := vld_of h
  have hll := loadsF_len l d
  unfold explainF
  rw [begin_draws h]
  simp only [bne_self_eq_false, cond_false]
  rcases fstN_cases (fun i => decide ((l.getD i sup0).cap < (loadsF l d).getD i 0)) 0 l.length with ⟨o1, o2⟩ | ⟨i, o1, o2, o3, o4, o5⟩
  · have o1 : overI l d = -1 := o1
    rw [o1]
    simp only [show decide (0 ≤ (-1 : Int)) = false from rfl, cond_false]
    have hcap : ∀ i, bAt (usedF l d) i = true → nAt (loadsF l d) i ≤ (sAt l i).cap := fun i hi => by
      have := of_decide_eq_false (o2 i (Nat.zero_le _) (by have := used_lt hi; omega))
      unfold nAt sAt
      omega
    rcases demF_dm hv with ⟨h1, h2⟩ | ⟨q, h1, h2, h3, h4⟩
    · unfold highI leastF
      rw [begin_draws h]
      simp only [bne_self_eq_false, cond_false]
      generalize demF l d = p at h1 h2
      obtain ⟨s, f⟩ := p
      simp only at h1 h2
      subst h1
      simp only [show decide (0 ≤ (-1 : Int)) = false from rfl, cond_false, Bool.false_or]
      have hvolt : ∀ i, i < d.length → voltF l ⟨usedF l d, s.lv⟩ (xAt d i).sup.toNat = (l.getD (d.getD i drw0).sup.toNat sup0).lev.getD (s.lv.getD (d.getD i drw0).sup.toNat 0).toNat 0 := fun i hi => rfl
      rcases fstN_cases (highP l d s.lv) 0 d.length with ⟨p1, p2⟩ | ⟨i, p1, p2, p3, p4, p5⟩
      · rw [p1]
        have hm : meetsF l ⟨usedF l d, s.lv⟩ d = true := (meetsF_iff h).2 ⟨least_rok hv h2, least_mt hv h2 hcap (fun x hx => by
          obtain ⟨q, hq, e⟩ := List.mem_iff_getElem.1 hx
          have e2 : x = d.getD q drw0 := by rw [List.getD_eq_getElem?_getD, List.getElem?_eq_getElem hq, e]; rfl
          have := of_decide_eq_false (p2 q (Nat.zero_le _) (by omega))
          rw [e2]
          exact Int.not_lt.1 this)⟩
        rw [hm]
        exact ⟨fun _ => rfl, fun hne => absurd rfl hne⟩
      · rw [p1, decide_eq_true (by omega : (0 : Int) ≤ (i : Nat))]
        have hx := getD_mem drw0 (show i < d.length by omega)
        have hxs := vld_sup hv _ hx
        have hu := used_draw hv hx
        have p4 := of_decide_eq_true p4
        have hlow := least_volt h2 hu
        have hm : meetsF l ⟨usedF l d, s.lv⟩ d = false := by
          cases hm : meetsF l ⟨usedF l d, s.lv⟩ d with
          | false => rfl
          | true =>
            have := (((meetsF_iff h).1 hm).2.drw _ hx).2
            have e := hvolt i (by omega)
            unfold xAt at e
            omega
        rw [hm]
        refine ⟨fun e => absurd e (by show ¬ (9 : Int) = 0; decide), fun _ => ⟨rfl, ?_⟩⟩
        show rchkF l d (chainF s.a (d.getD i drw0).sup i) = true
        obtain ⟨n, hn⟩ : ∃ n : Nat, (d.getD i drw0).sup = n := ⟨(d.getD i drw0).sup.toNat, by omega⟩
        have hok := h2.ok _ (Nat.zero_le _) (used_lt hu) hu
        rw [hn] at hu hlow p4 hok ⊢
        have e2 : ((n : Int)).toNat = n := rfl
        rw [e2] at hu hlow p4 hok
        refine chain_chk h h2 n (used_lt hu) hu (by omega) ?_
        rw [rwN]
        have hok1 : okK l n (dAt s.a n).volt = true := decide_eq_true hok.1
        have hlt : decide ((i : Int) < 0) = false := decide_eq_false (by omega)
        simp only [List.isEmpty_nil, Bool.not_true, cond_false, hok1, hlt, Bool.or_self]
        have e3 : ((i : Int)).toNat = i := rfl
        rw [e3, hn]
        simp only [beq_self_eq_true, Bool.true_and]
        refine decide_eq_true ?_
        have e4 := hok.2
        unfold nAt at e4
        rw [e4] at p4
        exact p4
    · rw [h1, decide_eq_true (by omega : (0 : Int) ≤ (q : Nat))]
      have hu : bAt (usedF l d) q = true := by unfold dFail at h4; rw [Bool.and_eq_true] at h4; exact h4.1
      refine ⟨fun e => ?_, fun _ => ⟨rfl, ?_⟩⟩
      · unfold leastF at e
        rw [begin_draws h, h1, decide_eq_true (by omega : (0 : Int) ≤ (q : Nat))] at e
        exact absurd e (by show ¬ (9 : Int) = 0; decide)
      · show rchkF l d (chainF (demF l d).1.a q (-1)) = true
        refine chain_chk h h3 q h2 hu (by omega) ?_
        rw [rwN]
        have hok : okK l q (dAt (demF l d).1.a q).volt = false := by
          unfold dFail at h4
          rw [Bool.and_eq_true, Bool.not_eq_true'] at h4
          have h5 := of_decide_eq_false h4.2
          refine decide_eq_false ?_
          show ¬ lvOf l q (demF l d).1 < _
          unfold sAt at *
          have e : ((q : Int)).toNat = q := rfl
          rw [e]
          omega
        simp only [List.isEmpty_nil, Bool.not_true, cond_false, hok, Bool.not_false, Bool.true_or, cond_true]
        rfl
  · have o1 : overI l d = (i : Int) := o1
    rw [o1, decide_eq_true (by omega : (0 : Int) ≤ (i : Nat))]
    have o4 := of_decide_eq_true o4
    have hc0 := (hv.sup i (by omega)).2.2.2.2.2.2.1
    have hu : bAt (usedF l d) i = true := loads_used hv i (by unfold nAt; omega)
    refine ⟨fun e => ?_, fun _ => ⟨rfl, ?_⟩⟩
    · exfalso
      rcases least_best h with ⟨_, hb⟩ | ⟨h1, _⟩
      · have := ((meetsF_iff h).1 hb.ok).2
        have h2 := this.cap i (by omega) (this.used i hu)
        unfold nAt sAt at h2
        omega
      · rw [h1] at e; exact absurd e (by decide)
    · show rchkF l d ⟨true, [(i : Int)], -1, -1⟩ = true
      unfold rchkF
      rw [begin_draws h]
      have hj : jnAll l (usedF l d) [(i : Int)] = true := jnL_all ⟨⟨by omega, by omega, hu, nofun⟩, trivial⟩
      simp only [hj, bne_self_eq_false, Bool.false_or, Bool.not_true, cond_false, cond_true]
      show (bif ((1 : Nat) : Int) == 0 then false else ovB l d _) = true
      unfold ovB
      simp
      exact o4

/-- The error of Explain. -/
def explainedF (l : List Sup) (d : List Drw) : Int := bif (leastF l d).2 == 0 then 8 else bif (leastF l d).2 == 9 then 0 else (leastF l d).2

theorem explained_eq (l : List Sup) (d : List Drw) : (explainF l d).2 = explainedF l d := by
  unfold explainedF
  by_cases hb : beginF l d = 0
  · have hd := begin_ok hb
    obtain ⟨h1, h2⟩ := explain_best hd
    rcases least_best hd with ⟨h3, _⟩ | ⟨h3, _⟩
    · rw [h3, h1 h3]; rfl
    · rw [(h2 (by rw [h3]; decide)).1, h3]; rfl
  · have e1 : explainF l d = (chn0, beginF l d) := by
      unfold explainF
      rw [show (beginF l d != 0) = true by simpa using hb]
      rfl
    have e2 : leastF l d = (rls0, beginF l d) := by
      unfold leastF
      rw [show (beginF l d != 0) = true by simpa using hb]
      rfl
    rw [e1, e2]
    show beginF l d = bif beginF l d == 0 then 8 else bif beginF l d == 9 then 0 else beginF l d
    have h9 : beginF l d ≠ 9 := by
      unfold beginF checkF
      cases decide (16 < (l.length : Int)) || l.any bigS <;> cases valN 0 l <;> cases drawsF l d <;> decide
    rw [show (beginF l d == 0) = false by simpa using hb, show (beginF l d == 9) = false by simpa using h9]
    rfl

/-! More draws -/
theorem mt_fewer {l : List Sup} {r : Rls} {d e : List Drw} (hd : Vld l d) (he : Vld l e) (hu : ∀ j, atD d j = true → atD e j = true) (hl : ∀ j, nAt (loadsF l d) j ≤ nAt (loadsF l e) j) (hs : ∀ x ∈ d, x ∈ e) (h : Mt l r e) : Mt l r d :=
  ⟨fun i hi => h.used i (used_mono hd he hu i hi), h.par, fun i hi ho => Int.le_trans (hl i) (h.cap i hi ho), fun x hx => h.drw x (hs x hx)⟩

theorem atD_mono {d e : List Drw} (hs : ∀ x ∈ d, x ∈ e) (j : Nat) (h : atD d j = true) : atD e j = true := by
  unfold atD at *
  rw [List.any_eq_true] at *
  obtain ⟨x, hx, h⟩ := h
  exact ⟨x, hs x hx, h⟩

theorem draws_app {l : List Sup} {d e : List Drw} (hd : drawsF l d = true) (he : drawsF l e = true) (hn : d.length + e.length ≤ 32) : drawsF l (d ++ e) = true := by
  unfold drawsF at *
  simp only [Bool.and_eq_true, Bool.not_eq_true'] at *
  refine ⟨⟨hd.1.1, decide_eq_true (by rw [List.length_append]; omega)⟩, ?_⟩
  rw [List.any_append, hd.2, he.2]
  rfl

theorem loads_le_app {l : List Sup} {d e : List Drw} (hd : drawsF l d = true) (he : drawsF l e = true) (hn : d.length + e.length ≤ 32) (j : Nat) : nAt (loadsF l d) j ≤ nAt (loadsF l (d ++ e)) j := by
  have := loads_add (vld_of hd) (vld_of he) (vld_sup (vld_of (draws_app hd he hn))) j
  have := (loads_nonneg (vld_of he) j).1
  omega

theorem meets_fewer {l : List Sup} {r : Rls} {d e : List Drw} (hd : drawsF l d = true) (he : drawsF l e = true) (hn : d.length + e.length ≤ 32) (h : meetsF l r (d ++ e) = true) : meetsF l r d = true := by
  have hde := draws_app hd he hn
  obtain ⟨h1, h2⟩ := (meetsF_iff hde).1 h
  refine (meetsF_iff hd).2 ⟨h1, mt_fewer (vld_of hd) (vld_of hde) (atD_mono (fun x hx => List.mem_append_left _ hx)) (loads_le_app hd he hn) (fun x hx => List.mem_append_left _ hx) h2⟩

theorem draws_perm {l : List Sup} {d e : List Drw} (hp : d.Perm e) : drawsF l d = drawsF l e := by
  unfold drawsF
  rw [hp.length_eq]
  congr 2
  rw [Bool.eq_iff_iff, List.any_eq_true, List.any_eq_true]
  exact ⟨fun ⟨x, h1, h2⟩ => ⟨x, hp.mem_iff.1 h1, h2⟩, fun ⟨x, h1, h2⟩ => ⟨x, hp.mem_iff.2 h1, h2⟩⟩

theorem meets_perm {l : List Sup} {r : Rls} {d e : List Drw} (hp : d.Perm e) (h : meetsF l r d = true) (hd : drawsF l d = true) : meetsF l r e = true := by
  have he : drawsF l e = true := by rw [← draws_perm hp]; exact hd
  obtain ⟨h1, h2⟩ := (meetsF_iff hd).1 h
  refine (meetsF_iff he).2 ⟨h1, mt_fewer (vld_of he) (vld_of hd) (atD_mono fun x hx => hp.mem_iff.2 hx) (fun j => ?_) (fun x hx => hp.mem_iff.2 hx) h2⟩
  rw [loads_same (vld_of he) (vld_of hd) (fun j => (dsum_perm hp j).symm)]
  exact Int.le_refl _

theorem used_perm {l : List Sup} {d e : List Drw} (hp : d.Perm e) (hd : drawsF l d = true) : usedF l d = usedF l e := by
  have he : drawsF l e = true := by rw [← draws_perm hp]; exact hd
  refine used_same (vld_of hd) (vld_of he) fun j => ?_
  have a := atD_mono (d := d) (e := e) (fun x hx => hp.mem_iff.1 hx) j
  have b := atD_mono (d := e) (e := d) (fun x hx => hp.mem_iff.2 hx) j
  cases ha : atD d j <;> cases hb : atD e j <;> simp_all

/-- The order of the draws does not matter. -/
theorem least_perm {l : List Sup} {d e : List Drw} (hp : d.Perm e) (hd : drawsF l d = true) : leastF l d = leastF l e := by
  have he : drawsF l e = true := by rw [← draws_perm hp]; exact hd
  rcases least_best hd with ⟨h1, h2⟩ | ⟨h1, h2⟩
  · rcases least_best he with ⟨h3, h4⟩ | ⟨h3, h4⟩
    · have h5 : Best l d (leastF l e).1 := by
        refine ⟨meets_perm hp.symm h4.ok he, h4.on.trans (used_perm hp hd).symm, fun i hi => h4.zero i (by rw [← used_perm hp hd]; exact hi), fun q hq i hi => h4.least q (meets_perm hp hq hd) i (by rw [← used_perm hp hd]; exact hi)⟩
      exact Prod.ext (h2.unique hd h5) (h1.trans h3.symm)
    · have := h4 (leastF l d).1
      rw [meets_perm hp h2.ok hd] at this
      cases this
  · rcases least_best he with ⟨h3, h4⟩ | ⟨h3, h4⟩
    · have := h2 (leastF l e).1
      rw [meets_perm hp.symm h4.ok he] at this
      cases this
    · rw [h1, h3]

/-- More draws: rails of more are rails of fewer, and not below theirs. -/
theorem least_more {l : List Sup} {d e : List Drw} (hd : drawsF l d = true) (he : drawsF l e = true) (hn : d.length + e.length ≤ 32) (h : (leastF l (d ++ e)).2 = 0) :
    (leastF l d).2 = 0 ∧ ∀ k, (bAt (leastF l d).1.on k = true → bAt (leastF l (d ++ e)).1.on k = true) ∧ nAt (leastF l d).1.lev k ≤ nAt (leastF l (d ++ e)).1.lev k := by
  have hde := draws_app hd he hn
  rcases least_best hde with ⟨_, h2⟩ | ⟨h1, h2⟩
  · have hm := meets_fewer hd he hn h2.ok
    rcases least_best hd with ⟨h3, h4⟩ | ⟨h3, h4⟩
    · refine ⟨h3, fun k => ⟨fun hk => ?_, ?_⟩⟩
      · rw [h4.on] at hk
        exact (h4.least _ hm k hk).1
      · cases hu : bAt (usedF l d) k with
        | true => exact (h4.least _ hm k hu).2
        | false =>
          rw [h4.zero k hu]
          have hr := ((meetsF_iff hde).1 h2.ok).1
          by_cases hk : k < l.length
          · exact (hr.lev k hk).1
          · unfold nAt
            rw [getD_out 0 (by rw [hr.len]; omega)]
            exact Int.le_refl _
    · have := h4 (leastF l (d ++ e)).1
      rw [hm] at this
      cases this
  · rw [h1] at h
    exact absurd h (by decide)

/-! The join of two rails -/
def jnN (a b : Rls) (i : Nat) : Int := bif bAt b.on i then (if nAt b.lev i > (bif bAt a.on i then nAt a.lev i else 0) then nAt b.lev i else (bif bAt a.on i then nAt a.lev i else 0)) else (bif bAt a.on i then nAt a.lev i else 0)
def joinF (n : Nat) (a b : Rls) : Rls := ⟨(List.range n).map fun i => bAt a.on i || bAt b.on i, (List.range n).map (jnN a b)⟩

theorem rmap_get {α : Type} (f : Nat → α) (d : α) {n i : Nat} (h : i < n) : ((List.range n).map f).getD i d = f i := by
  rw [List.getD_eq_getElem?_getD, List.getElem?_map, List.getElem?_range h]
  rfl

theorem join_meets {l : List Sup} {a b : Rls} {d : List Drw} (hd : drawsF l d = true) (ha : meetsF l a d = true) (hb : meetsF l b d = true) : meetsF l (joinF l.length a b) d = true := by
  have hv := vld_of hd
  obtain ⟨ra, ma⟩ := (meetsF_iff hd).1 ha
  obtain ⟨rb, mb⟩ := (meetsF_iff hd).1 hb
  have gon : ∀ i, i < l.length → bAt (joinF l.length a b).on i = (bAt a.on i || bAt b.on i) := fun i hi => rmap_get _ _ hi
  have glv : ∀ i, i < l.length → nAt (joinF l.length a b).lev i = jnN a b i := fun i hi => rmap_get _ _ hi
  -- levels: one of both, and not below those that are on
  have hlev : ∀ i, i < l.length → (bAt a.on i = true → nAt a.lev i ≤ jnN a b i) ∧ (bAt b.on i = true → nAt b.lev i ≤ jnN a b i) ∧ (bAt a.on i = true ∧ jnN a b i = nAt a.lev i ∨ bAt b.on i = true ∧ jnN a b i = nAt b.lev i ∨ bAt a.on i = false ∧ bAt b.on i = false ∧ jnN a b i = 0) := by
    intro i hi
    have h1 := (ra.lev i hi).1
    have h2 := (rb.lev i hi).1
    unfold jnN nAt
    generalize a.lev.getD i 0 = x at *
    generalize b.lev.getD i 0 = y at *
    cases bAt a.on i <;> cases bAt b.on i <;> simp <;> (try split) <;> omega
  have hv0 : ∀ i, i < l.length → voltF l (joinF l.length a b) i = (sAt l i).lev.getD (jnN a b i).toNat 0 := fun i hi => by
    unfold voltF
    have := glv i hi
    unfold nAt at this
    rw [this]
  have hrok : Rok l (joinF l.length a b) := by
    refine ⟨by simp [joinF], by simp [joinF], fun i hi => ?_⟩
    have e := glv i hi
    unfold nAt at e
    rw [e]
    have h1 := ra.lev i hi
    have h2 := rb.lev i hi
    have h3 := (hv.sup i hi).2.2.1
    rcases (hlev i hi).2.2 with ⟨_, h⟩ | ⟨_, h⟩ | ⟨_, _, h⟩ <;> rw [h] <;> (try unfold nAt) <;> omega
  have hva : ∀ i, i < l.length → bAt a.on i = true → voltF l a i ≤ voltF l (joinF l.length a b) i := fun i hi ho => by
    rw [hv0 i hi]
    have h1 := (hlev i hi).1 ho
    have h2 := hrok.lev i hi
    have e := glv i hi
    unfold nAt at e h1
    rw [e] at h2
    unfold voltF
    have h3 := (ra.lev i hi).1
    exact asc_le (hv.lev i hi) (by omega) h2.2.1
  have hvb : ∀ i, i < l.length → bAt b.on i = true → voltF l b i ≤ voltF l (joinF l.length a b) i := fun i hi ho => by
    rw [hv0 i hi]
    have h1 := (hlev i hi).2.1 ho
    have h2 := hrok.lev i hi
    have e := glv i hi
    unfold nAt at e h1
    rw [e] at h2
    unfold voltF
    have h3 := (rb.lev i hi).1
    exact asc_le (hv.lev i hi) (by omega) h2.2.1
  refine (meetsF_iff hd).2 ⟨hrok, fun i hi => ?_, fun i hi ho hp => ?_, fun i hi ho => ?_, fun x hx => ?_⟩
  · rw [gon i (used_lt hi), ma.used i hi]; rfl
  · have hpl := (hv.sup i hi).2.1
    have hpl' : (sAt l i).par.toNat < l.length := by unfold sAt at *; omega
    rw [gon i hi, Bool.or_eq_true] at ho
    rw [gon _ hpl', hv0 i hi]
    rcases (hlev i hi).2.2 with ⟨h1, h⟩ | ⟨h1, h⟩ | ⟨h1, h2, h⟩
    · have h3 := ma.par i hi h1 hp
      rw [h3.1, h]
      exact ⟨rfl, Int.le_trans h3.2 (hva _ hpl' h3.1)⟩
    · have h3 := mb.par i hi h1 hp
      rw [h3.1, h, Bool.or_true]
      exact ⟨rfl, Int.le_trans h3.2 (hvb _ hpl' h3.1)⟩
    · rw [h1, h2] at ho
      rcases ho with ho | ho <;> cases ho
  · rw [gon i hi, Bool.or_eq_true] at ho
    rcases ho with ho | ho
    · exact ma.cap i hi ho
    · exact mb.cap i hi ho
  · have hu := used_draw hv hx
    have hlt := used_lt hu
    have h1 := ma.drw x hx
    have h2 := mb.drw x hx
    rw [hv0 _ hlt]
    rcases (hlev _ hlt).2.2 with ⟨_, h⟩ | ⟨_, h⟩ | ⟨h3, _, _⟩
    · rw [h]; exact h1
    · rw [h]; exact h2
    · rw [ma.used _ hu] at h3; cases h3

end Go.Proofs.Ytjmhlbogkeohpaa
