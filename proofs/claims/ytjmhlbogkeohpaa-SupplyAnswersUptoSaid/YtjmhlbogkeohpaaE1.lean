/- From the statement's premises to the contracts: what the arguments hold. -/
import Derived.Test.YtjmhlbogkeohpaaE0
import Derived.Deep.Slices
namespace Go.Proofs.Ytjmhlbogkeohpaa
open Go.ChangeShapes Go.WideShapes Go.ChangeAt Go.RowKit
open Go.Ab
set_option maxRecDepth 100000

theorem bulk_part {H : Type} {d : DataW H} {l : List (DataW H)} (h : d ∈ l) : Rows.uptoBulk d ≤ Rows.uptoBulkAll l := by
  induction l with
  | nil => cases h
  | cons x r ih =>
    simp only [Rows.uptoBulkAll]
    cases List.mem_cons.1 h with
    | inl e => subst e; omega
    | inr e => have := ih e; omega
theorem bulk_one {H : Type} (d : DataW H) : 1 ≤ Rows.uptoBulk d := by
  cases d with
  | lit l => cases l <;> simp [Rows.uptoBulk]
  | _ => simp [Rows.uptoBulk]
theorem bulk_len {H : Type} (l : List (DataW H)) : l.length ≤ Rows.uptoBulkAll l := by
  induction l with
  | nil => simp [Rows.uptoBulkAll]
  | cons x r ih => have := bulk_one x; simp only [Rows.uptoBulkAll, List.length_cons]; omega

/-- The cells of a value, each standing for its picture. -/
def Cs (W : World) (u : List AV) (cs : List Value) : Prop := cs.length = u.length ∧ ∀ j, j < u.length → (cs.getD j Go.undef).oneCell' = true ∧ PRep W (Old W) (nth u j) (cs.getD j Go.undef)

theorem cs_app {W : World} {A B : List AV} {X Y : List Value} (h : Cs W A X) (k : Cs W B Y) : Cs W (A ++ B) (X ++ Y) := by
  obtain ⟨h1, h2⟩ := h
  obtain ⟨k1, k2⟩ := k
  refine ⟨by simp [h1, k1], fun j hj => ?_⟩
  rw [List.length_append] at hj
  by_cases hjA : j < A.length
  · have e1 : (X ++ Y).getD j Go.undef = X.getD j Go.undef := by simp [List.getD, List.getElem?_append_left (show j < X.length by omega)]
    have e2 : nth (A ++ B) j = nth A j := nth_append_l A B j hjA
    rw [e1, e2]; exact h2 j hjA
  · have e1 : (X ++ Y).getD j Go.undef = Y.getD (j - A.length) Go.undef := by simp [List.getD, List.getElem?_append_right (show X.length ≤ j by omega), h1]
    have e2 : nth (A ++ B) j = nth B (j - A.length) := nth_append_r A B j (by omega)
    rw [e1, e2]; exact k2 _ (by omega)
theorem cs_cons {W : World} {A B : List AV} {cs : List Value} {o s : Nat} (h : Cs W A ((cs.drop o).take s)) (k : Cs W B (cs.drop (o + s))) : Cs W (A ++ B) (cs.drop o) := by
  have := cs_app h k
  rwa [← List.drop_drop, List.take_append_drop] at this
theorem cs_one {W : World} {a : AV} {v : Value} (h1 : v.oneCell' = true) (h : PRep W (Old W) a v) : Cs W [a] [v] :=
  ⟨rfl, fun j hj => by
    have : j = 0 := by simpa using hj
    subst this; exact ⟨h1, h⟩⟩

section
variable {H : Type} {enc : TypeId × Value → H} {W : World}

def Rd (enc : TypeId × Value → H) (W : World) (t : TypeId) {α : Type} (f : α → AV) (q : α → Prop) : Prop :=
  ∀ n cs x, DataW.trod enc Try.prog W 0 (fun _ => true) true n t cs = some x → Rows.uptoBulk x.1 ≤ 1048576 → ∃ a, q a ∧ Cs W (f a).cells cs
def RdF (enc : TypeId × Value → H) (W : World) (fs : List Field) (o tot : Nat) {α : Type} (f : α → List AV) (q : α → Prop) : Prop :=
  ∀ n (cs : List Value) (xs : List (DataW H × List MemPlace)), cs.length = tot → xs.length = fs.length →
    (∀ (i : Nat) (fl : Field), fs[i]? = some fl → DataW.trod enc Try.prog W 0 (fun _ => true) true n fl.type ((cs.drop fl.offset).take (Try.prog.cellsOf fl.type)) = xs[i]?) →
    Rows.uptoBulkAll (xs.map (·.1)) ≤ 1048576 → ∃ a, q a ∧ Cs W (f a) (cs.drop o)

theorem rd_int {t : TypeId} {k : IntKind} (ht : Try.prog.underlying t = some (.int k)) : Rd enc W t (AV.int k) (fun n => (Lit.int k n).wf = true) := fun n cs x h _ => by
  obtain ⟨z, rfl, _, hw⟩ := DataW.trod_int ht h
  exact ⟨z, hw, cs_one rfl (.int _ _)⟩
theorem rd_bool {t : TypeId} (ht : Try.prog.underlying t = some .bool) : Rd enc W t AV.bool (fun _ => True) := fun n cs x h _ => by
  obtain ⟨z, rfl, _⟩ := DataW.trod_bool ht h
  exact ⟨z, trivial, cs_one rfl (.bool _)⟩
theorem rd_str {t : TypeId} (ht : Try.prog.underlying t = some .string) : Rd enc W t AV.str (fun s => s.size ≤ 1048576) := fun n cs x h hb => by
  obtain ⟨z, rfl, rfl, _⟩ := DataW.trod_string ht h
  refine ⟨z, ?_, cs_one rfl (.str _)⟩
  simp only [Rows.uptoBulk, Array.length_toList, ByteArray.size_data] at hb
  omega

theorem rdf_nil {tot : Nat} : RdF enc W [] tot tot (fun _ : Unit => []) (fun _ => True) := fun n cs xs hl _ _ _ =>
  ⟨(), trivial, by rw [List.drop_eq_nil_of_le (by omega)]; exact ⟨rfl, fun j hj => absurd hj (Nat.not_lt_zero _)⟩⟩
theorem rdf_cons {f0 : Field} {fs : List Field} {o o' tot : Nat} {α β : Type} {F : α → AV} {Q : α → Prop} {f : β → List AV} {q : β → Prop}
    (hr : Rd enc W f0.type F Q) (ho : f0.offset = o) (hs : o + Try.prog.cellsOf f0.type = o') (r : RdF enc W fs o' tot f q) :
    RdF enc W (f0 :: fs) o tot (fun p : α × β => (F p.1).cells ++ f p.2) (fun p => Q p.1 ∧ q p.2) := fun n cs xs hl hx hf hb => by
  match xs, hx with
  | x :: xs, hx =>
    simp only [List.map_cons, Rows.uptoBulkAll] at hb
    obtain ⟨a, ha, ca⟩ := hr _ _ _ (hf 0 f0 rfl) (by omega)
    obtain ⟨b, hb', cb⟩ := r n cs xs hl (by simpa using hx) (fun i fl hi => hf (i + 1) fl hi) (by omega)
    subst ho hs
    exact ⟨(a, b), ⟨ha, hb'⟩, cs_cons ca cb⟩
theorem rd_struct {t : TypeId} {fs : Array Field} {tot : Nat} {α β : Type} {f : α → List AV} {q : α → Prop} (F : β → AV) (Q : β → Prop) (g : α → β) (ht : Try.prog.underlying t = some (.struct fs)) (hc : Try.prog.cellsOf t = tot)
    (r : RdF enc W fs.toList 0 tot f q) (hg : ∀ a, (F (g a)).cells = f a) (hq : ∀ a, q a → Q (g a)) : Rd enc W t F Q := fun n cs x h hb => by
  obtain ⟨xs, m, _, rfl, hl, hlen, hf⟩ := DataW.trod_struct ht h
  simp only [Rows.uptoBulk] at hb
  obtain ⟨a, ha, ca⟩ := r m cs xs (by rw [hl, hc]) (by rw [hlen]; simp) (fun i fl hi => hf i fl (by simpa using hi)) (by omega)
  exact ⟨g a, hq a ha, by rw [hg]; simpa using ca⟩

theorem rd_slice {t e : TypeId} {α : Type} {F : α → AV} {Q : α → Prop} (d : α) (es : Nat) (ht : Try.prog.underlying t = some (.slice e)) (hc : Try.prog.cellsOf e = es) (hp : 0 < es) (hes : ∀ a, (F a).cells.length = es)
    (r : Rd enc W e F Q) : Rd enc W t (fun l : List α => .sl es l.length false (rowG F d l)) (fun l => l.length ≤ 1048576 ∧ ∀ x ∈ l, Q x) := fun n cs x h hb => by
  rcases Deep.open_slice ht h with ⟨rfl, rfl⟩ | ⟨a, len, cap, m, k, D, Pl, rfl, _, hl, hm, hmm, rfl, hx⟩
  · exact ⟨[], ⟨Nat.zero_le _, fun x hx => (by cases hx)⟩, cs_one rfl (.sl 0 0 (fun _ _ => Go.undef) (Nat.le_refl _) nofun (fun h => absurd rfl h) (fun i hi => by cases hi) (fun i j hi => by cases hi) (fun i j hi => by cases hi) (fun i j hi => by cases hi))⟩
  · simp only [if_true] at hmm
    subst hmm
    simp only [Rows.uptoBulk] at hb
    letI : Inhabited (α × List Value) := ⟨(d, [])⟩
    obtain ⟨X, hX⟩ := Deep.choose_lt (α := α × List Value) (n := len) (p := fun i y => Q y.1 ∧ W.cells? 0 (a.add (i * es)) es = some y.2 ∧ Cs W (F y.1).cells y.2) (fun i hi => by
      obtain ⟨cs', h1, h2⟩ := hx i (by omega)
      obtain ⟨y, hy, cy⟩ := r _ _ _ h2 (Nat.le_trans (bulk_part (l := (List.range len).map D) (List.mem_map.2 ⟨i, List.mem_range.2 hi, rfl⟩)) (by omega))
      rw [hc] at h1
      exact ⟨(y, cs'), hy, h1, cy⟩)
    have hlen := bulk_len ((List.range len).map D)
    rw [List.length_map, List.length_range] at hlen
    refine ⟨(List.range len).map fun i => (X i).1, ⟨by simp; omega, fun x hx => ?_⟩, cs_one rfl ?_⟩
    · obtain ⟨i, hi, rfl⟩ := List.mem_map.1 hx
      exact (hX i (List.mem_range.1 hi)).1
    · have hln : ((List.range len).map fun i => (X i).1).length = len := by simp
      show PRep W (Old W) (.sl es ((List.range len).map fun i => (X i).1).length false _) _
      rw [hln]
      have hg : ∀ i, i < len → rowG F d ((List.range len).map fun i => (X i).1) i = F (X i).1 := fun i hi => by
        show F (((List.range len).map fun i => (X i).1).getD i d) = _
        simp [List.getD, hi]
      have hsp0 : 0 < len → a.spot = none := fun h0 => by
        obtain ⟨_, e1, e2⟩ := World.cells?_some (hX 0 h0).2.1
        have e3 := e2 0 hp
        rw [Deep.add_add, List.getElem?_eq_getElem (by omega), Nat.zero_mul] at e3
        exact World.cell?_spot e3
      have hcell : ∀ i j, i < len → j < es → a.spot = none ∧ a.block < W.heap.size ∧ W.cell? ⟨a.block, a.off + (i * es + j), none⟩ = some ((X i).2.getD j Go.undef) := fun i j hi hj => by
        obtain ⟨_, e1, e2⟩ := World.cells?_some (hX i hi).2.1
        have e3 := e2 j hj
        rw [Deep.add_add, List.getElem?_eq_getElem (by omega)] at e3
        have hsp := hsp0 (by omega)
        have hbk := World.block_lt_of_cell? _ _ e3
        obtain ⟨b, off, sp⟩ := a
        simp only at hsp
        subst hsp
        refine ⟨rfl, ?_, ?_⟩
        · unfold Addr.add at hbk
          split at hbk <;> exact hbk
        · rw [add_plain] at e3
          rw [e3]
          simp [List.getD, List.getElem?_eq_getElem (show j < (X i).2.length by omega)]
      have hc3 : ∀ i j, i < len → j < es → ((X i).2.getD j Go.undef).oneCell' = true ∧ PRep W (Old W) (nth (F (X i).1).cells j) ((X i).2.getD j Go.undef) := fun i j hi hj =>
        (hX i hi).2.2.2 j (by rw [hes]; exact hj)
      refine .sl a.block a.off (fun i j => (X i).2.getD j Go.undef) hl nofun (fun hn => ?_) (fun i hi => by rw [hg i hi]; exact hes _) (fun i j hi hj => (hcell i j hi hj).2.2) (fun i j hi hj => (hc3 i j hi hj).1) (fun i j hi hj => by rw [hg i hi]; exact (hc3 i j hi hj).2)
      have h0 := hcell 0 0 (by omega) hp
      refine ⟨?_, h0.2.1⟩
      obtain ⟨b, off, sp⟩ := a
      simp only at h0
      rw [h0.1]

theorem rd_arg1 {t : TypeId} {α : Type} {F : α → AV} {Q : α → Prop} {v : Value} {d : DataW H} {ps : List MemPlace} (r : Rd enc W t F Q) (hv : v.cells = #[v]) (hF : ∀ a, (F a).cells = [F a]) (h : DataW.Trod enc Try.prog W 0 (fun _ => true) true t v d ps) (hb : Rows.uptoBulk d ≤ 1048576) : ∃ a, Q a ∧ PRep W (Old W) (F a) v := by
  obtain ⟨n, hn⟩ := h
  obtain ⟨a, ha, ca⟩ := r _ _ _ hn hb
  rw [hv, hF] at ca
  exact ⟨a, ha, (ca.2 0 Nat.zero_lt_one).2⟩
theorem rd_argS {t : TypeId} {α : Type} {F : α → AV} {Q : α → Prop} {v : Value} {d : DataW H} {ps : List MemPlace} (r : Rd enc W t F Q) (hv : ∃ vs : Array Value, v = .agg vs) (hF : ∀ a, F a = .agg (F a).cells) (h : DataW.Trod enc Try.prog W 0 (fun _ => true) true t v d ps) (hb : Rows.uptoBulk d ≤ 1048576) : ∃ a, Q a ∧ PRep W (Old W) (F a) v := by
  obtain ⟨vs, rfl⟩ := hv
  obtain ⟨n, hn⟩ := h
  obtain ⟨a, ha, ca⟩ := r _ _ _ hn hb
  refine ⟨a, ha, ?_⟩
  rw [hF a]
  have e : (Value.agg vs).cells.toList = vs.toList := rfl
  rw [e] at ca
  refine .agg (by simpa using ca.1) (fun j hj => ?_)
  have := (ca.2 j hj).2
  have e2 : vs.toList.getD j Go.undef = vs.getD j Go.undef := by
    rw [List.getD_eq_getElem?_getD, Array.getElem?_toList, Array.getD_eq_getD_getElem?]
  rwa [e2] at this
end
end Go.Proofs.Ytjmhlbogkeohpaa
