/- The layer: an abstract machine over the model's code and the proof that it is sound. -/
import Derived.Test.YtjmhlbogkeohpaaL0
import Derived.Laws.Append
import Derived.Deep.Upon
namespace Go.Ab
section
variable {P : Program} {cfg : Cfg} {cx : Ctx} {H : Nat → Option AObj} {D : Nat → Prop} {w : World} {I : Nat → Prop} {O : OM} {Sp : SpecT}
variable {nid : Nat} {o : Oper} {a : Act} {ρ : Operand → AV} {v : AV} {ups : Ups} {r : List Nat}

theorem CfgOK.agg (hc : CfgOK P cfg) {t : TypeId} {ti : TyI} (h : look cfg.ty t = some ti) : ∃ i d, P.info? t = some i ∧ P.underlying t = some d ∧ d.isRow = ti.agg ∧ i.size = ti.size := by
  obtain ⟨i, d, z, h1, h2, h3, h4, h5, h6, _⟩ := (hc.ty t ti h).ex
  exact ⟨i, d, h1, h2, h6, h4⟩

theorem run_isAgg {t : TypeId} {d : TypeDesc} (h : P.underlying t = some d) (w : World) : (isAgg t).run P w = .ok d.isRow w := by
  unfold isAgg
  rw [Sem.run_bind, run_underlying' h w]
  cases d <;> simp

/-- Cells in memory, read as a value. -/
theorem run_load_cells (hc : CfgOK P cfg) {t : TypeId} {ti : TyI} (ht : look cfg.ty t = some ti) {cs : List AV} (h : EvR Sp H (loadPg ti cs) v ups r) (b bo : Nat) (f : Nat → Value)
    (hm : ∀ j, j < cs.length → w.cell? ⟨b, bo + j, none⟩ = some (f j)) (hr : ∀ j, j < cs.length → Rep w I O D (nth cs j) (f j)) :
    ups = [] ∧ ∃ x, (Instr.loadAt t (.pointer (some ⟨b, bo, none⟩))).run P w = .ok x w ∧ Rep w I O D v x := by
  obtain ⟨i, d, hi, hu, hd, hs⟩ := hc.agg ht
  unfold loadPg at h
  cases ha : ti.agg with
  | true =>
    simp only [ha] at h
    obtain ⟨hl, h1⟩ := h.chk_inv
    obtain ⟨rfl, rfl⟩ := h1.ret1_inv
    have hl : ti.size ≤ cs.length := by simpa using hl
    refine ⟨rfl, .agg ((List.range ti.size).map f).toArray, ?_, .agg (by simp [Nat.min_eq_left hl]) fun j hj => ?_⟩
    · refine run_loadAt_mid w b bo t _ d (fun j u hj => ?_) hu (by rw [hd, ha]) (by simp [hi, hs])
      have hlt : j < ti.size := by
        rcases Nat.lt_or_ge j ti.size with h | h
        · exact h
        · simp [h] at hj
      simp [hlt] at hj
      rw [← hj]
      exact hm j (by omega)
    · have hj' : j < ti.size := by simp at hj; omega
      have e : nth (List.take ti.size cs) j = nth cs j := by simp [nth_eq, hj']
      rw [e]
      simpa [hj'] using hr j (by omega)
  | false =>
    simp only [ha] at h
    cases cs with
    | nil => exact (EvR.fail_inv h).elim
    | cons c cs =>
      obtain ⟨rfl, rfl⟩ := h.ret1_inv
      refine ⟨rfl, f 0, ?_, hr 0 (by simp)⟩
      have h0 := hm 0 (by simp)
      have hag : (isAgg t).run P w = .ok false w := by rw [run_isAgg hu, hd, ha]
      simp only [Nat.add_zero] at h0
      simp [Instr.loadAt, Instr.sureAddr, loadVar, Sem.run_bind, hag, load, Sem.run, h0]

theorem Rel.live (hR : Rel cfg cx H D w I O) {ob : Nat} {x : AObj} (h : H ob = some x) : ∃ p, O ob = some p ∧ ObjRep w I O D p x := by
  cases hp : O ob with
  | none => rw [(hR.dom ob).1 hp] at h; cases h
  | some p => exact ⟨p, rfl, hR.objs ob x p h hp⟩

theorem cellAt_eq {b sz j : Nat} (h : Alive w b sz) (hj : j < sz) : w.cell? ⟨b, j, none⟩ = some (cellAt w b j) := by
  obtain ⟨u, hu⟩ := Option.isSome_iff_exists.1 (h j hj).1
  simp [cellAt, hu]

theorem op_load (hc : CfgOK P cfg) (hR : Rel cfg cx H D w I O) {t : TypeId} {x : Operand} (ho : o.op = .load t x) (hx : Rep w I O D (ρ x) (a.eval x))
    (h : EvR Sp H (opPg cfg nid (.load t x) ρ) v ups r) : OpOK P cfg cx H D w I O nid o a v ups := by
  simp only [opPg] at h
  obtain ⟨ti, ht, h1⟩ := h.ty_inv
  split at h1
  · rename_i ob i off e
    rw [e] at hx
    obtain ⟨obj, _, hob, h2⟩ := h1.rd_inv
    obtain ⟨p, hp, hO⟩ := hR.live hob
    obtain ⟨b, bo, sz, hpl, hi, hxv⟩ := hx.ptr_inv hp
    cases obj with
    | box cs =>
      obtain ⟨hn, b', bo', sz', hpl', hal, hle, hcs⟩ := hO
      rw [hpl] at hpl'
      cases hpl'
      have hi0 : i = 0 := by omega
      subst hi0
      obtain ⟨rfl, x', hrun, hrep⟩ := run_load_cells (w := w) (I := I) (O := O) (D := D) hc ht h2 b (bo + off) (fun j => cellAt w b (bo + (off + j)))
        (fun j hj => by rw [Nat.add_assoc]; exact cellAt_eq hal (by simp at hj; omega)) (fun j hj => by rw [nth_drop]; exact hcs (off + j) (by simp at hj; omega))
      refine OpOK.of_pure hR ?_ hrep
      simp only [Nat.zero_mul, Nat.zero_add] at hxv
      simp [execOp, ho, hxv, hrun]
    | row es n g =>
      obtain ⟨hn, hes, hlen, hpl' | ⟨b', bo', sz', hpl', hal, hle, hcs⟩⟩ := hO
      · rw [hpl] at hpl'; cases hpl'.2
      rw [hpl] at hpl'
      cases hpl'
      obtain ⟨hk, h3⟩ := h2.chk_inv
      have hin : i < n := by omega
      have hmul : (i + 1) * es ≤ n * es := Nat.mul_le_mul_right _ hin
      have hmul' : (i + 1) * es = i * es + es := Nat.succ_mul _ _
      have hli := hlen i hin
      obtain ⟨rfl, x', hrun, hrep⟩ := run_load_cells (w := w) (I := I) (O := O) (D := D) hc ht h3 b (bo + (i * es + off)) (fun j => cellAt w b (bo + (i * es + (off + j))))
        (fun j hj => by
          have : bo + (i * es + off) + j = bo + (i * es + (off + j)) := by omega
          rw [this]
          exact cellAt_eq hal (by simp at hj; omega)) (fun j hj => by rw [nth_drop]; exact .pure (hcs i (off + j) hin (by simp at hj; omega)).1)
      refine OpOK.of_pure hR ?_ hrep
      rw [hes] at hxv
      simp [execOp, ho, hxv, hrun]
    | held a0 c0 es n g =>
      obtain ⟨⟨hn, hes, hlen, hpl' | ⟨b', bo', sz', hpl', hal, hle, hcs⟩⟩, _⟩ := hO
      · rw [hpl] at hpl'; cases hpl'.2
      rw [hpl] at hpl'
      cases hpl'
      obtain ⟨hk, h3⟩ := h2.chk_inv
      have hin : i < n := by omega
      have hmul : (i + 1) * es ≤ n * es := Nat.mul_le_mul_right _ hin
      have hmul' : (i + 1) * es = i * es + es := Nat.succ_mul _ _
      have hli := hlen i hin
      obtain ⟨rfl, x', hrun, hrep⟩ := run_load_cells (w := w) (I := I) (O := O) (D := D) hc ht h3 b (bo + (i * es + off)) (fun j => cellAt w b (bo + (i * es + (off + j))))
        (fun j hj => by
          have : bo + (i * es + off) + j = bo + (i * es + (off + j)) := by omega
          rw [this]
          exact cellAt_eq hal (by simp at hj; omega)) (fun j hj => by rw [nth_drop]; exact .pure (hcs i (off + j) hin (by simp at hj; omega)).1)
      refine OpOK.of_pure hR ?_ hrep
      rw [hes] at hxv
      simp [execOp, ho, hxv, hrun]
  · rename_i cs e
    rw [e] at hx
    generalize hxv : a.eval x = xv at hx
    cases hx.ro_inv with
    | ro b off vs hI hm hr =>
      obtain ⟨rfl, x', hrun, hrep⟩ := run_load_cells (w := w) (I := I) (O := O) (D := D) hc ht h1 b off vs hm (fun j hj => .pure (hr j hj))
      exact OpOK.of_pure hR (by simp [execOp, ho, hxv, hrun]) hrep
  · exact (EvR.fail_inv h1).elim

theorem op_field (hc : CfgOK P cfg) (hR : Rel cfg cx H D w I O) {s : TypeId} {x : Operand} {f : Nat} (ho : o.op = .field s x f) (hx : Rep w I O D (ρ x) (a.eval x))
    (h : EvR Sp H (opPg cfg nid (.field s x f) ρ) v ups r) : OpOK P cfg cx H D w I O nid o a v ups := by
  simp only [opPg] at h
  obtain ⟨ts, hs, h1⟩ := h.ty_inv
  split at h1
  · rename_i oo t hf
    obtain ⟨ti, ht, h2⟩ := h1.ty_inv
    obtain ⟨fields, fd, hu, hfd, ho1, ho2⟩ := hc.field hs hf
    obtain ⟨i, d, hi, hu', hd, hsz⟩ := hc.agg ht
    split at h2
    · rename_i cs e
      rw [e] at hx
      obtain ⟨vs, hxv, hl, hr⟩ := hx.agg_inv
      have hag := run_isAgg hu' w
      unfold loadPg at h2
      cases ha : ti.agg with
      | true =>
        simp only [ha] at h2
        obtain ⟨hle, h3⟩ := h2.chk_inv
        obtain ⟨rfl, rfl⟩ := h3.ret1_inv
        have hle : ti.size ≤ cs.length - oo := by simpa using hle
        rw [hd, ha] at hag
        have e1 : (part t vs oo).run P w = .ok (.agg (vs.extract oo (oo + ti.size))) w := by simp [part, Sem.run_bind, hag, run_sizeOf' hi, hsz]
        refine OpOK.of_pure (x := .agg (vs.extract oo (oo + ti.size))) hR ?_ (.agg ?_ fun j hj => ?_)
        · rw [← ho2] at e1
          simp only [execOp, ho, Instr.field, hxv, Sem.run_bind, run_underlying' hu, hfd, asAgg, Sem.run_pure, Result.andThen_ok, e1, ho1]
        · simp; omega
        · have hj' : j < ti.size := by simp at hj; omega
          have := hr (oo + j) (by omega)
          have e : nth (List.take ti.size (List.drop oo cs)) j = nth cs (oo + j) := by simp [nth_eq, hj']
          rw [e]
          have h4 : oo + j < vs.size := by omega
          simp [h4] at this
          have h5 : (vs.extract oo (oo + ti.size))[j]? = vs[oo + j]? := by
            rw [Array.getElem?_extract, if_pos (by omega)]
          simp only [Array.getD_eq_getD_getElem?, h5]
          simpa [h4] using this
      | false =>
        simp only [ha] at h2
        rw [hd, ha] at hag
        cases hcs : List.drop oo cs with
        | nil => simp only [hcs] at h2; exact (EvR.fail_inv h2).elim
        | cons c l =>
          simp only [hcs] at h2
          obtain ⟨rfl, rfl⟩ := h2.ret1_inv
          have hlt : oo < cs.length := by
            rcases Nat.lt_or_ge oo cs.length with h | h
            · exact h
            · rw [List.drop_eq_nil_of_le h] at hcs; cases hcs
          have hc0 : nth cs oo = v := by
            have := nth_drop cs oo 0
            rw [hcs] at this
            simpa [nth] using this.symm
          have h4 : oo < vs.size := by omega
          have e1 : (part t vs oo).run P w = .ok (vs.getD oo Go.undef) w := by simp [part, Sem.run_bind, hag, Array.getElem?_eq_getElem h4]
          refine OpOK.of_pure (x := vs.getD oo Go.undef) hR ?_ (hc0 ▸ hr oo hlt)
          rw [← ho2] at e1
          simp only [execOp, ho, Instr.field, hxv, Sem.run_bind, run_underlying' hu, hfd, asAgg, Sem.run_pure, Result.andThen_ok, e1, ho1]
    · exact (EvR.fail_inv h2).elim
  · exact (EvR.fail_inv h1).elim

theorem esOk_spec {es n size : Nat} (h : esOk es n size = true) (hn : n ≠ 0) : es = size := by
  unfold esOk at h
  cases hb : Nat.beq es size with
  | true => exact Nat.eq_of_beq_eq_true hb
  | false =>
    simp only [hb] at h
    cases n with
    | zero => exact absurd rfl hn
    | succ n => simp [isZ] at h

theorem addN_eq (i j : Nat) : addN i j = i + j := by cases i <;> simp [addN]

theorem op_indexAddr (hc : CfgOK P cfg) (hR : Rel cfg cx H D w I O) {t : TypeId} {x ix : Operand} (ho : o.op = .indexAddr t x ix) (hx : Rep w I O D (ρ x) (a.eval x)) (hix : Rep w I O D (ρ ix) (a.eval ix))
    (h : EvR Sp H (opPg cfg nid (.indexAddr t x ix) ρ) v ups r) : OpOK P cfg cx H D w I O nid o a v ups := by
  simp only [opPg] at h
  obtain ⟨tt, e, ti, h1, h2, h3, h4⟩ := h.elem_inv
  obtain ⟨hu, i, z, hi, hz, hs, hby, hzs⟩ := hc.slice h1 h2 h3
  split at h4
  · rename_i k n eix
    rw [eix] at hix
    have hixv := hix.int_inv
    split at h4
    · rename_i es m full g ex
      rw [ex] at hx
      obtain ⟨hes, h5⟩ := h4.chk_inv
      obtain ⟨⟨hn0, hn1⟩, rfl, rfl⟩ := h5.need1_inv
      generalize hxv : a.eval x = xv at hx
      cases hx.sl_inv with
      | @sl _ _ _ _ aa cap b off vs hcap hfull ha hes' hm h1 hr =>
        have hm0 : m ≠ 0 := by omega
        obtain ⟨rfl, hI⟩ := ha hm0
        have hesz := esOk_spec hes hm0
        have hnm : n.toNat < m := by omega
        refine OpOK.of_pure (x := .pointer (some ⟨b, off + n.toNat * es, none⟩)) hR ?_ (.pure (.ro b (off + n.toNat * es) (fun j => vs n.toNat j) hI (fun j hj => ?_) fun j hj => hr _ _ hnm (by rw [hes' _ hnm] at hj; exact hj)))
        · simp [execOp, ho, hxv, hixv, Instr.indexAt, asIntOf, run_underlying' hu, run_sizeOf' hi, hn0, hn1, hs, hesz, Addr.add_mid]
        · rw [Nat.add_assoc]
          exact hm _ _ hnm (by rw [hes' _ hnm] at hj; exact hj)
    · rename_i ob j m full ex
      rw [ex] at hx
      obtain ⟨obj, _, hob, h5⟩ := h4.rd_inv
      obtain ⟨p, hp, hO⟩ := hR.live hob
      cases obj with
      | box cs => exact (EvR.fail_inv h5).elim
      | held => exact (EvR.fail_inv h5).elim
      | row es n' g =>
        obtain ⟨hes, h6⟩ := h5.chk_inv
        have hes : es = ti.size := Nat.eq_of_beq_eq_true hes
        obtain ⟨⟨hn0, hn1⟩, rfl, rfl⟩ := h6.need1_inv
        obtain ⟨aa, cap, hxv, hjm, hcap, hfull, hpl⟩ := hx.osl_inv hp
        obtain ⟨b, bo, sz, hpl1, rfl, hle⟩ := hpl (by omega)
        have hpes : p.es = es := hO.2.1
        have hnm : n.toNat < m := by omega
        rw [addN_eq]
        have : bo + j * p.es + n.toNat * p.es = bo + ((j + n.toNat) * p.es + 0) := by rw [Nat.add_mul]; omega
        refine OpOK.of_pure (x := .pointer (some ⟨b, bo + ((j + n.toNat) * p.es + 0), none⟩)) hR ?_ (.ptr hp hpl1 (by omega))
        rw [← this]
        simp [execOp, ho, hxv, hixv, Instr.indexAt, asIntOf, run_underlying' hu, run_sizeOf' hi, hn0, hn1, hs, ← hes, hpes, Addr.add_mid]
    · rename_i ob aa m cap ex
      rw [ex] at hx
      obtain ⟨obj, _, hob, h5⟩ := h4.rd_inv
      obtain ⟨p, hp, hO⟩ := hR.live hob
      cases obj with
      | box cs => exact (EvR.fail_inv h5).elim
      | row => exact (EvR.fail_inv h5).elim
      | held a0 c0 es n' g =>
        obtain ⟨hes, h6⟩ := h5.chk_inv
        have hes : es = ti.size := Nat.eq_of_beq_eq_true hes
        obtain ⟨⟨⟨rfl, rfl, rfl⟩, hn0, hn1⟩, rfl, rfl⟩ := h6.need1_inv
        obtain ⟨⟨hpn, hpes, _⟩, hcap, hpl⟩ := hO
        obtain ⟨b, bo, sz, hpl1, rfl, hle⟩ := hpl (by omega)
        have hxv : a.eval x = .slice (some ⟨b, bo, none⟩) m cap := by
          generalize a.eval x = y at hx
          cases hx with | pure hp => cases hp; rfl
        have hnm : n.toNat < m := by omega
        have : bo + n.toNat * p.es = bo + (n.toNat * p.es + 0) := by omega
        refine OpOK.of_pure (x := .pointer (some ⟨b, bo + (n.toNat * p.es + 0), none⟩)) hR ?_ (.ptr hp hpl1 (by omega))
        rw [← this]
        simp [execOp, ho, hxv, hixv, Instr.indexAt, asIntOf, run_underlying' hu, run_sizeOf' hi, hn0, hn1, hs, ← hes, hpes, Addr.add_mid]
    · exact (EvR.fail_inv h4).elim
  · exact (EvR.fail_inv h4).elim

end
end Go.Ab

namespace Go.Ab
section
variable {P : Program} {cfg : Cfg} {cx : Ctx} {H : Nat → Option AObj} {D : Nat → Prop} {w : World} {I : Nat → Prop} {O : OM} {Sp : SpecT}
variable {nid : Nat} {o : Oper} {a : Act} {ρ : Operand → AV} {v : AV} {ups : Ups} {r : List Nat}

theorem run_slice_val {t e : TypeId} {i : TypeInfo} (hu : P.underlying t = some (.slice e)) (hi : P.info? e = some i) (aa : Option Addr) (len cap : Nat) (lo hi' mx : Option Value) (l h m : Nat)
    (hb : (Instr.sliceBounds true len cap lo hi' mx).run P w = .ok (l, h, m) w) :
    (Instr.sliceAt t (.slice aa len cap) lo hi' mx).run P w = .ok (.slice (if m = l then aa else aa.map (·.add (l * i.size))) (h - l) (m - l)) w := by
  simp [Instr.sliceAt, Instr.slice, run_underlying' hu, hb, run_sizeOf' hi]

theorem bnd0 (len cap : Nat) : (Instr.sliceBounds true len cap none none none).run P w = .ok (0, len, cap) w := by
  simp [Instr.sliceBounds]
theorem bnd1 (len cap : Nat) (k : IntKind) (h : Int) (h0 : 0 ≤ h) (h1 : h ≤ cap) : (Instr.sliceBounds true len cap none (some (.int k h)) none).run P w = .ok (0, h.toNat, cap) w := by
  simp [Instr.sliceBounds, Instr.sliceBound, asIntOf, h0, h1]
theorem bnd1' (len cap : Nat) (k : IntKind) (h : Int) (h0 : 0 ≤ h) (h1 : h ≤ cap) : (Instr.sliceBounds true len cap none (some (.int k h)) (some (.int k h))).run P w = .ok (0, h.toNat, h.toNat) w := by
  obtain ⟨n, rfl⟩ := Int.eq_ofNat_of_zero_le h0
  simp at h1
  simp [Instr.sliceBounds, Instr.sliceBound, asIntOf, h1]
theorem bnd2 (len cap : Nat) (k : IntKind) (l : Int) (h0 : 0 ≤ l) (h1 : l ≤ len) : (Instr.sliceBounds true len cap (some (.int k l)) none none).run P w = .ok (l.toNat, len, cap) w := by
  simp [Instr.sliceBounds, Instr.sliceBound, asIntOf, h0, h1]
theorem bnd3 (len cap : Nat) (k k' : IntKind) (l h : Int) (h0 : 0 ≤ l) (h1 : l ≤ h) (h2 : h ≤ cap) : (Instr.sliceBounds true len cap (some (.int k l)) (some (.int k' h)) none).run P w = .ok (l.toNat, h.toNat, cap) w := by
  obtain ⟨n, rfl⟩ := Int.eq_ofNat_of_zero_le h0
  obtain ⟨m, rfl⟩ := Int.eq_ofNat_of_zero_le (Int.le_trans h0 h1)
  simp at h1 h2
  simp [Instr.sliceBounds, Instr.sliceBound, asIntOf, h1, h2]
theorem bnd3' (len cap : Nat) (k k' : IntKind) (l h : Int) (h0 : 0 ≤ l) (h1 : l ≤ h) (h2 : h ≤ cap) : (Instr.sliceBounds true len cap (some (.int k l)) (some (.int k' h)) (some (.int k' h))).run P w = .ok (l.toNat, h.toNat, h.toNat) w := by
  obtain ⟨n, rfl⟩ := Int.eq_ofNat_of_zero_le h0
  obtain ⟨m, rfl⟩ := Int.eq_ofNat_of_zero_le (Int.le_trans h0 h1)
  simp at h1 h2
  simp [Instr.sliceBounds, Instr.sliceBound, asIntOf, h1, h2]

theorem prep_slice {es n cap size l h m : Nat} {full full' : Bool} {g : Nat → AV} {aa : Option Addr} (hp : PRep w I (.sl es n full g) (.slice aa n cap)) (hlh : l ≤ h) (hhn : h ≤ n) (hhm : h ≤ m) (_hmc : m ≤ cap)
    (hf : full' = true → m = h) (hs : n ≠ 0 → es = size) : PRep w I (.sl es (h - l) full' (fun j => g (l + j))) (.slice (if m = l then aa else aa.map (·.add (l * size))) (h - l) (m - l)) := by
  cases hp with
  | sl b off vs hcap hfull ha hes hm h1 hr =>
    refine .sl b (off + l * es) (fun i j => vs (l + i) j) (by omega) (fun e => by have := hf e; omega) (fun hne => ?_) (fun i hi => hes _ (by omega)) (fun i j hi hj => ?_) (fun i j hi hj => h1 _ _ (by omega) hj) (fun i j hi hj => hr _ _ (by omega) hj)
    · obtain ⟨h1, h2⟩ := ha (by omega)
      rw [if_neg (by omega), h1, hs (by omega)]
      simp [Addr.add_mid, h2]
    · have := hm (l + i) j (by omega) hj
      rw [← this, Nat.add_mul]
      congr 2
      omega

theorem rep_oslice {ob i n cap size l h m : Nat} {full full' : Bool} {aa : Option Addr} {p : Own} (hp : O ob = some p) (hx : Rep w I O D (.osl ob i n full) (.slice aa n cap)) (hlh : l ≤ h) (hhn : h ≤ n) (hhm : h ≤ m) (hmc : m ≤ cap)
    (hf : full' = true → m = h) (hs : p.es = size) : Rep w I O D (.osl ob (i + l) (h - l) full') (.slice (if m = l then aa else aa.map (·.add (l * size))) (h - l) (m - l)) := by
  obtain ⟨a', cap', he, h1, h2, h3, h4⟩ := hx.osl_inv hp
  cases he
  refine .osl hp (by omega) (by omega) (fun e => by have := hf e; omega) (fun hne => ?_)
  obtain ⟨b, bo, sz, h5, h6, h7⟩ := h4 (by omega)
  refine ⟨b, bo, sz, h5, ?_, Nat.le_trans (Nat.add_le_add_left (Nat.mul_le_mul_right _ (by omega)) _) h7⟩
  rw [if_neg (by omega), h6]
  simp [Addr.add_mid, ← hs, Nat.add_mul]
  omega

theorem sameOperand_spec {x y : Option Operand} (h : sameOperand x y = true) : x = y := by
  unfold sameOperand at h
  split at h
  · rw [Nat.eq_of_beq_eq_true h]
  · cases h

theorem noMax {mx : Option Operand} (h : (!mx.isSome) = true) : mx = none := by
  cases mx with
  | none => rfl
  | some _ => cases h

theorem maxK_inv {hi mx : Option Operand} {k : Pg} (hhi : ∀ y, hi = some y → Rep w I O D (ρ y) (a.eval y)) (hmx : ∀ y, mx = some y → Rep w I O D (ρ y) (a.eval y)) (h : EvR Sp H (maxK ρ hi mx k) v ups r) : (∃ r', EvR Sp H k v ups r') ∧ (mx.isSome = true → mx.map a.eval = hi.map a.eval) := by
  unfold maxK at h
  cases mx with
  | none => exact ⟨⟨_, h⟩, nofun⟩
  | some m =>
    cases hi with
    | none => exact (EvR.fail_inv h).elim
    | some y =>
      simp only at h
      have h1 := hhi y rfl
      have h2 := hmx m rfl
      split at h
      · rename_i kk a1 kk' b1 e1 e2
        obtain ⟨hk, h⟩ := h.chk_inv
        obtain ⟨he, h⟩ := h.need_inv
        refine ⟨⟨_, h⟩, fun _ => ?_⟩
        rw [e1] at h1
        rw [e2] at h2
        have hk : kk = kk' := of_decide_eq_true hk
        simp only [Option.map_some]
        rw [h1.int_inv, h2.int_inv, hk, he]
      · exact (EvR.fail_inv h).elim

theorem op_slice (hc : CfgOK P cfg) (hR : Rel cfg cx H D w I O) {t : TypeId} {x : Operand} {lo hi mx : Option Operand} (ho : o.op = .slice t x lo hi mx) (hx : Rep w I O D (ρ x) (a.eval x))
    (hlo : ∀ y, lo = some y → Rep w I O D (ρ y) (a.eval y)) (hhi : ∀ y, hi = some y → Rep w I O D (ρ y) (a.eval y)) (hmx : ∀ y, mx = some y → Rep w I O D (ρ y) (a.eval y))
    (h : EvR Sp H (opPg cfg nid (.slice t x lo hi mx) ρ) v ups r) : OpOK P cfg cx H D w I O nid o a v ups := by
  simp only [opPg] at h
  obtain ⟨⟨r0, h0⟩, hmax⟩ := maxK_inv hhi hmx h
  clear h
  obtain ⟨tt, e, ti, h1, h2, h3, h4⟩ := h0.elem_inv
  obtain ⟨hu, i, z, hi', hz, hs, hby, hzs⟩ := hc.slice h1 h2 h3
  clear h0
  -- the slice value, its shape, and how parts of it are read
  obtain ⟨aa, n, cap, xa, hxv, hncap, part, h5⟩ : ∃ aa n cap xa, a.eval x = .slice aa n cap ∧ n ≤ cap ∧ (∀ (v : AV), xa = v →
      (∀ es full g, xa = .sl es n full g → (full = true → cap = n) ∧ ∀ l h m full', l ≤ h → h ≤ n → h ≤ m → m ≤ cap → (full' = true → m = h) → Rep w I O D (.sl es (h - l) full' (fun j => g (l + j))) (.slice (if m = l then aa else aa.map (·.add (l * i.size))) (h - l) (m - l))) ∧
      (∀ ob j n' full, xa = .osl ob j n' full → n' = n ∧ (full = true → cap = n) ∧ ∀ l h m full', l ≤ h → h ≤ n → h ≤ m → m ≤ cap → (full' = true → m = h) → Rep w I O D (.osl ob (j + l) (h - l) full') (.slice (if m = l then aa else aa.map (·.add (l * i.size))) (h - l) (m - l))) ∧
      (∀ es n' full g, xa = .sl es n' full g → n' = n)) ∧ ∃ r', EvR Sp H (slicePg xa (lo.map ρ) (hi.map ρ) mx.isSome mx.isSome) v ups r' := by
    split at h4
    · rename_i es n f g ex
      rw [ex] at hx
      obtain ⟨hes, h5⟩ := h4.chk_inv
      generalize hxv : a.eval x = xv at hx
      have hp := hx.sl_inv
      cases hp with
      | @sl _ _ _ _ aa cap b off vs hcap hfull ha hes' hm h11 hr =>
        refine ⟨aa, n, cap, .sl es n f g, rfl, hcap, fun v _ => ⟨fun es' full' g' e => ?_, fun _ _ _ _ e => (by cases e), fun _ _ _ _ e => (by cases e; rfl)⟩, _, h5⟩
        cases e
        exact ⟨hfull, fun l h m full' q1 q2 q3 q4 q5 => .pure (prep_slice (PRep.sl b off vs hcap hfull ha hes' hm h11 hr) q1 q2 q3 q4 q5 (fun hn => by rw [hs]; exact esOk_spec hes hn))⟩
    · rename_i ob j n f ex
      rw [ex] at hx
      obtain ⟨obj, _, hob, h5⟩ := h4.rd_inv
      obtain ⟨p, hp, hO⟩ := hR.live hob
      cases obj with
      | box cs => exact (EvR.fail_inv h5).elim
      | held => exact (EvR.fail_inv h5).elim
      | row es n' g =>
        obtain ⟨hes, h6⟩ := h5.chk_inv
        have hes : es = ti.size := Nat.eq_of_beq_eq_true hes
        obtain ⟨aa, cap, hxv, hjm, hcap, hfull, hpl⟩ := hx.osl_inv hp
        rw [hxv] at hx
        refine ⟨aa, n, cap, .osl ob j n f, hxv, hcap, fun v _ => ⟨fun _ _ _ e => (by cases e), fun ob' j' n'' full' e => ?_, fun _ _ _ _ e => (by cases e)⟩, _, h6⟩
        cases e
        exact ⟨rfl, hfull, fun l h m full' q1 q2 q3 q4 q5 => rep_oslice hp hx q1 q2 q3 q4 q5 (by rw [hs, ← hes]; exact hO.2.1)⟩
    · exact (EvR.fail_inv h4).elim
  obtain ⟨r', h5⟩ := h5
  clear h4 hx
  obtain ⟨psl, posl, psl'⟩ := part xa rfl
  have done : ∀ {l h m : Nat} {x' : Value}, (Instr.sliceBounds true n cap (lo.map a.eval) (hi.map a.eval) (mx.map a.eval)).run P w = .ok (l, h, m) w → x' = .slice (if m = l then aa else aa.map (·.add (l * i.size))) (h - l) (m - l) → ups = [] → Rep w I O D v x' → OpOK P cfg cx H D w I O nid o a v ups := by
    intro l h m x' hb hx' hu0 hv
    subst hu0
    refine OpOK.of_pure (x := x') hR ?_ hv
    rw [hx']
    simp [execOp, ho, hxv, run_slice_val hu hi' aa n cap _ _ _ l h m hb]
  unfold slicePg at h5
  split at h5
  · rename_i e1 e2
    obtain ⟨hm, h6⟩ := h5.chk_inv
    have hmx : mx = none := noMax hm
    have e1' : lo = none := by simpa using e1
    have e2' : hi = none := by simpa using e2
    subst hmx; subst e1'; subst e2'
    split at h6
    · obtain ⟨rfl, rfl⟩ := h6.ret1_inv
      have e := psl' _ _ _ _ rfl
      subst e
      obtain ⟨q1, q2⟩ := psl _ _ _ rfl
      exact done (bnd0 _ _) rfl rfl (by simpa using q2 0 _ cap _ (Nat.zero_le _) (Nat.le_refl _) hncap (Nat.le_refl _) q1)
    · obtain ⟨rfl, rfl⟩ := h6.ret1_inv
      obtain ⟨rfl, q1, q2⟩ := posl _ _ _ _ rfl
      exact done (bnd0 _ _) rfl rfl (by simpa using q2 0 _ cap _ (Nat.zero_le _) (Nat.le_refl _) hncap (Nat.le_refl _) q1)
    · exact (EvR.fail_inv h6).elim
  · rename_i k hh e1 e2
    obtain ⟨hm, h6⟩ := h5.chk_inv
    have e1' : lo = none := by simpa using e1
    obtain ⟨y, e2', e3⟩ : ∃ y, hi = some y ∧ ρ y = .int k hh := Option.map_eq_some_iff.1 e2
    have hy : a.eval y = .int k hh := (e3 ▸ hhi y e2').int_inv
    subst e1'
    have go : ∀ full', full' = mx.isSome → 0 ≤ hh → hh ≤ n → (∀ m, hh.toNat ≤ m → m ≤ cap → (full' = true → m = hh.toNat) → Rep w I O D v (.slice (if m = 0 then aa else aa.map (·.add (0 * i.size))) (hh.toNat - 0) (m - 0))) → ups = [] → OpOK P cfg cx H D w I O nid o a v ups := by
      intro full' hfe q1 q2 q3 q4
      cases hf : mx.isSome with
      | true =>
        exact done (l := 0) (h := hh.toNat) (m := hh.toNat) (by rw [hmax hf]; simp only [e2', Option.map_some, Option.map_none, hy]; exact bnd1' _ _ _ _ q1 (by omega)) rfl q4 (q3 _ (Nat.le_refl _) (by omega) (fun _ => rfl))
      | false =>
        have hmx : mx = none := noMax (by rw [hf]; rfl)
        subst hmx
        exact done (l := 0) (h := hh.toNat) (m := cap) (by simp only [e2', Option.map_some, Option.map_none, hy]; exact bnd1 _ _ _ _ q1 (by omega)) rfl q4 (q3 _ (by omega) (Nat.le_refl _) (fun e => by rw [hfe, hf] at e; cases e))
    split at h6
    · obtain ⟨⟨q1, q2⟩, rfl, rfl⟩ := h6.need1_inv
      have e := psl' _ _ _ _ rfl
      subst e
      obtain ⟨q3, q4⟩ := psl _ _ _ rfl
      exact go _ rfl q1 q2 (fun m hm1 hm2 hm3 => by simpa using q4 0 hh.toNat m _ (Nat.zero_le _) (by omega) hm1 hm2 hm3) rfl
    · obtain ⟨⟨q1, q2⟩, rfl, rfl⟩ := h6.need1_inv
      obtain ⟨rfl, q3, q4⟩ := posl _ _ _ _ rfl
      exact go _ rfl q1 q2 (fun m hm1 hm2 hm3 => by simpa using q4 0 hh.toNat m _ (Nat.zero_le _) (by omega) hm1 hm2 hm3) rfl
    · exact (EvR.fail_inv h6).elim
  · rename_i k l e1 e2
    obtain ⟨hm, h6⟩ := h5.chk_inv
    have hmx : mx = none := noMax hm
    have e2' : hi = none := by simpa using e2
    obtain ⟨y, e1', e3⟩ : ∃ y, lo = some y ∧ ρ y = .int k l := Option.map_eq_some_iff.1 e1
    have hy : a.eval y = .int k l := (e3 ▸ hlo y e1').int_inv
    subst hmx; subst e2'
    split at h6
    · obtain ⟨⟨q1, q2⟩, rfl, rfl⟩ := h6.need1_inv
      have e := psl' _ _ _ _ rfl
      subst e
      obtain ⟨q3, q4⟩ := psl _ _ _ rfl
      exact done (by simp only [e1', Option.map_some, Option.map_none, hy]; exact bnd2 _ _ _ _ q1 q2) rfl rfl (q4 l.toNat _ cap _ (by omega) (Nat.le_refl _) hncap (Nat.le_refl _) q3)
    · obtain ⟨⟨q1, q2⟩, rfl, rfl⟩ := h6.need1_inv
      obtain ⟨rfl, q3, q4⟩ := posl _ _ _ _ rfl
      exact done (by simp only [e1', Option.map_some, Option.map_none, hy]; exact bnd2 _ _ _ _ q1 q2) rfl rfl (q4 l.toNat _ cap _ (by omega) (Nat.le_refl _) hncap (Nat.le_refl _) q3)
    · exact (EvR.fail_inv h6).elim
  · rename_i k l k' hh e1 e2
    obtain ⟨hm, h6⟩ := h5.chk_inv
    obtain ⟨y, e1', e3⟩ : ∃ y, lo = some y ∧ ρ y = .int k l := Option.map_eq_some_iff.1 e1
    obtain ⟨y', e2', e3'⟩ : ∃ y, hi = some y ∧ ρ y = .int k' hh := Option.map_eq_some_iff.1 e2
    have hy : a.eval y = .int k l := (e3 ▸ hlo y e1').int_inv
    have hy' : a.eval y' = .int k' hh := (e3' ▸ hhi y' e2').int_inv
    have go : ∀ full', full' = mx.isSome → 0 ≤ l → l ≤ hh → hh ≤ n → (∀ m, hh.toNat ≤ m → m ≤ cap → (full' = true → m = hh.toNat) → Rep w I O D v (.slice (if m = l.toNat then aa else aa.map (·.add (l.toNat * i.size))) (hh.toNat - l.toNat) (m - l.toNat))) → ups = [] → OpOK P cfg cx H D w I O nid o a v ups := by
      intro full' hfe q0 q1 q2 q3 q4
      cases hf : mx.isSome with
      | true =>
        exact done (l := l.toNat) (h := hh.toNat) (m := hh.toNat) (by rw [hmax hf]; simp only [e1', e2', Option.map_some, hy, hy']; exact bnd3' _ _ _ _ _ _ q0 q1 (by omega)) rfl q4 (q3 _ (Nat.le_refl _) (by omega) (fun _ => rfl))
      | false =>
        have hmx : mx = none := noMax (by rw [hf]; rfl)
        subst hmx
        exact done (l := l.toNat) (h := hh.toNat) (m := cap) (by simp only [e1', e2', Option.map_some, Option.map_none, hy, hy']; exact bnd3 _ _ _ _ _ _ q0 q1 (by omega)) rfl q4 (q3 _ (by omega) (Nat.le_refl _) (fun e => by rw [hfe, hf] at e; cases e))
    split at h6
    · obtain ⟨⟨q0, q1, q2⟩, rfl, rfl⟩ := h6.need1_inv
      have e := psl' _ _ _ _ rfl
      subst e
      obtain ⟨q3, q4⟩ := psl _ _ _ rfl
      exact go _ rfl q0 q1 q2 (fun m hm1 hm2 hm3 => q4 l.toNat hh.toNat m _ (by omega) (by omega) hm1 hm2 hm3) rfl
    · obtain ⟨⟨q0, q1, q2⟩, rfl, rfl⟩ := h6.need1_inv
      obtain ⟨rfl, q3, q4⟩ := posl _ _ _ _ rfl
      exact go _ rfl q0 q1 q2 (fun m hm1 hm2 hm3 => q4 l.toNat hh.toNat m _ (by omega) (by omega) hm1 hm2 hm3) rfl
    · exact (EvR.fail_inv h6).elim
  · exact (EvR.fail_inv h5).elim

end
end Go.Ab

namespace Go.Ab
section
variable {P : Program} {cfg : Cfg} {cx : Ctx} {H : Nat → Option AObj} {D : Nat → Prop} {w : World} {I : Nat → Prop} {O : OM} {Sp : SpecT}
variable {nid : Nat} {o : Oper} {a : Act} {ρ : Operand → AV} {v : AV} {ups : Ups} {r : List Nat}

/-- The blocks of some objects. -/
def Blk (O : OM) (ids : List Nat) (b : Nat) : Prop := ∃ o p bo sz, o ∈ ids ∧ O o = some p ∧ p.pl = some (b, bo, sz)

def kill (O : OM) (ids : List Nat) : OM := fun o => if o ∈ ids then none else O o

theorem look_dead (ids : List Nat) (o : Nat) : look (dead ids) o = if o ∈ ids then some none else none := by
  induction ids with
  | nil => simp [dead, look]
  | cons a l ih =>
    simp only [dead, look, ih]
    cases h : Nat.beq a o with
    | true => have := Nat.eq_of_beq_eq_true h; subst this; simp
    | false => have : o ≠ a := fun e => by subst e; simp at h
               simp [this]

theorem updF_dead (ids : List Nat) (o : Nat) : updF H (dead ids) o = if o ∈ ids then none else H o := by
  unfold updF
  rw [look_dead]
  by_cases h : o ∈ ids <;> simp [h]

theorem Rel.freeze (hR : Rel cfg cx H D w I O) (ids : List Nat) : Rel cfg cx (updF H (dead ids)) D w (fun b => I b ∨ Blk O ids b) (kill O ids) where
  dom := fun o => by
    rw [updF_dead]; unfold kill
    by_cases h : o ∈ ids <;> simp [h, hR.dom o]
  used := fun o p h => by
    unfold kill at h
    by_cases h' : o ∈ ids <;> simp [h'] at h
    exact hR.used o p h
  objs := fun o ob p h h' => by
    rw [updF_dead] at h; unfold kill at h'
    by_cases h0 : o ∈ ids <;> simp [h0] at h h'
    exact (hR.objs o ob p h h').mono (fun _ h => .inl h) (fun _ _ => rfl) (fun o _ => by unfold kill; by_cases h0 : o ∈ ids <;> simp [h0]) (fun _ h => h) hR.used (fun _ _ _ _ => rfl)
  inj := fun o o' p p' b bo sz b' bo' sz' h1 h2 h3 h4 h5 => by
    unfold kill at h1 h2
    by_cases h0 : o ∈ ids <;> simp [h0] at h1
    by_cases h0' : o' ∈ ids <;> simp [h0'] at h2
    exact hR.inj o o' p p' b bo sz b' bo' sz' h1 h2 h3 h4 h5
  notI := fun o p b bo sz h1 h2 h3 => by
    unfold kill at h1
    by_cases h0 : o ∈ ids <;> simp [h0] at h1
    rcases h3 with h3 | ⟨o', p', bo', sz', h4, h5, h6⟩
    · exact hR.notI o p b bo sz h1 h2 h3
    · exact hR.inj o o' p p' b bo sz b bo' sz' h1 h5 h2 h6 (fun e => h0 (e ▸ h4)) rfl
  lt := fun o p b bo sz h1 h2 => by
    unfold kill at h1
    by_cases h0 : o ∈ ids <;> simp [h0] at h1
    exact hR.lt o p b bo sz h1 h2
  Ilt := fun b h => by
    rcases h with h | ⟨o', p', bo', sz', h4, h5, h6⟩
    · exact hR.Ilt b h
    · exact hR.lt o' p' b bo' sz' h5 h6
  size := hR.size
  frame := hR.frame
  env := hR.env
  new := fun o p b bo sz h1 h2 => by
    unfold kill at h1
    by_cases h0 : o ∈ ids <;> simp [h0] at h1
    exact hR.new o p b bo sz h1 h2
  glob := fun g cs h => (hR.glob g cs h).mono (fun _ h => .inl h) (fun _ _ => rfl)
  I0I := fun b h => .inl (hR.I0I b h)
  II0 := fun b h => by
    rcases h with h | ⟨o', p', bo', sz', h4, h5, h6⟩
    · exact hR.II0 b h
    · exact .inr (hR.new o' p' b bo' sz' h5 h6)
  O0O := fun o h => by
    unfold kill
    by_cases h0 : o ∈ ids
    · simp [h0]
    · simpa [h0] using hR.O0O o h
  Dm := hR.Dm

theorem Rep.kill (hR : Rel cfg cx H D w I O) (ids : List Nat) {v : AV} {x : Value} (h : Rep w I O D v x) : Rep w (fun b => I b ∨ Blk O ids b) (kill O ids) D v x :=
  h.mono (fun _ h => .inl h) (fun _ _ => rfl) (fun o _ => by unfold Ab.kill; by_cases h0 : o ∈ ids <;> simp [h0]) (fun _ h => h) hR.used

theorem Blk.mono_l {ids ids' : List Nat} {b : Nat} (h : Blk O ids b) : Blk O (ids ++ ids') b := by
  obtain ⟨o, p, bo, sz, h1, h2, h3⟩ := h
  exact ⟨o, p, bo, sz, List.mem_append_left _ h1, h2, h3⟩
theorem Blk.mono_r {ids ids' : List Nat} {b : Nat} (h : Blk O ids' b) : Blk O (ids ++ ids') b := by
  obtain ⟨o, p, bo, sz, h1, h2, h3⟩ := h
  exact ⟨o, p, bo, sz, List.mem_append_right _ h1, h2, h3⟩

theorem shiftG_eq (i j : Nat) (g : Nat → AV) : shiftG i g j = g (i + j) := by cases i <;> simp [shiftG]

/-- Own values made pure. -/
theorem pur_sound (hR : Rel cfg cx H D w I O) : ∀ f : Nat,
    (∀ (v : AV) (k : AV → List Nat → Pg) (v' : AV) (ups : Ups) (r : List Nat), EvR Sp H (pur f v k) v' ups r → ∃ u ids r', EvR Sp H (k u ids) v' ups r' ∧
      ∀ x, Rep w I O D v x → PRep w (fun b => I b ∨ Blk O ids b) u x) ∧
    (∀ (l : List AV) (k : List AV → List Nat → Pg) (v' : AV) (ups : Ups) (r : List Nat), EvR Sp H (pur.purL f l k) v' ups r → ∃ l' ids r', EvR Sp H (k l' ids) v' ups r' ∧ l'.length = l.length ∧
      ∀ j, j < l.length → ∀ x, Rep w I O D (nth l j) x → PRep w (fun b => I b ∨ Blk O ids b) (nth l' j) x) := by
  intro f
  induction f with
  | zero => exact ⟨fun v k v' ups r h => (EvR.fail_inv h).elim, fun l k v' ups r h => (EvR.fail_inv h).elim⟩
  | succ f ih =>
    obtain ⟨ih1, ih2⟩ := ih
    refine ⟨fun v k v' ups r h => ?_, fun l k v' ups r h => ?_⟩
    · cases v with
      | osl ob i n full =>
        simp only [pur] at h
        obtain ⟨obj, r', hob, h1⟩ := h.rd_inv
        obtain ⟨p, hp, hO⟩ := hR.live hob
        cases obj with
        | box cs => exact (EvR.fail_inv h1).elim
        | held => exact (EvR.fail_inv h1).elim
        | row es m g =>
          refine ⟨_, [ob], r', h1, fun x hx => ?_⟩
          obtain ⟨aa, cap, rfl, h2, h3, h4, h5⟩ := hx.osl_inv hp
          obtain ⟨hn, hes, hlen, h6⟩ := hO
          by_cases hn0 : n = 0
          · subst hn0
            exact .sl 0 0 (fun _ _ => Go.undef) h3 h4 (fun e => absurd rfl e) (fun i hi => absurd hi (by omega)) (fun i j hi => absurd hi (by omega)) (fun i j hi => absurd hi (by omega)) (fun i j hi => absurd hi (by omega))
          · obtain ⟨b, bo, sz, h7, rfl, h8⟩ := h5 (by omega)
            rcases h6 with ⟨_, h6⟩ | ⟨b', bo', sz', h6, hal, hle, hcs⟩
            · rw [h7] at h6; cases h6
            · rw [h7] at h6
              cases h6
              subst hn
              have hmul : ∀ k, k < n → (i + k + 1) * es ≤ p.n * es := fun k hk => Nat.mul_le_mul_right _ (by omega)
              refine .sl b (bo + i * p.es) (fun k j => cellAt w b (bo + ((i + k) * es + j))) h3 h4 (fun _ => ⟨rfl, .inr ⟨ob, p, bo, sz, by simp, hp, h7⟩⟩) (fun k hk => by rw [shiftG_eq]; exact hlen _ (by omega)) (fun k j hk hj => ?_) (fun k j hk hj => (hcs (i + k) j (by omega) hj).2) (fun k j hk hj => ?_)
              · have e : bo + i * p.es + (k * es + j) = bo + ((i + k) * es + j) := by rw [hes, Nat.add_mul]; omega
                rw [e]
                refine cellAt_eq hal ?_
                have := hmul k hk
                rw [Nat.succ_mul] at this
                omega
              · rw [shiftG_eq]
                exact (hcs (i + k) j (by omega) hj).1.mono (fun _ h => .inl h) (fun _ _ => rfl)
      | ptr ob i off =>
        cases i with
        | succ i => simp only [pur] at h; exact (EvR.fail_inv h).elim
        | zero =>
          simp only [pur] at h
          obtain ⟨obj, r', hob, h1⟩ := h.rd_inv
          obtain ⟨p, hp, hO⟩ := hR.live hob
          cases obj with
          | row es m g => exact (EvR.fail_inv h1).elim
          | held => exact (EvR.fail_inv h1).elim
          | box cs =>
            obtain ⟨l', ids, r'', h2, h3, h4⟩ := ih2 _ _ _ _ _ h1
            refine ⟨_, _, r'', h2, fun x hx => ?_⟩
            obtain ⟨b, bo, sz, h5, h6, rfl⟩ := hx.ptr_inv hp
            obtain ⟨hn, b', bo', sz', h7, hal, hle, hcs⟩ := hO
            rw [h5] at h7
            cases h7
            simp only [Nat.zero_mul, Nat.zero_add]
            refine .ro b (bo + off) (fun j => cellAt w b (bo + (off + j))) (.inr ⟨ob, p, bo, sz, by simp, hp, h5⟩) (fun j hj => ?_) (fun j hj => ?_)
            · rw [Nat.add_assoc]
              refine cellAt_eq hal ?_
              rw [h3] at hj
              simp at hj
              omega
            · rw [h3] at hj
              refine (h4 j hj _ (by rw [nth_drop]; exact hcs (off + j) (by simp at hj; omega))).mono (fun b h => ?_) (fun _ _ => rfl)
              rcases h with h | ⟨o', p', bo', sz', q1, q2, q3⟩
              · exact .inl h
              · exact .inr ⟨o', p', bo', sz', List.mem_cons_of_mem _ q1, q2, q3⟩
      | agg cs =>
        simp only [pur] at h
        obtain ⟨l', ids, r'', h2, h3, h4⟩ := ih2 _ _ _ _ _ h
        refine ⟨_, _, r'', h2, fun x hx => ?_⟩
        obtain ⟨vs, rfl, hl, hr⟩ := hx.agg_inv
        exact .agg (by omega) fun j hj => h4 j (by omega) _ (hr j (by omega))
      | tup cs =>
        simp only [pur] at h
        obtain ⟨l', ids, r'', h2, h3, h4⟩ := ih2 _ _ _ _ _ h
        refine ⟨_, _, r'', h2, fun x hx => ?_⟩
        obtain ⟨vs, rfl, hl, hr⟩ := hx.tup_inv
        exact .tup (by omega) fun j hj => h4 j (by omega) _ (hr j (by omega))
      | fn g cs =>
        simp only [pur] at h
        obtain ⟨l', ids, r'', h2, h3, h4⟩ := ih2 _ _ _ _ _ h
        refine ⟨_, _, r'', h2, fun x hx => ?_⟩
        obtain ⟨vs, rfl, hl, hr⟩ := hx.fn_inv
        exact .fn (by omega) fun j hj => h4 j (by omega) _ (hr j (by omega))
      | _ =>
        refine ⟨_, [], r, h, fun x hx => ?_⟩
        cases hx with | pure hx => exact hx.mono (fun _ h => .inl h) (fun _ _ => rfl)
    · cases l with
      | nil => exact ⟨[], [], r, h, rfl, fun j hj => by cases hj⟩
      | cons v l =>
        simp only [pur.purL] at h
        obtain ⟨u, i1, r1, h1, h2⟩ := ih1 _ _ _ _ _ h
        obtain ⟨l', i2, r2, h3, h4, h5⟩ := ih2 _ _ _ _ _ h1
        refine ⟨u :: l', i1 ++ i2, r2, h3, by simp [h4], fun j hj x hx => ?_⟩
        cases j with
        | zero => exact (h2 x hx).mono (fun b h => h.elim .inl fun h => .inr h.mono_l) (fun _ _ => rfl)
        | succ j => exact (h5 j (by simpa using hj) x hx).mono (fun b h => h.elim .inl fun h => .inr h.mono_r) (fun _ _ => rfl)

end
end Go.Ab

namespace Go.Ab
section
variable {P : Program} {cfg : Cfg} {cx : Ctx} {H : Nat → Option AObj} {D : Nat → Prop} {w : World} {I : Nat → Prop} {O : OM} {Sp : SpecT}
variable {nid : Nat} {o : Oper} {a : Act} {ρ : Operand → AV} {v : AV} {ups : Ups} {r : List Nat}

def setO (O : OM) (n : Nat) (p : Own) : OM := fun o => if o = n then some p else O o

theorem setO_old {p : Own} (hn : ¬ D nid) {ob : Nat} (h : D ob) : setO O nid p ob = O ob := by
  unfold setO
  rw [if_neg (by intro e; subst e; exact hn h)]

theorem heap_alloc_lt (ob : Obj) {b : Nat} (h : b < w.heap.size) : (w.alloc ob).heap[b]? = w.heap[b]? := by
  show (w.heap.push ob)[b]? = _
  rw [Array.getElem?_push, if_neg (Nat.ne_of_lt h)]

theorem heap_alloc_new (ob : Obj) : (w.alloc ob).heap[w.heap.size]? = some ob := by
  show (w.heap.push ob)[w.heap.size]? = _
  simp

theorem heap_alloc_size (ob : Obj) : (w.alloc ob).heap.size = w.heap.size + 1 := by
  show (w.heap.push ob).size = _
  simp

theorem cell_alloc_new (c : Array Value) (e : TypeId) (j : Nat) : (w.alloc (.cells c e)).cell? ⟨w.heap.size, j, none⟩ = c[j]? := by
  unfold World.cell?
  rw [heap_alloc_new]
  rfl

theorem frozen_alloc_new (c : Array Value) (e : TypeId) (j : Nat) : (w.alloc (.cells c e)).frozen? ⟨w.heap.size, j, none⟩ = false := by
  unfold World.frozen?
  rw [heap_alloc_new]
  simp

theorem alive_alloc_new (c : Array Value) (e : TypeId) : Alive (w.alloc (.cells c e)) w.heap.size c.size := by
  intro j hj
  rw [cell_alloc_new, frozen_alloc_new]
  simp [Array.getElem?_eq_getElem hj]

theorem cellAt_alloc_new (c : Array Value) (e : TypeId) (j : Nat) : cellAt (w.alloc (.cells c e)) w.heap.size j = c.getD j Go.undef := by
  rw [cellAt, cell_alloc_new]
  simp

theorem Rep.push (hR : Rel cfg cx H D w I O) (ob : Obj) (p : Own) (hn : ¬ D nid) {v : AV} {x : Value} (h : Rep w I O D v x) : Rep (w.alloc ob) I (setO O nid p) (insD D nid) v x :=
  h.mono (fun _ h => h) (fun b hb => heap_alloc_lt ob (hR.Ilt b hb)) (fun _ ho => .inl (setO_old hn ho)) (fun _ h => .inl h) hR.used

theorem Rel.push (hR : Rel cfg cx H D w I O) (hn : ¬ D nid) (c : Array Value) (e : TypeId) (ob : AObj) (p : Own) (hp : p.pl = some (w.heap.size, 0, c.size))
    (hob : ObjRep (w.alloc (.cells c e)) I (setO O nid p) (insD D nid) p ob) : Rel cfg cx (updF H [(nid, some ob)]) (insD D nid) (w.alloc (.cells c e)) I (setO O nid p) := by
  have hH : ∀ o, updF H [(nid, some ob)] o = if o = nid then some ob else H o := by
    intro o
    simp only [updF, look]
    cases hb : Nat.beq nid o with
    | true => have := Nat.eq_of_beq_eq_true hb; subst this; simp
    | false => have : o ≠ nid := fun e => by subst e; simp at hb
               simp [this]
  have hOn : O nid = none := by
    cases h : O nid with
    | none => rfl
    | some p' => exact absurd (hR.used nid p' h) hn
  have old : ∀ {o p'}, o ≠ nid → setO O nid p o = some p' → O o = some p' := fun hne h => by unfold setO at h; rwa [if_neg hne] at h
  exact {
    dom := fun o => by
      rw [hH]; unfold setO
      by_cases h : o = nid
      · simp [h]
      · simp [h, hR.dom o]
    used := fun o p' h => by
      by_cases hne : o = nid
      · exact .inr hne
      · exact .inl (hR.used o p' (old hne h))
    objs := fun o ob' p' h h' => by
      by_cases hne : o = nid
      · subst hne
        rw [hH, if_pos rfl] at h
        unfold setO at h'
        rw [if_pos rfl] at h'
        cases h; cases h'
        exact hob
      · rw [hH, if_neg hne] at h
        have h'' := old hne h'
        exact (hR.objs o ob' p' h h'').mono (fun _ h => h) (fun b hb => heap_alloc_lt _ (hR.Ilt b hb)) (fun _ ho => .inl (setO_old hn ho)) (fun _ h => .inl h) hR.used
          (fun b bo sz hpl => heap_alloc_lt _ (hR.lt o p' b bo sz h'' hpl))
    inj := fun o o' p1 p2 b bo sz b' bo' sz' h1 h2 h3 h4 h5 => by
      by_cases e1 : o = nid
      · by_cases e2 : o' = nid
        · exact absurd (e1.trans e2.symm) h5
        · unfold setO at h1
          rw [if_pos e1] at h1
          cases h1
          rw [hp] at h3
          cases h3
          have := hR.lt o' p2 b' bo' sz' (old e2 h2) h4
          omega
      · by_cases e2 : o' = nid
        · unfold setO at h2
          rw [if_pos e2] at h2
          cases h2
          rw [hp] at h4
          cases h4
          have := hR.lt o p1 b bo sz (old e1 h1) h3
          omega
        · exact hR.inj o o' p1 p2 b bo sz b' bo' sz' (old e1 h1) (old e2 h2) h3 h4 h5
    notI := fun o p1 b bo sz h1 h2 h3 => by
      by_cases e1 : o = nid
      · unfold setO at h1
        rw [if_pos e1] at h1
        cases h1
        rw [hp] at h2
        cases h2
        have := hR.Ilt _ h3
        omega
      · exact hR.notI o p1 b bo sz (old e1 h1) h2 h3
    lt := fun o p1 b bo sz h1 h2 => by
      have hs : (w.alloc (.cells c e)).heap.size = w.heap.size + 1 := heap_alloc_size _
      by_cases e1 : o = nid
      · unfold setO at h1
        rw [if_pos e1] at h1
        cases h1
        rw [hp] at h2
        cases h2
        omega
      · have := hR.lt o p1 b bo sz (old e1 h1) h2
        omega
    Ilt := fun b h => by
      have := hR.Ilt b h
      rw [heap_alloc_size]
      omega
    size := by
      have := hR.size
      rw [heap_alloc_size]
      omega
    env := hR.env.step (SameEnv.alloc _ _)
    frame := fun b h1 h2 => by
      rw [heap_alloc_lt _ (by have := hR.size; omega)]
      exact hR.frame b h1 h2
    new := fun o p1 b bo sz h1 h2 => by
      by_cases e1 : o = nid
      · unfold setO at h1
        rw [if_pos e1] at h1
        cases h1
        rw [hp] at h2
        cases h2
        exact .inl hR.size
      · exact hR.new o p1 b bo sz (old e1 h1) h2
    glob := fun g cs h => (hR.glob g cs h).mono (fun _ h => h) (fun b hb => heap_alloc_lt _ (hR.Ilt b hb))
    I0I := hR.I0I
    II0 := hR.II0
    O0O := fun o h => by
      have hne : o ≠ nid := fun e => hn (e ▸ hR.Dm o h)
      unfold setO
      rw [if_neg hne]
      exact hR.O0O o h
    Dm := fun o h => .inl (hR.Dm o h) }

theorem updF_cons (u : Nat × Option AObj) (l : Ups) : updF H (u :: l) = updF (updF H l) [u] := by
  funext o
  simp only [updF, look]
  cases Nat.beq u.1 o <;> rfl

/-- A new block, an object of its own, whatever has become immutable before. -/
theorem OpOK.of_new (hR : Rel cfg cx H D w I O) (hn : ¬ D nid) {x : Value} {c : Array Value} {e : TypeId} {ob : AObj} {p : Own} (ids : List Nat) (hrun : (execOp a.eval o).run P w = .ok (.value x) (w.alloc (.cells c e)))
    (hp : p.pl = some (w.heap.size, 0, c.size)) (hob : ObjRep (w.alloc (.cells c e)) (fun b => I b ∨ Blk O ids b) (setO (kill O ids) nid p) (insD D nid) p ob)
    (hv : ∀ I' O' D', O' nid = some p → Rep (w.alloc (.cells c e)) I' O' D' v x) : OpOK P cfg cx H D w I O nid o a v ((nid, some ob) :: dead ids) := by
  intro next Q hnx
  have hR1 := hR.freeze ids
  refine wp_val hrun (hnx x _ _ _ ?_ ?_ (hv (fun b => I b ∨ Blk O ids b) (setO (kill O ids) nid p) _ (by simp [setO])))
  · rw [updF_cons]
    exact hR1.push hn c e ob p hp hob
  · intro u y hu
    exact (hu.kill hR ids).push hR1 _ p hn

theorem run_newVar (t : TypeId) (v : Value) : (newVar t v).run P w = .ok ⟨w.heap.size, 0, none⟩ (w.alloc (.cells v.cells t)) := by
  simp only [newVar, newRow, newObj, Sem.run_bind, Sem.run, Result.andThen]
  rfl

theorem rep_zero (zs : List ZK) (c : Array Value) (n : Nat) (hl : zs.length = n) (hz : ∀ j, j < n → zmatch (zs.getD j .other) (c.getD j Go.undef)) : ∀ j, j < n → PRep w I (nth (ofZs zs) j) (c.getD j Go.undef) := by
  intro j hj
  have key : ∀ (zs : List ZK) (j : Nat), j < zs.length → nth (ofZs zs) j = ofZ (zs.getD j .other) := by
    intro zs
    induction zs with
    | nil => intro j hj; cases hj
    | cons z l ih => intro j hj; cases j with
      | zero => rfl
      | succ j => simpa [ofZs, nth] using ih j (by simpa using hj)
  rw [key zs j (by omega)]
  have := hz j hj
  cases hzz : zs.getD j .other <;> rw [hzz] at this <;> simp only [zmatch] at this <;> simp only [ofZ] <;> first | exact .undef _ | rw [this]
  · exact .bool _
  · exact .int _ _
  · exact .str _
  · exact .sl 0 0 (fun _ _ => Go.undef) (Nat.le_refl _) (fun _ => rfl) (fun h => absurd rfl h) (fun i h => by cases h) (fun i j h => by cases h) (fun i j h => by cases h) (fun i j h => by cases h)
  · exact .nilp

theorem zero_one (zs : List ZK) (c : Array Value) (n : Nat) (hz : ∀ j, j < n → zmatch (zs.getD j .other) (c.getD j Go.undef)) : ∀ j, j < n → (c.getD j Go.undef).oneCell' = true := by
  intro j hj
  have := hz j hj
  cases hzz : zs.getD j .other <;> rw [hzz] at this <;> simp only [zmatch] at this <;> first | exact this | (rw [this]; rfl)

theorem ofZs_length (zs : List ZK) : (ofZs zs).length = zs.length := by
  induction zs with
  | nil => rfl
  | cons z l ih => simp [ofZs, ih]

theorem op_alloc (hc : CfgOK P cfg) (hR : Rel cfg cx H D w I O) (hn : ¬ D nid) {t : TypeId} (ho : o.op = .alloc t) (h : EvR Sp H (opPg cfg nid (.alloc t) ρ) v ups r) : OpOK P cfg cx H D w I O nid o a v ups := by
  simp only [opPg] at h
  obtain ⟨ti, ht, h1⟩ := h.ty_inv
  obtain ⟨rfl, rfl⟩ := h1.ret_inv
  obtain ⟨i, d, z, hi, hu, hz, hs, _, _, hzs, hzl, hzm, _⟩ := (hc.ty t ti ht).ex
  refine OpOK.of_new (p := ⟨0, 1, some (w.heap.size, 0, z.cells.size)⟩) (c := z.cells) (e := t) (x := .pointer (some ⟨w.heap.size, 0, none⟩)) hR hn [] ?_ rfl ?_ ?_
  · simp [execOp, ho, Instr.alloc, zeroValue, typeInfo, hi, hz, run_newVar]
  · refine ⟨rfl, _, _, _, rfl, alive_alloc_new _ _, by rw [ofZs_length]; omega, fun j hj => ?_⟩
    rw [Nat.zero_add, cellAt_alloc_new]
    exact .pure (rep_zero _ _ ti.size hzl hzm j (by rw [ofZs_length] at hj; omega))
  · intro I' O' D' hO
    exact .ptr (i := 0) (off := 0) hO rfl (by simp)

theorem op_box (hR : Rel cfg cx H D w I O) (hn : ¬ D nid) {t : TypeId} {x : Operand} (ho : o.op = .box t x) (hx : Rep w I O D (ρ x) (a.eval x)) (h : EvR Sp H (opPg cfg nid (.box t x) ρ) v ups r) : OpOK P cfg cx H D w I O nid o a v ups := by
  simp only [opPg] at h
  obtain ⟨hk, h1⟩ := h.cells_inv
  obtain ⟨rfl, rfl⟩ := h1.ret_inv
  obtain ⟨hl, hcs⟩ := hx.cells hk
  refine OpOK.of_new (p := ⟨0, 1, some (w.heap.size, 0, (a.eval x).cells.size)⟩) (c := (a.eval x).cells) (e := t) (x := .pointer (some ⟨w.heap.size, 0, none⟩)) hR hn [] ?_ rfl ?_ ?_
  · simp [execOp, ho, Instr.box, run_newVar]
  · refine ⟨rfl, _, _, _, rfl, alive_alloc_new _ _, by omega, fun j hj => ?_⟩
    rw [Nat.zero_add, cellAt_alloc_new]
    exact ((hcs j hj).1.kill hR []).push (hR.freeze []) _ _ hn
  · intro I' O' D' hO
    exact .ptr (i := 0) (off := 0) hO rfl (by simp)

end
end Go.Ab

namespace Go.Ab
section
variable {P : Program} {cfg : Cfg} {cx : Ctx} {H : Nat → Option AObj} {D : Nat → Prop} {w : World} {I : Nat → Prop} {O : OM} {Sp : SpecT}
variable {nid : Nat} {o : Oper} {a : Act} {ρ : Operand → AV} {v : AV} {ups : Ups} {r : List Nat}

theorem run_places (l : List Field) (h : ∀ f ∈ l, (P.info? f.type).isSome = true) : ∃ ps : List (Nat × Nat), ps.length = l.length ∧ (∀ (k : Nat) (f : Field) (i : TypeInfo), l[k]? = some f → P.info? f.type = some i → ps[k]? = some (f.offset, i.size)) ∧
    (l.mapM (fun f : Field => do pure (f.offset, ← sizeOf f.type))).run P w = .ok ps w := by
  induction l with
  | nil => exact ⟨[], rfl, fun k f i h => by simp at h, by simp⟩
  | cons f l ih =>
    obtain ⟨ps, h1, h2, h3⟩ := ih (fun f hf => h f (List.mem_cons_of_mem _ hf))
    obtain ⟨i, hi⟩ := Option.isSome_iff_exists.1 (h f (by simp))
    refine ⟨(f.offset, i.size) :: ps, by simp [h1], fun k f' i' hk hi' => ?_, ?_⟩
    · cases k with
      | zero => simp at hk; subst hk; rw [hi] at hi'; cases hi'; simp
      | succ k => simpa using h2 k f' i' (by simpa using hk) hi'
    · rw [List.mapM_cons]
      simp only [bind_assoc, pure_bind, Sem.run_bind, run_sizeOf' hi, Result.andThen_ok, h3, Sem.run_pure]

/-- What a part's cells do to an array of cells. -/
def setAt (cells : Array Value) (off : Nat) (vs : Array Value) : Array Value := vs.zipIdx.foldl (fun cs (p : Value × Nat) => cs.setIfInBounds (off + p.2) p.1) cells

theorem setAt_list (off : Nat) : ∀ (l : List Value) (n : Nat) (cells : Array Value), off + n + l.length ≤ cells.size →
    ((l.zipIdx n).foldl (fun (cs : Array Value) (p : Value × Nat) => cs.setIfInBounds (off + p.2) p.1) cells).size = cells.size ∧
    ∀ k, ((l.zipIdx n).foldl (fun (cs : Array Value) (p : Value × Nat) => cs.setIfInBounds (off + p.2) p.1) cells).getD k Go.undef =
      if off + n ≤ k ∧ k < off + n + l.length then l.getD (k - (off + n)) Go.undef else cells.getD k Go.undef := by
  intro l
  induction l with
  | nil => intro n cells _; exact ⟨rfl, fun k => by simp [show ¬ (off + n ≤ k ∧ k < off + n) by omega]⟩
  | cons x l ih =>
    intro n cells hle
    simp only [List.zipIdx_cons, List.foldl_cons]
    obtain ⟨h1, h2⟩ := ih (n + 1) (cells.setIfInBounds (off + n) x) (by simp at hle ⊢; omega)
    refine ⟨by rw [h1]; simp, fun k => ?_⟩
    rw [h2 k]
    by_cases hk : k = off + n
    · subst hk
      have hlt : off + n < cells.size := by simp at hle; omega
      have e1 : ¬ (off + (n + 1) ≤ off + n ∧ off + n < off + (n + 1) + l.length) := by omega
      have e2 : off + n ≤ off + n ∧ off + n < off + n + (x :: l).length := by simp
      rw [if_neg e1, if_pos e2]
      simp [hlt]
    · by_cases hin : off + (n + 1) ≤ k ∧ k < off + (n + 1) + l.length
      · have e2 : off + n ≤ k ∧ k < off + n + (x :: l).length := by simp; omega
        rw [if_pos hin, if_pos e2]
        have : k - (off + n) = (k - (off + (n + 1))) + 1 := by omega
        rw [this]
        simp
      · have e2 : ¬ (off + n ≤ k ∧ k < off + n + (x :: l).length) := by simp; omega
        rw [if_neg hin, if_neg e2]
        have hne : off + n ≠ k := fun e => hk e.symm
        simp [Array.getElem?_setIfInBounds_ne hne]

theorem setAt_spec (cells : Array Value) (off : Nat) (vs : Array Value) (h : off + vs.size ≤ cells.size) : (setAt cells off vs).size = cells.size ∧
    ∀ k, (setAt cells off vs).getD k Go.undef = if off ≤ k ∧ k < off + vs.size then vs.getD (k - off) Go.undef else cells.getD k Go.undef := by
  have e : setAt cells off vs = (vs.toList.zipIdx 0).foldl (fun (cs : Array Value) (p : Value × Nat) => cs.setIfInBounds (off + p.2) p.1) cells := by
    unfold setAt
    rw [← Array.foldl_toList]
    simp
  rw [e]
  obtain ⟨h1, h2⟩ := setAt_list off vs.toList 0 cells (by simpa using h)
  refine ⟨h1, fun k => ?_⟩
  rw [h2 k]
  simp

theorem putL_length : ∀ (new l : List AV) (off : Nat), (putL off new l).length = l.length := by
  intro new l
  induction l generalizing new with
  | nil => intro off; cases new <;> cases off <;> simp [putL]
  | cons x l ih =>
    intro off
    cases new with
    | nil => cases off <;> simp [putL]
    | cons v new => cases off <;> simp [putL, ih]

theorem nth_putL : ∀ (l new : List AV) (off : Nat), off + new.length ≤ l.length → ∀ j, nth (putL off new l) j = if off ≤ j ∧ j < off + new.length then nth new (j - off) else nth l j := by
  intro l
  induction l with
  | nil =>
    intro new off h j
    have : new = [] := by cases new <;> simp_all
    subst this
    rw [if_neg (by simp)]
    cases off <;> rfl
  | cons x l ih =>
    intro new off h j
    cases new with
    | nil => cases off <;> simp [putL, show ∀ n : Nat, ¬ (n ≤ j ∧ j < n) by omega]
    | cons v new =>
      cases off with
      | zero =>
        simp only [putL]
        cases j with
        | zero => simp [nth]
        | succ j =>
          simp only [nth]
          rw [ih new 0 (by simp at h ⊢; omega) j]
          by_cases hj : j < new.length
          · rw [if_pos (by omega), if_pos (by simp; omega)]; simp [nth]
          · rw [if_neg (by omega), if_neg (by simp; omega)]
      | succ off =>
        simp only [putL]
        cases j with
        | zero => simp [nth]
        | succ j =>
          simp only [nth]
          rw [ih (v :: new) off (by simp at h ⊢; omega) j]
          by_cases hj : off ≤ j ∧ j < off + (v :: new).length
          · rw [if_pos hj, if_pos (by omega)]; congr 1; omega
          · rw [if_neg hj, if_neg (by omega)]

/-- Cells that stand for abstract cells. -/
def RepL (w : World) (I : Nat → Prop) (O : OM) (D : Nat → Prop) (cs : List AV) (cells : Array Value) : Prop := cells.size = cs.length ∧ ∀ j, j < cs.length → Rep w I O D (nth cs j) (cells.getD j Go.undef)

theorem RepL.put {cs new : List AV} {cells vs : Array Value} {off : Nat} (h : RepL w I O D cs cells) (h' : RepL w I O D new vs) (hle : off + new.length ≤ cs.length) : RepL w I O D (putL off new cs) (setAt cells off vs) := by
  obtain ⟨h1, h2⟩ := h
  obtain ⟨h3, h4⟩ := h'
  obtain ⟨s1, s2⟩ := setAt_spec cells off vs (by omega)
  refine ⟨by rw [s1, putL_length, h1], fun j hj => ?_⟩
  rw [putL_length] at hj
  rw [nth_putL _ _ _ hle, s2]
  by_cases hin : off ≤ j ∧ j < off + new.length
  · rw [if_pos hin, if_pos (by omega)]; exact h4 _ (by omega)
  · rw [if_neg hin, if_neg (by omega)]; exact h2 j hj

theorem fill_cons (place : Nat → Option (Nat × Nat)) (cells : Array Value) (i : Nat) (v : Value) (rest : List (Nat × Value)) (off size : Nat) (hp : place i = some (off, size)) (hs : v.cells.size = size) (hle : off + v.cells.size ≤ cells.size) :
    Instr.fill place cells ((i, v) :: rest) = Instr.fill place (setAt cells off v.cells) rest := by
  have hs' : ¬ v.cells.size ≠ size := by omega
  have hle' : ¬ off + v.cells.size > cells.size := by omega
  simp only [Instr.fill, hp]
  rw [if_neg (by simp; omega)]
  rfl

theorem fillS_sound {fs : List (Nat × Nat)} {place : Nat → Option (Nat × Nat)} (hpl : ∀ k off t ti, nthF fs k = some (off, t) → look cfg.ty t = some ti → place k = some (off, ti.size)) :
    ∀ (parts : List (Nat × Operand)) (cs : List AV) (cells : Array Value) (k : List AV → Pg) (r : List Nat), (∀ p ∈ parts, Rep w I O D (ρ p.2) (a.eval p.2)) → RepL w I O D cs cells → EvR Sp H (fillS cfg fs (parts.map fun p => (p.1, ρ p.2)) cs k) v ups r →
      ∃ cs' cells' r', EvR Sp H (k cs') v ups r' ∧ Instr.fill place cells (parts.map fun p => (p.1, a.eval p.2)) = some cells' ∧ RepL w I O D cs' cells' := by
  intro parts
  induction parts with
  | nil => intro cs cells k r _ hrep h; exact ⟨cs, cells, r, h, rfl, hrep⟩
  | cons p parts ih =>
    intro cs cells k r hx hrep h
    simp only [List.map_cons, fillS] at h
    cases hf : nthF fs p.1 with
    | none => simp only [hf] at h; exact (EvR.fail_inv h).elim
    | some q =>
      obtain ⟨off, t⟩ := q
      simp only [hf] at h
      obtain ⟨ti, ht, h1⟩ := h.ty_inv
      obtain ⟨hk, h2⟩ := h1.cells_inv
      obtain ⟨hsz, h3⟩ := h2.chk_inv
      obtain ⟨hle, h4⟩ := h3.chk_inv
      have hsz : (ρ p.2).cells.length = ti.size := Nat.eq_of_beq_eq_true hsz
      have hle : off + (ρ p.2).cells.length ≤ cs.length := Nat.le_of_ble_eq_true hle
      obtain ⟨hl, hcs⟩ := (hx p (by simp)).cells hk
      have hrep' := hrep.put (off := off) (new := (ρ p.2).cells) (vs := (a.eval p.2).cells) ⟨hl, fun j hj => (hcs j hj).1⟩ hle
      obtain ⟨cs', cells', r', q1, q2, q3⟩ := ih _ _ k r (fun p hp => hx p (List.mem_cons_of_mem _ hp)) hrep' h4
      refine ⟨cs', cells', r', q1, ?_, q3⟩
      simp only [List.map_cons]
      rw [fill_cons place cells p.1 (a.eval p.2) _ off ti.size (hpl _ _ _ _ hf ht) (by omega) (by have := hrep.1; omega)]
      exact q2

theorem op_build (hc : CfgOK P cfg) (hR : Rel cfg cx H D w I O) {t : TypeId} {parts : Array (Nat × Operand)} (ho : o.op = .build t parts) (hx : ∀ p ∈ parts.toList, Rep w I O D (ρ p.2) (a.eval p.2))
    (h : EvR Sp H (opPg cfg nid (.build t parts) ρ) v ups r) : OpOK P cfg cx H D w I O nid o a v ups := by
  simp only [opPg] at h
  obtain ⟨ti, ht, h1⟩ := h.ty_inv
  obtain ⟨i, d, z, hi, hu, hz, hs, _, _, hzs, hzl, hzm, hd⟩ := (hc.ty t ti ht).ex
  split at h1
  · rename_i fs e
    rw [e] at hd
    obtain ⟨fields, rfl, hfs⟩ := hd
    have hth := hc.fields t ti _ ht hu
    obtain ⟨ps, p1, p2, p3⟩ := run_places (P := P) (w := w) fields.toList hth
    have hpl : ∀ k off t ti, nthF fs k = some (off, t) → look cfg.ty t = some ti → (ps.toArray[·]?) k = some (off, ti.size) := by
      intro k off t' ti' hk ht'
      have hf : fieldOf ti k = some (off, t') := by unfold fieldOf; rw [e]; exact hk
      obtain ⟨fields', fd, q1, q2, q3, q4⟩ := hc.field ht hf
      rw [hu] at q1
      cases q1
      obtain ⟨i', _, _, q5, _, _, q6, _⟩ := (hc.ty t' ti' ht').ex
      have := p2 k fd i' (by simpa using q2) (by rw [q4]; exact q5)
      simpa [q3, q6] using this
    have hrep : RepL w I O D (ofZs ti.zero) z.cells := ⟨by rw [ofZs_length]; omega, fun j hj => .pure (rep_zero _ _ ti.size hzl hzm j (by rw [ofZs_length] at hj; omega))⟩
    obtain ⟨cs', cells', r', q1, q2, q3⟩ := fillS_sound hpl parts.toList _ _ _ _ hx hrep h1
    obtain ⟨rfl, rfl⟩ := q1.ret1_inv
    refine OpOK.of_pure (x := .agg cells') hR ?_ (.agg q3.1 q3.2)
    have hm : (fields.mapM (fun f : Field => do pure (f.offset, ← sizeOf f.type))).run P w = .ok ps.toArray w := by
      have e0 : fields = fields.toList.toArray := by simp
      rw [e0, List.mapM_toArray, map_eq_pure_bind, Sem.run_bind, p3]
      rfl
    have e1 : (parts.map fun (p : Nat × Operand) => (p.1, a.eval p.2)).toList = parts.toList.map fun p => (p.1, a.eval p.2) := by simp
    simp only [execOp, ho, Instr.build, Sem.run_bind, zeroValue, typeInfo, program, Sem.run, hi, hz, Sem.run_pure, Result.andThen_ok, run_underlying' hu, hm, e1, q2]
  · exact (EvR.fail_inv h1).elim

end
end Go.Ab

namespace Go.Ab
section
variable {P : Program} {cfg : Cfg} {cx : Ctx} {H : Nat → Option AObj} {D : Nat → Prop} {w : World} {I : Nat → Prop} {O : OM} {Sp : SpecT}
variable {nid : Nat} {o : Oper} {a : Act} {ρ : Operand → AV} {v : AV} {ups : Ups} {r : List Nat}

theorem zok_spec {ti : TyI} (h : zok ti = true) : 0 < ti.size ∧ (ti.agg = false → ti.size = 1) := by
  unfold zok at h
  cases h0 : Nat.blt 0 ti.size with
  | false => simp [h0] at h
  | true =>
    simp only [h0] at h
    refine ⟨by simpa using h0, fun ha => ?_⟩
    simp only [ha] at h
    exact Nat.eq_of_beq_eq_true h

theorem cells_ofZ (z : ZK) : (ofZ z).cells = [ofZ z] := by cases z <;> rfl

/-- A zero element. -/
theorem zeroOf_cells {ti : TyI} (hz : zok ti = true) (hl : ti.zero.length = ti.size) : (zeroOf ti).cells = ofZs ti.zero := by
  obtain ⟨h0, h1⟩ := zok_spec hz
  unfold zeroOf
  cases ha : ti.agg with
  | true => rfl
  | false =>
    have := h1 ha
    match hzz : ti.zero, hl with
    | [z], _ => simp only [ofZs, nth]; exact cells_ofZ z
    | [], hl => simp at hl; omega
    | _ :: _ :: _, hl => simp at hl; omega

theorem zeroCells_get (z : Array Value) (len i j size : Nat) (hs : z.size = size) (hi : i < len) (hj : j < size) : ((Array.range (len * size)).map (fun k => z[k % z.size]!)).getD (i * size + j) Go.undef = z.getD j Go.undef := by
  have hlt : i * size + j < len * size := by
    have : (i + 1) * size ≤ len * size := Nat.mul_le_mul_right _ hi
    rw [Nat.succ_mul] at this
    omega
  have hm : (i * size + j) % size = j := by
    rw [Nat.mul_comm, Nat.mul_add_mod]
    exact Nat.mod_eq_of_lt hj
  have hjz : j < z.size := by omega
  simp [hlt, hs, hm, getElem!_pos z j hjz, Array.getElem?_eq_getElem hjz]

/-- A row of elements in an array of cells. -/
def RepE (w : World) (I : Nat → Prop) (size len : Nat) (g : Nat → AV) (cells : Array Value) : Prop := cells.size = len * size ∧ ∀ i, i < len → (g i).cells.length = size ∧ ∀ j, j < size → PRep w I (nth (g i).cells j) (cells.getD (i * size + j) Go.undef) ∧ (cells.getD (i * size + j) Go.undef).oneCell' = true

theorem RepE.obj {size len : Nat} {g : Nat → AV} {cells : Array Value} {e : TypeId} {O' : OM} {D' : Nat → Prop} {p : Own} (hI : ∀ b, I b → b < w.heap.size) (h : RepE w I size len g cells) (hp : p = ⟨size, len, some (w.heap.size, 0, cells.size)⟩) :
    ObjRep (w.alloc (.cells cells e)) I O' D' p (.row size len g) := by
  subst hp
  obtain ⟨h1, h2⟩ := h
  refine ⟨rfl, rfl, fun i hi => (h2 i hi).1, .inr ⟨_, _, _, rfl, alive_alloc_new _ _, by omega, fun i j hi hj => ?_⟩⟩
  rw [Nat.zero_add, cellAt_alloc_new]
  exact ⟨((h2 i hi).2 j hj).1.mono (fun _ h => h) (fun b hb => heap_alloc_lt _ (hI b hb)), ((h2 i hi).2 j hj).2⟩

theorem repE_nth (n i : Nat) (z : AV) (h : i < n) : nth (repE n z) i = z := by
  induction n generalizing i with
  | zero => cases h
  | succ n ih => cases i with
    | zero => rfl
    | succ i => exact ih i (by omega)

theorem repE_length (n : Nat) (z : AV) : (repE n z).length = n := by
  induction n with
  | zero => rfl
  | succ n ih => simp [repE, ih]

theorem setNth_length (l : List AV) (i : Nat) (v : AV) : (setNth i v l).length = l.length := by
  induction l generalizing i with
  | nil => simp [setNth]
  | cons x l ih => cases i <;> simp [setNth, ih]

theorem nth_setNth (l : List AV) (i : Nat) (v : AV) (h : i < l.length) (k : Nat) : nth (setNth i v l) k = if k = i then v else nth l k := by
  induction l generalizing i k with
  | nil => cases h
  | cons x l ih =>
    cases i with
    | zero => cases k <;> simp [setNth, nth]
    | succ i => cases k with
      | zero => simp [setNth, nth]
      | succ k => simp [setNth, nth, ih i (by simpa using h) k]

theorem pure_of_rep {u : AV} {x : Value} (h : Rep w I (fun _ => none) (fun _ => False) u x) : PRep w I u x := by
  induction h with
  | pure h => exact h
  | ptr ho => cases ho
  | osl ho => cases ho
  | deadP _ hd => exact hd.elim
  | deadS _ hd => exact hd.elim
  | agg hl _ ih => exact .agg hl ih
  | fn hl _ ih => exact .fn hl ih
  | tup hl _ ih => exact .tup hl ih

theorem fillE_sound {size len : Nat} {agg : Bool} : ∀ (ps : List (Nat × AV)) (vals : List (Nat × Value)) (es : List AV) (cells : Array Value) (k : List AV → Pg) (r : List Nat), vals.map (·.1) = ps.map (·.1) →
    (∀ (j : Nat) (u : Nat × AV) (x : Nat × Value), ps[j]? = some u → vals[j]? = some x → PRep w I u.2 x.2) → es.length = len → RepE w I size len (nth es) cells → EvR Sp H (fillE size agg ps es k) v ups r →
      ∃ es' cells' r', EvR Sp H (k es') v ups r' ∧ Instr.fill (fun i => some (i * size, size)) cells vals = some cells' ∧ RepE w I size len (nth es') cells' := by
  intro ps
  induction ps with
  | nil =>
    intro vals es cells k r hv _ _ hrep h
    have : vals = [] := by simpa using hv
    subst this
    exact ⟨es, cells, r, h, rfl, hrep⟩
  | cons p ps ih =>
    intro vals es cells k r hv hx hl hrep h
    cases vals with
    | nil => simp at hv
    | cons x vals =>
      simp only [List.map_cons, List.cons.injEq] at hv
      obtain ⟨i, u⟩ := p
      obtain ⟨i', xv⟩ := x
      simp only at hv
      obtain ⟨rfl, hv⟩ := hv
      simp only [fillE] at h
      obtain ⟨_, h1⟩ := h.chk_inv
      obtain ⟨hk, h2⟩ := h1.cells_inv
      obtain ⟨hsz, h3⟩ := h2.chk_inv
      obtain ⟨hlt, h4⟩ := h3.chk_inv
      have hsz : u.cells.length = size := Nat.eq_of_beq_eq_true hsz
      have hlt : i' < es.length := by simpa using hlt
      have hu : PRep w I u xv := hx 0 (i', u) (i', xv) rfl rfl
      have hur : Rep w I (fun _ => none) (fun _ => False) u xv := .pure hu
      obtain ⟨hcl, hcs⟩ := hur.cells hk
      obtain ⟨r1, r2⟩ := hrep
      have hmul : (i' + 1) * size ≤ len * size := Nat.mul_le_mul_right _ (by omega)
      rw [Nat.succ_mul] at hmul
      obtain ⟨s1, s2⟩ := setAt_spec cells (i' * size) xv.cells (by omega)
      have hrep' : RepE w I size len (nth (setNth i' u es)) (setAt cells (i' * size) xv.cells) := by
        refine ⟨by omega, fun j hj => ?_⟩
        rw [nth_setNth es i' u hlt]
        by_cases hji : j = i'
        · subst hji
          rw [if_pos rfl]
          refine ⟨hsz, fun q hq => ?_⟩
          rw [s2, if_pos (by omega), Nat.add_sub_cancel_left]
          exact ⟨pure_of_rep (hcs q (by omega)).1, (hcs q (by omega)).2⟩
        · rw [if_neg hji]
          refine ⟨(r2 j hj).1, fun q hq => ?_⟩
          have hne : ¬ (i' * size ≤ j * size + q ∧ j * size + q < i' * size + xv.cells.size) := by
            rcases Nat.lt_or_gt_of_ne hji with hlt' | hgt
            · have : (j + 1) * size ≤ i' * size := Nat.mul_le_mul_right _ (by omega)
              rw [Nat.succ_mul] at this
              omega
            · have : (i' + 1) * size ≤ j * size := Nat.mul_le_mul_right _ (by omega)
              rw [Nat.succ_mul] at this
              omega
          rw [s2, if_neg hne]
          exact (r2 j hj).2 q hq
      obtain ⟨es', cells', r', q1, q2, q3⟩ := ih vals _ _ k r hv (fun j u x hj hj' => hx (j + 1) u x (by simpa using hj) (by simpa using hj')) (by rw [setNth_length]; exact hl) hrep' h4
      refine ⟨es', cells', r', q1, ?_, q3⟩
      rw [fill_cons _ cells i' xv vals (i' * size) size rfl (by omega) (by omega)]
      exact q2

theorem purParts_sound (hR : Rel cfg cx H D w I O) : ∀ (parts : List (Nat × Operand)) (k : List (Nat × AV) → List Nat → Pg) (r : List Nat), (∀ p ∈ parts, Rep w I O D (ρ p.2) (a.eval p.2)) → EvR Sp H (purParts (parts.map fun p => (p.1, ρ p.2)) k) v ups r →
    ∃ ps ids r', EvR Sp H (k ps ids) v ups r' ∧ (parts.map fun p => (p.1, a.eval p.2)).map (·.1) = ps.map (·.1) ∧
      ∀ (j : Nat) (u : Nat × AV) (x : Nat × Value), ps[j]? = some u → (parts.map fun p => (p.1, a.eval p.2))[j]? = some x → PRep w (fun b => I b ∨ Blk O ids b) u.2 x.2 := by
  intro parts
  induction parts with
  | nil => intro k r _ h; exact ⟨[], [], r, h, rfl, fun j u x hu => by simp at hu⟩
  | cons p parts ih =>
    intro k r hx h
    simp only [List.map_cons, purParts] at h
    obtain ⟨u, i1, r1, h1, h2⟩ := (pur_sound hR fuel).1 _ _ _ _ _ h
    obtain ⟨ps, i2, r2, h3, h4, h5⟩ := ih _ _ (fun p hp => hx p (List.mem_cons_of_mem _ hp)) h1
    refine ⟨(p.1, u) :: ps, i1 ++ i2, r2, h3, by simpa using h4, fun j u' x' hu' hx' => ?_⟩
    cases j with
    | zero =>
      simp at hu' hx'
      subst hu'; subst hx'
      exact (h2 _ (hx p (by simp))).mono (fun b h => h.elim .inl fun h => .inr h.mono_l) (fun _ _ => rfl)
    | succ j =>
      exact (h5 j u' x' (by simpa using hu') (by simpa using hx')).mono (fun b h => h.elim .inl fun h => .inr h.mono_r) (fun _ _ => rfl)

theorem op_buildSlice (hc : CfgOK P cfg) (hR : Rel cfg cx H D w I O) (hn : ¬ D nid) {t : TypeId} {len : Nat} {parts : Array (Nat × Operand)} (ho : o.op = .buildSlice t len parts) (hx : ∀ p ∈ parts.toList, Rep w I O D (ρ p.2) (a.eval p.2))
    (h : EvR Sp H (opPg cfg nid (.buildSlice t len parts) ρ) v ups r) : OpOK P cfg cx H D w I O nid o a v ups := by
  simp only [opPg] at h
  obtain ⟨tt, e, ti, h1, h2, h3, h4⟩ := h.elem_inv
  obtain ⟨hz, h5⟩ := h4.chk_inv
  obtain ⟨hle, h6⟩ := h5.chk_inv
  have hle : len * ti.size ≤ 4096 := Nat.le_of_ble_eq_true hle
  obtain ⟨z0, z1⟩ := zok_spec hz
  obtain ⟨hu, i, z, hi, hiz, hs, hby, hzs⟩ := hc.slice h1 h2 h3
  obtain ⟨i', _, z', hi', _, hiz', _, _, _, _, hzl, hzm, _⟩ := (hc.ty e ti h3).ex
  rw [hi] at hi'; cases hi'
  rw [hiz] at hiz'; cases hiz'
  obtain ⟨ps, ids, r1, h7, h8, h9⟩ := purParts_sound hR parts.toList _ _ hx h6
  have hzero : RepE w (fun b => I b ∨ Blk O ids b) ti.size len (nth (repE len (zeroOf ti))) ((Array.range (len * ti.size)).map (fun k => z.cells[k % z.cells.size]!)) := by
    refine ⟨by simp, fun j hj => ?_⟩
    rw [repE_nth _ _ _ hj, zeroOf_cells hz hzl]
    refine ⟨by rw [ofZs_length]; exact hzl, fun q hq => ?_⟩
    rw [zeroCells_get z.cells len j q ti.size hzs hj hq]
    exact ⟨rep_zero _ _ ti.size hzl hzm q hq, zero_one _ _ ti.size hzm q hq⟩
  obtain ⟨es', cells', r2, q1, q2, q3⟩ := fillE_sound ps _ _ _ _ _ h8 h9 (repE_length _ _) hzero h7
  obtain ⟨rfl, rfl⟩ := q1.ret_inv
  refine OpOK.of_new (p := ⟨ti.size, len, some (w.heap.size, 0, cells'.size)⟩) (c := cells') (e := e) (x := .slice (some ⟨w.heap.size, 0, none⟩) len len) hR hn ids ?_ rfl (RepE.obj (hR.freeze ids).Ilt q3 rfl) ?_
  · have e1 : (parts.map fun (p : Nat × Operand) => (p.1, a.eval p.2)).toList = parts.toList.map fun p => (p.1, a.eval p.2) := by simp
    have hno : ¬ len * ti.size > 2 ^ 24 := by omega
    by_cases h0 : len * ti.size = 0
    · have hcell : cells' = #[] := by
        have := q3.1
        rw [h0] at this
        exact Array.eq_empty_of_size_eq_zero this
      have hf : Instr.fill (fun i => some (i * ti.size, ti.size)) ((Array.range (len * ti.size)).map (fun k => (#[] : Array Value)[k % (#[] : Array Value).size]!)) (parts.toList.map fun p => (p.1, a.eval p.2)) = some cells' := by
        have e0 : ∀ f : Nat → Value, (Array.range (len * ti.size)).map f = #[] := fun f => Array.eq_empty_of_size_eq_zero (by simp [h0])
        rw [e0] at q2 ⊢
        exact q2
      simp only [execOp, ho, Instr.buildSlice, Sem.run_bind, run_underlying' hu, run_sizeOf' hi, hs, if_neg hno, if_pos h0, Sem.run_pure, e1, hf, newRow, newObj, Sem.run, Result.andThen]
      rfl
    · simp only [execOp, ho, Instr.buildSlice, Sem.run_bind, run_underlying' hu, run_sizeOf' hi, hs, if_neg hno, if_neg h0, zeroValue, typeInfo, program, Sem.run, hi, hiz, Sem.run_pure, e1, q2, newRow, newObj, Result.andThen]
      rfl
  · intro I' O' D' hO
    refine .osl hO (by simp) (Nat.le_refl _) (fun _ => rfl) (fun _ => ⟨_, _, _, rfl, by simp, ?_⟩)
    have := q3.1
    simp [this]

theorem not_big {m b : Nat} (h : m * b ≤ 140737488355328) : ¬ ((b : Int) * (m : Int) > 2 ^ 48) := by
  have e : (2 : Int) ^ 48 = ((281474976710656 : Nat) : Int) := by decide
  rw [e, ← Int.natCast_mul, Nat.mul_comm]
  omega

theorem op_makeSlice (hc : CfgOK P cfg) (hR : Rel cfg cx H D w I O) (hn : ¬ D nid) {t : TypeId} {l c : Operand} (ho : o.op = .makeSlice t l c) (hx : Rep w I O D (ρ l) (a.eval l))
    (h : EvR Sp H (opPg cfg nid (.makeSlice t l c) ρ) v ups r) : OpOK P cfg cx H D w I O nid o a v ups := by
  simp only [opPg] at h
  obtain ⟨tt, e, ti, h1, h2, h3, h4⟩ := h.elem_inv
  split at h4
  · rename_i k n en
    rw [en] at hx
    have hlv := hx.int_inv
    obtain ⟨hsame, h5⟩ := h4.chk_inv
    obtain ⟨hb0, h6⟩ := h5.chk_inv
    obtain ⟨hz, h7⟩ := h6.chk_inv
    obtain ⟨⟨hn0, hbig⟩, h8⟩ := h7.need_inv
    obtain ⟨rfl, rfl⟩ := h8.ret_inv
    have hcl : c = l := by have := sameOperand_spec hsame; simpa using this.symm
    subst hcl
    have hb0 : 0 < ti.bytes := by simpa using hb0
    obtain ⟨z0, z1⟩ := zok_spec hz
    obtain ⟨hu, i, z, hi, hiz, hs, hby, hzs⟩ := hc.slice h1 h2 h3
    obtain ⟨i', _, z', hi', _, hiz', _, _, _, _, hzl, hzm, _⟩ := (hc.ty e ti h3).ex
    rw [hi] at hi'; cases hi'
    rw [hiz] at hiz'; cases hiz'
    obtain ⟨m, rfl⟩ := Int.eq_ofNat_of_zero_le hn0
    have hbig' : m * ti.bytes ≤ 140737488355328 := by
      have : ((m * ti.bytes : Nat) : Int) ≤ ((140737488355328 : Nat) : Int) := by simpa [big] using hbig
      exact_mod_cast this
    have hm47 : m ≤ 140737488355328 := Nat.le_trans (Nat.le_mul_of_pos_right _ hb0) hbig'
    have hw : IntKind.i64.wrap (m : Int) = m := wrap_i64 ⟨by omega, by omega⟩
    have hcells : RepE w (fun b => I b ∨ Blk O [] b) ti.size m (fun _ => zeroOf ti) ((Array.range (m * ti.size)).map (fun k => z.cells[k % z.cells.size]!)) := by
      refine ⟨by simp, fun j hj => ?_⟩
      rw [zeroOf_cells hz hzl]
      refine ⟨by rw [ofZs_length]; exact hzl, fun q hq => ?_⟩
      rw [zeroCells_get z.cells m j q ti.size hzs hj hq]
      exact ⟨rep_zero _ _ ti.size hzl hzm q hq, zero_one _ _ ti.size hzm q hq⟩
    have e2 : ((m : Int)).toNat = m := by simp
    rw [e2]
    have hlen := hcells.1
    refine OpOK.of_new (p := ⟨ti.size, m, some (w.heap.size, 0, ((Array.range (m * ti.size)).map (fun k => z.cells[k % z.cells.size]!)).size)⟩) (c := (Array.range (m * ti.size)).map (fun k => z.cells[k % z.cells.size]!)) (e := e) (x := .slice (some ⟨w.heap.size, 0, none⟩) m m) hR hn [] ?_ rfl (RepE.obj (hR.freeze []).Ilt hcells rfl) ?_
    · have hge : ¬ ((m : Int) < 0) := by omega
      have hb2 : ¬ ((ti.bytes : Int) * (m : Int) > 2 ^ 48) := not_big hbig'
      have hroom : (askRoom (m * ti.bytes)).run P w = .ok () w := by
        unfold askRoom
        by_cases h : m * ti.bytes > roomBytes
        · rw [if_pos h]; rfl
        · rw [if_neg h]; rfl
      have hcond : (decide ((m : Int) < 0) || decide ((ti.bytes : Int) * (m : Int) > 2 ^ 48) || decide ((m : Int) < 0) || decide ((m : Int) > (m : Int))) = false := by
        rw [decide_eq_false hge, decide_eq_false hb2, decide_eq_false (Int.lt_irrefl _)]; rfl
      clear h1 h2 h3 h4 h5 h6 h7 h8 hzm hR hc hcells hlen hbig
      by_cases h0 : m * ti.size = 0
      · have e0 : ∀ f : Nat → Value, (Array.range (m * ti.size)).map f = #[] := fun f => Array.eq_empty_of_size_eq_zero (by simp [h0])
        simp only [execOp, ho, hlv, Instr.makeSlice, Sem.run_bind, run_underlying' hu, Result.andThen, asInt, asIntOf, Sem.run_pure, typeInfo, program, Sem.run, hi, hw, hby, Int.toNat_natCast, hcond, Bool.false_eq_true, if_false, hroom, run_sizeOf' hi, hs, if_pos h0, e0, newRow, newObj]
        rfl
      · simp only [execOp, ho, hlv, Instr.makeSlice, Sem.run_bind, run_underlying' hu, Result.andThen, asInt, asIntOf, Sem.run_pure, typeInfo, program, Sem.run, hi, hw, hby, Int.toNat_natCast, hcond, Bool.false_eq_true, if_false, hroom, run_sizeOf' hi, hs, if_neg h0, zeroValue, hiz, newRow, newObj]
        rfl
    · intro I' O' D' hO
      refine .osl hO (by simp) (Nat.le_refl _) (fun _ => rfl) (fun _ => ⟨_, _, _, rfl, by simp, ?_⟩)
      simp
  · exact (EvR.fail_inv h4).elim

end
end Go.Ab

namespace Go.Ab
section
variable {P : Program} {cfg : Cfg} {cx : Ctx} {H : Nat → Option AObj} {D : Nat → Prop} {w : World} {I : Nat → Prop} {O : OM} {Sp : SpecT}
variable {nid : Nat} {o : Oper} {a : Act} {ρ : Operand → AV} {v : AV} {ups : Ups} {r : List Nat}

/-- Only the heap counts. -/
theorem Rel.heap_eq {w' : World} (h : w'.heap = w.heap) (he : SameEnv w' w) (hR : Rel cfg cx H D w I O) : Rel cfg cx H D w' I O :=
  { hR with
    objs := fun o ob p h1 h2 => (hR.objs o ob p h1 h2).mono (fun _ h => h) (fun _ _ => by rw [h]) (fun _ _ => .inl rfl) (fun _ h => h) hR.used (fun _ _ _ _ => by rw [h])
    lt := fun o p b bo sz h1 h2 => by rw [h]; exact hR.lt o p b bo sz h1 h2
    Ilt := fun b hb => by rw [h]; exact hR.Ilt b hb
    size := by rw [h]; exact hR.size
    frame := fun b h1 h2 => by rw [h]; exact hR.frame b h1 h2
    env := hR.env.step he
    glob := fun g cs hg => (hR.glob g cs hg).mono (fun _ h => h) (fun _ _ => by rw [h]) }

theorem Rep.heap_eq {w' : World} (h : w'.heap = w.heap) (hR : Rel cfg cx H D w I O) {v : AV} {x : Value} (hx : Rep w I O D v x) : Rep w' I O D v x :=
  hx.mono (fun _ h => h) (fun _ _ => by rw [h]) (fun _ _ => .inl rfl) (fun _ h => h) hR.used

/-- Objects dropped: nobody sees them any more. -/
theorem Rel.drop (hR : Rel cfg cx H D w I O) (ids : List Nat) : Rel cfg cx (updF H (dead ids)) D w I (kill O ids) := by
  have hF := hR.freeze ids
  exact { hF with
    objs := fun o ob p h h' => by
      rw [updF_dead] at h; unfold kill at h'
      by_cases h0 : o ∈ ids <;> simp [h0] at h h'
      exact (hR.objs o ob p h h').mono (fun _ h => h) (fun _ _ => rfl) (fun o _ => by unfold kill; by_cases h0 : o ∈ ids <;> simp [h0]) (fun _ h => h) hR.used (fun _ _ _ _ => rfl)
    notI := fun o p b bo sz h1 h2 h3 => hF.notI o p b bo sz h1 h2 (.inl h3)
    Ilt := hR.Ilt
    glob := hR.glob
    I0I := hR.I0I
    II0 := hR.II0 }

theorem Rep.drop (hR : Rel cfg cx H D w I O) (ids : List Nat) {v : AV} {x : Value} (h : Rep w I O D v x) : Rep w I (Ab.kill O ids) D v x :=
  h.mono (fun _ h => h) (fun _ _ => rfl) (fun o _ => by unfold Ab.kill; by_cases h0 : o ∈ ids <;> simp [h0]) (fun _ h => h) hR.used

/-- A block that nobody of the living holds: written, and given to a new object. -/
theorem Rel.place (hR : Rel cfg cx H D w I O) (hn : ¬ D nid) {w' : World} (he : SameEnv w' w) {b bo sz : Nat} (ob : AObj) (p : Own) (hp : p.pl = some (b, bo, sz)) (hb : ∀ b', b' ≠ b → w'.heap[b']? = w.heap[b']?) (hs : w'.heap.size = w.heap.size)
    (hlt : b < w.heap.size) (hnew : cx.w0.heap.size ≤ b ∨ cx.M b) (hnI : ¬ I b) (hfree : ∀ o p b' bo' sz', O o = some p → p.pl = some (b', bo', sz') → b' ≠ b)
    (hob : ObjRep w' I (setO O nid p) (insD D nid) p ob) : Rel cfg cx (updF H [(nid, some ob)]) (insD D nid) w' I (setO O nid p) := by
  have hH : ∀ o, updF H [(nid, some ob)] o = if o = nid then some ob else H o := by
    intro o
    simp only [updF, look]
    cases hb : Nat.beq nid o with
    | true => have := Nat.eq_of_beq_eq_true hb; subst this; simp
    | false => have : o ≠ nid := fun e => by subst e; simp at hb
               simp [this]
  have old : ∀ {o p'}, o ≠ nid → setO O nid p o = some p' → O o = some p' := fun hne h => by unfold setO at h; rwa [if_neg hne] at h
  have hIb : ∀ b', I b' → w'.heap[b']? = w.heap[b']? := fun b' h => hb b' (fun e => hnI (e ▸ h))
  exact {
    dom := fun o => by
      rw [hH]; unfold setO
      by_cases h : o = nid
      · simp [h]
      · simp [h, hR.dom o]
    used := fun o p' h => by
      by_cases hne : o = nid
      · exact .inr hne
      · exact .inl (hR.used o p' (old hne h))
    objs := fun o ob' p' h h' => by
      by_cases hne : o = nid
      · subst hne
        rw [hH, if_pos rfl] at h
        unfold setO at h'
        rw [if_pos rfl] at h'
        cases h; cases h'
        exact hob
      · rw [hH, if_neg hne] at h
        have h'' := old hne h'
        exact (hR.objs o ob' p' h h'').mono (fun _ h => h) hIb (fun _ ho => .inl (setO_old hn ho)) (fun _ h => .inl h) hR.used (fun b' bo' sz' hpl => hb b' (hfree o p' b' bo' sz' h'' hpl))
    inj := fun o o' p1 p2 b1 bo1 sz1 b2 bo2 sz2 h1 h2 h3 h4 h5 => by
      by_cases e1 : o = nid
      · by_cases e2 : o' = nid
        · exact absurd (e1.trans e2.symm) h5
        · unfold setO at h1
          rw [if_pos e1] at h1
          cases h1
          rw [hp] at h3
          cases h3
          exact fun e => hfree o' p2 b2 bo2 sz2 (old e2 h2) h4 e.symm
      · by_cases e2 : o' = nid
        · unfold setO at h2
          rw [if_pos e2] at h2
          cases h2
          rw [hp] at h4
          cases h4
          exact hfree o p1 b1 bo1 sz1 (old e1 h1) h3
        · exact hR.inj o o' p1 p2 b1 bo1 sz1 b2 bo2 sz2 (old e1 h1) (old e2 h2) h3 h4 h5
    notI := fun o p1 b1 bo1 sz1 h1 h2 h3 => by
      by_cases e1 : o = nid
      · unfold setO at h1
        rw [if_pos e1] at h1
        cases h1
        rw [hp] at h2
        cases h2
        exact hnI h3
      · exact hR.notI o p1 b1 bo1 sz1 (old e1 h1) h2 h3
    lt := fun o p1 b1 bo1 sz1 h1 h2 => by
      by_cases e1 : o = nid
      · unfold setO at h1
        rw [if_pos e1] at h1
        cases h1
        rw [hp] at h2
        cases h2
        omega
      · have := hR.lt o p1 b1 bo1 sz1 (old e1 h1) h2
        omega
    Ilt := fun b' h => by rw [hs]; exact hR.Ilt b' h
    size := by rw [hs]; exact hR.size
    env := hR.env.step he
    frame := fun b' h1 h2 => by
      rw [hb b' (fun e => by subst e; rcases hnew with h | h; omega; exact h2 h)]
      exact hR.frame b' h1 h2
    new := fun o p1 b1 bo1 sz1 h1 h2 => by
      by_cases e1 : o = nid
      · unfold setO at h1
        rw [if_pos e1] at h1
        cases h1
        rw [hp] at h2
        cases h2
        exact hnew
      · exact hR.new o p1 b1 bo1 sz1 (old e1 h1) h2
    glob := fun g cs h => (hR.glob g cs h).mono (fun _ h => h) hIb
    I0I := hR.I0I
    II0 := hR.II0
    O0O := fun o h => by
      have hne : o ≠ nid := fun e => hn (e ▸ hR.Dm o h)
      unfold setO
      rw [if_neg hne]
      exact hR.O0O o h
    Dm := fun o h => .inl (hR.Dm o h) }

theorem Rep.place (hR : Rel cfg cx H D w I O) (hn : ¬ D nid) {w' : World} {p : Own} (hb : ∀ b', I b' → w'.heap[b']? = w.heap[b']?) {v : AV} {x : Value} (h : Rep w I O D v x) : Rep w' I (setO O nid p) (insD D nid) v x :=
  h.mono (fun _ h => h) hb (fun _ ho => .inl (setO_old hn ho)) (fun _ h => .inl h) hR.used

/-- An empty row without memory. -/
theorem Rel.empty (hR : Rel cfg cx H D w I O) (hn : ¬ D nid) (es : Nat) (g : Nat → AV) : Rel cfg cx (updF H [(nid, some (.row es 0 g))]) (insD D nid) w I (setO O nid ⟨es, 0, none⟩) := by
  have hH : ∀ o, updF H [(nid, some (.row es 0 g))] o = if o = nid then some (.row es 0 g) else H o := by
    intro o
    simp only [updF, look]
    cases hb : Nat.beq nid o with
    | true => have := Nat.eq_of_beq_eq_true hb; subst this; simp
    | false => have : o ≠ nid := fun e => by subst e; simp at hb
               simp [this]
  have old : ∀ {o p' b bo sz}, setO O nid ⟨es, 0, none⟩ o = some p' → p'.pl = some (b, bo, sz) → O o = some p' := fun h h' => by
    unfold setO at h
    split at h
    · cases h; cases h'
    · exact h
  exact {
    dom := fun o => by
      rw [hH]; unfold setO
      by_cases h : o = nid
      · simp [h]
      · simp [h, hR.dom o]
    used := fun o p' h => by
      by_cases hne : o = nid
      · exact .inr hne
      · unfold setO at h
        rw [if_neg hne] at h
        exact .inl (hR.used o p' h)
    objs := fun o ob' p' h h' => by
      by_cases hne : o = nid
      · subst hne
        rw [hH, if_pos rfl] at h
        unfold setO at h'
        rw [if_pos rfl] at h'
        cases h; cases h'
        exact ⟨rfl, rfl, fun i hi => absurd hi (by omega), .inl ⟨rfl, rfl⟩⟩
      · rw [hH, if_neg hne] at h
        unfold setO at h'
        rw [if_neg hne] at h'
        exact (hR.objs o ob' p' h h').mono (fun _ h => h) (fun _ _ => rfl) (fun _ ho => .inl (setO_old hn ho)) (fun _ h => .inl h) hR.used (fun _ _ _ _ => rfl)
    inj := fun o o' p1 p2 b1 bo1 sz1 b2 bo2 sz2 h1 h2 h3 h4 h5 => hR.inj o o' p1 p2 b1 bo1 sz1 b2 bo2 sz2 (old h1 h3) (old h2 h4) h3 h4 h5
    notI := fun o p1 b1 bo1 sz1 h1 h2 h3 => hR.notI o p1 b1 bo1 sz1 (old h1 h2) h2 h3
    lt := fun o p1 b1 bo1 sz1 h1 h2 => hR.lt o p1 b1 bo1 sz1 (old h1 h2) h2
    Ilt := hR.Ilt
    size := hR.size
    frame := hR.frame
    env := hR.env
    new := fun o p1 b1 bo1 sz1 h1 h2 => hR.new o p1 b1 bo1 sz1 (old h1 h2) h2
    glob := hR.glob
    I0I := hR.I0I
    II0 := hR.II0
    O0O := fun o h => by
      have hne : o ≠ nid := fun e => hn (e ▸ hR.Dm o h)
      unfold setO
      rw [if_neg hne]
      exact hR.O0O o h
    Dm := fun o h => .inl (hR.Dm o h) }

/-- A living object is written in its own block. -/
theorem Rel.write (hR : Rel cfg cx H D w I O) {w' : World} (he : SameEnv w' w) {ob b bo sz : Nat} {p : Own} (x : AObj) (ho : O ob = some p) (hp : p.pl = some (b, bo, sz)) (hb : ∀ b', b' ≠ b → w'.heap[b']? = w.heap[b']?) (hs : w'.heap.size = w.heap.size)
    (hob : ObjRep w' I O D p x) : Rel cfg cx (updF H [(ob, some x)]) D w' I O := by
  have hnI := hR.notI ob p b bo sz ho hp
  have hIb : ∀ b', I b' → w'.heap[b']? = w.heap[b']? := fun b' h => hb b' (fun e => hnI (e ▸ h))
  have hH : ∀ o, updF H [(ob, some x)] o = if o = ob then some x else H o := by
    intro o
    simp only [updF, look]
    cases hb : Nat.beq ob o with
    | true => have := Nat.eq_of_beq_eq_true hb; subst this; simp
    | false => have : o ≠ ob := fun e => by subst e; simp at hb
               simp [this]
  exact { hR with
    dom := fun o => by
      rw [hH]
      by_cases h : o = ob
      · subst h; simp [ho]
      · simp [h, hR.dom o]
    objs := fun o ob' p' h h' => by
      by_cases hne : o = ob
      · subst hne
        rw [hH, if_pos rfl] at h
        rw [ho] at h'
        cases h; cases h'
        exact hob
      · rw [hH, if_neg hne] at h
        exact (hR.objs o ob' p' h h').mono (fun _ h => h) hIb (fun _ _ => .inl rfl) (fun _ h => h) hR.used (fun b' bo' sz' hpl => hb b' (hR.inj o ob p' p b' bo' sz' b bo sz h' ho hpl hp hne))
    lt := fun o p1 b1 bo1 sz1 h1 h2 => by rw [hs]; exact hR.lt o p1 b1 bo1 sz1 h1 h2
    Ilt := fun b' h => by rw [hs]; exact hR.Ilt b' h
    size := by rw [hs]; exact hR.size
    env := hR.env.step he
    frame := fun b' h1 h2 => by
      rw [hb b' (fun e => by subst e; rcases hR.new ob p b' bo sz ho hp with h | h; omega; exact h2 h)]
      exact hR.frame b' h1 h2
    glob := fun g cs h => (hR.glob g cs h).mono (fun _ h => h) hIb }

/-! Cells written one after another -/
theorem SameEnv.setCell (w : World) (a : Addr) (v : Value) : SameEnv (w.setCell a v) w := ⟨rfl, rfl, rfl, fun i o hi ho => by
  unfold World.setCell
  simp only [Array.getElem?_modify]
  split
  · rw [hi]
    cases o with
    | cells c t f => cases ho
    | _ => rfl
  · exact hi⟩
theorem env_setCells (b : Nat) : ∀ (vs : List Value) (off : Nat) (w : World), SameEnv (w.setCells b off vs) w
  | [], _, w => SameEnv.refl w
  | v :: r, off, w => (env_setCells b r (off + 1) (w.setCell ⟨b, off, none⟩ v)).trans (SameEnv.setCell w _ v)

theorem heap_setCells (b : Nat) : ∀ (vs : List Value) (off : Nat) (w : World), (w.setCells b off vs).heap.size = w.heap.size ∧ ∀ b', b' ≠ b → (w.setCells b off vs).heap[b']? = w.heap[b']?
  | [], _, _ => ⟨rfl, fun _ _ => rfl⟩
  | v :: r, off, w => by
    obtain ⟨h1, h2⟩ := heap_setCells b r (off + 1) (w.setCell ⟨b, off, none⟩ v)
    have e1 : (w.setCell ⟨b, off, none⟩ v).heap.size = w.heap.size := by simp [World.setCell]
    refine ⟨by rw [World.setCells, h1, e1], fun b' hb => ?_⟩
    rw [World.setCells, h2 b' hb]
    simp [World.setCell, Array.getElem?_modify, Ne.symm hb]

theorem frozen_setCells (b : Nat) : ∀ (vs : List Value) (off : Nat) (w : World) (j : Nat), (w.setCells b off vs).frozen? ⟨b, j, none⟩ = w.frozen? ⟨b, j, none⟩
  | [], _, _, _ => rfl
  | v :: r, off, w, j => by
    rw [World.setCells, frozen_setCells b r (off + 1) _ j]
    unfold World.frozen? World.setCell
    simp only [Array.getElem?_modify]
    cases hb : w.heap[b]? with
    | none => simp
    | some ob => cases ob <;> simp

theorem alive_setCells {b sz : Nat} (h : Alive w b sz) (off : Nat) (vs : List Value) (hle : off + vs.length ≤ sz) : Alive (w.setCells b off vs) b sz ∧
    ∀ j, j < sz → cellAt (w.setCells b off vs) b j = if off ≤ j ∧ j < off + vs.length then vs.getD (j - off) Go.undef else cellAt w b j := by
  have hin := World.cell?_setCells_in b vs off w (fun j hj => (h (off + j) (by omega)).1)
  have key : ∀ j, j < sz → (w.setCells b off vs).cell? ⟨b, j, none⟩ = some (if off ≤ j ∧ j < off + vs.length then vs.getD (j - off) Go.undef else cellAt w b j) := by
    intro j hj
    by_cases hc : off ≤ j ∧ j < off + vs.length
    · rw [if_pos hc]
      have := hin (j - off) (by omega)
      rw [show off + (j - off) = j by omega] at this
      rw [this]
      simp [show j - off < vs.length by omega]
    · rw [if_neg hc, World.cell?_setCells_out b vs off w ⟨b, j, none⟩ (fun _ _ => by simp; omega)]
      exact cellAt_eq h hj
  refine ⟨fun j hj => ⟨by rw [key j hj]; rfl, by rw [frozen_setCells]; exact (h j hj).2⟩, fun j hj => by rw [cellAt, key j hj]; rfl⟩

end
end Go.Ab

namespace Go.Ab
section
variable {P : Program} {cfg : Cfg} {cx : Ctx} {H : Nat → Option AObj} {D : Nat → Prop} {w : World} {I : Nat → Prop} {O : OM} {Sp : SpecT}
variable {nid : Nat} {o : Oper} {a : Act} {ρ : Operand → AV} {v : AV} {ups : Ups} {r : List Nat}

theorem run_store {t : TypeId} {i : TypeInfo} (hi : P.info? t = some i) {b off sz : Nat} (hal : Alive w b sz) (x : Value) (hs : x.cells.size = i.size) (hle : off + x.cells.size ≤ sz) (h1 : ∀ j, j < x.cells.size → (x.cells.getD j Go.undef).oneCell' = true) :
    (Instr.storeAt t (.pointer (some ⟨b, off, none⟩)) x).run P w = .ok () (w.setCells b off x.cells.toList) := by
  have := run_storeCells_cells (P := P) b off x.cells.toList 0 w (fun j hj => (hal (off + 0 + j) (by simp at hj; omega)).1) (fun j hj => (hal (off + 0 + j) (by simp at hj; omega)).2)
    (fun u hu => by
      obtain ⟨j, hj, rfl⟩ := List.mem_iff_getElem.1 hu
      have hj' : j < x.cells.size := by simpa using hj
      simpa [hj'] using h1 j hj')
  rw [Nat.add_zero] at this
  have hne : ¬ x.cells.size ≠ i.size := by omega
  simp only [Instr.storeAt, Instr.sureAddr, Sem.run_bind, Sem.run_pure, Result.andThen, storeVar, run_sizeOf' hi, if_neg hne, this]

theorem wp_skip' {w' : World} {next : Act → World → Prop} {Q : Exit → Act → World → Prop} (h : (execOp a.eval o).run P w = .ok .skip w') (hn : next (a.put o.dst Go.undef) w') : o.wp P a w next Q := by
  unfold Oper.wp; rw [h]; exact hn

theorem memN_spec {x : Nat} {l : List Nat} (h : memN x l = false) : x ∉ l := by
  induction l with
  | nil => simp
  | cons b l ih =>
    unfold memN at h
    cases hb : Nat.beq x b with
    | true => simp [hb] at h
    | false =>
      simp only [hb] at h
      have hne : x ≠ b := fun e => by subst e; simp at hb
      simp [hne, ih h]

theorem op_store (hc : CfgOK P cfg) (hR : Rel cfg cx H D w I O) {t : TypeId} {x y : Operand} (ho : o.op = .store t x y) (hx : Rep w I O D (ρ x) (a.eval x)) (hy : Rep w I O D (ρ y) (a.eval y))
    (h : EvR Sp H (opPg cfg nid (.store t x y) ρ) v ups r) : OpOK P cfg cx H D w I O nid o a v ups := by
  simp only [opPg] at h
  obtain ⟨ti, ht, h1⟩ := h.ty_inv
  obtain ⟨i, d, hi, hu, hd, hs⟩ := hc.agg ht
  split at h1
  · rename_i ob k off e
    rw [e] at hx
    obtain ⟨obj, _, hob, h2⟩ := h1.rd_inv
    obtain ⟨p, hp, hO⟩ := hR.live hob
    obtain ⟨b, bo, sz, hpl, hk, hxv⟩ := hx.ptr_inv hp
    cases obj with
    | held => exact (EvR.fail_inv h2).elim
    | box cs =>
      obtain ⟨hn, b', bo', sz', hpl', hal, hle, hcs⟩ := hO
      rw [hpl] at hpl'
      cases hpl'
      have hk0 : k = 0 := by omega
      subst hk0
      obtain ⟨hok, h3⟩ := h2.cells_inv
      obtain ⟨hsz, h4⟩ := h3.chk_inv
      obtain ⟨hin, h5⟩ := h4.chk_inv
      obtain ⟨rfl, rfl⟩ := h5.ret_inv
      have hsz : (ρ y).cells.length = ti.size := Nat.eq_of_beq_eq_true hsz
      have hin : off + (ρ y).cells.length ≤ cs.length := Nat.le_of_ble_eq_true hin
      obtain ⟨hcl, hcc⟩ := hy.cells hok
      have hrun := run_store (P := P) hi hal (a.eval y) (off := bo + off) (by omega) (by omega) (fun j hj => (hcc j (by omega)).2)
      obtain ⟨hal', hcell⟩ := alive_setCells hal (bo + off) (a.eval y).cells.toList (by simp; omega)
      obtain ⟨hh1, hh2⟩ := heap_setCells b (a.eval y).cells.toList (bo + off) w
      have hIb : ∀ b', I b' → (w.setCells b (bo + off) (a.eval y).cells.toList).heap[b']? = w.heap[b']? := fun b' hb => hh2 b' (fun e => hR.notI ob p b bo sz hp hpl (e ▸ hb))
      have keep : ∀ u z, Rep w I O D u z → Rep (w.setCells b (bo + off) (a.eval y).cells.toList) I O D u z := fun u z hu => hu.mono (fun _ h => h) hIb (fun _ _ => .inl rfl) (fun _ h => h) hR.used
      have hRel := hR.write (env_setCells _ _ _ _) (.box (putL off (ρ y).cells cs)) hp hpl hh2 hh1 (by
        refine ⟨hn, b, bo, sz, hpl, hal', by rw [putL_length]; exact hle, fun j hj => ?_⟩
        rw [putL_length] at hj
        rw [nth_putL _ _ _ hin, hcell (bo + j) (by omega)]
        by_cases hc1 : off ≤ j ∧ j < off + (ρ y).cells.length
        · rw [if_pos hc1, if_pos (by simp; omega)]
          have := keep _ _ (hcc (j - off) (by omega)).1
          have e2 : bo + j - (bo + off) = j - off := by omega
          rw [e2]
          have hlt : j - off < (a.eval y).cells.size := by omega
          simpa [hlt] using this
        · rw [if_neg hc1, if_neg (by simp; omega)]
          exact keep _ _ (hcs j hj))
      intro next Q hnx
      refine wp_skip' (w' := w.setCells b (bo + off) (a.eval y).cells.toList) ?_ (hnx Go.undef _ I O (hRel.addD nid) (fun u z hu => (keep u z hu).addD hRel nid) (.pure (.undef _)))
      simp only [Nat.zero_mul, Nat.zero_add] at hxv
      simp only [execOp, ho, hxv, Sem.run_bind, hrun, Result.andThen, Sem.run_pure]
    | row es n g =>
      obtain ⟨x', ids, _, h3, hpur⟩ := (pur_sound hR fuel).1 _ _ _ _ _ h2
      obtain ⟨hmem, h4⟩ := h3.chk_inv
      have hmem : ob ∉ ids := memN_spec (by simpa using hmem)
      obtain ⟨hok, h5⟩ := h4.cells_inv
      obtain ⟨hsz, h6⟩ := h5.chk_inv
      obtain ⟨hpos, h7⟩ := h6.chk_inv
      obtain ⟨hin, h8⟩ := h7.chk_inv
      obtain ⟨rfl, rfl⟩ := h8.ret_inv
      have hsz : x'.cells.length = ti.size := Nat.eq_of_beq_eq_true hsz
      have hpos : 0 < ti.size := by simpa using hpos
      have hin : off + x'.cells.length ≤ es := Nat.le_of_ble_eq_true hin
      have hyp := hpur _ hy
      have hR1 := hR.freeze ids
      have hp1 : kill O ids ob = some p := by unfold kill; rw [if_neg hmem]; exact hp
      have hyr : Rep w (fun b => I b ∨ Blk O ids b) (kill O ids) D x' (a.eval y) := .pure hyp
      obtain ⟨hcl, hcc⟩ := hyr.cells hok
      have hcp : ∀ j, j < x'.cells.length → PRep w (fun b => I b ∨ Blk O ids b) (nth x'.cells j) ((a.eval y).cells.getD j Go.undef) := by
        have hyr' : Rep w (fun b => I b ∨ Blk O ids b) (fun _ => none) (fun _ => False) x' (a.eval y) := .pure hyp
        exact fun j hj => pure_of_rep ((hyr'.cells hok).2 j hj).1
      obtain ⟨hn, hes, hlen, hpl' | ⟨b', bo', sz', hpl', hal, hle, hcs⟩⟩ := hO
      · rw [hpl] at hpl'; cases hpl'.2
      rw [hpl] at hpl'
      cases hpl'
      rw [hes] at hxv
      have hkn : k < n := by omega
      have hmul : (k + 1) * es ≤ n * es := Nat.mul_le_mul_right _ hkn
      rw [Nat.succ_mul] at hmul
      have hrun := run_store (P := P) hi hal (a.eval y) (off := bo + (k * es + off)) (by omega) (by omega) (fun j hj => (hcc j (by omega)).2)
      obtain ⟨hal', hcell⟩ := alive_setCells hal (bo + (k * es + off)) (a.eval y).cells.toList (by simp; omega)
      obtain ⟨hh1, hh2⟩ := heap_setCells b (a.eval y).cells.toList (bo + (k * es + off)) w
      have hIb : ∀ b', (fun b => I b ∨ Blk O ids b) b' → (w.setCells b (bo + (k * es + off)) (a.eval y).cells.toList).heap[b']? = w.heap[b']? := fun b' hb => hh2 b' (fun e => hR1.notI ob p b bo sz hp1 hpl (e ▸ hb))
      have keep : ∀ u z, Rep w (fun b => I b ∨ Blk O ids b) (kill O ids) D u z → Rep (w.setCells b (bo + (k * es + off)) (a.eval y).cells.toList) (fun b => I b ∨ Blk O ids b) (kill O ids) D u z := fun u z hu => hu.mono (fun _ h => h) hIb (fun _ _ => .inl rfl) (fun _ h => h) hR1.used
      have pkeep : ∀ u z, PRep w (fun b => I b ∨ Blk O ids b) u z → PRep (w.setCells b (bo + (k * es + off)) (a.eval y).cells.toList) (fun b => I b ∨ Blk O ids b) u z := fun u z hu => hu.mono (fun _ h => h) hIb
      -- the new element's cells
      have hel : ∀ gk, gk = g k → (match gk with | .agg cs => AV.agg (putL off x'.cells cs) | _ => x').cells.length = es ∧
          ∀ j, j < es → nth (match gk with | .agg cs => AV.agg (putL off x'.cells cs) | _ => x').cells j = if off ≤ j ∧ j < off + x'.cells.length then nth x'.cells (j - off) else nth gk.cells j := by
        intro gk hgk
        have hl := hlen k hkn
        rw [← hgk] at hl
        have one : gk.cells = [gk] → x'.cells.length = es ∧ ∀ j, j < es → nth x'.cells j = if off ≤ j ∧ j < off + x'.cells.length then nth x'.cells (j - off) else nth gk.cells j := by
          intro hc1
          rw [hc1] at hl
          simp at hl
          have : off = 0 := by omega
          subst this
          exact ⟨by omega, fun j hj => by rw [if_pos (by omega)]; rfl⟩
        cases gk with
        | agg cs =>
          simp only [AV.cells] at hl ⊢
          exact ⟨by rw [putL_length]; exact hl, fun j hj => nth_putL cs x'.cells off (by omega) j⟩
        | _ => exact one rfl
      obtain ⟨hel1, hel2⟩ := hel (g k) rfl
      have hRel := hR1.write (env_setCells _ _ _ _) (.row es n (setG g k (match g k with | .agg cs => .agg (putL off x'.cells cs) | _ => x'))) hp1 hpl hh2 hh1 (by
        refine ⟨hn, hes, fun j hj => ?_, .inr ⟨b, bo, sz, hpl, hal', hle, fun j q hj hq => ?_⟩⟩
        · simp only [setG]
          cases hb : Nat.beq j k with
          | true => simp only [cond_true]; exact hel1
          | false => simp only [cond_false]; exact hlen j hj
        · have hmj : (j + 1) * es ≤ n * es := Nat.mul_le_mul_right _ hj
          rw [Nat.succ_mul] at hmj
          rw [hcell (bo + (j * es + q)) (by omega)]
          simp only [setG]
          cases hb : Nat.beq j k with
          | true =>
            have hjk := Nat.eq_of_beq_eq_true hb
            subst hjk
            simp only [cond_true]
            rw [hel2 q hq]
            by_cases hc1 : off ≤ q ∧ q < off + x'.cells.length
            · rw [if_pos hc1, if_pos (by simp; omega)]
              have e2 : bo + (j * es + q) - (bo + (j * es + off)) = q - off := by omega
              rw [e2]
              have hlt : q - off < (a.eval y).cells.size := by omega
              have := pkeep _ _ (hcp (q - off) (by omega))
              exact ⟨by simpa [hlt] using this, by simpa [hlt] using (hcc (q - off) (by omega)).2⟩
            · rw [if_neg hc1, if_neg (by simp; omega)]
              exact ⟨pkeep _ _ ((hcs j q hj hq).1.mono (fun _ h => .inl h) (fun _ _ => rfl)), (hcs j q hj hq).2⟩
          | false =>
            have hjk : j ≠ k := fun e => by subst e; simp at hb
            simp only [cond_false]
            have hne : ¬ (bo + (k * es + off) ≤ bo + (j * es + q) ∧ bo + (j * es + q) < bo + (k * es + off) + (a.eval y).cells.toList.length) := by
              simp only [Array.length_toList]
              rcases Nat.lt_or_gt_of_ne hjk with hlt' | hgt
              · have : (j + 1) * es ≤ k * es := Nat.mul_le_mul_right _ (by omega)
                rw [Nat.succ_mul] at this
                omega
              · have : (k + 1) * es ≤ j * es := Nat.mul_le_mul_right _ (by omega)
                rw [Nat.succ_mul] at this
                omega
            rw [if_neg hne]
            exact ⟨pkeep _ _ ((hcs j q hj hq).1.mono (fun _ h => .inl h) (fun _ _ => rfl)), (hcs j q hj hq).2⟩)
      intro next Q hnx
      refine wp_skip' (w' := w.setCells b (bo + (k * es + off)) (a.eval y).cells.toList) ?_ (hnx Go.undef _ _ _ (by rw [updF_cons]; exact hRel.addD nid) (fun u z hu => (keep u z (hu.kill hR ids)).addD hRel nid) (.pure (.undef _)))
      simp only [execOp, ho, hxv, Sem.run_bind, hrun, Result.andThen, Sem.run_pure]
  · exact (EvR.fail_inv h1).elim

end
end Go.Ab

namespace Go.Ab
section
variable {P : Program} {cfg : Cfg} {cx : Ctx} {H : Nat → Option AObj} {D : Nat → Prop} {w : World} {I : Nat → Prop} {O : OM} {Sp : SpecT}
variable {nid : Nat} {o : Oper} {a : Act} {ρ : Operand → AV} {v : AV} {ups : Ups} {r : List Nat}

/-- The elements of a slice value, read as cells. -/
def Reads (P : Program) (w : World) (I : Nat → Prop) (size n : Nat) (g : Nat → AV) (x : Value) : Prop :=
  ∃ cells : Array Value, RepE w I size n g cells ∧ ∀ w' : World, w'.heap = w.heap → (Builtin.firstCells size n x).run P w' = .ok cells w'

theorem reads_of_cells {size n : Nat} {g : Nat → AV} {aa : Option Addr} {n' cap : Nat} (b off : Nat) (vs : Nat → Nat → Value) (ha : n ≠ 0 → aa = some ⟨b, off, none⟩) (hes : ∀ i, i < n → (g i).cells.length = size)
    (hm : ∀ i j, i < n → j < size → w.cell? ⟨b, off + (i * size + j), none⟩ = some (vs i j)) (h1 : ∀ i j, i < n → j < size → (vs i j).oneCell' = true) (hr : ∀ i j, i < n → j < size → PRep w I (nth (g i).cells j) (vs i j)) (hs : 0 < size) :
    Reads P w I size n g (.slice aa n' cap) := by
  refine ⟨((List.range (n * size)).map (fun k => vs (k / size) (k % size))).toArray, ⟨by simp, fun i hi => ⟨hes i hi, fun j hj => ?_⟩⟩, fun w' hw => ?_⟩
  · have hlt : i * size + j < n * size := by
      have : (i + 1) * size ≤ n * size := Nat.mul_le_mul_right _ hi
      rw [Nat.succ_mul] at this
      omega
    have e1 : (i * size + j) / size = i := by
      rw [Nat.mul_comm, Nat.mul_add_div hs, Nat.div_eq_of_lt hj, Nat.add_zero]
    have e2 : (i * size + j) % size = j := by
      rw [Nat.mul_comm, Nat.mul_add_mod]
      exact Nat.mod_eq_of_lt hj
    exact ⟨by simpa [hlt, e1, e2] using hr i j hi hj, by simpa [hlt, e1, e2] using h1 i j hi hj⟩
  · by_cases hn : n = 0
    · subst hn
      cases aa with
      | none => simp [Builtin.firstCells]
      | some aa => simp [Builtin.firstCells, loadCells, loadCellsFrom]
    · rw [ha hn]
      simp only [Builtin.firstCells]
      have := run_loadCells_list (P := P) w' ⟨b, off, none⟩ ((List.range (n * size)).map (fun k => vs (k / size) (k % size))) (fun k u hk => by
        have hlt : k < n * size := by
          rcases Nat.lt_or_ge k (n * size) with h | h
          · exact h
          · simp [h] at hk
        simp [hlt] at hk
        rw [← hk, Addr.add_mid, cell?_of_heap (w := w) (w' := w') (by rw [hw])]
        have h1 : k / size < n := (Nat.div_lt_iff_lt_mul hs).2 hlt
        have h2 : k % size < size := Nat.mod_lt _ hs
        have := hm _ _ h1 h2
        rwa [Nat.div_add_mod'] at this)
      simpa using this

theorem reads_sl {size es n : Nat} {full : Bool} {g : Nat → AV} {x : Value} (h : PRep w I (.sl es n full g) x) (he : esOk es n size = true) (hs : 0 < size) : Reads P w I size n g x := by
  cases h with
  | sl b off vs hcap hfull ha hes hm h11 hr =>
    by_cases hn : n = 0
    · subst hn
      exact reads_of_cells b off vs (fun h => absurd rfl h) (fun i hi => absurd hi (by omega)) (fun i j hi => absurd hi (by omega)) (fun i j hi => absurd hi (by omega)) (fun i j hi => absurd hi (by omega)) hs
    · have := esOk_spec he hn
      subst this
      exact reads_of_cells b off vs (fun h => (ha h).1) hes hm h11 hr hs

theorem reads_osl {size m i n cap : Nat} {g : Nat → AV} {aa : Option Addr} {p : Own} {O' : OM} {D' : Nat → Prop} (hO : ObjRep w I O' D' p (.row size m g)) (hi : i + n ≤ p.n) (hcap : n ≤ cap) (hs : 0 < size)
    (hpl : cap ≠ 0 → ∃ b bo sz, p.pl = some (b, bo, sz) ∧ aa = some ⟨b, bo + i * p.es, none⟩ ∧ bo + (i + cap) * p.es ≤ sz) : Reads P w I size n (shiftG i g) (.slice aa n cap) := by
  obtain ⟨hn, hes, hlen, hpl'⟩ := hO
  by_cases h0 : n = 0
  · subst h0
    exact reads_of_cells 0 0 (fun _ _ => Go.undef) (fun h => absurd rfl h) (fun i hi => absurd hi (by omega)) (fun i j hi => absurd hi (by omega)) (fun i j hi => absurd hi (by omega)) (fun i j hi => absurd hi (by omega)) hs
  · obtain ⟨b, bo, sz, h1, h2, h3⟩ := hpl (by omega)
    rcases hpl' with ⟨_, h4⟩ | ⟨b', bo', sz', h4, hal, hle, hcs⟩
    · rw [h1] at h4; cases h4
    · rw [h1] at h4
      cases h4
      subst hn
      refine reads_of_cells b (bo + i * size) (fun k j => cellAt w b (bo + ((i + k) * size + j))) (fun _ => by rw [h2, hes]) (fun k hk => by rw [shiftG_eq]; exact hlen _ (by omega)) (fun k j hk hj => ?_) (fun k j hk hj => (hcs (i + k) j (by omega) hj).2) (fun k j hk hj => ?_) hs
      · have e : bo + i * size + (k * size + j) = bo + ((i + k) * size + j) := by rw [Nat.add_mul]; omega
        rw [e]
        refine cellAt_eq hal ?_
        have : (i + k + 1) * size ≤ p.n * size := Nat.mul_le_mul_right _ (by omega)
        rw [Nat.succ_mul] at this
        omega
      · rw [shiftG_eq]
        exact (hcs (i + k) j (by omega) hj).1

/-- append that needs a new array -/
theorem run_append_grow {t t' e e' ty : TypeId} {i : TypeInfo} {z : Value} (hu : P.underlying t = some (.slice e)) (hu' : P.underlying t' = some (.slice e')) (hi : P.info? e = some i) (hz : i.zero = some z)
    {base base' : Option Addr} {cap n m c : Nat} {olds news : Array Value} (ho : ∀ w' : World, w'.heap = w.heap → (Builtin.firstCells i.size n (.slice base n cap)).run P w' = .ok olds w')
    (hn : ∀ w' : World, w'.heap = w.heap → (Builtin.firstCells i.size m (.slice base' m c)).run P w' = .ok news w') (hcap : cap < n + m) (hb : (n + m) * i.bytes ≤ 140737488355328) (hb0 : 0 < i.bytes) :
    ∃ c' rest, n + m ≤ c' ∧ rest.size = (c' - (n + m)) * z.cells.size ∧ (Builtin.append_ #[t, t'] ty #[.slice base n cap, .slice base' m c]).run P w =
      .ok (.slice (some ⟨w.heap.size, 0, none⟩) (n + m) c') (w.drew.alloc (.cells (olds ++ news ++ rest) e)) := by
  refine ⟨grownCap w (n + m) cap e, Builtin.zeroCells z.cells (grownCap w (n + m) cap e - (n + m)), grownCap_ge _ _ _ _, size_zeroCells _ _, ?_⟩
  have hnm : n + m ≤ 140737488355328 := Nat.le_trans (Nat.le_mul_of_pos_right _ hb0) hb
  have h1 : ¬ n + m ≤ cap := by omega
  have h63' : ¬ (9223372036854775807 < ((n : Int) + (m : Int))) := by omega
  have h48' : ¬ (281474976710656 < Builtin.nextslicecap (n + m) cap * i.bytes) := by have := growslice_fits hcap hb; omega
  have ho' := ho w.drew rfl
  have hn' := hn w.drew rfl
  simp [Builtin.append_, run_underlying hu, run_underlying hu', sizeOf, typeInfo, zeroValue, hi, hz, Builtin.lenOf, h1, h63', h48', Question.forced, ho', hn', newRow, grownCap]

/-- append that has room -/
theorem run_append_in {t t' e e' ty : TypeId} {i : TypeInfo} (hu : P.underlying t = some (.slice e)) (hu' : P.underlying t' = some (.slice e')) (hi : P.info? e = some i)
    {base base' : Option Addr} {cap n m c : Nat} {news : Array Value} (hn : (Builtin.firstCells i.size m (.slice base' m c)).run P w = .ok news w) (hcap : n + m ≤ cap) {w' : World}
    (hst : ∀ ad, base = some ad → (storeCells (ad.add (n * i.size)) news.toList).run P w = .ok () w') (hno : base = none → w' = w) :
    (Builtin.append_ #[t, t'] ty #[.slice base n cap, .slice base' m c]).run P w = .ok (.slice base (n + m) cap) w' := by
  cases base with
  | none =>
    have := hno rfl
    subst this
    simp [Builtin.append_, run_underlying hu, run_underlying hu', sizeOf, typeInfo, hi, Builtin.lenOf, hcap, hn]
  | some ad =>
    have := hst ad rfl
    simp [Builtin.append_, run_underlying hu, run_underlying hu', sizeOf, typeInfo, hi, Builtin.lenOf, hcap, hn, this]

end
end Go.Ab
