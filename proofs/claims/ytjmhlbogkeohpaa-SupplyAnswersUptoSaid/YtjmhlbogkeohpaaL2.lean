/- The layer: an abstract machine over the model's code and the proof that it is sound. -/
import Derived.Test.YtjmhlbogkeohpaaL1
namespace Go.Ab
section
variable {P : Program} {cfg : Cfg} {cx : Ctx} {H : Nat → Option AObj} {D : Nat → Prop} {w : World} {I : Nat → Prop} {O : OM} {Sp : SpecT}
variable {nid : Nat} {o : Oper} {a : Act} {ρ : Operand → AV} {v : AV} {ups : Ups} {r : List Nat}

theorem blt_false {k n : Nat} (h : ¬ k < n) : Nat.blt k n = false := by
  cases hb : Nat.blt k n with
  | false => rfl
  | true => exact absurd (by simpa using hb) h

theorem app_cells {size n m : Nat} {g h : Nat → AV} {olds news rest : Array Value} (ho : RepE w I size n g olds) (hn : RepE w I size m h news) : ∀ k, k < n + m → ((appG n g h) k).cells.length = size ∧
    ∀ j, j < size → PRep w I (nth ((appG n g h) k).cells j) ((olds ++ news ++ rest).getD (k * size + j) Go.undef) ∧ ((olds ++ news ++ rest).getD (k * size + j) Go.undef).oneCell' = true := by
  intro k hk
  obtain ⟨h1, h2⟩ := ho
  obtain ⟨h3, h4⟩ := hn
  by_cases hkn : k < n
  · have e : appG n g h k = g k := by
      have : Nat.blt k n = true := by simpa using hkn
      simp [appG, this]
    rw [e]
    refine ⟨(h2 k hkn).1, fun j hj => ?_⟩
    have hm : (k + 1) * size ≤ n * size := Nat.mul_le_mul_right _ hkn
    rw [Nat.succ_mul] at hm
    have e2 : (olds ++ news ++ rest).getD (k * size + j) Go.undef = olds.getD (k * size + j) Go.undef := by
      have hlt : k * size + j < olds.size := by omega
      simp [Array.getElem?_append_left hlt]
    rw [e2]
    exact (h2 k hkn).2 j hj
  · have e : appG n g h k = h (k - n) := by
      have : Nat.blt k n = false := blt_false hkn
      simp [appG, this]
    rw [e]
    have hkm : k - n < m := by omega
    refine ⟨(h4 _ hkm).1, fun j hj => ?_⟩
    have hm : (k - n + 1) * size ≤ m * size := Nat.mul_le_mul_right _ hkm
    rw [Nat.succ_mul] at hm
    have hkk : k * size = n * size + (k - n) * size := by rw [← Nat.add_mul]; congr 1; omega
    have e2 : (olds ++ news ++ rest).getD (k * size + j) Go.undef = news.getD ((k - n) * size + j) Go.undef := by
      have hge : olds.size ≤ k * size + j := by omega
      have hlt2 : (k - n) * size + j < news.size := by omega
      have e3 : k * size + j - olds.size = (k - n) * size + j := by omega
      simp [Array.getElem?_append_right hge, e3, Array.getElem?_append_left hlt2]
    rw [e2]
    exact (h4 _ hkm).2 j hj

/-- A new block behind a draw; the objects 'ids' are seen no more. -/
theorem OpOK.of_new2 (hR : Rel cfg cx H D w I O) (hn : ¬ D nid) {x : Value} {c : Array Value} {e : TypeId} {ob : AObj} {p : Own} (ids : List Nat) {w1 : World} (hw1 : w1.heap = w.heap) (he1 : SameEnv w1 w) (hrun : (execOp a.eval o).run P w = .ok (.value x) (w1.alloc (.cells c e)))
    (hp : p.pl = some (w1.heap.size, 0, c.size)) (hob : ObjRep (w1.alloc (.cells c e)) I (setO (kill O ids) nid p) (insD D nid) p ob)
    (hv : ∀ I' O' D', O' nid = some p → Rep (w1.alloc (.cells c e)) I' O' D' v x) : OpOK P cfg cx H D w I O nid o a v ((nid, some ob) :: dead ids) := by
  intro next Q hnx
  have hR0 := hR.heap_eq hw1 he1
  have hR1 := hR0.drop ids
  refine wp_val hrun (hnx x _ _ _ ?_ ?_ (hv I (setO (kill O ids) nid p) _ (by simp [setO])))
  · rw [updF_cons]
    exact hR1.push hn c e ob p hp hob
  · intro u y hu
    exact ((hu.heap_eq hw1 hR).drop hR0 ids).push hR1 _ p hn

/-- The grown row. -/
theorem OpOK.grown (hR : Rel cfg cx H D w I O) (hn : ¬ D nid) (ids : List Nat) {size n m c' : Nat} {g h : Nat → AV} {olds news rest : Array Value} {e : TypeId} (ho : RepE w I size n g olds) (hnw : RepE w I size m h news)
    (hc' : n + m ≤ c') (hrest : rest.size = (c' - (n + m)) * size) (hrun : (execOp a.eval o).run P w = .ok (.value (.slice (some ⟨w.heap.size, 0, none⟩) (n + m) c')) (w.drew.alloc (.cells (olds ++ news ++ rest) e))) :
    OpOK P cfg cx H D w I O nid o a (.osl nid 0 (n + m) false) ((nid, some (.row size (n + m) (appG n g h))) :: dead ids) := by
  have hcells := app_cells (rest := rest) ho hnw
  have hsz : (olds ++ news ++ rest).size = c' * size := by
    rw [Array.size_append, Array.size_append, ho.1, hnw.1, hrest, ← Nat.add_mul, ← Nat.add_mul]
    congr 1
    omega
  have hle : (n + m) * size ≤ c' * size := Nat.mul_le_mul_right _ hc'
  refine OpOK.of_new2 (p := ⟨size, n + m, some (w.drew.heap.size, 0, (olds ++ news ++ rest).size)⟩) hR hn ids (w1 := w.drew) rfl (SameEnv.heap rfl rfl rfl rfl) hrun rfl ?_ ?_
  · refine ⟨rfl, rfl, fun k hk => (hcells k hk).1, .inr ⟨_, _, _, rfl, alive_alloc_new _ _, by omega, fun k j hk hj => ?_⟩⟩
    rw [Nat.zero_add, cellAt_alloc_new]
    exact ⟨PRep.mono (w := w) (fun _ h => h) (fun b hb => heap_alloc_lt (w := w.drew) _ (hR.Ilt b hb)) ((hcells k hk).2 j hj).1, ((hcells k hk).2 j hj).2⟩
  · intro I' O' D' hO
    refine .osl hO (by simp) hc' (fun h => by cases h) (fun _ => ⟨_, _, _, rfl, ?_, ?_⟩)
    · simp
    · simp only [Nat.zero_add]
      omega

theorem src_inv {u : AV} {k : Nat → Nat → (Nat → AV) → Pg} {x : Value} (hR : Rel cfg cx H D w I O) (hx : Rep w I O D u x) (h : EvR Sp H (srcOf u k) v ups r) :
    ∃ es m g base c r', x = .slice base m c ∧ EvR Sp H (k es m g) v ups r' ∧ ∀ size, esOk es m size = true → 0 < size → Reads P w I size m g x := by
  unfold srcOf at h
  split at h
  · rename_i es n f g
    have hp := hx.sl_inv
    cases hp with
    | sl b off vs hcap hfull ha hes hm h1 hr => exact ⟨es, n, g, _, _, r, rfl, h, fun size he hs => reads_sl (PRep.sl b off vs hcap hfull ha hes hm h1 hr) he hs⟩
  · rename_i ob i n f
    obtain ⟨obj, r', hob, h1⟩ := h.rd_inv
    obtain ⟨p, hp, hO⟩ := hR.live hob
    cases obj with
    | box cs => exact (EvR.fail_inv h1).elim
    | held => exact (EvR.fail_inv h1).elim
    | row es m g =>
      obtain ⟨aa, cap, rfl, h2, h3, h4, h5⟩ := hx.osl_inv hp
      refine ⟨es, n, shiftG i g, aa, cap, r', rfl, h1, fun size he hs => ?_⟩
      by_cases hn : n = 0
      · subst hn
        exact reads_of_cells 0 0 (fun _ _ => Go.undef) (fun h => absurd rfl h) (fun i hi => absurd hi (by omega)) (fun i j hi => absurd hi (by omega)) (fun i j hi => absurd hi (by omega)) (fun i j hi => absurd hi (by omega)) hs
      · have := esOk_spec he hn
        subst this
        exact reads_osl hO h2 h3 hs h5
  · exact (EvR.fail_inv h).elim

theorem isZ_esOk {es size : Nat} : esOk es 0 size = true := by unfold esOk; cases Nat.beq es size <;> rfl

/-- Something is appended to an own row. -/
theorem append_own (hc : CfgOK P cfg) (hR : Rel cfg cx H D w I O) (hn : ¬ D nid) {t t' e e' : TypeId} {tt tt' ti ti' : TyI} (q1 : look cfg.ty t' = some tt') (q2 : tt'.desc = .slice e') (q3 : look cfg.ty e' = some ti') (p1 : look cfg.ty t = some tt) (p2 : tt.desc = .slice e) (p3 : look cfg.ty e = some ti)
    (hpos : 0 < ti.size) (hbp : 0 < ti.bytes) {xd xs : Operand} (run : ∀ {x' w'}, (Builtin.append_ #[t, t'] o.type #[a.eval xd, a.eval xs]).run P w = .ok x' w' → (execOp a.eval o).run P w = .ok (.value x') w')
    {base' : Option Addr} {m c' : Nat} {g' : Nat → AV} (hsv : a.eval xs = .slice base' m c') (hrd : Reads P w I ti.size m g' (a.eval xs))
    {ob k n n' : Nat} {g : Nat → AV} {p : Own} (hp : O ob = some p) (hO : ObjRep w I O D p (.row ti.size n' g)) {aa : Option Addr} {cap : Nat} (hdv : a.eval xd = .slice aa n cap) (hkn : k + n ≤ p.n) (hcap : n ≤ cap)
    (hpl : cap ≠ 0 → ∃ b bo sz, p.pl = some (b, bo, sz) ∧ aa = some ⟨b, bo + k * p.es, none⟩ ∧ bo + (k + cap) * p.es ≤ sz) (hbg : (n + m) * ti.bytes ≤ 140737488355328) :
    OpOK P cfg cx H D w I O nid o a (.osl nid 0 (n + m) false) [(nid, some (.row ti.size (n + m) (appG n (shiftG k g) g'))), (ob, none)] := by
  obtain ⟨hu', _⟩ := hc.slice q1 q2 q3
  obtain ⟨hu, i, z, hi, hz, hsz, hby, hzs⟩ := hc.slice p1 p2 p3
  obtain ⟨news, hnews, hnrun⟩ := hrd
  rw [hsv] at hnrun
  rw [← hsz] at hnrun
  obtain ⟨olds, holds, horun⟩ := reads_osl (P := P) hO hkn hcap hpos hpl
  rw [← hsz] at horun
  have grow : ∀ (ids : List Nat) (hm0 : cap < n + m), OpOK P cfg cx H D w I O nid o a (.osl nid 0 (n + m) false) ((nid, some (.row ti.size (n + m) (appG n (shiftG k g) g'))) :: dead ids) := by
    intro ids hm0
    obtain ⟨c'', rest, g1, g2, g3⟩ := run_append_grow (P := P) (ty := o.type) hu hu' hi hz horun hnrun hm0 (by rw [hby]; exact hbg) (by omega)
    exact OpOK.grown hR hn ids holds hnews g1 (by rw [g2, hzs]) (run (by rw [hdv, hsv]; exact g3))
  have other : OpOK P cfg cx H D w I O nid o a (.osl nid 0 (n + m) false) [(nid, some (.row ti.size (n + m) (appG n (shiftG k g) g'))), (ob, none)] := by
    by_cases hroom : n + m ≤ cap
    · by_cases hcap0 : cap = 0
      · have hn0 : n = 0 := by omega
        have hm0 : m = 0 := by omega
        subst hn0; subst hm0
        have hnz : news = #[] := Array.eq_empty_of_size_eq_zero (by have := hnews.1; omega)
        have hrun := run (run_append_in (P := P) (ty := o.type) hu hu' hi (base := aa) (n := 0) (cap := cap) (w' := w) (hnrun w rfl) (by omega) (fun ad _ => by rw [hnz]; rfl) (fun _ => rfl) |> fun q => by rw [hdv, hsv]; exact q)
        intro next Q hnx
        have hR1 := hR.drop [ob]
        have hR2 := hR1.empty hn ti.size (appG 0 (shiftG k g) g')
        refine wp_val hrun (hnx _ w I _ (by rw [updF_cons]; exact hR2) (fun u y hu => (hu.drop hR [ob]).place hR1 hn (fun _ _ => rfl)) ?_)
        exact .osl (p := ⟨ti.size, 0, none⟩) (by simp [setO]) (by simp) (by omega) (fun h => by cases h) (fun h => absurd hcap0 h)
      · obtain ⟨b, bo, sz, hpl1, haa, hle⟩ := hpl hcap0
        obtain ⟨hpn, hpes, hlen, hpl' | ⟨b', bo', sz', hpl', hal, hle', hcs⟩⟩ := hO
        · rw [hpl1] at hpl'; cases hpl'.2
        rw [hpl1] at hpl'
        cases hpl'
        rw [hpes] at haa hle
        have hmul1 : (k + cap) * ti.size = k * ti.size + cap * ti.size := Nat.add_mul _ _ _
        have hmul2 : (n + m) * ti.size ≤ cap * ti.size := Nat.mul_le_mul_right _ hroom
        rw [Nat.add_mul] at hmul2
        have hnsz := hnews.1
        have hst := run_storeCells_cells (P := P) b (bo + k * ti.size + n * ti.size) news.toList 0 w (fun j hj => (hal _ (by simp at hj; omega)).1) (fun j hj => (hal _ (by simp at hj; omega)).2)
          (fun u hu => by
            obtain ⟨q, hq, rfl⟩ := List.mem_iff_getElem.1 hu
            have hq' : q < news.size := by simpa using hq
            have hdiv : q / ti.size < m := (Nat.div_lt_iff_lt_mul hpos).2 (by omega)
            have := ((hnews.2 _ hdiv).2 (q % ti.size) (Nat.mod_lt _ hpos)).2
            rw [Nat.div_add_mod'] at this
            simpa [hq'] using this)
        rw [Nat.add_zero] at hst
        have hrun := run (run_append_in (P := P) (ty := o.type) hu hu' hi (base := aa) (n := n) (cap := cap) (w' := w.setCells b (bo + k * ti.size + n * ti.size) news.toList) (hnrun w rfl) hroom
          (fun ad had => by
            rw [haa] at had
            cases had
            rw [Addr.add_mid, hsz]
            exact hst) (fun hno => by rw [haa] at hno; cases hno) |> fun q => by rw [hdv, hsv]; exact q)
        obtain ⟨hal', hcell⟩ := alive_setCells hal (bo + k * ti.size + n * ti.size) news.toList (by simp; omega)
        obtain ⟨hh1, hh2⟩ := heap_setCells b news.toList (bo + k * ti.size + n * ti.size) w
        have hnI := hR.notI ob p b bo sz hp hpl1
        have hIb : ∀ b', I b' → (w.setCells b (bo + k * ti.size + n * ti.size) news.toList).heap[b']? = w.heap[b']? := fun b' hb => hh2 b' (fun e => hnI (e ▸ hb))
        have hR1 := hR.drop [ob]
        have hfree : ∀ o1 p1 b1 bo1 sz1, kill O [ob] o1 = some p1 → p1.pl = some (b1, bo1, sz1) → b1 ≠ b := by
          intro o1 p1 b1 bo1 sz1 w1 w2
          unfold kill at w1
          by_cases hne : o1 ∈ [ob]
          · simp [hne] at w1
          · rw [if_neg hne] at w1
            exact hR.inj o1 ob p1 p b1 bo1 sz1 b bo sz w1 hp w2 hpl1 (by simpa using hne)
        have happ := app_cells (rest := #[]) holds hnews
        have hR2 := hR1.place hn (w' := w.setCells b (bo + k * ti.size + n * ti.size) news.toList) (env_setCells _ _ _ _) (.row ti.size (n + m) (appG n (shiftG k g) g')) ⟨ti.size, n + m, some (b, bo + k * ti.size, sz)⟩ rfl hh2 hh1 (hR.lt ob p b bo sz hp hpl1) (hR.new ob p b bo sz hp hpl1) hnI hfree (by
          refine ⟨rfl, rfl, fun q hq => (happ q hq).1, .inr ⟨_, _, _, rfl, hal', ?_, fun q j hq hj => ?_⟩⟩
          · rw [Nat.add_mul]; omega
          · have hq2 : (q + 1) * ti.size ≤ (n + m) * ti.size := Nat.mul_le_mul_right _ hq
            rw [Nat.succ_mul, Nat.add_mul] at hq2
            rw [hcell _ (by omega)]
            by_cases hqn : q < n
            · have hq3 : (q + 1) * ti.size ≤ n * ti.size := Nat.mul_le_mul_right _ hqn
              rw [Nat.succ_mul] at hq3
              rw [if_neg (by omega)]
              have e3 : appG n (shiftG k g) g' q = g (k + q) := by
                have : Nat.blt q n = true := by simpa using hqn
                simp [appG, this, shiftG_eq]
              rw [e3]
              have e4 : bo + k * ti.size + (q * ti.size + j) = bo + ((k + q) * ti.size + j) := by rw [Nat.add_mul]; omega
              rw [e4]
              have := hcs (k + q) j (by omega) hj
              exact ⟨this.1.mono (fun _ h => h) hIb, this.2⟩
            · have hq3 : n * ti.size ≤ q * ti.size := Nat.mul_le_mul_right _ (by omega)
              rw [if_pos (by simp; omega)]
              have e3 : appG n (shiftG k g) g' q = g' (q - n) := by
                have : Nat.blt q n = false := blt_false hqn
                simp [appG, this]
              rw [e3]
              have hqq : q * ti.size = n * ti.size + (q - n) * ti.size := by rw [← Nat.add_mul]; congr 1; omega
              have e4 : bo + k * ti.size + (q * ti.size + j) - (bo + k * ti.size + n * ti.size) = (q - n) * ti.size + j := by omega
              rw [e4]
              have hlt : (q - n) * ti.size + j < news.size := by omega
              have := (hnews.2 (q - n) (by omega)).2 j hj
              simp [hlt] at this
              simp [hlt]
              exact ⟨this.1.mono (fun _ h => h) hIb, this.2⟩)
        intro next Q hnx
        refine wp_val hrun (hnx _ _ I _ (by rw [updF_cons]; exact hR2) (fun u y hu => (hu.drop hR [ob]).place hR1 hn hIb) ?_)
        rw [haa]
        refine .osl (p := ⟨ti.size, n + m, some (b, bo + k * ti.size, sz)⟩) (by simp [setO]) (by simp) hroom (fun h => by cases h) (fun _ => ⟨_, _, _, rfl, by simp, ?_⟩)
        simp only [Nat.zero_add]
        omega
    · exact grow [ob] (by omega)
  exact other

theorem op_append (hc : CfgOK P cfg) (hR : Rel cfg cx H D w I O) (hn : ¬ D nid) {c : Call} (ho : o.op = .call c) (hcl : c.callee = .builtin .append) (hx : ∀ x ∈ c.args.toList, Rep w I O D (ρ x) (a.eval x))
    (h : EvR Sp H (opPg cfg nid (.call c) ρ) v ups r) : OpOK P cfg cx H D w I O nid o a v ups := by
  simp only [opPg, hcl] at h
  split at h
  · rename_i d s t t' e1 e2
    obtain ⟨xd, xs, hargs, hd, hs⟩ := args2 e1
    have hty : c.argTypes = #[t, t'] := by rw [← Array.toList_inj]; simpa using e2
    have hdr : Rep w I O D d (a.eval xd) := hd ▸ hx xd (by simp [hargs])
    have hsr : Rep w I O D s (a.eval xs) := hs ▸ hx xs (by simp [hargs])
    obtain ⟨tt', e', ti', q1, q2, q3, h1⟩ := h.elem_inv
    obtain ⟨tt, e, ti, p1, p2, p3, h2⟩ := h1.elem_inv
    obtain ⟨hpos, h3⟩ := h2.chk_inv
    obtain ⟨hbp, h4⟩ := h3.chk_inv
    have hpos : 0 < ti.size := by simpa using hpos
    have hbp : 0 < ti.bytes := by simpa using hbp
    obtain ⟨hu', _⟩ := hc.slice q1 q2 q3
    obtain ⟨hu, i, z, hi, hz, hsz, hby, hzs⟩ := hc.slice p1 p2 p3
    have run : ∀ {x' w'}, (Builtin.append_ #[t, t'] o.type #[a.eval xd, a.eval xs]).run P w = .ok x' w' → (execOp a.eval o).run P w = .ok (.value x') w' := by
      intro x' w' hr
      simp only [execOp, ho, hcl, resolve, invoke, builtin, Sem.run_bind, Sem.run_pure, Result.andThen_ok, hargs, hty, List.map_toArray, List.map_cons, List.map_nil, hr]
    clear h h1 h2 h3
    split at h4
    · rename_i ob a0 n0 c0
      unfold heldPg at h4
      obtain ⟨es', m, g', base', c', r1, hsv, h5, hreads⟩ := src_inv (P := P) hR hsr h4
      obtain ⟨hes', h6⟩ := h5.chk_inv
      obtain ⟨obj, _, hob, h7⟩ := h6.rd_inv
      obtain ⟨p, hp, hO⟩ := hR.live hob
      cases obj with
      | box cs => exact (EvR.fail_inv h7).elim
      | row => exact (EvR.fail_inv h7).elim
      | held a1 c1 es n1 g =>
        obtain ⟨hes, h8⟩ := h7.chk_inv
        have hes : es = ti.size := Nat.eq_of_beq_eq_true hes
        subst hes
        obtain ⟨⟨rfl, rfl, rfl, hbg⟩, h9⟩ := h8.need_inv
        obtain ⟨hO1, hcap, hpl⟩ := hO
        have hdv : a.eval xd = .slice a0 n0 c0 := by
          cases hdr with | pure hdr => generalize a.eval xd = dv at hdr; cases hdr; rfl
        obtain ⟨rfl, rfl⟩ := h9.ret_inv
        exact append_own (k := 0) hc hR hn q1 q2 q3 p1 p2 p3 hpos hbp run hsv (hreads ti.size hes' hpos) hp hO1 hdv (by rw [hO1.1]; omega) hcap (fun hc0 => by
          obtain ⟨b, bo, sz, e1, e2, e3⟩ := hpl hc0
          exact ⟨b, bo, sz, e1, by rw [e2, Nat.zero_mul, Nat.add_zero], by rw [hO1.2.1, Nat.zero_add]; exact e3⟩) (by simpa [big] using hbg)
    rename_i hnraw
    clear hnraw
    unfold appendPg at h4
    obtain ⟨es', m, g', base', c', r1, hsv, h5, hreads⟩ := src_inv (P := P) hR hsr h4
    obtain ⟨hes', h6⟩ := h5.chk_inv
    have hrd0 := hreads ti.size hes' hpos
    have hsv0 := hsv
    obtain ⟨news, hnews, hnrun⟩ := hreads ti.size hes' hpos
    rw [hsv] at hnrun
    rw [← hsz] at hnrun
    clear h4 h5 hreads
    split at h6
    · rename_i es n full g
      obtain ⟨hfull, h7⟩ := h6.chk_inv
      have hes : esOk es n ti.size = true := by
        cases es with
        | zero =>
          simp only at h7
          obtain ⟨hz0, _⟩ := h7.chk_inv
          cases n with
          | zero => exact isZ_esOk
          | succ => cases hz0
        | succ es1 =>
          simp only at h7
          exact h7.chk_inv.1
      have hp := hdr.sl_inv
      obtain ⟨olds, holds, horun⟩ := reads_sl (P := P) hp hes hpos
      generalize hdv : a.eval xd = dv at hp horun
      cases hp with
      | @sl _ _ _ _ aa cap b off vs hcap hfl ha hesl hm h11 hr =>
        have hcn : cap = n := hfl hfull
        subst hcn
        rw [← hsz] at horun
        clear h6 hdr
        have grow : ∀ (hm0 : 0 < m) (hb : (cap + m) * ti.bytes ≤ 140737488355328), ∃ c'' rest, cap + m ≤ c'' ∧ rest.size = (c'' - (cap + m)) * ti.size ∧
            (execOp a.eval o).run P w = .ok (.value (.slice (some ⟨w.heap.size, 0, none⟩) (cap + m) c'')) (w.drew.alloc (.cells (olds ++ news ++ rest) e)) := by
          intro hm0 hb
          obtain ⟨c'', rest, g1, g2, g3⟩ := run_append_grow (P := P) (ty := o.type) hu hu' hi hz horun hnrun (by omega) (by rw [hby]; exact hb) (by omega)
          exact ⟨c'', rest, g1, by rw [g2, hzs], run (by rw [hdv, hsv]; exact g3)⟩
        have same : m = 0 → (execOp a.eval o).run P w = .ok (.value (.slice aa (cap + m) cap)) w := by
          intro hm0
          subst hm0
          have hnz : news = #[] := Array.eq_empty_of_size_eq_zero (by have := hnews.1; omega)
          refine run ?_
          rw [hdv, hsv]
          exact run_append_in hu hu' hi (hnrun w rfl) (by omega) (fun ad _ => by rw [hnz]; rfl) (fun _ => rfl)
        cases hee : es with
        | zero =>
          rw [hee] at h7
          simp only at h7
          obtain ⟨hz0, h8⟩ := h7.chk_inv
          have hcc : cap = 0 := by cases hc0 : cap with
            | zero => rfl
            | succ => rw [hc0] at hz0; cases hz0
          obtain ⟨hbg, h9⟩ := h8.need_inv
          obtain ⟨rfl, rfl⟩ := h9.ret_inv
          by_cases hm0 : m = 0
          · have hrun := same hm0
            subst hm0
            intro next Q hnx
            have hR2 := hR.empty hn ti.size g'
            refine wp_val hrun (hnx _ w I _ hR2 (fun u y hu => hu.place hR hn (fun _ _ => rfl)) ?_)
            rw [hcc]
            exact .osl (p := ⟨ti.size, 0, none⟩) (by simp [setO]) (by simp) (by omega) (fun h => by cases h) (fun h => absurd rfl h)
          · obtain ⟨c'', rest, g1, g2, g3⟩ := grow (by omega) (by rw [hcc, Nat.zero_add]; simpa [big] using hbg)
            have ho0 : RepE w I ti.size 0 g' olds := ⟨by have := holds.1; rw [hcc] at this; exact this, fun k hk => absurd hk (by omega)⟩
            rw [hcc] at g1 g2 g3
            have key := OpOK.grown (P := P) (o := o) (a := a) hR hn [] (g := g') ho0 hnews g1 g2 g3
            have e3 : appG 0 g' g' = g' := by
              funext k
              simp [appG]
            rw [e3] at key
            simpa [dead] using key
        | succ es1 =>
          rw [hee] at h7
          simp only at h7
          obtain ⟨_, h8⟩ := h7.chk_inv
          obtain ⟨hbg, rfl, rfl⟩ := h8.need1_inv
          by_cases hm0 : m = 0
          · refine OpOK.of_pure hR (same hm0) (.pure ?_)
            subst hm0
            by_cases hc0 : cap = 0
            · subst hc0
              exact .sl 0 0 (fun _ _ => Go.undef) (Nat.le_refl _) (fun h => by cases h) (fun h => absurd rfl h) (fun i h => absurd h (by omega)) (fun i j h => absurd h (by omega)) (fun i j h => absurd h (by omega)) (fun i j h => absurd h (by omega))
            have hes1 := esOk_spec hes hc0
            rw [hes1] at hesl hm h11 hr
            have e3 : ∀ k, k < cap → appG cap g g' k = g k := fun k hk => by
              have : Nat.blt k cap = true := by simpa using hk
              simp [appG, this]
            exact .sl b off vs (by omega) (fun h => by cases h) (fun h => ha (by omega)) (fun k hk => by rw [e3 k (by omega)]; exact hesl k (by omega)) (fun k j hk hj => hm k j (by omega) hj) (fun k j hk hj => h11 k j (by omega) hj) (fun k j hk hj => by rw [e3 k (by omega)]; exact hr k j (by omega) hj)
          · obtain ⟨c'', rest, g1, g2, g3⟩ := grow (by omega) (by simpa [big] using hbg)
            -- own first, then immutable at once
            have hcells := app_cells (rest := rest) holds hnews
            have hsize : (olds ++ news ++ rest).size = c'' * ti.size := by
              rw [Array.size_append, Array.size_append, holds.1, hnews.1, g2, ← Nat.add_mul, ← Nat.add_mul]
              congr 1
              omega
            have key := OpOK.grown (P := P) (o := o) (a := a) (nid := nid) hR hn [] holds hnews g1 g2 g3
            intro next Q hnx
            have hR0 := Rel.heap_eq (w := w) (w' := w.drew) rfl (SameEnv.heap rfl rfl rfl rfl) hR
            have hIlt : ∀ b, I b → (w.drew.alloc (.cells (olds ++ news ++ rest) e)).heap[b]? = w.heap[b]? := fun b hb => heap_alloc_lt (w := w.drew) _ (hR.Ilt b hb)
            refine wp_val g3 (hnx _ _ (fun b => I b ∨ b = w.heap.size) O ?_ ?_ (.pure ?_))
            · rw [updF_nil]
              have hR1 := (hR0.addD nid)
              exact { hR1 with
                objs := fun o ob p h1 h2 => ((hR.addD nid).objs o ob p h1 h2).mono (fun _ h => .inl h) hIlt (fun _ _ => .inl rfl) (fun _ h => h) hR1.used (fun b bo sz hpl => heap_alloc_lt (w := w.drew) _ (hR.lt o p b bo sz h2 hpl))
                notI := fun o p b bo sz h1 h2 h3 => by
                  rcases h3 with h3 | h3
                  · exact hR.notI o p b bo sz h1 h2 h3
                  · have := hR.lt o p b bo sz h1 h2; omega
                lt := fun o p b bo sz h1 h2 => by rw [heap_alloc_size]; have := hR.lt o p b bo sz h1 h2; exact Nat.lt_succ_of_lt this
                Ilt := fun b h => by
                  rw [heap_alloc_size]
                  rcases h with h | h
                  · exact Nat.lt_succ_of_lt (hR.Ilt b h)
                  · subst h; exact Nat.lt_succ_self _
                size := by rw [heap_alloc_size]; exact Nat.le_succ_of_le hR.size
                env := hR1.env.step (SameEnv.alloc _ _)
                frame := fun b h1 h2 => by rw [heap_alloc_lt (w := w.drew) _ (Nat.lt_of_lt_of_le h1 hR.size)]; exact hR.frame b h1 h2
                glob := fun g cs h => (hR.glob g cs h).mono (fun _ h => .inl h) hIlt
                I0I := fun b h => .inl (hR.I0I b h)
                II0 := fun b h => by
                  rcases h with h | h
                  · exact hR.II0 b h
                  · subst h; exact .inr (.inl hR.size) }
            · intro u y hu
              exact hu.mono (fun _ h => .inl h) hIlt (fun _ _ => .inl rfl) (fun _ h => .inl h) hR.used
            · refine .sl w.heap.size 0 (fun k j => (olds ++ news ++ rest).getD (k * ti.size + j) Go.undef) g1 (fun h => by cases h) (fun _ => ⟨rfl, .inr rfl⟩) (fun k hk => (hcells k hk).1) (fun k j hk hj => ?_) (fun k j hk hj => ((hcells k hk).2 j hj).2) (fun k j hk hj => ((hcells k hk).2 j hj).1.mono (fun _ h => .inl h) hIlt)
              have hlt : k * ti.size + j < (olds ++ news ++ rest).size := by
                rw [hsize]
                have : (k + 1) * ti.size ≤ c'' * ti.size := Nat.mul_le_mul_right _ (by omega)
                rw [Nat.succ_mul] at this
                omega
              have := cell_alloc_new (w := w.drew) (olds ++ news ++ rest) e (k * ti.size + j)
              rw [Nat.zero_add]
              refine Eq.trans this ?_
              rw [Array.getD_eq_getD_getElem?, Array.getElem?_eq_getElem hlt]
              rfl
    · rename_i ob k n full
      obtain ⟨obj, _, hob, h7⟩ := h6.rd_inv
      obtain ⟨p, hp, hO⟩ := hR.live hob
      cases obj with
      | box cs => exact (EvR.fail_inv h7).elim
      | held => exact (EvR.fail_inv h7).elim
      | row es n' g =>
        obtain ⟨hes, h8⟩ := h7.chk_inv
        have hes : es = ti.size := Nat.eq_of_beq_eq_true hes
        subst hes
        obtain ⟨hbg, h9⟩ := h8.need_inv
        have hbg : (n + m) * ti.bytes ≤ 140737488355328 := by simpa [big] using hbg
        obtain ⟨aa, cap, hdv, hkn, hcap, hfl, hpl⟩ := hdr.osl_inv hp
        obtain ⟨rfl, rfl⟩ := h9.ret_inv
        exact append_own hc hR hn q1 q2 q3 p1 p2 p3 hpos hbp run hsv0 hrd0 hp hO hdv hkn hcap hpl hbg
    · exact (EvR.fail_inv h6).elim
  · exact (EvR.fail_inv h).elim

/-- As 'src_inv', for the first elements alone. -/
theorem src_inv_le {u : AV} {k : Nat → Nat → (Nat → AV) → Pg} {x : Value} (hR : Rel cfg cx H D w I O) (hx : Rep w I O D u x) (h : EvR Sp H (srcOf u k) v ups r) :
    ∃ es n g base c r', x = .slice base n c ∧ EvR Sp H (k es n g) v ups r' ∧ ∀ size, esOk es n size = true → 0 < size → ∀ q, q ≤ n → Reads P w I size q g x := by
  unfold srcOf at h
  split at h
  · rename_i es n f g
    have hp := hx.sl_inv
    cases hp with
    | sl b off vs hcap hfull ha hes hm h1 hr =>
      refine ⟨es, n, g, _, _, r, rfl, h, fun size he hs q hq => ?_⟩
      by_cases hn : n = 0
      · have hq : q = 0 := by omega
        subst hq
        exact reads_of_cells 0 0 (fun _ _ => Go.undef) (fun h => absurd rfl h) (fun i hi => absurd hi (by omega)) (fun i j hi => absurd hi (by omega)) (fun i j hi => absurd hi (by omega)) (fun i j hi => absurd hi (by omega)) hs
      · have := esOk_spec he hn
        subst this
        exact reads_of_cells b off vs (fun _ => (ha hn).1) (fun i hi => hes i (by omega)) (fun i j hi => hm i j (by omega)) (fun i j hi => h1 i j (by omega)) (fun i j hi => hr i j (by omega)) hs
  · rename_i ob i n f
    obtain ⟨obj, r', hob, h1⟩ := h.rd_inv
    obtain ⟨p, hp, hO⟩ := hR.live hob
    cases obj with
    | box cs => exact (EvR.fail_inv h1).elim
    | held => exact (EvR.fail_inv h1).elim
    | row es m g =>
      obtain ⟨aa, cap, rfl, h2, h3, h4, h5⟩ := hx.osl_inv hp
      refine ⟨es, n, shiftG i g, aa, cap, r', rfl, h1, fun size he hs q hq => ?_⟩
      by_cases hn : n = 0
      · have hq : q = 0 := by omega
        subst hq
        exact reads_of_cells 0 0 (fun _ _ => Go.undef) (fun h => absurd rfl h) (fun i hi => absurd hi (by omega)) (fun i j hi => absurd hi (by omega)) (fun i j hi => absurd hi (by omega)) (fun i j hi => absurd hi (by omega)) hs
      · have := esOk_spec he hn
        subst this
        obtain ⟨cells, hc1, hc2⟩ := reads_osl (P := P) (n := q) (cap := cap) (aa := aa) hO (by omega) (by omega) hs h5
        exact ⟨cells, hc1, fun w' hw => by have := hc2 w' hw; cases aa <;> exact this⟩
  · exact (EvR.fail_inv h).elim

theorem updF_same {ob : Nat} {x : AObj} (h : H ob = some x) : updF H [(ob, some x)] = H := by
  funext k
  simp only [updF, look]
  cases hb : Nat.beq ob k with
  | true => have := Nat.eq_of_beq_eq_true hb; subst this; simp [h]
  | false => rfl

theorem cpG_zero (i : Nat) (g h : Nat → AV) : cpG i 0 g h = g := by
  funext j
  unfold cpG
  cases h1 : Nat.ble i j with
  | false => rfl
  | true =>
    have h1 := Nat.le_of_ble_eq_true h1
    rw [blt_false (by omega)]
    rfl

theorem cpG_in {i k j : Nat} {g h : Nat → AV} (h1 : i ≤ j) (h2 : j < i + k) : cpG i k g h j = h (j - i) := by
  unfold cpG
  have a1 : Nat.ble i j = true := Nat.ble_eq_true_of_le h1
  have a2 : Nat.blt j (i + k) = true := by simpa using h2
  rw [a1, a2]
  rfl

theorem cpG_out {i k j : Nat} {g h : Nat → AV} (hn : ¬ (i ≤ j ∧ j < i + k)) : cpG i k g h j = g j := by
  unfold cpG
  by_cases h1 : i ≤ j
  · rw [blt_false (by omega)]
    cases Nat.ble i j <;> rfl
  · have a1 : Nat.ble i j = false := by
      cases hb : Nat.ble i j with
      | false => rfl
      | true => exact absurd (Nat.le_of_ble_eq_true hb) h1
    rw [a1]
    rfl

theorem op_copy (hc : CfgOK P cfg) (hR : Rel cfg cx H D w I O) {c : Call} (ho : o.op = .call c) (hcl : c.callee = .builtin .copy) (hx : ∀ x ∈ c.args.toList, Rep w I O D (ρ x) (a.eval x))
    (h : EvR Sp H (opPg cfg nid (.call c) ρ) v ups r) : OpOK P cfg cx H D w I O nid o a v ups := by
  simp only [opPg, hcl] at h
  split at h
  · rename_i d s t t' e1 e2
    obtain ⟨xd, xs, hargs, hd, hs⟩ := args2 e1
    have hty : c.argTypes = #[t, t'] := by rw [← Array.toList_inj]; simpa using e2
    have hdr : Rep w I O D d (a.eval xd) := hd ▸ hx xd (by simp [hargs])
    have hsr : Rep w I O D s (a.eval xs) := hs ▸ hx xs (by simp [hargs])
    obtain ⟨tt', e', ti', q1, q2, q3, h1⟩ := h.elem_inv
    obtain ⟨tt, e, ti, p1, p2, p3, h2⟩ := h1.elem_inv
    obtain ⟨hpos, h4⟩ := h2.chk_inv
    have hpos : 0 < ti.size := by simpa using hpos
    obtain ⟨hu, i, z, hi, hz, hsz, hby, hzs⟩ := hc.slice p1 p2 p3
    have run : ∀ {x' w'}, (Builtin.copy_ #[t, t'] o.type #[a.eval xd, a.eval xs]).run P w = .ok x' w' → (execOp a.eval o).run P w = .ok (.value x') w' := by
      intro x' w' hr
      simp only [execOp, ho, hcl, resolve, invoke, builtin, Sem.run_bind, Sem.run_pure, Result.andThen_ok, hargs, hty, List.map_toArray, List.map_cons, List.map_nil, hr]
    clear h h1 h2
    unfold copyPg at h4
    obtain ⟨es', m, g', base', c', r1, hsv, h5, hreads⟩ := src_inv_le (P := P) hR hsr h4
    obtain ⟨hes', h6⟩ := h5.chk_inv
    clear h4 h5
    split at h6
    · rename_i ob i0 n full
      obtain ⟨obj, r', hob, h7⟩ := h6.rd_inv
      obtain ⟨p, hp, hO⟩ := hR.live hob
      cases obj with
      | box cs => exact (EvR.fail_inv h7).elim
      | held => exact (EvR.fail_inv h7).elim
      | row es N g =>
        obtain ⟨aa, cap, hdv, a1, a2, a3, a4⟩ := hdr.osl_inv hp
        obtain ⟨hes, h8⟩ := h7.chk_inv
        have hes : es = ti.size := Nat.eq_of_beq_eq_true hes
        obtain ⟨rfl, rfl⟩ := h8.ret_inv
        obtain ⟨cells, hcells, hrd⟩ := hreads ti.size hes' hpos (Nat.min m n) (Nat.min_le_left _ _)
        have hrd := hrd w rfl
        rw [hsv, ← hsz] at hrd
        have hkn : Nat.min m n ≤ n := Nat.min_le_right _ _
        generalize hk : Nat.min m n = k at hcells hrd hkn
        have run2 : ∀ {w'}, (∀ ad, aa = some ad → (storeCells ad cells.toList).run P w = .ok () w') → (aa = none → w' = w) → (Builtin.copy_ #[t, t'] o.type #[a.eval xd, a.eval xs]).run P w = .ok (goInt k) w' := by
          intro w' hw1 hw2
          rw [hdv, hsv]
          cases aa with
          | none =>
            have := hw2 rfl
            subst this
            simp [Builtin.copy_, run_underlying hu, sizeOf, typeInfo, hi, Builtin.lenOf, hk, hrd]
          | some ad =>
            have := hw1 ad rfl
            simp [Builtin.copy_, run_underlying hu, sizeOf, typeInfo, hi, Builtin.lenOf, hk, hrd, this]
        by_cases hk0 : k = 0
        · subst hk0
          have hce : cells = #[] := Array.eq_empty_of_size_eq_zero (by have := hcells.1; omega)
          have hrun := run (run2 (w' := w) (fun ad _ => by rw [hce]; rfl) (fun _ => rfl))
          rw [cpG_zero]
          intro next Q hnx
          have hR2 : Rel cfg cx (updF H [(ob, some (.row es N g))]) (insD D nid) w I O := by
            rw [updF_same hob]
            exact hR.addD nid
          exact wp_val hrun (hnx _ w I O hR2 (fun u y hu => hu.addD hR nid) (.pure (.int _ _)))
        · obtain ⟨b, bo, sz, hpl, haa, hcapz⟩ := a4 (by omega)
          obtain ⟨hn, hess, hlen, hpl' | ⟨b', bo', sz', hpl', hal, hle, hcs⟩⟩ := hO
          · rw [hpl] at hpl'; cases hpl'.2
          rw [hpl] at hpl'
          cases hpl'
          rw [hess] at haa hcapz
          subst hes
          have hmul : (i0 + k) * ti.size ≤ N * ti.size := Nat.mul_le_mul_right _ (by omega)
          rw [Nat.add_mul] at hmul
          have hcsz := hcells.1
          have hone : ∀ j, j < cells.size → (cells.getD j Go.undef).oneCell' = true := fun j hj => by
            rw [hcsz] at hj
            have h1 : j / ti.size < k := (Nat.div_lt_iff_lt_mul hpos).2 hj
            have h2 := ((hcells.2 _ h1).2 (j % ti.size) (Nat.mod_lt _ hpos)).2
            rwa [Nat.div_add_mod'] at h2
          have hst := run_storeCells_cells (P := P) b (bo + i0 * ti.size) cells.toList 0 w (fun j hj => (hal (bo + i0 * ti.size + 0 + j) (by simp at hj; omega)).1) (fun j hj => (hal (bo + i0 * ti.size + 0 + j) (by simp at hj; omega)).2)
            (fun u hu => by
              obtain ⟨j, hj, rfl⟩ := List.mem_iff_getElem.1 hu
              have hj' : j < cells.size := by simpa using hj
              simpa [hj'] using hone j hj')
          rw [Nat.add_zero] at hst
          have hrun := run (run2 (w' := w.setCells b (bo + i0 * ti.size) cells.toList) (fun ad h => by rw [haa] at h; cases h; exact hst) (fun h => by rw [haa] at h; cases h))
          obtain ⟨hal', hcell⟩ := alive_setCells hal (bo + i0 * ti.size) cells.toList (by simp; omega)
          obtain ⟨hh1, hh2⟩ := heap_setCells b cells.toList (bo + i0 * ti.size) w
          have hIb : ∀ b', I b' → (w.setCells b (bo + i0 * ti.size) cells.toList).heap[b']? = w.heap[b']? := fun b' hb => hh2 b' (fun e => hR.notI ob p b bo sz hp hpl (e ▸ hb))
          have keep : ∀ u z, Rep w I O D u z → Rep (w.setCells b (bo + i0 * ti.size) cells.toList) I O D u z := fun u z hu => hu.mono (fun _ h => h) hIb (fun _ _ => .inl rfl) (fun _ h => h) hR.used
          have pkeep : ∀ u z, PRep w I u z → PRep (w.setCells b (bo + i0 * ti.size) cells.toList) I u z := fun u z hu => hu.mono (fun _ h => h) hIb
          have hRel := hR.write (env_setCells _ _ _ _) (.row ti.size N (cpG i0 k g g')) hp hpl hh2 hh1 (by
            refine ⟨hn, hess, fun j hj => ?_, .inr ⟨b, bo, sz, hpl, hal', hle, fun j q hj hq => ?_⟩⟩
            · by_cases hin : i0 ≤ j ∧ j < i0 + k
              · rw [cpG_in hin.1 hin.2]
                exact (hcells.2 (j - i0) (by omega)).1
              · rw [cpG_out hin]
                exact hlen j hj
            · have hmj : (j + 1) * ti.size ≤ N * ti.size := Nat.mul_le_mul_right _ hj
              rw [Nat.succ_mul] at hmj
              rw [hcell _ (by omega)]
              by_cases hin : i0 ≤ j ∧ j < i0 + k
              · rw [cpG_in hin.1 hin.2]
                have q1 : i0 * ti.size ≤ j * ti.size := Nat.mul_le_mul_right _ hin.1
                have q2 : (j + 1) * ti.size ≤ (i0 + k) * ti.size := Nat.mul_le_mul_right _ hin.2
                rw [Nat.succ_mul, Nat.add_mul] at q2
                have q3 : (j - i0) * ti.size = j * ti.size - i0 * ti.size := Nat.sub_mul _ _ _
                rw [if_pos (by simp; omega)]
                have e3 : bo + (j * ti.size + q) - (bo + i0 * ti.size) = (j - i0) * ti.size + q := by omega
                rw [e3]
                have hh := (hcells.2 (j - i0) (by omega)).2 q hq
                have e4 : cells.toList.getD ((j - i0) * ti.size + q) Go.undef = cells.getD ((j - i0) * ti.size + q) Go.undef := by
                  have hlt : (j - i0) * ti.size + q < cells.size := by omega
                  simp [hlt]
                rw [e4]
                exact ⟨pkeep _ _ hh.1, hh.2⟩
              · rw [cpG_out hin]
                rw [if_neg ?_]
                · exact ⟨pkeep _ _ (hcs j q hj hq).1, (hcs j q hj hq).2⟩
                · intro ⟨r1, r2⟩
                  have r2 : bo + (j * ti.size + q) < bo + i0 * ti.size + cells.size := by simpa using r2
                  apply hin
                  constructor
                  · rcases Nat.lt_or_ge j i0 with h | h
                    · have : (j + 1) * ti.size ≤ i0 * ti.size := Nat.mul_le_mul_right _ h
                      rw [Nat.succ_mul] at this
                      omega
                    · exact h
                  · rcases Nat.lt_or_ge j (i0 + k) with h | h
                    · exact h
                    · have : (i0 + k) * ti.size ≤ j * ti.size := Nat.mul_le_mul_right _ h
                      rw [Nat.add_mul] at this
                      omega)
          intro next Q hnx
          exact wp_val hrun (hnx _ _ I O (hRel.addD nid) (fun u z hu => (keep u z hu).addD hRel nid) (.pure (.int _ _)))
    · exact (EvR.fail_inv h6).elim
  · exact (EvR.fail_inv h).elim

end
end Go.Ab

namespace Go.Ab
section
variable {P : Program} {cfg : Cfg} {cx : Ctx} {H : Nat → Option AObj} {D : Nat → Prop} {w : World} {I : Nat → Prop} {O : OM} {Sp : SpecT}
variable {nid : Nat} {o : Oper} {a : Act} {ρ : Operand → AV} {v : AV} {ups : Ups} {r : List Nat}

theorem Rep.of_pureCell {u : AV} {x : Value} (h : Rep w I O D u x) (hp : pureCell u = true) : PRep w I u x := by
  cases h with
  | pure h => exact h
  | _ => cases hp

theorem pureCells_nth {l : List AV} (h : pureCells l = true) : ∀ j, j < l.length → pureCell (nth l j) = true := by
  induction l with
  | nil => intro j hj; cases hj
  | cons u l ih =>
    intro j hj
    unfold pureCells at h
    cases hv : pureCell u with
    | false => simp [hv] at h
    | true =>
      simp only [hv] at h
      cases j with
      | zero => exact hv
      | succ j => exact ih h j (by simpa using hj)

theorem pureObs_nth {l : List AObj} (h : pureObs l = true) : ∀ j x, hof l j = some x → pureObj x = true := by
  induction l with
  | nil => intro j x hj; cases hj
  | cons u l ih =>
    intro j x hj
    unfold pureObs at h
    cases hv : pureObj u with
    | false => simp [hv] at h
    | true =>
      simp only [hv] at h
      cases j with
      | zero => simp [hof] at hj; subst hj; exact hv
      | succ j => exact ih h j x hj

theorem Rep.of_pureV {u : AV} {x : Value} (h : Rep w I O D u x) (hp : pureV u = true) : PRep w I u x := by
  cases u with
  | agg cs =>
    obtain ⟨vs, rfl, hl, hr⟩ := h.agg_inv
    exact .agg hl fun j hj => (hr j hj).of_pureCell (pureCells_nth hp j hj)
  | _ => exact h.of_pureCell hp

theorem pureVs_nth {l : List AV} (h : pureVs l = true) : ∀ j, j < l.length → pureV (nth l j) = true := by
  induction l with
  | nil => intro j hj; cases hj
  | cons u l ih =>
    intro j hj
    unfold pureVs at h
    cases hv : pureV u with
    | false => simp [hv] at h
    | true =>
      simp only [hv] at h
      cases j with
      | zero => exact hv
      | succ j => exact ih h j (by simpa using hj)

/-- An object without own references, seen from elsewhere. -/
theorem ObjRep.carry {w' : World} {I' : Nat → Prop} {O' : OM} {D' : Nat → Prop} {p : Own} {ob : AObj} (h : ObjRep w I O D p ob) (hp : pureObj ob = true) (hI : ∀ b, I b → I' b) (hw : ∀ b, I b → w'.heap[b]? = w.heap[b]?)
    (hb : ∀ b bo sz, p.pl = some (b, bo, sz) → w'.heap[b]? = w.heap[b]?) : ObjRep w' I' O' D' p ob := by
  cases ob with
  | held => cases hp
  | box cs =>
    obtain ⟨h1, b, bo, sz, hpl, ha, hl, hc⟩ := h
    have hh := hb b bo sz hpl
    refine ⟨h1, b, bo, sz, hpl, fun j hj => ?_, hl, fun j hj => ?_⟩
    · rw [cell?_of_heap hh, frozen?_of_heap hh]; exact ha j hj
    · rw [cellAt, cell?_of_heap hh]; exact .pure (((hc j hj).of_pureCell (pureCells_nth hp j hj)).mono hI hw)
  | row es n g =>
    obtain ⟨h1, h2, h3, h4⟩ := h
    refine ⟨h1, h2, h3, ?_⟩
    rcases h4 with h4 | ⟨b, bo, sz, hpl, ha, hl, hc⟩
    · exact .inl h4
    · have hh := hb b bo sz hpl
      refine .inr ⟨b, bo, sz, hpl, fun j hj => ?_, hl, fun i j hi hj => ?_⟩
      · rw [cell?_of_heap hh, frozen?_of_heap hh]; exact ha j hj
      · rw [cellAt, cell?_of_heap hh]; exact ⟨(hc i j hi hj).1.mono hI hw, (hc i j hi hj).2⟩

theorem idxN_spec : ∀ (l : List Nat) (x k j : Nat), idxN l x k = some j → k ≤ j ∧ j - k < l.length ∧ nthN l (j - k) = x := by
  intro l
  induction l with
  | nil => intro x k j h; cases h
  | cons y l ih =>
    intro x k j h
    unfold idxN at h
    cases hb : Nat.beq y x with
    | true =>
      simp only [hb] at h
      cases h
      exact ⟨Nat.le_refl _, by simp, by simp [nthN, Nat.eq_of_beq_eq_true hb]⟩
    | false =>
      simp only [hb] at h
      obtain ⟨h1, h2, h3⟩ := ih x (k + 1) j h
      refine ⟨by omega, by simp; omega, ?_⟩
      have : j - k = (j - (k + 1)) + 1 := by omega
      rw [this]
      exact h3

theorem rdAll_sound : ∀ (sg : List Nat) (k : List AObj → Pg) (r : List Nat), EvR Sp H (rdAll sg k) v ups r → ∃ obs r', EvR Sp H (k obs) v ups r' ∧ obs.length = sg.length ∧ ∀ j, j < sg.length → ∃ x, hof obs j = some x ∧ H (nthN sg j) = some x := by
  intro sg
  induction sg with
  | nil => intro k r h; exact ⟨[], r, h, rfl, fun j hj => by cases hj⟩
  | cons x sg ih =>
    intro k r h
    simp only [rdAll] at h
    obtain ⟨ob, r1, hob, h1⟩ := h.rd_inv
    obtain ⟨obs, r2, h2, h3, h4⟩ := ih _ _ h1
    refine ⟨ob :: obs, r2, h2, by simp [h3], fun j hj => ?_⟩
    cases j with
    | zero => exact ⟨ob, rfl, hob⟩
    | succ j => exact h4 j (by simpa using hj)

/-- The objects by reference, with the callee's numbers. -/
def subO (O : OM) (sg : List Nat) : OM := fun j => if j < sg.length then O (nthN sg j) else none

theorem viewArg_sound (hR : Rel cfg cx H D w I O) {sg : List Nat} (hlive : ∀ j, j < sg.length → ∃ x, H (nthN sg j) = some x) {u : AV} {k : AV → List Nat → Pg} (h : EvR Sp H (viewArg sg u k) v ups r) :
    ∃ u' ids r', EvR Sp H (k u' ids) v ups r' ∧ ∀ x, Rep w I O D u x → Rep w (fun b => I b ∨ Blk O ids b) (subO O sg) (fun o => o < sg.length) u' x := by
  have dflt : ∀ {u : AV} {r : List Nat}, EvR Sp H (pur fuel u k) v ups r → ∃ u' ids r', EvR Sp H (k u' ids) v ups r' ∧ ∀ x, Rep w I O D u x → Rep w (fun b => I b ∨ Blk O ids b) (subO O sg) (fun o => o < sg.length) u' x := by
    intro u r h
    obtain ⟨u', ids, r', h1, h2⟩ := (pur_sound hR fuel).1 _ _ _ _ _ h
    exact ⟨u', ids, r', h1, fun x hx => .pure (h2 x hx)⟩
  unfold viewArg at h
  split at h
  · rename_i ob i off
    cases hi : idxN sg ob 0 with
    | none => rw [hi] at h; exact dflt h
    | some j =>
      rw [hi] at h
      obtain ⟨_, h2, h3⟩ := idxN_spec sg ob 0 j hi
      simp only [Nat.sub_zero] at h2 h3
      refine ⟨_, _, r, h, fun x hx => ?_⟩
      obtain ⟨y, hy⟩ := hlive j h2
      rw [h3] at hy
      obtain ⟨p, hp, _⟩ := hR.live hy
      obtain ⟨b, bo, sz, q1, q2, rfl⟩ := hx.ptr_inv hp
      exact .ptr (by unfold subO; rw [if_pos h2, h3]; exact hp) q1 q2
  · rename_i ob i n f
    cases hi : idxN sg ob 0 with
    | none => rw [hi] at h; exact dflt h
    | some j =>
      rw [hi] at h
      obtain ⟨_, h2, h3⟩ := idxN_spec sg ob 0 j hi
      simp only [Nat.sub_zero] at h2 h3
      refine ⟨_, _, r, h, fun x hx => ?_⟩
      obtain ⟨y, hy⟩ := hlive j h2
      rw [h3] at hy
      obtain ⟨p, hp, _⟩ := hR.live hy
      obtain ⟨aa, cap, rfl, q1, q2, q3, q4⟩ := hx.osl_inv hp
      exact .osl (by unfold subO; rw [if_pos h2, h3]; exact hp) q1 q2 q3 q4
  · exact dflt h

theorem viewArgs_sound (hR : Rel cfg cx H D w I O) {sg : List Nat} (hlive : ∀ j, j < sg.length → ∃ x, H (nthN sg j) = some x) : ∀ (l : List AV) (k : List AV → List Nat → Pg) (r : List Nat), EvR Sp H (viewArgs sg l k) v ups r →
    ∃ l' ids r', EvR Sp H (k l' ids) v ups r' ∧ l'.length = l.length ∧ ∀ j, j < l.length → ∀ x, Rep w I O D (nth l j) x → Rep w (fun b => I b ∨ Blk O ids b) (subO O sg) (fun o => o < sg.length) (nth l' j) x := by
  intro l
  induction l with
  | nil => intro k r h; exact ⟨[], [], r, h, rfl, fun j hj => by cases hj⟩
  | cons u l ih =>
    intro k r h
    simp only [viewArgs] at h
    obtain ⟨u', i1, r1, h1, h2⟩ := viewArg_sound hR hlive h
    obtain ⟨l', i2, r2, h3, h4, h5⟩ := ih _ _ h1
    have hused : ∀ o p, subO O sg o = some p → o < sg.length := fun o p h => by
      unfold subO at h
      split at h
      · assumption
      · cases h
    refine ⟨u' :: l', i1 ++ i2, r2, h3, by simp [h4], fun j hj x hx => ?_⟩
    cases j with
    | zero => exact (h2 x hx).mono (fun b h => h.elim .inl fun h => .inr h.mono_l) (fun _ _ => rfl) (fun _ _ => .inl rfl) (fun _ h => h) hused
    | succ j => exact (h5 j (by simpa using hj) x hx).mono (fun b h => h.elim .inl fun h => .inr h.mono_r) (fun _ _ => rfl) (fun _ _ => .inl rfl) (fun _ h => h) hused

theorem nodupN_inj : ∀ (l : List Nat), nodupN l = true → ∀ i j, i < l.length → j < l.length → nthN l i = nthN l j → i = j := by
  have mem : ∀ (l : List Nat) (j : Nat), j < l.length → nthN l j ∈ l := by
    intro l
    induction l with
    | nil => intro j hj; cases hj
    | cons x l ih => intro j hj; cases j with
      | zero => simp [nthN]
      | succ j => exact List.mem_cons_of_mem _ (ih j (by simpa using hj))
  intro l
  induction l with
  | nil => intro _ i j hi; cases hi
  | cons x l ih =>
    intro h i j hi hj he
    unfold nodupN at h
    cases hm : memN x l with
    | true => simp [hm] at h
    | false =>
      simp only [hm] at h
      have hx := memN_spec hm
      cases i with
      | zero => cases j with
        | zero => rfl
        | succ j => simp only [nthN] at he; exact absurd (he ▸ mem l j (by simpa using hj)) hx
      | succ i => cases j with
        | zero => simp only [nthN] at he; exact absurd (he ▸ mem l i (by simpa using hi)) hx
        | succ j => simp only [nthN] at he; rw [ih h i j (by simpa using hi) (by simpa using hj) he]

theorem nthN_mem : ∀ (l : List Nat) (j : Nat), j < l.length → nthN l j ∈ l := by
  intro l
  induction l with
  | nil => intro j hj; cases hj
  | cons x l ih => intro j hj; cases j with
    | zero => simp [nthN]
    | succ j => exact List.mem_cons_of_mem _ (ih j (by simpa using hj))

theorem mem_nthN : ∀ (l : List Nat) (x : Nat), x ∈ l → ∃ j, j < l.length ∧ nthN l j = x := by
  intro l
  induction l with
  | nil => intro x h; cases h
  | cons y l ih =>
    intro x h
    rcases List.mem_cons.1 h with h | h
    · exact ⟨0, by simp, h.symm⟩
    · obtain ⟨j, h1, h2⟩ := ih x h
      exact ⟨j + 1, by simp; omega, h2⟩

theorem disjN_spec : ∀ (l m : List Nat), disjN l m = true → ∀ x ∈ l, x ∉ m := by
  intro l
  induction l with
  | nil => intro m _ x hx; cases hx
  | cons y l ih =>
    intro m h x hx
    unfold disjN at h
    cases hm : memN y m with
    | true => simp [hm] at h
    | false =>
      simp only [hm] at h
      rcases List.mem_cons.1 hx with hx | hx
      · subst hx; exact memN_spec hm
      · exact ih m h x hx

/-- The callee's view of the caller's memory. -/
theorem Rel.sub (hR : Rel cfg cx H D w I O) {sg ids : List Nat} {obs : List AObj} (hnd : nodupN sg = true) (hdj : disjN ids sg = true) (hl : obs.length = sg.length) (hobs : ∀ j, j < sg.length → ∃ x, hof obs j = some x ∧ H (nthN sg j) = some x) (hpure : pureObs obs = true) :
    Rel cfg (cxOf w (fun b => I b ∨ Blk O ids b) (subO O sg) obs.length) (hof obs) (fun o => o < obs.length) w (fun b => I b ∨ Blk O ids b) (subO O sg) := by
  have hsub : ∀ {j p}, subO O sg j = some p → j < sg.length ∧ O (nthN sg j) = some p := fun h => by
    unfold subO at h
    split at h
    · exact ⟨by assumption, h⟩
    · cases h
  have hof_none : ∀ (l : List AObj) (j : Nat), l.length ≤ j → hof l j = none := by
    intro l
    induction l with
    | nil => intro j _; rfl
    | cons x l ih => intro j hj; cases j with
      | zero => simp at hj
      | succ j => exact ih j (by simpa using hj)
  exact {
    dom := fun j => by
      unfold subO
      by_cases hj : j < sg.length
      · obtain ⟨x, h1, h2⟩ := hobs j hj
        obtain ⟨p, hp, _⟩ := hR.live h2
        simp [hj, h1, hp]
      · rw [if_neg hj, hof_none obs j (by omega)]
        simp
    used := fun j p h => by have := (hsub h).1; omega
    objs := fun j ob p h h' => by
      obtain ⟨h1, h2⟩ := hsub h'
      obtain ⟨x, h3, h4⟩ := hobs j h1
      rw [h] at h3
      cases h3
      exact (hR.objs _ _ p h4 h2).carry (pureObs_nth hpure j ob h) (fun _ h => .inl h) (fun _ _ => rfl) (fun _ _ _ _ => rfl)
    inj := fun j j' p p' b bo sz b' bo' sz' h1 h2 h3 h4 h5 => by
      obtain ⟨q1, q2⟩ := hsub h1
      obtain ⟨q3, q4⟩ := hsub h2
      exact hR.inj _ _ p p' b bo sz b' bo' sz' q2 q4 h3 h4 (fun e => h5 (nodupN_inj sg hnd j j' q1 q3 e))
    notI := fun j p b bo sz h1 h2 h3 => by
      obtain ⟨q1, q2⟩ := hsub h1
      rcases h3 with h3 | ⟨o', p', bo', sz', q3, q4, q5⟩
      · exact hR.notI _ p b bo sz q2 h2 h3
      · exact hR.inj _ o' p p' b bo sz b bo' sz' q2 q4 h2 q5 (fun e => disjN_spec ids sg hdj o' q3 (e ▸ nthN_mem sg j q1)) rfl
    lt := fun j p b bo sz h1 h2 => hR.lt _ p b bo sz (hsub h1).2 h2
    Ilt := (hR.freeze ids).Ilt
    size := Nat.le_refl _
    frame := fun _ _ _ => rfl
    env := ⟨SameEnv.refl _, fun _ _ h => h.elim⟩
    new := fun j p b bo sz h1 h2 => .inr ⟨j, p, bo, sz, h1, h2⟩
    glob := (hR.freeze ids).glob
    I0I := fun _ h => h
    II0 := fun _ h => .inl h
    O0O := fun _ _ => .inl rfl
    Dm := fun _ h => h }

end
end Go.Ab

namespace Go.Ab
section
variable {P : Program} {cfg : Cfg} {cx : Ctx} {H : Nat → Option AObj} {D : Nat → Prop} {w : World} {I : Nat → Prop} {O : OM}
variable {nid : Nat} {o : Oper} {a : Act} {ρ : Operand → AV} {v : AV} {ups : Ups} {r : List Nat}

theorem wp_enter {f : FuncId} {vals : Array Value} {next : Act → World → Prop} {Q : Exit → Act → World → Prop} (h : (execOp a.eval o).run P w = .ok (.enter f vals) w)
    (hc : Calls P f vals w fun e w' => ∃ x, e = .returned x ∧ next (a.put o.dst x) w') : o.wp P a w next Q := by
  unfold Oper.wp
  rw [h]
  exact hc.mono fun e w' ⟨x, he, hn⟩ => by subst he; exact hn

theorem noMem1_prep {w' : World} {I' : Nat → Prop} {u : AV} {x : Value} (h : Rep w I O D u x) (hm : noMem1 u = true) : PRep w' I' u x := by
  cases u <;> first | cases hm | skip
  · rw [h.bool_inv]; exact .bool _
  · rw [h.int_inv]; exact .int _ _
  · rw [h.str_inv]; exact .str _

theorem noMemL_nth {l : List AV} (h : noMemL l = true) : ∀ j, j < l.length → noMem1 (nth l j) = true := by
  induction l with
  | nil => intro j hj; cases hj
  | cons u l ih =>
    intro j hj
    unfold noMemL at h
    cases hv : noMem1 u with
    | false => simp [hv] at h
    | true =>
      simp only [hv] at h
      cases j with
      | zero => exact hv
      | succ j => exact ih h j (by simpa using hj)

theorem noMemV_prep {w' : World} {I' : Nat → Prop} {u : AV} {x : Value} (h : Rep w I O D u x) (hm : noMemV u = true) : PRep w' I' u x := by
  cases u with
  | agg cs =>
    obtain ⟨vs, rfl, hl, hr⟩ := h.agg_inv
    exact .agg hl fun j hj => noMem1_prep (hr j hj) (noMemL_nth hm j hj)
  | _ => exact noMem1_prep h hm

theorem noMemT_nth {l : List AV} (h : noMemT l = true) : ∀ j, j < l.length → noMemV (nth l j) = true := by
  induction l with
  | nil => intro j hj; cases hj
  | cons u l ih =>
    intro j hj
    unfold noMemT at h
    cases hv : noMemV u with
    | false => simp [hv] at h
    | true =>
      simp only [hv] at h
      cases j with
      | zero => exact hv
      | succ j => exact ih h j (by simpa using hj)

theorem noMem_prep {w' : World} {I' : Nat → Prop} {u : AV} {x : Value} (h : Rep w I O D u x) (hm : noMem u = true) : PRep w' I' u x := by
  cases u with
  | tup cs =>
    obtain ⟨vs, rfl, hl, hr⟩ := h.tup_inv
    exact .tup hl fun j hj => noMemV_prep (hr j hj) (noMemT_nth hm j hj)
  | _ => exact noMemV_prep h hm

theorem hof_some : ∀ (l : List AObj) (j : Nat), j < l.length → ∃ x, hof l j = some x := by
  intro l
  induction l with
  | nil => intro j hj; cases hj
  | cons x l ih => intro j hj; cases j with
    | zero => exact ⟨x, rfl⟩
    | succ j => exact ih j (by simpa using hj)

theorem hof_none : ∀ (l : List AObj) (j : Nat), l.length ≤ j → hof l j = none := by
  intro l
  induction l with
  | nil => intro j _; rfl
  | cons x l ih => intro j hj; cases j with
    | zero => simp at hj
    | succ j => exact ih j (by simpa using hj)

theorem look_append {α : Type} : ∀ (l m : List (Nat × α)) (k : Nat), look (l ++ m) k = match look l k with | some x => some x | none => look m k := by
  intro l
  induction l with
  | nil => intro m k; rfl
  | cons p l ih =>
    intro m k
    obtain ⟨q, x⟩ := p
    simp only [List.cons_append, look]
    cases Nat.beq q k <;> simp [ih]

theorem look_zip_hit : ∀ (l : List Nat) (obs : List AObj) (j : Nat) (x : AObj), nodupN l = true → j < l.length → hof obs j = some x → look (zipUps l obs) (nthN l j) = some (some x) := by
  intro l
  induction l with
  | nil => intro obs j x _ hj; cases hj
  | cons y l ih =>
    intro obs j x hnd hj hx
    cases obs with
    | nil => cases hx
    | cons ob obs =>
      have hnd' : nodupN l = true ∧ y ∉ l := by
        unfold nodupN at hnd
        cases hm : memN y l with
        | true => simp [hm] at hnd
        | false => simp only [hm] at hnd; exact ⟨hnd, memN_spec hm⟩
      cases j with
      | zero => simp [hof] at hx; subst hx; simp [zipUps, look, nthN]
      | succ j =>
        simp only [zipUps, look, nthN]
        have hne : Nat.beq y (nthN l j) = false := by
          cases hb : Nat.beq y (nthN l j) with
          | false => rfl
          | true => exact absurd (Nat.eq_of_beq_eq_true hb ▸ nthN_mem l j (by simpa using hj)) hnd'.2
        rw [hne]
        exact ih obs j x hnd'.1 (by simpa using hj) hx

theorem look_zip_miss : ∀ (l : List Nat) (obs : List AObj) (k : Nat), (∀ j, j < l.length → j < obs.length → nthN l j ≠ k) → look (zipUps l obs) k = none := by
  intro l
  induction l with
  | nil => intro obs k _; cases obs <;> rfl
  | cons y l ih =>
    intro obs k h
    cases obs with
    | nil => rfl
    | cons ob obs =>
      simp only [zipUps, look]
      have hne : Nat.beq y k = false := by
        cases hb : Nat.beq y k with
        | false => rfl
        | true => exact absurd (Nat.eq_of_beq_eq_true hb) (h 0 (by simp) (by simp))
      rw [hne]
      exact ih obs k (fun j h1 h2 => h (j + 1) (by simp; omega) (by simp; omega))

theorem nthN_append_left (l : List Nat) (x j : Nat) (h : j < l.length) : nthN (l ++ [x]) j = nthN l j := by
  induction l generalizing j with
  | nil => cases h
  | cons y l ih => cases j with
    | zero => rfl
    | succ j => exact ih j (by simpa using h)

theorem nthN_append_last (l : List Nat) (x : Nat) : nthN (l ++ [x]) l.length = x := by
  induction l with
  | nil => rfl
  | cons y l ih => simpa [nthN] using ih

theorem nodupN_snoc (l : List Nat) (x : Nat) (h : nodupN l = true) (hx : x ∉ l) : nodupN (l ++ [x]) = true := by
  have memN_false : ∀ (l : List Nat) (y : Nat), y ∉ l → memN y l = false := by
    intro l
    induction l with
    | nil => intro y _; rfl
    | cons z l ih =>
      intro y hy
      simp at hy
      unfold memN
      have hne : Nat.beq y z = false := by
        cases hb : Nat.beq y z with
        | false => rfl
        | true => exact absurd (Nat.eq_of_beq_eq_true hb) hy.1
      simp only [hne]
      exact ih y hy.2
  induction l with
  | nil => rfl
  | cons y l ih =>
    unfold nodupN at h
    cases hm : memN y l with
    | true => simp [hm] at h
    | false =>
      simp only [hm] at h
      simp at hx
      have h1 : memN y (l ++ [x]) = false := memN_false _ _ (by simp; exact ⟨memN_spec hm, fun e => hx.1 e.symm⟩)
      show nodupN (y :: (l ++ [x])) = true
      unfold nodupN
      simp only [h1]
      exact ih h hx.2

/-- A call that hands objects by reference, or whose result lies in memory. -/
theorem call_ref (hR : Rel cfg cx H D w I O) (hn : ¬ D nid) {f : FuncId} {args : List AV} {vals : Array Value} {sg : List Nat} (hrun : ∀ fn, P.funcs[f]? = some fn → fn.body.isNone = false → (fn.name == "runtime.NumGoroutine") = false → (execOp a.eval o).run P w = .ok (.enter f vals) w)
    (hvl : vals.size = args.length) (hva : ∀ j, j < args.length → Rep w I O D (nth args j) (vals.getD j Go.undef)) (h : EvR (Spec P cfg) H (callRef nid f args sg) v ups r) : OpOK P cfg cx H D w I O nid o a v ups := by
  unfold callRef at h
  obtain ⟨hnd, h1⟩ := h.chk_inv
  obtain ⟨obs, r1, h2, hol, hobs⟩ := rdAll_sound _ _ _ h1
  obtain ⟨hpo, h3⟩ := h2.chk_inv
  have hlive : ∀ j, j < sg.length → ∃ x, H (nthN sg j) = some x := fun j hj => let ⟨x, _, hx⟩ := hobs j hj; ⟨x, hx⟩
  obtain ⟨args', ids, r2, h4, hal, hview⟩ := viewArgs_sound hR hlive args _ _ h3
  obtain ⟨hdj, h5⟩ := h4.chk_inv
  cases h5 with
  | @call _ _ _ _ res obs' _ _ _ hspec h6 =>
  obtain ⟨hpo', h7⟩ := h6.chk_inv
  obtain ⟨hlen', h8⟩ := h7.chk_inv
  obtain ⟨hpr, h9⟩ := h8.chk_inv
  obtain ⟨rfl, rfl⟩ := h9.ret_inv
  have hlen' : obs'.length ≤ sg.length + 1 := Nat.le_of_ble_eq_true hlen'
  clear h h1 h2 h3 h4 h6 h7 h8 h9
  obtain ⟨⟨fn, hf1, hf2, hf3⟩, hle, hcall⟩ := hspec
  have hRs := hR.sub hnd hdj hol hobs hpo
  have hsgD : ∀ j, j < sg.length → D (nthN sg j) := fun j hj => by
    obtain ⟨x, hx⟩ := hlive j hj
    obtain ⟨p, hp, _⟩ := hR.live hx
    exact hR.used _ p hp
  have hnsg : nid ∉ sg := fun hm => by
    obtain ⟨j, h1, h2⟩ := mem_nthN sg nid hm
    exact hn (h2 ▸ hsgD j h1)
  have hnd2 := nodupN_snoc sg nid hnd hnsg
  have hOn : O nid = none := by
    cases h : O nid with
    | none => rfl
    | some p => exact absurd (hR.used nid p h) hn
  have hHn : H nid = none := (hR.dom nid).1 hOn
  intro next Q hnx
  refine wp_enter (hrun fn hf1 hf2 hf3) ((hcall w _ _ vals hRs (by omega) (fun j hj => by rw [hol]; exact hview j (by omega) _ (hva j (by omega)))).mono ?_)
  rintro e w' ⟨x, I', O', rfl, hR', hres, hO'⟩
  refine ⟨x, rfl, ?_⟩
  -- the caller's objects afterwards
  let On : OM := fun k => if k = nid ∧ sg.length < obs'.length then O' sg.length else if k ∈ ids then none else O k
  have hMc : ∀ b, (cxOf w (fun b => I b ∨ Blk O ids b) (subO O sg) obs.length).M b → ∃ j p bo sz, j < sg.length ∧ O (nthN sg j) = some p ∧ p.pl = some (b, bo, sz) := by
    rintro b ⟨j, p, bo, sz, h1, h2⟩
    unfold subO at h1
    split at h1
    · exact ⟨j, p, bo, sz, by assumption, h1, h2⟩
    · cases h1
  have hOsg : ∀ j, j < sg.length → O' j = O (nthN sg j) := fun j hj => by rw [hO' j (by omega)]; unfold subO; rw [if_pos hj]
  have hOnsg : ∀ j, j < sg.length → On (nthN sg j) = O (nthN sg j) := fun j hj => by
    have h1 : ¬ (nthN sg j = nid ∧ sg.length < obs'.length) := fun h => hnsg (h.1 ▸ nthN_mem sg j hj)
    have h2 : nthN sg j ∉ ids := fun hm => disjN_spec ids sg hdj _ hm (nthN_mem sg j hj)
    show (if _ then _ else _) = _
    rw [if_neg h1, if_neg h2]
  have hOnD : ∀ k, D k → On k = O k ∨ On k = none := fun k hk => by
    have h1 : ¬ (k = nid ∧ sg.length < obs'.length) := fun h => hn (h.1 ▸ hk)
    show (if _ then _ else _) = _ ∨ (if _ then _ else _) = _
    rw [if_neg h1]
    by_cases h2 : k ∈ ids <;> simp [h2]
  have hOnold : ∀ {k p}, k ≠ nid → On k = some p → O k = some p ∧ k ∉ ids := fun {k p} hk h => by
    have h1 : ¬ (k = nid ∧ sg.length < obs'.length) := fun h => hk h.1
    have h' : (if k = nid ∧ sg.length < obs'.length then O' sg.length else if k ∈ ids then none else O k) = some p := h
    rw [if_neg h1] at h'
    by_cases h2 : k ∈ ids
    · simp [h2] at h'
    · rw [if_neg h2] at h'
      exact ⟨h', h2⟩
  have hOnnid : ∀ {p}, On nid = some p → sg.length < obs'.length ∧ O' sg.length = some p := fun {p} h => by
    have h' : (if nid = nid ∧ sg.length < obs'.length then O' sg.length else if nid ∈ ids then none else O nid) = some p := h
    by_cases h1 : sg.length < obs'.length
    · rw [if_pos ⟨rfl, h1⟩] at h'; exact ⟨h1, h'⟩
    · rw [if_neg (fun h => h1 h.2), hOn] at h'
      split at h' <;> cases h'
  have hII' : ∀ b, I b → I' b := fun b h => hR'.I0I b (.inl h)
  have hI' : ∀ b, I' b → (I b ∨ Blk O ids b) ∨ w.heap.size ≤ b ∨ ∃ j p bo sz, j < sg.length ∧ O (nthN sg j) = some p ∧ p.pl = some (b, bo, sz) := fun b h => by
    rcases hR'.II0 b h with h | h | h
    · exact .inl h
    · exact .inr (.inl h)
    · exact .inr (.inr (hMc b h))
  have hfr : ∀ b, b < w.heap.size → (∀ j p bo sz, j < sg.length → O (nthN sg j) = some p → p.pl ≠ some (b, bo, sz)) → w'.heap[b]? = w.heap[b]? := fun b hb hno =>
    hR'.frame b hb (fun hm => by obtain ⟨j, p, bo, sz, h1, h2, h3⟩ := hMc b hm; exact hno j p bo sz h1 h2 h3)
  have hIfr : ∀ b, I b → w'.heap[b]? = w.heap[b]? := fun b hb => hfr b (hR.Ilt b hb) (fun j p bo sz h1 h2 h3 => hR.notI _ p b bo sz h2 h3 hb)
  have hownfr : ∀ k p b bo sz, O k = some p → p.pl = some (b, bo, sz) → k ∉ sg → w'.heap[b]? = w.heap[b]? := fun k p b bo sz h1 h2 h3 =>
    hfr b (hR.lt k p b bo sz h1 h2) (fun j p' bo' sz' q1 q2 q3 => hR.inj k (nthN sg j) p p' b bo sz b bo' sz' h1 q2 h2 q3 (fun e => h3 (e ▸ nthN_mem sg j q1)) rfl)
  have hexp : ∀ p b bo sz, sg.length < obs'.length → O' sg.length = some p → p.pl = some (b, bo, sz) → w.heap.size ≤ b := fun p b bo sz h1 h2 h3 => by
    rcases hR'.new _ p b bo sz h2 h3 with h | h
    · exact h
    · obtain ⟨j, p', bo', sz', q1, q2, q3⟩ := hMc b h
      exact absurd rfl (hR'.inj _ j p p' b bo sz b bo' sz' h2 (by rw [hOsg j q1]; exact q2) h3 q3 (by omega))
  -- the objects afterwards
  have hHsg : ∀ j x, j < sg.length → hof obs' j = some x → updF H (zipUps (sg ++ [nid]) obs' ++ dead ids) (nthN sg j) = some x := fun j x hj hx => by
    unfold updF
    rw [look_append, ← nthN_append_left sg nid j hj, look_zip_hit _ _ j x hnd2 (by simp; omega) hx]
  have hHnid : sg.length < obs'.length → ∀ x, hof obs' sg.length = some x → updF H (zipUps (sg ++ [nid]) obs' ++ dead ids) nid = some x := fun h x hx => by
    unfold updF
    have := look_zip_hit (sg ++ [nid]) obs' sg.length x hnd2 (by simp) hx
    rw [nthN_append_last] at this
    rw [look_append, this]
  have hHelse : ∀ k, k ∉ sg → (k = nid → ¬ sg.length < obs'.length) → updF H (zipUps (sg ++ [nid]) obs' ++ dead ids) k = if k ∈ ids then none else H k := fun k h1 h2 => by
    have hmiss : look (zipUps (sg ++ [nid]) obs') k = none := look_zip_miss _ _ _ (fun j q1 q2 e => by
      simp at q1
      by_cases hj : j < sg.length
      · rw [nthN_append_left sg nid j hj] at e
        exact h1 (e ▸ nthN_mem sg j hj)
      · have : j = sg.length := by omega
        subst this
        rw [nthN_append_last] at e
        exact h2 e.symm q2)
    unfold updF
    rw [look_append, hmiss, look_dead]
    by_cases h3 : k ∈ ids <;> simp [h3]
  have hRn : Rel cfg cx (updF H (zipUps (sg ++ [nid]) obs' ++ dead ids)) (insD D nid) w' I' On := {
    dom := fun k => by
      by_cases hk : k ∈ sg
      · obtain ⟨j, h1, rfl⟩ := mem_nthN sg k hk
        obtain ⟨x, hx⟩ := hof_some obs' j (by omega)
        rw [hHsg j x h1 hx, hOnsg j h1]
        obtain ⟨y, hy⟩ := hlive j h1
        obtain ⟨p, hp, _⟩ := hR.live hy
        simp [hp]
      · by_cases hkn : k = nid ∧ sg.length < obs'.length
        · obtain ⟨rfl, h2⟩ := hkn
          obtain ⟨x, hx⟩ := hof_some obs' sg.length h2
          rw [hHnid h2 x hx]
          have : On k = O' sg.length := by show (if _ then _ else _) = _; rw [if_pos ⟨rfl, h2⟩]
          rw [this]
          constructor
          · intro h; rw [(hR'.dom _).1 h] at hx; cases hx
          · intro h; cases h
        · rw [hHelse k hk (fun e h => hkn ⟨e, h⟩)]
          have : On k = if k ∈ ids then none else O k := by show (if _ then _ else _) = _; rw [if_neg hkn]
          rw [this]
          by_cases h3 : k ∈ ids <;> simp [h3, hR.dom k]
    used := fun k p h => by
      by_cases hk : k = nid
      · exact .inr hk
      · exact .inl (hR.used k p (hOnold hk h).1)
    objs := fun k ob p h h' => by
      by_cases hk : k ∈ sg
      · obtain ⟨j, h1, rfl⟩ := mem_nthN sg k hk
        obtain ⟨x, hx⟩ := hof_some obs' j (by omega)
        rw [hHsg j x h1 hx] at h
        cases h
        rw [hOnsg j h1] at h'
        exact (hR'.objs j ob p hx (by rw [hOsg j h1]; exact h')).carry (pureObs_nth hpo' j ob hx) (fun _ h => h) (fun _ _ => rfl) (fun _ _ _ _ => rfl)
      · by_cases hkn : k = nid
        · subst hkn
          obtain ⟨q1, q2⟩ := hOnnid h'
          obtain ⟨x, hx⟩ := hof_some obs' sg.length q1
          rw [hHnid q1 x hx] at h
          cases h
          exact (hR'.objs _ ob p hx q2).carry (pureObs_nth hpo' _ ob hx) (fun _ h => h) (fun _ _ => rfl) (fun _ _ _ _ => rfl)
        · obtain ⟨q1, q2⟩ := hOnold hkn h'
          rw [hHelse k hk (fun e => absurd e hkn), if_neg q2] at h
          exact (hR.objs k ob p h q1).mono hII' hIfr hOnD (fun _ h => .inl h) hR.used (fun b bo sz hpl => hownfr k p b bo sz q1 hpl hk)
    inj := fun k k' p p' b bo sz b' bo' sz' h1 h2 h3 h4 h5 => by
      by_cases hk : k = nid
      · subst hk
        obtain ⟨q1, q2⟩ := hOnnid h1
        have hb := hexp p b bo sz q1 q2 h3
        have := hR.lt k' p' b' bo' sz' (hOnold (fun e => h5 e.symm) h2).1 h4
        omega
      · by_cases hk' : k' = nid
        · subst hk'
          obtain ⟨q1, q2⟩ := hOnnid h2
          have hb := hexp p' b' bo' sz' q1 q2 h4
          have := hR.lt k p b bo sz (hOnold h5 h1).1 h3
          omega
        · exact hR.inj k k' p p' b bo sz b' bo' sz' (hOnold hk h1).1 (hOnold hk' h2).1 h3 h4 h5
    notI := fun k p b bo sz h1 h2 h3 => by
      by_cases hk : k = nid
      · subst hk
        obtain ⟨q1, q2⟩ := hOnnid h1
        exact hR'.notI _ p b bo sz q2 h2 h3
      · obtain ⟨q1, q2⟩ := hOnold hk h1
        by_cases hs : k ∈ sg
        · obtain ⟨j, h4, rfl⟩ := mem_nthN sg k hs
          exact hR'.notI j p b bo sz (by rw [hOsg j h4]; exact q1) h2 h3
        · rcases hI' b h3 with (h | ⟨k', p', bo', sz', e1, e2, e3⟩) | h | ⟨j, p', bo', sz', e1, e2, e3⟩
          · exact hR.notI k p b bo sz q1 h2 h
          · exact hR.inj k k' p p' b bo sz b bo' sz' q1 e2 h2 e3 (fun e => q2 (e ▸ e1)) rfl
          · have := hR.lt k p b bo sz q1 h2; omega
          · exact hR.inj k _ p p' b bo sz b bo' sz' q1 e2 h2 e3 (fun e => hs (e ▸ nthN_mem sg j e1)) rfl
    lt := fun k p b bo sz h1 h2 => by
      by_cases hk : k = nid
      · subst hk
        obtain ⟨q1, q2⟩ := hOnnid h1
        exact hR'.lt _ p b bo sz q2 h2
      · exact Nat.lt_of_lt_of_le (hR.lt k p b bo sz (hOnold hk h1).1 h2) hR'.size
    Ilt := hR'.Ilt
    size := Nat.le_trans hR.size hR'.size
    env := hR.env.step hR'.env.same
    frame := fun b h1 h2 => by
      rw [hfr b (Nat.lt_of_lt_of_le h1 hR.size) (fun j p bo sz q1 q2 q3 => by
        rcases hR.new _ p b bo sz q2 q3 with h | h
        · omega
        · exact h2 h)]
      exact hR.frame b h1 h2
    new := fun k p b bo sz h1 h2 => by
      by_cases hk : k = nid
      · subst hk
        obtain ⟨q1, q2⟩ := hOnnid h1
        exact .inl (Nat.le_trans hR.size (hexp p b bo sz q1 q2 h2))
      · exact hR.new k p b bo sz (hOnold hk h1).1 h2
    glob := hR'.glob
    I0I := fun b h => hII' b (hR.I0I b h)
    II0 := fun b h => by
      rcases hI' b h with (h | ⟨k', p', bo', sz', e1, e2, e3⟩) | h | ⟨j, p', bo', sz', e1, e2, e3⟩
      · exact hR.II0 b h
      · exact .inr (hR.new k' p' b bo' sz' e2 e3)
      · exact .inr (.inl (Nat.le_trans hR.size h))
      · exact .inr (hR.new _ p' b bo' sz' e2 e3)
    O0O := fun k h => by
      rcases hOnD k (hR.Dm k h) with h1 | h1
      · rw [h1]; exact hR.O0O k h
      · exact .inr h1
    Dm := fun k h => .inl (hR.Dm k h) }
  refine hnx x w' I' On hRn (fun u y hu => hu.mono hII' hIfr hOnD (fun _ h => .inl h) hR.used) ?_
  have pureCase : ∀ {q : AV}, Rep w' I' O' (fun k => k < obs'.length) q x → renR (sg ++ [nid]) q = q → pureV q = true → Rep w' I' On (insD D nid) (renR (sg ++ [nid]) q) x := fun h1 h2 h3 => by
    rw [h2]; exact .pure (h1.of_pureV h3)
  cases res with
  | ptr j i off =>
    simp only [renR]
    cases hj : O' j with
    | none =>
      have hlt : j < obs'.length := by
        cases hres with
        | pure h => cases h
        | ptr ho => rw [hj] at ho; cases ho
        | deadP _ hd => exact hd
      obtain ⟨y, hy⟩ := hof_some obs' j hlt
      rw [(hR'.dom j).1 hj] at hy
      cases hy
    | some p =>
      obtain ⟨b, bo, sz, q1, q2, rfl⟩ := hres.ptr_inv hj
      have hlt : j < obs'.length := hR'.used j p hj
      by_cases hjs : j < sg.length
      · rw [nthN_append_left sg nid j hjs]
        exact .ptr (by rw [hOnsg j hjs, ← hOsg j hjs]; exact hj) q1 q2
      · have : j = sg.length := by omega
        subst this
        rw [nthN_append_last]
        have e : On nid = O' sg.length := by show (if _ then _ else _) = _; rw [if_pos ⟨rfl, hlt⟩]
        exact .ptr (by rw [e]; exact hj) q1 q2
  | osl j i n full =>
    simp only [renR]
    cases hj : O' j with
    | none =>
      have hlt : j < obs'.length := by
        cases hres with
        | pure h => cases h
        | osl ho => rw [hj] at ho; cases ho
        | deadS _ hd => exact hd
      obtain ⟨y, hy⟩ := hof_some obs' j hlt
      rw [(hR'.dom j).1 hj] at hy
      cases hy
    | some p =>
      obtain ⟨aa, cap, rfl, q1, q2, q3, q4⟩ := hres.osl_inv hj
      have hlt : j < obs'.length := hR'.used j p hj
      by_cases hjs : j < sg.length
      · rw [nthN_append_left sg nid j hjs]
        exact .osl (by rw [hOnsg j hjs, ← hOsg j hjs]; exact hj) q1 q2 q3 q4
      · have : j = sg.length := by omega
        subst this
        rw [nthN_append_last]
        have e : On nid = O' sg.length := by show (if _ then _ else _) = _; rw [if_pos ⟨rfl, hlt⟩]
        exact .osl (by rw [e]; exact hj) q1 q2 q3 q4
  | tup vs =>
    obtain ⟨xs, rfl, hl, hr⟩ := hres.tup_inv
    exact .pure (.tup hl fun j hj => (hr j hj).of_pureV (pureVs_nth hpr j hj))
  | fn f cs =>
    obtain ⟨xs, rfl, hl, hr⟩ := hres.fn_inv
    exact .pure (.fn hl fun j hj => (hr j hj).of_pureCell (pureCells_nth hpr j hj))
  | _ => exact pureCase hres rfl hpr

end
end Go.Ab

namespace Go.Ab
section
variable {P : Program} {cfg : Cfg} {cx : Ctx} {H : Nat → Option AObj} {D : Nat → Prop} {w : World} {I : Nat → Prop} {O : OM}
variable {nid : Nat} {o : Oper} {a : Act} {ρ : Operand → AV} {v : AV} {ups : Ups} {r : List Nat}

/-- A call that hands nothing by reference, and whose result lies in no memory. -/
theorem call_plain (hR : Rel cfg cx H D w I O) {f : FuncId} {args : List AV} {vals : Array Value} (hrun : ∀ fn, P.funcs[f]? = some fn → fn.body.isNone = false → (fn.name == "runtime.NumGoroutine") = false → (execOp a.eval o).run P w = .ok (.enter f vals) w)
    (hvl : vals.size = args.length) (hva : ∀ j, j < args.length → Rep w I O D (nth args j) (vals.getD j Go.undef))
    (h : EvR (Spec P cfg) H (viewArgs [] args fun args' _ => .call f args' [] fun r obs' => match obs' with | [] => chkK (noMem r) (ret1 r) | _ :: _ => .fail) v ups r) : OpOK P cfg cx H D w I O nid o a v ups := by
  obtain ⟨args', ids, r2, h4, hal, hview⟩ := viewArgs_sound hR (sg := []) (fun j hj => by cases hj) args _ _ h
  cases h4 with
  | @call _ _ _ _ res obs' _ _ _ hspec h6 =>
  cases obs' with
  | cons => exact (EvR.fail_inv h6).elim
  | nil =>
    obtain ⟨hm, h7⟩ := h6.chk_inv
    obtain ⟨rfl, rfl⟩ := h7.ret1_inv
    clear h h6 h7
    obtain ⟨⟨fn, hf1, hf2, hf3⟩, hle, hcall⟩ := hspec
    have hRs := hR.sub (sg := []) (ids := ids) (obs := []) rfl (by
      have : ∀ l, disjN l [] = true := by
        intro l
        induction l with
        | nil => rfl
        | cons x l ih => unfold disjN; simp [memN, ih]
      exact this ids) rfl (fun j hj => by cases hj) rfl
    intro next Q hnx
    refine wp_enter (hrun fn hf1 hf2 hf3) ((hcall w _ _ vals hRs (by omega) (fun j hj => hview j (by omega) _ (hva j (by omega)))).mono ?_)
    rintro e w' ⟨x, I', O', rfl, hR', hres, hO'⟩
    refine ⟨x, rfl, ?_⟩
    have hfr : ∀ b, b < w.heap.size → w'.heap[b]? = w.heap[b]? := fun b hb => hR'.frame b hb (by
      rintro ⟨j, p, bo, sz, h1, h2⟩
      simp [subO] at h1)
    have hR1 := hR.addD nid
    refine hnx x w' I O ?_ (fun u y hu => hu.mono (fun _ h => h) (fun b hb => hfr b (hR.Ilt b hb)) (fun _ _ => .inl rfl) (fun _ h => .inl h) hR.used) (.pure (noMem_prep hres hm))
    rw [updF_nil]
    exact { hR1 with
      objs := fun o ob p h1 h2 => (hR1.objs o ob p h1 h2).mono (fun _ h => h) (fun b hb => hfr b (hR.Ilt b hb)) (fun _ _ => .inl rfl) (fun _ h => h) hR1.used (fun b bo sz hpl => hfr b (hR.lt o p b bo sz h2 hpl))
      lt := fun o p b bo sz h1 h2 => Nat.lt_of_lt_of_le (hR.lt o p b bo sz h1 h2) hR'.size
      Ilt := fun b h => Nat.lt_of_lt_of_le (hR.Ilt b h) hR'.size
      size := Nat.le_trans hR.size hR'.size
      env := hR.env.step hR'.env.same
      frame := fun b h1 h2 => by rw [hfr b (Nat.lt_of_lt_of_le h1 hR.size)]; exact hR.frame b h1 h2
      glob := fun g cs h => (hR.glob g cs h).mono (fun _ h => h) (fun b hb => hfr b (hR.Ilt b hb)) }

theorem nth_append_l (l m : List AV) (j : Nat) (h : j < l.length) : nth (l ++ m) j = nth l j := by
  rw [nth_eq, nth_eq]; simp [List.getElem?_append_left h]
theorem nth_append_r (l m : List AV) (j : Nat) (h : l.length ≤ j) : nth (l ++ m) j = nth m (j - l.length) := by
  rw [nth_eq, nth_eq]; simp [List.getElem?_append_right h]

theorem op_call (hR : Rel cfg cx H D w I O) (hn : ¬ D nid) {c : Call} {f : Operand} (ho : o.op = .call c) (hcl : c.callee = .value f) (hf : Rep w I O D (ρ f) (a.eval f)) (hx : ∀ x ∈ c.args.toList, Rep w I O D (ρ x) (a.eval x))
    (h : EvR (Spec P cfg) H (opPg cfg nid (.call c) ρ) v ups r) : OpOK P cfg cx H D w I O nid o a v ups := by
  simp only [opPg, hcl] at h
  split at h
  · rename_i g caps e
    rw [e] at hf
    obtain ⟨cvs, hfv, hcl1, hcr⟩ := hf.fn_inv
    have hrun : ∀ fn, P.funcs[g]? = some fn → fn.body.isNone = false → (fn.name == "runtime.NumGoroutine") = false → (execOp a.eval o).run P w = .ok (.enter g (c.args.map a.eval ++ cvs)) w := by
      intro fn h1 h2 h3
      simp only [execOp, ho, hcl, resolve, hfv, Deferred.ofValue, Sem.run_bind, Sem.run_pure, Result.andThen_ok, invoke, callFunc, program, Sem.run, h1, h2, h3, Bool.false_eq_true, if_false]
      simp
    have hvl : (c.args.map a.eval ++ cvs).size = (c.args.toList.map ρ ++ caps).length := by simp [hcl1]
    have hva : ∀ j, j < (c.args.toList.map ρ ++ caps).length → Rep w I O D (nth (c.args.toList.map ρ ++ caps) j) ((c.args.map a.eval ++ cvs).getD j Go.undef) := by
      intro j hj
      by_cases hlt : j < (c.args.toList.map ρ).length
      · rw [nth_append_l _ _ _ hlt]
        have h1 := rep_map (a := a) hx j hlt
        have hlt' : j < (c.args.map a.eval).size := by simpa using hlt
        have e1 : (c.args.map a.eval ++ cvs).getD j Go.undef = (c.args.map a.eval).getD j Go.undef := by
          simp only [Array.getD_eq_getD_getElem?, Array.getElem?_append_left hlt']
        rw [e1]
        simpa using h1
      · have hge : (c.args.toList.map ρ).length ≤ j := by omega
        rw [nth_append_r _ _ _ hge]
        have hge' : (c.args.map a.eval).size ≤ j := by simpa using hge
        have e1 : (c.args.map a.eval ++ cvs).getD j Go.undef = cvs.getD (j - (c.args.map a.eval).size) Go.undef := by
          simp only [Array.getD_eq_getD_getElem?, Array.getElem?_append_right hge']
        rw [e1]
        have e2 : (c.args.map a.eval).size = (c.args.toList.map ρ).length := by simp
        rw [e2]
        exact hcr _ (by simp at hj hge ⊢; omega)
    unfold callPg at h
    split at h
    · split at h
      · exact call_plain hR hrun hvl hva h
      · exact call_ref hR hn hrun hvl hva h
    · exact call_ref hR hn hrun hvl hva h
  · exact (EvR.fail_inv h).elim

/-- What is asked of the operands: all of them, but of a pick the condition and what it picks. -/
def OpsOK (w : World) (I : Nat → Prop) (O : OM) (D : Nat → Prop) (a : Act) (ρ : Operand → AV) (op : Op) : Prop :=
  match op with
  | .pick c x y => Rep w I O D (ρ c) (a.eval c) ∧ (∀ b, ρ c = .bool b → b = true → Rep w I O D (ρ x) (a.eval x)) ∧ (∀ b, ρ c = .bool b → b = false → Rep w I O D (ρ y) (a.eval y))
  | op => ∀ x ∈ op.operands.toList, Rep w I O D (ρ x) (a.eval x)

theorem op_sound (hc : CfgOK P cfg) (hR : Rel cfg cx H D w I O) (hn : ¬ D nid) (hρ : ∀ c, ρ (.const c) = ofConst c) (hx : OpsOK w I O D a ρ o.op) (h : EvR (Spec P cfg) H (opPg cfg nid o.op ρ) v ups r) : OpOK P cfg cx H D w I O nid o a v ups := by
  generalize ho : o.op = op at hx h
  cases op with
  | move x => obtain ⟨rfl, rfl⟩ := h.ret1_inv; exact op_move hR ho (hx x (by simp [Op.operands]))
  | assign x => obtain ⟨rfl, rfl⟩ := h.ret1_inv; exact op_assign hR ho (hx x (by simp [Op.operands]))
  | pick c x y =>
    obtain ⟨h1, h2, h3⟩ := hx
    exact op_pick hR ho h1 h2 h3 (fun c e => by subst e; exact ⟨hρ c, rfl⟩) (fun c e => by subst e; exact ⟨hρ c, rfl⟩) h
  | alloc t => exact op_alloc hc hR hn ho h
  | box t x => exact op_box hR hn ho (hx x (by simp [Op.operands])) h
  | build t parts =>
    refine op_build hc hR ho (fun p hp => hx p.2 ?_) h
    simp only [Op.operands, List.mem_map]
    exact ⟨p, hp, rfl⟩
  | buildSlice t len parts =>
    refine op_buildSlice hc hR hn ho (fun p hp => hx p.2 ?_) h
    simp only [Op.operands, List.mem_map]
    exact ⟨p, hp, rfl⟩
  | load t x => exact op_load hc hR ho (hx x (by simp [Op.operands])) h
  | store t x y => exact op_store hc hR ho (hx x (by simp [Op.operands])) (hx y (by simp [Op.operands])) h
  | nilCheck x => exact op_nilCheck hR ho (hx x (by simp [Op.operands])) h
  | binOp op t x y t' => exact op_binOp hc hR ho (hx x (by simp [Op.operands])) (hx y (by simp [Op.operands])) h
  | unOp op t x => exact op_unOp hR ho (hx x (by simp [Op.operands])) h
  | convert s d x => exact op_convert hc hR ho (hx x (by simp [Op.operands])) h
  | makeFunc fn first cap => exact op_makeFunc hR ho (fun x hm => hx x (by simp only [Op.operands, Array.toList_append, List.mem_append]; exact .inr hm)) h
  | makeSlice t l c => exact op_makeSlice hc hR hn ho (hx l (by simp [Op.operands])) h
  | slice t x lo hi mx =>
    refine op_slice hc hR ho (hx x (by simp [Op.operands])) (fun y e => hx y ?_) (fun y e => hx y ?_) (fun y e => hx y ?_) h
    · subst e; simp [Op.operands]
    · subst e; simp [Op.operands]
    · subst e; simp [Op.operands]
  | fieldAddr s x f => exact op_fieldAddr hc hR ho (hx x (by simp [Op.operands])) h
  | field s x f => exact op_field hc hR ho (hx x (by simp [Op.operands])) h
  | indexAddr t x ix => exact op_indexAddr hc hR ho (hx x (by simp [Op.operands])) (hx ix (by simp [Op.operands])) h
  | extract t i => exact op_extract hR ho (hx t (by simp [Op.operands])) h
  | call c =>
    have harg : ∀ x ∈ c.args.toList, Rep w I O D (ρ x) (a.eval x) := fun x hm => hx x (by simp only [Op.operands, Call.operands, Array.toList_append, List.mem_append]; exact .inr hm)
    cases hcl : c.callee with
    | value f => exact op_call hR hn ho hcl (hx f (by simp [Op.operands, Call.operands, hcl])) harg h
    | invoke x m => simp only [opPg, hcl] at h; exact (EvR.fail_inv h).elim
    | builtin b =>
      cases b with
      | len => exact op_len hc hR ho hcl harg h
      | append => exact op_append hc hR hn ho hcl harg h
      | copy => exact op_copy hc hR ho hcl harg h
      | min => exact op_min hR ho hcl harg h
      | max => exact op_max hR ho hcl harg h
      | _ => simp only [opPg, hcl] at h; exact (EvR.fail_inv h).elim
  | _ => exact (EvR.fail_inv h).elim

end
end Go.Ab

namespace Go.Ab

/-- One entry of a region's course. -/
structure TE where
  ex : Bool
  v : AV
  ups : Ups
  rds : List Nat

def updO {α : Type} (T : Nat → α) (d : Option Nat) (v : α) : Nat → α := match d with
  | some k => fun t => if t = k then v else T t
  | none => T

def isB (b : Bool) : AV → Bool
  | .bool c => c == b
  | _ => false

def guardOn (all : List Oper) (T : Nat → AV) (V : Nat → Bool) (o : Oper) : Bool := match o.guard with
  | none => true
  | some (j, b) => match dstOf all j with
    | some d => V d && isB b (T d)
    | none => false

def guardSeen (all : List Oper) (T : Nat → AV) (o : Oper) : Prop := match o.guard with
  | none => True
  | some (j, _) => ∃ d c, dstOf all j = some d ∧ T d = .bool c

/-- The course of a region in the order of the text. -/
def Tr (cfg : Cfg) (Sp : SpecT) (all : List Oper) (nx : Nat) : List Oper → Nat → (Nat → AV) → (Nat → Bool) → (Nat → Option AObj) → List TE → Prop
  | [], _, _, _, _, [] => True
  | o :: rest, i, T, V, H, e :: tr => guardSeen all T o ∧ e.ex = guardOn all T V o ∧ (e.ex = true → EvR Sp H (opPg cfg (nx + i) o.op (rho cfg T)) e.v e.ups e.rds) ∧ (e.ex = false → e.ups = []) ∧
      Tr cfg Sp all nx rest (i + 1) (updO T o.dst e.v) (updO V o.dst e.ex) (updF H e.ups) tr
  | _, _, _, _, _, _ => False

section
variable {P : Program} {cfg : Cfg} {cx : Ctx} {N : Nat} {ds : List Deferred}

/-- The temporaries of the frame. -/
structure TRel (N : Nat) (ds : List Deferred) (T : Nat → AV) (V : Nat → Bool) (a : Act) (w : World) (I : Nat → Prop) (O : OM) (D : Nat → Prop) : Prop where
  defers : a.defers = ds
  size : a.tmps.size = N
  rep : ∀ t, V t = true → Rep w I O D (T t) (a.tmps.getD t Go.undef)
  gone : ∀ t, V t = false → a.tmps.getD t Go.undef = Go.undef

theorem getD_set (tm : Array Value) (d t : Nat) (x : Value) (h : d < tm.size) : (tm.setIfInBounds d x).getD t Go.undef = if t = d then x else tm.getD t Go.undef := by
  by_cases e : t = d
  · subst e; simp [h]
  · rw [if_neg e]
    have : d ≠ t := fun h => e h.symm
    simp [Array.getElem?_setIfInBounds_ne this]

theorem TRel.put {T : Nat → AV} {V : Nat → Bool} {a : Act} {w w' : World} {I I' : Nat → Prop} {O O' : OM} {D D' : Nat → Prop} (h : TRel N ds T V a w I O D) (keep : ∀ u y, Rep w I O D u y → Rep w' I' O' D' u y) (d : Option Nat) (hd : ∀ k, d = some k → k < N)
    (v : AV) (x : Value) (ex : Bool) (hx : ex = true → Rep w' I' O' D' v x) (hx' : ex = false → x = Go.undef) : TRel N ds (updO T d v) (updO V d ex) (a.put d x) w' I' O' D' := by
  cases d with
  | none => exact ⟨h.defers, h.size, fun t ht => keep _ _ (h.rep t ht), h.gone⟩
  | some k =>
    have hk := hd k rfl
    have hs := h.size
    refine ⟨h.defers, by simp [Act.put, hs], fun t ht => ?_, fun t ht => ?_⟩
    · show Rep _ _ _ _ (if t = k then v else T t) ((a.tmps.setIfInBounds k x).getD t Go.undef)
      rw [getD_set _ _ _ _ (by omega)]
      simp only [updO] at ht
      by_cases e : t = k
      · rw [if_pos e, if_pos e]; exact hx (by simpa [e] using ht)
      · rw [if_neg e, if_neg e]; exact keep _ _ (h.rep t (by simpa [e] using ht))
    · show (a.tmps.setIfInBounds k x).getD t Go.undef = _
      rw [getD_set _ _ _ _ (by omega)]
      simp only [updO] at ht
      by_cases e : t = k
      · rw [if_pos e]; exact hx' (by simpa [e] using ht)
      · rw [if_neg e]; exact h.gone t (by simpa [e] using ht)

/-- An operand stands for its value. -/
theorem rep_operand {H : Nat → Option AObj} {D : Nat → Prop} {w : World} {I : Nat → Prop} {O : OM} {T : Nat → AV} {V : Nat → Bool} {a : Act} (hR : Rel cfg cx H D w I O) (hT : TRel N ds T V a w I O D) (x : Operand) (hv : ∀ t, x = .tmp t → V t = true) : Rep w I O D (rho cfg T x) (a.eval x) := by
  cases x with
  | tmp t => exact hT.rep t (hv t rfl)
  | const c => exact rep_const' c
  | global g =>
    simp only [rho, Act.eval]
    cases hg : look cfg.glob g with
    | some cs => exact .pure (hR.glob g cs hg)
    | none => exact .pure (.undef _)
  | func f => exact .pure (.fn (by simp) (fun j hj => by simp at hj))

/-- What an operation may look at. -/
def valOK (T : Nat → AV) (V : Nat → Bool) (op : Op) : Prop := match op with
  | .pick c x y => (∀ t, c = .tmp t → V t = true) ∧ (rhoB T c = some true → ∀ t, x = .tmp t → V t = true) ∧ (rhoB T c = some false → ∀ t, y = .tmp t → V t = true)
  | op => ∀ t, Operand.tmp t ∈ op.operands.toList → V t = true
  where rhoB (T : Nat → AV) : Operand → Option Bool
  | .tmp t => match T t with | .bool b => some b | _ => none
  | .const (.bool b) => some b
  | _ => none

theorem ofConst_bool {k : Value} {b : Bool} (h : ofConst k = .bool b) : k = .bool b := by
  unfold ofConst at h
  split at h <;> first | (cases h; rfl) | cases h

theorem opsOK_of {H : Nat → Option AObj} {D : Nat → Prop} {w : World} {I : Nat → Prop} {O : OM} {T : Nat → AV} {V : Nat → Bool} {a : Act} (hR : Rel cfg cx H D w I O) (hT : TRel N ds T V a w I O D) {op : Op} (h : valOK T V op) : OpsOK w I O D a (rho cfg T) op := by
  have hb : ∀ (c : Operand) (b : Bool), rho cfg T c = .bool b → valOK.rhoB T c = some b := by
    intro c b e
    cases c with
    | tmp t => simp only [rho] at e; simp [valOK.rhoB, e]
    | const k => simp only [rho] at e; rw [ofConst_bool e]; rfl
    | global g => simp only [rho] at e; split at e <;> cases e
    | func f => cases e
  cases op with
  | pick c x y =>
    obtain ⟨h1, h2, h3⟩ := h
    exact ⟨rep_operand hR hT c h1, fun b e e' => rep_operand hR hT x (h2 (by rw [hb c b e, e'])), fun b e e' => rep_operand hR hT y (h3 (by rw [hb c b e, e']))⟩
  | _ => exact fun x hx => rep_operand hR hT x (fun t e => h t (e ▸ hx))

/-- One operation that is carried out. -/
theorem step_exec (hc : CfgOK P cfg) {H : Nat → Option AObj} {D : Nat → Prop} {w : World} {I : Nat → Prop} {O : OM} {T : Nat → AV} {V : Nat → Bool} {a : Act} {nid : Nat} {o : Oper} {v : AV} {ups : Ups} {rds : List Nat}
    (hR : Rel cfg cx H D w I O) (hT : TRel N ds T V a w I O D) (hn : ¬ D nid) (hval : valOK T V o.op) (hd : ∀ k, o.dst = some k → k < N) (hev : EvR (Spec P cfg) H (opPg cfg nid o.op (rho cfg T)) v ups rds)
    {next : Act → World → Prop} {Q : Exit → Act → World → Prop} (hnx : ∀ a' w' I' O', Rel cfg cx (updF H ups) (insD D nid) w' I' O' → TRel N ds (updO T o.dst v) (updO V o.dst true) a' w' I' O' (insD D nid) → next a' w') : o.wp P a w next Q := by
  refine op_sound hc hR hn (fun _ => rfl) (opsOK_of hR hT hval) hev next Q fun x w' I' O' hR' hk hv => hnx _ w' I' O' hR' (hT.put hk o.dst hd v x true (fun _ => hv) (fun h => by cases h))

theorem nthOp_eq (l : List Oper) (j : Nat) : nthOp l j = l[j]? := by
  induction l generalizing j with
  | nil => rfl
  | cons o l ih => cases j with
    | zero => rfl
    | succ j => simpa [nthOp] using ih j

/-- The model's guard is ours. -/
theorem wanted_eq {D : Nat → Prop} {w : World} {I : Nat → Prop} {O : OM} {T : Nat → AV} {V : Nat → Bool} {a : Act} {ops : Array Oper} (hT : TRel N ds T V a w I O D) (o : Oper) (hg : guardSeen ops.toList T o) : Region.wanted o (yielded ops a.tmps) = guardOn ops.toList T V o := by
  unfold Region.wanted guardOn
  unfold guardSeen at hg
  cases hgu : o.guard with
  | none => rfl
  | some g =>
    obtain ⟨j, b⟩ := g
    rw [hgu] at hg
    simp only at hg
    obtain ⟨d, c, h1, h2⟩ := hg
    simp only [h1, h2, isB]
    have hd : ((ops[j]?).bind (·.dst)) = some d := by
      unfold dstOf at h1
      rw [nthOp_eq] at h1
      have e : ops.toList[j]? = ops[j]? := by simp
      rw [e] at h1
      cases ho : ops[j]? with
      | none => rw [ho] at h1; cases h1
      | some o' => rw [ho] at h1; simpa using h1
    have hy : yielded ops a.tmps j = if V d then some c else none := by
      unfold yielded
      rw [hd]
      simp only [Option.bind_some]
      cases hv : V d with
      | true =>
        have := hT.rep d hv
        rw [h2] at this
        have hx := this.bool_inv
        rcases Nat.lt_or_ge d a.tmps.size with hlt | hge
        · simp [hlt] at hx; simp [hlt, hx]
        · simp [Array.getElem?_eq_none hge, Go.undef] at hx
      | false =>
        have := hT.gone d hv
        rcases Nat.lt_or_ge d a.tmps.size with hlt | hge
        · simp [hlt] at this; simp [hlt, this, Go.undef]
        · simp [Array.getElem?_eq_none hge]
    rw [hy]
    cases V d <;> simp

/-! ### Which temporaries may be read -/
theorem writersFrom_spec (t : Nat) : ∀ (l : List Oper) (i k : Nat), k ∈ writersFrom t l i ↔ ∃ o, i ≤ k ∧ l[k - i]? = some o ∧ o.dst = some t := by
  intro l
  induction l with
  | nil => intro i k; simp [writersFrom]
  | cons o l ih =>
    intro i k
    have hd : dstIs o.dst t = true ↔ o.dst = some t := by
      unfold dstIs
      cases o.dst with
      | none => simp
      | some x => simp
    unfold writersFrom
    cases hb : dstIs o.dst t with
    | true =>
      simp only [List.mem_cons, ih]
      constructor
      · rintro (h | ⟨o', h1, h2, h3⟩)
        · subst h; exact ⟨o, Nat.le_refl _, by simp, hd.1 hb⟩
        · refine ⟨o', by omega, ?_, h3⟩
          have : k - i = (k - (i + 1)) + 1 := by omega
          rw [this]; simpa using h2
      · rintro ⟨o', h1, h2, h3⟩
        by_cases hk : k = i
        · exact .inl hk
        · refine .inr ⟨o', by omega, ?_, h3⟩
          have : k - i = (k - (i + 1)) + 1 := by omega
          rw [this] at h2; simpa using h2
    | false =>
      simp only [ih]
      constructor
      · rintro ⟨o', h1, h2, h3⟩
        refine ⟨o', by omega, ?_, h3⟩
        have : k - i = (k - (i + 1)) + 1 := by omega
        rw [this]; simpa using h2
      · rintro ⟨o', h1, h2, h3⟩
        by_cases hk : k = i
        · subst hk
          simp at h2
          subst h2
          rw [hd.2 h3] at hb
          cases hb
        · refine ⟨o', by omega, ?_, h3⟩
          have : k - i = (k - (i + 1)) + 1 := by omega
          rw [this] at h2; simpa using h2

theorem writers_spec (all : List Oper) (t k : Nat) : k ∈ writers all t ↔ ∃ o, all[k]? = some o ∧ o.dst = some t := by
  unfold writers
  rw [writersFrom_spec]
  simp

/-- What is known of the operations before number 'k': who was carried out, and what the temporaries with one writer hold. -/
structure Known (all : List Oper) (k : Nat) (T : Nat → AV) (V : Nat → Bool) (ex : Nat → Bool) (val : Nat → AV) : Prop where
  one : ∀ i t, i < k → writers all t = [i] → V t = ex i ∧ T t = val i
  free : ∀ t, (∀ i, i < k → i ∈ writers all t → glOf all i = none) → V t = true
  guard : ∀ i j b, i < k → glOf all i = some (j, b) → j < i ∧ ex i = (ex j && isB b (val j))

theorem Known.chain {all : List Oper} {k : Nat} {T : Nat → AV} {V : Nat → Bool} {ex : Nat → Bool} {val : Nat → AV} (hK : Known all k T V ex val) : ∀ (f : Nat) (g : Option (Nat × Bool)), (∀ j b, g = some (j, b) → j < k ∧ ex j = true ∧ isB b (val j) = true) →
    ∀ j b, memG j b (Ab.chain all f g) = true → j < k ∧ ex j = true ∧ isB b (val j) = true := by
  intro f
  induction f with
  | zero => intro g _ j b h; cases h
  | succ f ih =>
    intro g hg j b h
    cases g with
    | none => cases h
    | some g =>
      obtain ⟨j', b'⟩ := g
      obtain ⟨h1, h2, h3⟩ := hg j' b' rfl
      simp only [Ab.chain, memG] at h
      split at h
      · rename_i e1 e2
        have e1 := Nat.eq_of_beq_eq_true e1
        subst e1
        have : b = b' := by cases b <;> cases b' <;> simp [eqB] at e2 <;> rfl
        subst this
        exact ⟨h1, h2, h3⟩
      · refine ih _ (fun j2 b2 e => ?_) j b h
        obtain ⟨q1, q2⟩ := hK.guard j' j2 b2 h1 e
        rw [h2] at q2
        simp at q2
        exact ⟨by omega, q2.1, q2.2⟩

theorem allFree_spec {all : List Oper} {l : List Nat} (h : allFree all l = true) : ∀ i ∈ l, glOf all i = none := by
  induction l with
  | nil => intro i hi; cases hi
  | cons x l ih =>
    intro i hi
    unfold allFree at h
    cases hg : glOf all x with
    | some g => simp [hg] at h
    | none =>
      simp only [hg] at h
      rcases List.mem_cons.1 hi with e | e
      · subst e; exact hg
      · exact ih h i e

theorem okRead_sound {all : List Oper} {k : Nat} {T : Nat → AV} {V : Nat → Bool} {ex : Nat → Bool} {val : Nat → AV} (hK : Known all k T V ex val) {g : Option (Nat × Bool)} (hg : ∀ j b, g = some (j, b) → j < k ∧ ex j = true ∧ isB b (val j) = true) {t : Nat} (h : okRead all k g t = true) : V t = true := by
  unfold okRead at h
  split at h
  · rename_i i hw
    cases hgi : glOf all i with
    | none => exact hK.free t fun i' _ hi' => by rw [hw] at hi'; simp at hi'; subst hi'; exact hgi
    | some q =>
      obtain ⟨j, b⟩ := q
      simp only [hgi] at h
      cases hlt : Nat.blt i k with
      | false => simp [hlt] at h
      | true =>
        simp only [hlt] at h
        have hik : i < k := by simpa using hlt
        obtain ⟨h1, h2, h3⟩ := hK.chain 20 g hg j b h
        rw [(hK.one i t hik hw).1, (hK.guard i j b hik hgi).2, h2, h3]
        rfl
  · exact hK.free t fun i _ hi => allFree_spec h i hi

end
end Go.Ab

namespace Go.Ab
section
variable {P : Program} {cfg : Cfg} {cx : Ctx} {N : Nat}

theorem okOps_spec {N : Nat} {all : List Oper} : ∀ (l : List Oper) (i : Nat), okOpsFrom N all l i = true → ∀ k o, l[k]? = some o → okOp all (i + k) o = true ∧ ∀ d, o.dst = some d → d < N := by
  intro l
  induction l with
  | nil => intro i _ k o h; simp at h
  | cons x l ih =>
    intro i h k o hk
    unfold okOpsFrom at h
    split at h
    · rename_i h1 h2
      cases k with
      | zero =>
        simp at hk
        subst hk
        refine ⟨h1, fun d hd => ?_⟩
        rw [hd] at h2
        simpa using h2
      | succ k =>
        have := ih (i + 1) h k o (by simpa using hk)
        rwa [Nat.add_assoc, Nat.add_comm 1 k] at this
    · cases h

/-- An operation's own guard, when it is carried out. -/
theorem guard_holds {all : List Oper} {k : Nat} {T : Nat → AV} {V : Nat → Bool} {ex : Nat → Bool} {val : Nat → AV} (hK : Known all k T V ex val) {o : Oper} (hok : okOp all k o = true) :
    (guardOn all T V o = true → ∀ j b, o.guard = some (j, b) → j < k ∧ ex j = true ∧ isB b (val j) = true) ∧ (∀ j b, o.guard = some (j, b) → j < k ∧ guardOn all T V o = (ex j && isB b (val j))) := by
  have key : ∀ j b, o.guard = some (j, b) → j < k ∧ guardOn all T V o = (ex j && isB b (val j)) := by
    intro j b hg
    unfold okOp at hok
    rw [hg] at hok
    simp only at hok
    split at hok
    · rename_i h1
      split at h1
      · rename_i hlt
        split at h1
        · rename_i d hd
          split at h1
          · rename_i j' hw
            have hjk : j < k := by simpa using hlt
            have e := Nat.eq_of_beq_eq_true h1
            subst e
            refine ⟨hjk, ?_⟩
            obtain ⟨q1, q2⟩ := hK.one j' d hjk hw
            unfold guardOn
            rw [hg]
            simp only [hd]
            rw [q1, q2]
          · cases h1
        · cases h1
      · cases h1
    · cases hok
  refine ⟨fun h j b hg => ?_, key⟩
  obtain ⟨h1, h2⟩ := key j b hg
  rw [h] at h2
  have := h2.symm
  simp at this
  exact ⟨h1, this.1, this.2⟩

theorem okOp_sound {all : List Oper} {k : Nat} {T : Nat → AV} {V : Nat → Bool} {ex : Nat → Bool} {val : Nat → AV} (hK : Known all k T V ex val) {o : Oper} (hok : okOp all k o = true) (hg : guardOn all T V o = true) : valOK T V o.op := by
  have hgs := (guard_holds hK hok).1 hg
  have hopd : ∀ x, okOperand all k o.guard x = true → ∀ t, x = .tmp t → V t = true := by
    intro x h t e
    subst e
    exact okRead_sound hK hgs h
  unfold okOp at hok
  split at hok
  · split at hok
    · rename_i c x y hop
      rw [hop]
      split at hok
      · rename_i hc hx
        have hcv := hopd c hc
        have arm : ∀ (pol : Bool) (z : Operand), okArm all k o.guard c pol z = true → valOK.rhoB T c = some pol → ∀ t, z = .tmp t → V t = true := by
          intro pol z hz hb t e
          subst e
          unfold okArm at hz
          simp only at hz
          split at hz
          · rename_i hr
            exact okRead_sound hK hgs hr
          · split at hz
            · rename_i ct i hwt
              split at hz
              · rename_i j b jc hgi hwc hlt
                split at hz
                · rename_i e1 e2
                  have e1 := Nat.eq_of_beq_eq_true e1
                  subst e1
                  have hik : i < k := by simpa using hlt
                  have hjk : j < k := by simpa using e2
                  obtain ⟨q1, q2⟩ := hK.one i t hik hwt
                  obtain ⟨q3, q4⟩ := hK.one j ct hjk hwc
                  have q5 := (hK.guard i j b hik hgi).2
                  have hbp : b = pol := by cases b <;> cases pol <;> simp [eqB] at hz <;> rfl
                  subst hbp
                  have hT : T ct = .bool b := by
                    simp only [valOK.rhoB] at hb
                    split at hb
                    · rename_i b' hb'; cases hb; exact hb'
                    · cases hb
                  rw [q1, q5, ← q3, hcv ct rfl, ← q4, hT]
                  simp [isB]
                · cases hz
              · cases hz
            · cases hz
        exact ⟨hcv, arm true x hx, arm false y hok⟩
      · cases hok
    · rename_i hnp
      have hall : ∀ (l : List Operand), okOperands all k o.guard l = true → ∀ x ∈ l, okOperand all k o.guard x = true := by
        intro l
        induction l with
        | nil => intro _ x hx; cases hx
        | cons y l ih =>
          intro h x hx
          unfold okOperands at h
          split at h
          · rename_i hy
            rcases List.mem_cons.1 hx with e | e
            · subst e; exact hy
            · exact ih h x e
          · cases h
      have main : ∀ t, Operand.tmp t ∈ o.op.operands.toList → V t = true := fun t ht => hopd _ (hall _ hok _ ht) t rfl
      unfold valOK
      split
      · rename_i c x y hop
        exact absurd hop (hnp c x y)
      · exact main
  · cases hok

theorem Known.step {all : List Oper} {k : Nat} {T : Nat → AV} {V : Nat → Bool} {ex : Nat → Bool} {val : Nat → AV} (hK : Known all k T V ex val) {o : Oper} (hk : all[k]? = some o) (hok : okOp all k o = true) (e : TE) (he : e.ex = guardOn all T V o) :
    Known all (k + 1) (updO T o.dst e.v) (updO V o.dst e.ex) (fun i => if i = k then e.ex else ex i) (fun i => if i = k then e.v else val i) := by
  have hgl : glOf all k = o.guard := by unfold glOf; rw [nthOp_eq, hk]
  have upd : ∀ {α : Type} (F : Nat → α) (x : α) (t : Nat), updO F o.dst x t = if o.dst = some t then x else F t := by
    intro α F x t
    unfold updO
    cases hd : o.dst with
    | none => simp
    | some d =>
      by_cases h : t = d
      · subst h; simp
      · have : ¬ d = t := fun e => h e.symm
        simp [h, this]
  refine ⟨fun i t hi hw => ?_, fun t ht => ?_, fun i j b hi hg => ?_⟩
  · rw [upd, upd]
    by_cases hik : i = k
    · subst hik
      have : i ∈ writers all t := by rw [hw]; simp
      obtain ⟨o', h1, h2⟩ := (writers_spec all t i).1 this
      rw [hk] at h1
      cases h1
      simp [h2]
    · have hne : ¬ o.dst = some t := fun h => by
        have : k ∈ writers all t := (writers_spec all t k).2 ⟨o, hk, h⟩
        rw [hw] at this
        simp at this
        omega
      simp only [if_neg hne, if_neg hik]
      exact hK.one i t (by omega) hw
  · rw [upd]
    by_cases hd : o.dst = some t
    · rw [if_pos hd, he]
      have := ht k (by omega) ((writers_spec all t k).2 ⟨o, hk, hd⟩)
      rw [hgl] at this
      unfold guardOn
      rw [this]
    · rw [if_neg hd]
      exact hK.free t fun i hi hw => ht i (by omega) hw
  · by_cases hik : i = k
    · subst hik
      rw [hgl] at hg
      obtain ⟨h1, h2⟩ := (guard_holds hK hok).2 j b hg
      refine ⟨h1, ?_⟩
      rw [if_pos rfl, if_neg (by omega), if_neg (by omega), he, h2]
    · obtain ⟨h1, h2⟩ := hK.guard i j b (by omega) hg
      refine ⟨h1, ?_⟩
      rw [if_neg hik, if_neg (by omega), if_neg (by omega), h2]

/-! ### The states of a course, by numbers -/
section sel
variable {α : Type} (wr : Nat → Nat → Bool) (g : Nat → Nat → α)

/-- What stands at 't' when the operations of 'p' below 'm' have been carried out, in the order of their numbers. -/
def sel (p : Nat → Bool) : Nat → (Nat → α) → Nat → α
  | 0, F, t => F t
  | m + 1, F, t => if p m && wr m t then g m t else sel p m F t

theorem sel_succ (p : Nat → Bool) (m : Nat) (F : Nat → α) (t : Nat) : sel wr g p (m + 1) F t = if p m && wr m t then g m t else sel wr g p m F t := rfl

theorem sel_congr (p q : Nat → Bool) (F : Nat → α) (t : Nat) : ∀ m, (∀ k, k < m → wr k t = true → p k = q k) → sel wr g p m F t = sel wr g q m F t := by
  intro m
  induction m with
  | zero => intro _; rfl
  | succ m ih =>
    intro h
    unfold sel
    rw [ih fun k hk => h k (by omega)]
    cases hw : wr m t with
    | false => simp
    | true => rw [h m (by omega) hw]

theorem sel_below (F : Nat → α) (t k : Nat) : ∀ m, k ≤ m → sel wr g (fun j => decide (j < k)) m F t = sel wr g (fun _ => true) k F t := by
  intro m
  induction m with
  | zero => intro h; have : k = 0 := by omega
            subst this; rfl
  | succ m ih =>
    intro h
    by_cases hk : k = m + 1
    · subst hk
      exact sel_congr wr g _ _ F t _ fun j hj _ => by simp [hj]
    · rw [sel_succ, ih (by omega)]
      simp [show ¬ m < k by omega]

theorem sel_add (p : Nat → Bool) (F : Nat → α) (t i : Nat) (hi : wr i t = true → ∀ k, i < k → p k = true → wr k t = false) : ∀ m, i < m → sel wr g (fun j => p j || decide (j = i)) m F t = if wr i t then g i t else sel wr g p m F t := by
  intro m
  induction m with
  | zero => intro h; omega
  | succ m ih =>
    intro h
    by_cases him : i = m
    · subst him
      unfold sel
      have e : sel wr g (fun j => p j || decide (j = i)) i F t = sel wr g p i F t := sel_congr wr g _ _ F t _ fun j hj _ => by simp [show ¬ j = i by omega]
      rw [e]
      cases hw : wr i t with
      | true => simp
      | false => simp
    · have := ih (by omega)
      unfold sel
      rw [this]
      cases hw : wr i t with
      | true =>
        have hne : ¬ m = i := fun e => him e.symm
        simp only [hne, decide_false, Bool.or_false, if_true]
        cases hp : p m with
        | false => simp
        | true => simp [hi hw m (by omega) hp]
      | false =>
        have hne : ¬ m = i := fun e => him e.symm
        simp [hne]
end sel

end
end Go.Ab
