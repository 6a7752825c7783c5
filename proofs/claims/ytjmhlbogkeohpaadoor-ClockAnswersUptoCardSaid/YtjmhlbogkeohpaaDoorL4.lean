/- The layer: an abstract machine over the model's code and the proof that it is sound. -/
import Derived.Test.YtjmhlbogkeohpaaDoorL3
namespace Go.Ab
section
variable {P : Program} {cfg : Cfg} {cx : Ctx} {N : Nat}

def resF (tmps : Array Value) : ResultVar → Sem Value
  | .tmp t => pure (tmps.getD t undef)
  | .cell a t => do loadVar t (← asAddr (tmps.getD a undef))

theorem resAV_sound (hc : CfgOK P cfg) {m : Nat} {s : St} {a : Act} {w : World} {I : Nat → Prop} {O : OM} (hS : StRel cfg N m cx s a w I O) : ∀ (rs : List ResultVar) (vs : List AV), resAV cfg s rs = some vs →
    ∃ xs : List Value, (rs.mapM (resF a.tmps)).run P w = .ok xs w ∧ xs.length = vs.length ∧ ∀ j, j < vs.length → Rep w I O (fun o => o < s.nx) (nth vs j) (xs.getD j Go.undef) := by
  intro rs
  induction rs with
  | nil => intro vs h; cases h; exact ⟨[], by simp, rfl, fun j hj => by cases hj⟩
  | cons q rs ih =>
    intro vs h
    cases q with
    | tmp t =>
      simp only [resAV] at h
      split at h
      · rename_i vs' hvs
        cases h
        obtain ⟨xs, h1, h2, h3⟩ := ih vs' hvs
        refine ⟨a.tmps.getD t Go.undef :: xs, ?_, by simp [h2], fun j hj => ?_⟩
        · rw [List.mapM_cons]
          simp [resF, h1]
        · cases j with
          | zero => exact hS.tmps.rep t rfl
          | succ j => exact h3 j (by simpa using hj)
      · cases h
    | cell ad ty =>
      simp only [resAV] at h
      split at h
      · rename_i vs' o ti hvs had hty
        split at h
        · rename_i cs hob
          obtain ⟨p, hp, hO⟩ := hS.rel.live hob
          have hrep := hS.tmps.rep ad rfl
          rw [had] at hrep
          obtain ⟨b, bo, sz, hpl, hi, hxv⟩ := hrep.ptr_inv hp
          obtain ⟨hn, b', bo', sz', hpl', hal, hle, hcs⟩ := hO
          rw [hpl] at hpl'
          cases hpl'
          simp only [Nat.zero_mul, Nat.add_zero] at hxv
          obtain ⟨xs, h1, h2, h3⟩ := ih vs' hvs
          have key : ∀ v, EvR (fun _ _ _ _ _ => True) (hget s.heap) (loadPg ti cs) v [] [] → ∃ xs : List Value, ((ResultVar.cell ad ty :: rs).mapM (resF a.tmps)).run P w = .ok xs w ∧ xs.length = (v :: vs').length ∧ ∀ j, j < (v :: vs').length → Rep w I O (fun o => o < s.nx) (nth (v :: vs') j) (xs.getD j Go.undef) := by
            intro v hv
            obtain ⟨_, x, hrun, hx⟩ := run_load_cells (w := w) (I := I) (O := O) (D := fun o => o < s.nx) hc hty hv b bo (fun j => cellAt w b (bo + j)) (fun j hj => cellAt_eq hal (by omega)) (fun j hj => hcs j hj)
            have hrun' : (loadVar ty ⟨b, bo, none⟩).run P w = .ok x w := by
              have := hrun
              simp [Instr.loadAt, Instr.sureAddr] at this
              exact this
            have hgd : a.tmps.getD ad Go.undef = .pointer (some ⟨b, bo, none⟩) := hxv
            refine ⟨x :: xs, ?_, by simp [h2], fun j hj => ?_⟩
            · rw [List.mapM_cons, Sem.run_bind]
              have e : (resF a.tmps (.cell ad ty)).run P w = .ok x w := by
                unfold resF
                simp only
                rw [hgd]
                simp [asAddr, hrun']
              rw [e]
              simp [h1]
            · cases j with
              | zero => exact hx
              | succ j => exact h3 j (by simpa using hj)
          split at h
          · rename_i hag
            split at h
            · rename_i hsz
              cases h
              refine key _ ?_
              unfold loadPg
              rw [hag]
              simp only [chkK, hsz]
              exact .ret _ _
            · cases h
          · rename_i hag
            split at h
            · cases h
              refine key _ ?_
              unfold loadPg
              rw [hag]
              exact .ret _ _
            · cases h
        · cases h
      · cases h

theorem results_run (hc : CfgOK P cfg) {m : Nat} {s : St} {a : Act} {w : World} {I : Nat → Prop} {O : OM} (hS : StRel cfg N m cx s a w I O) {fn : Func} {vs : List AV} (h : resAV cfg s fn.results.toList = some vs) :
    ∃ x, (results fn a.tmps).run P w = .ok x w ∧ Rep w I O (fun o => o < s.nx) (oneOf vs) x := by
  obtain ⟨xs, h1, h2, h3⟩ := resAV_sound hc hS _ _ h
  have hrun : (results fn a.tmps).run P w = .ok (if h : xs.toArray.size = 1 then xs.toArray[0] else .tuple xs.toArray) w := by
    have e0 : results fn a.tmps = (fn.results.mapM (resF a.tmps)) >>= fun vs => pure (if h : vs.size = 1 then vs[0] else .tuple vs) := by
      unfold results
      congr 1
    have e2 : fn.results.mapM (resF a.tmps) = Functor.map List.toArray (fn.results.toList.mapM (resF a.tmps)) := by
      rw [← List.mapM_toArray]
    rw [e0, Sem.run_bind, e2, Sem.run_map, h1]
    rfl
  refine ⟨_, hrun, ?_⟩
  match xs, vs, h2, h3 with
  | [], [], _, _ => exact .tup rfl fun j hj => by cases hj
  | [x], [v], _, h3 => exact h3 0 (by simp)
  | x :: x' :: xs, v :: v' :: vs, h2, h3 =>
    have : ¬ (x :: x' :: xs).toArray.size = 1 := by simp
    rw [dif_neg this]
    exact .tup (by simpa using h2) fun j hj => by simpa using h3 j hj

theorem hget_obsUps : ∀ (obs : List AObj) (i o : Nat), hget (RetK.obsUps obs i) o = if i ≤ o then hof obs (o - i) else none := by
  intro obs
  induction obs with
  | nil => intro i o; simp [RetK.obsUps, hget, look, hof]
  | cons x l ih =>
    intro i o
    unfold RetK.obsUps hget
    simp only [look]
    cases hb : Nat.beq i o with
    | true =>
      have := Nat.eq_of_beq_eq_true hb
      subst this
      simp [hof]
    | false =>
      have hne : i ≠ o := fun e => by subst e; simp at hb
      have := ih (i + 1) o
      unfold hget at this
      simp only
      rw [this]
      by_cases hi : i ≤ o
      · rw [if_pos hi, if_pos (by omega), show o - i = (o - (i + 1)) + 1 by omega]
        rfl
      · rw [if_neg hi, if_neg (by omega)]

theorem hget_obsUps0 (obs : List AObj) : hget (RetK.obsUps obs 0) = hof obs := by
  funext o
  rw [hget_obsUps]
  simp

theorem tget_argsT : ∀ (l : List AV) (i t : Nat), tget (argsT l i) t = if i ≤ t then nth l (t - i) else .undef := by
  intro l
  induction l with
  | nil => intro i t; simp [argsT, tget, look, nth]
  | cons v l ih =>
    intro i t
    unfold argsT tget
    simp only [look]
    cases hb : Nat.beq i t with
    | true =>
      have := Nat.eq_of_beq_eq_true hb
      subst this
      simp [nth]
    | false =>
      have hne : i ≠ t := fun e => by subst e; simp at hb
      have := ih (i + 1) t
      unfold tget at this
      simp only
      rw [this]
      by_cases hi : i ≤ t
      · rw [if_pos hi, if_pos (by omega), show t - i = (t - (i + 1)) + 1 by omega]
        rfl
      · rw [if_neg hi, if_neg (by omega)]

theorem upTo_spec : ∀ (n i : Nat), (upTo n i).length = n ∧ ∀ j, j < n → nthN (upTo n i) j = i + j := by
  intro n
  induction n with
  | zero => intro i; exact ⟨rfl, fun j hj => by cases hj⟩
  | succ n ih =>
    intro i
    obtain ⟨h1, h2⟩ := ih (i + 1)
    refine ⟨by simp [upTo, h1], fun j hj => ?_⟩
    cases j with
    | zero => rfl
    | succ j => show nthN (upTo n (i + 1)) j = _; rw [h2 j (by omega)]; omega

theorem nthN_append_l (l m : List Nat) (j : Nat) (h : j < l.length) : nthN (l ++ m) j = nthN l j := by
  induction l generalizing j with
  | nil => cases h
  | cons x l ih => cases j with
    | zero => rfl
    | succ j => exact ih j (by simpa using h)

theorem embObs_spec {H : Ups} : ∀ (sg : List Nat) (obs : List AObj), embObs H sg obs → obs.length = sg.length ∧ ∀ j, j < sg.length → ∃ x y, hget H (nthN sg j) = some x ∧ hof obs j = some y ∧ pureObj x = true ∧ embO [] [] x y := by
  intro sg
  induction sg with
  | nil => intro obs h; cases obs with
    | nil => exact ⟨rfl, fun j hj => by cases hj⟩
    | cons => exact h.elim
  | cons o sg ih => intro obs h; cases obs with
    | nil => exact h.elim
    | cons y obs =>
      obtain ⟨h1, h2⟩ := h
      obtain ⟨h3, h4⟩ := ih obs h2
      refine ⟨by simp [h3], fun j hj => ?_⟩
      cases j with
      | zero =>
        split at h1
        · rename_i x hx
          split at h1
          · rename_i hp; exact ⟨x, y, hx, rfl, hp, h1⟩
          · exact h1.elim
        · exact h1.elim
      | succ j => exact h4 j (by simpa using hj)

theorem embX_nil : EmbX [] [] [] where
  ren := fun _ _ _ h => by cases h
  ghost := fun _ _ h => by cases h

/-- A pure object that is said in other words. -/
theorem ObjRep.reword {w : World} {I I' : Nat → Prop} {O O' : OM} {D D' : Nat → Prop} {p : Own} {x y : AObj} (hI : ∀ b, I b → I' b) (h : ObjRep w I O D p x) (hp : pureObj x = true) (he : embO [] [] x y) : ObjRep w I' O' D' p y := by
  cases x with
  | held => cases hp
  | box cs =>
    cases y with
    | row es n g => exact he.elim
    | held => exact he.elim
    | box cs' =>
      obtain ⟨h1, b, bo, sz, hpl, ha, hl, hr⟩ := h
      obtain ⟨h2, h3⟩ := embL_spec _ cs cs' he
      refine ⟨h1, b, bo, sz, hpl, ha, by omega, fun j hj => ?_⟩
      obtain ⟨f', _, h4⟩ := h3 j hj
      have hx := (hr j (by omega)).of_pureCell (pureCells_nth hp j (by omega))
      have hy : Rep w I (embOM [] [] fun _ => none) (fun _ => False) (nth cs' j) (cellAt w b (bo + j)) := emb_val (H := []) (O := fun _ => none) (D := fun _ => False) (fun o => by simp [hget, look]) embX_nil f' _ _ _ (.pure hx) h4
      have e : (embOM [] [] fun _ => none) = (fun _ => none : OM) := by funext o; simp [embOM, hget, look]
      rw [e] at hy
      exact .pure ((pure_of_rep hy).mono hI fun _ _ => rfl)
  | row es n g =>
    cases y with
    | box cs' => exact he.elim
    | held => exact he.elim
    | row es' n' g' =>
      have hO : ObjRep w I' O' D' p (.row es n g) := by
        obtain ⟨h1, h2, h3, h4⟩ := h
        refine ⟨h1, h2, h3, ?_⟩
        rcases h4 with h4 | ⟨b, bo, sz, hp, ha, hl, hr⟩
        · exact .inl h4
        · exact .inr ⟨b, bo, sz, hp, ha, hl, fun i j hi hj => ⟨(hr i j hi hj).1.mono hI fun _ _ => rfl, (hr i j hi hj).2⟩⟩
      exact LeO.rep (x := .row es n g) (y := .row es' n' g') he hO

/-- The memory as the caller finds it. -/
theorem Rel.home {H : Nat → Option AObj} {D : Nat → Prop} {w : World} {I : Nat → Prop} {O : OM} (hR : Rel cfg cx H D w I O) {ex ids : List Nat} {obs : List AObj} (hnd : nodupN (upTo cx.m 0 ++ ex) = true) (hdj : disjN ids (upTo cx.m 0 ++ ex) = true) (hl : obs.length = (upTo cx.m 0 ++ ex).length)
    (hobs : ∀ j, j < (upTo cx.m 0 ++ ex).length → ∃ x y, H (nthN (upTo cx.m 0 ++ ex) j) = some x ∧ hof obs j = some y ∧ pureObj x = true ∧ embO [] [] x y) :
    Rel cfg cx (hof obs) (fun o => o < obs.length) w (fun b => I b ∨ Blk O ids b) (subO O (upTo cx.m 0 ++ ex)) ∧ ∀ o, o < cx.m → subO O (upTo cx.m 0 ++ ex) o = cx.O0 o := by
  have hup := upTo_spec cx.m 0
  have hfst : ∀ j, j < cx.m → j < (upTo cx.m 0 ++ ex).length ∧ nthN (upTo cx.m 0 ++ ex) j = j := fun j hj => by
    refine ⟨by simp [hup.1]; omega, ?_⟩
    rw [nthN_append_l _ _ _ (by rw [hup.1]; exact hj), hup.2 j hj]
    simp
  generalize hsg : upTo cx.m 0 ++ ex = sg at hnd hdj hl hobs hfst
  have hsub : ∀ {j p}, subO O sg j = some p → j < sg.length ∧ O (nthN sg j) = some p := fun h => by
    unfold subO at h
    split at h
    · exact ⟨by assumption, h⟩
    · cases h
  have hO0 : ∀ o, o < cx.m → subO O sg o = cx.O0 o := fun o ho => by
    obtain ⟨h1, h2⟩ := hfst o ho
    obtain ⟨x, y, h3, _⟩ := hobs o h1
    rw [h2] at h3
    unfold subO
    rw [if_pos h1, h2]
    rcases hR.O0O o ho with e | e
    · exact e
    · rw [(hR.dom o).1 e] at h3; cases h3
  refine ⟨?_, hO0⟩
  exact {
    dom := fun j => by
      unfold subO
      by_cases hj : j < sg.length
      · obtain ⟨x, y, h1, h2, _⟩ := hobs j hj
        obtain ⟨p, hp, _⟩ := hR.live h1
        simp [hj, h2, hp]
      · rw [if_neg hj, hof_none obs j (by omega)]
        simp
    used := fun j p h => by have := (hsub h).1; omega
    objs := fun j ob p h h' => by
      obtain ⟨h1, h2⟩ := hsub h'
      obtain ⟨x, y, h3, h4, h5, h6⟩ := hobs j h1
      rw [h] at h4
      cases h4
      exact (hR.objs _ _ p h3 h2).reword (fun _ h => .inl h) h5 h6
    inj := fun j j' p p' b bo sz b' bo' sz' h1 h2 h3 h4 h5 => by
      obtain ⟨q1, q2⟩ := hsub h1
      obtain ⟨q3, q4⟩ := hsub h2
      exact hR.inj _ _ p p' b bo sz b' bo' sz' q2 q4 h3 h4 (fun e => h5 (nodupN_inj sg hnd j j' q1 q3 e))
    notI := fun j p b bo sz h1 h2 h3 => by
      obtain ⟨q1, q2⟩ := hsub h1
      rcases h3 with h3 | ⟨o', p', bo', sz', q3, q4, q5⟩
      · exact hR.notI _ p b bo sz q2 h2 h3
      · exact hR.inj _ o' p p' b bo sz b bo' sz' q2 q4 h2 q5 (fun e => disjN_spec ids sg hdj o' q3 (e ▸ nthN_mem sg j q1)) rfl
    lt := fun j p b bo sz h1 h2 => hR.lt _ p b bo sz (hsub h1).2 h2
    Ilt := (hR.freeze ids).Ilt
    size := hR.size
    frame := hR.frame
    env := hR.env
    new := fun j p b bo sz h1 h2 => hR.new _ p b bo sz (hsub h1).2 h2
    glob := (hR.freeze ids).glob
    I0I := fun b h => .inl (hR.I0I b h)
    II0 := (hR.freeze ids).II0
    O0O := fun o ho => .inl (hO0 o ho)
    Dm := fun o ho => by have := (hfst o ho).1; omega }

/-- A function's contract by the walk of its body. -/
theorem spec_of_good (hc : CfgOK P cfg) {f : FuncId} {fn : Func} {c : Code} {args : List AV} {obs : List AObj} {r : AV} {obs' : List AObj} (hf : P.funcs[f]? = some fn) (hb : fn.body = some c) (hnm : (fn.name == "runtime.NumGoroutine") = false)
    (hN : args.length ≤ fn.ntmps) (hle : obs.length ≤ obs'.length)
    (h : Good P cfg fn.ntmps none obs.length c ⟨argsT args 0, RetK.obsUps obs 0, obs.length⟩ (RetK cfg (Spec P cfg) fn.results.toList obs.length r obs')) : Spec P cfg f args obs r obs' := by
  refine ⟨⟨fn, hf, by rw [hb]; rfl, hnm⟩, hle, fun w I O vals hR hvs hrep => ?_⟩
  refine (callsIn_wide (n := 0)).1 (callsIn_of_wp_marks hf hb trivial ?_)
  have hS : StRel cfg fn.ntmps obs.length (cxOf w I O obs.length) ⟨argsT args 0, RetK.obsUps obs 0, obs.length⟩ { tmps := vals ++ Array.replicate (fn.ntmps - vals.size) undef, defers := [] } w I O := by
    refine ⟨rfl, ?_, ⟨rfl, by simp; omega, fun t _ => ?_, fun t h => by cases h⟩, ⟨[], List.nodup_nil, fun _ => rfl, rfl, fun _ h => by cases h⟩⟩
    · rw [hget_obsUps0]; exact hR
    · rw [tget_argsT]
      simp only [Nat.zero_le, if_true, Nat.sub_zero]
      by_cases ht : t < args.length
      · have e : (vals ++ Array.replicate (fn.ntmps - vals.size) undef).getD t Go.undef = vals.getD t Go.undef := by
          have : t < vals.size := by omega
          simp [Array.getElem?_append_left this]
        rw [e]
        exact hrep t ht
      · have e : nth args t = .undef := by
          rw [nth_eq]
          simp [List.getElem?_eq_none (Nat.le_of_not_lt ht)]
        rw [e]
        exact .pure (.undef _)
  refine wpIn_mono (h 0 _ _ w I O hS rfl) ?_
  intro e a0 w0 ⟨s, I0, O0, hK, hS0⟩
  have main : ∀ (a' : Act) (w' : World) (I' : Nat → Prop) (O' : OM), StRel cfg fn.ntmps obs.length (cxOf w I O obs.length) s a' w' I' O' → (∃ vs, resAV cfg s fn.results.toList = some vs ∧ ev (Spec P cfg) [] (hget s.heap) (viewArg (upTo obs.length 0 ++ expo obs.length r (oneOf vs)) (oneOf vs) fun v' ids => chkK (nodupN (upTo obs.length 0 ++ expo obs.length r (oneOf vs))) (chkK (disjN ids (upTo obs.length 0 ++ expo obs.length r (oneOf vs))) (ret1 v'))) []
      fun v' _ _ => embV [] (RetK.obsUps obs' 0) fuel v' r ∧ embObs s.heap (upTo obs.length 0 ++ expo obs.length r (oneOf vs)) obs') → ∃ v, (results fn a'.tmps).run P w' = .ok v w' ∧ ∃ x I'' O'', Ending.returned v = .returned x ∧ Rel cfg (cxOf w I O obs.length) (hof obs') (fun o => o < obs'.length) w' I'' O'' ∧
      Rep w' I'' O'' (fun o => o < obs'.length) r x ∧ ∀ o, o < obs.length → O'' o = O o := by
    rintro a' w' I' O' hS' ⟨vs, hvs, hev⟩
    obtain ⟨x, hrun, hx⟩ := results_run hc hS' hvs
    refine ⟨x, hrun, x, ?_⟩
    obtain ⟨v', ups, rds, ⟨h1, h2⟩, _, h3⟩ := ev_elim _ _ _ _ _ hev
    obtain ⟨rr, h4, _⟩ := h3 (fun q hq => by cases hq)
    obtain ⟨h5, h6⟩ := embObs_spec _ _ h2
    obtain ⟨u', ids, r', h7, h8⟩ := viewArg_sound hS'.rel (fun j hj => let ⟨x, y, h9, _⟩ := h6 j hj; ⟨x, h9⟩) h4
    obtain ⟨hnd, h7⟩ := h7.chk_inv
    obtain ⟨hdj, h7⟩ := h7.chk_inv
    obtain ⟨rfl, _⟩ := h7.ret1_inv
    obtain ⟨h10, h11⟩ := Rel.home hS'.rel hnd hdj h5 h6
    refine ⟨_, _, rfl, h10, ?_, h11⟩
    have hdom := h10.dom
    rw [← hget_obsUps0 obs'] at hdom
    have hX : EmbX [] (RetK.obsUps obs' 0) (RetK.obsUps obs' 0) := ⟨fun o' y o hy ho => by cases ho; exact ⟨y, hy⟩, fun o' y hy ho => by cases ho⟩
    have := emb_val (D' := fun o => o < obs'.length) hdom hX fuel _ _ x (h8 x hx) h1
    have e : embOM [] (RetK.obsUps obs' 0) (subO O' (upTo obs.length 0 ++ expo obs.length r (oneOf vs))) = subO O' (upTo obs.length 0 ++ expo obs.length r (oneOf vs)) := by
      funext o
      unfold embOM
      split
      · rename_i hn; exact ((hdom o).2 hn).symm
      · rfl
    exact e ▸ this
  have hret : ∀ (a' : Act) (w' : World) (I' : Nat → Prop) (O' : OM), StRel cfg fn.ntmps obs.length (cxOf w I O obs.length) s a' w' I' O' → ∀ vs, resAV cfg s fn.results.toList = vs → (match vs with
      | some vs => match oneOf vs with
        | v => match upTo obs.length 0 ++ expo obs.length r v with
          | sg => ev (Spec P cfg) [] (hget s.heap) (viewArg sg v fun v' ids => chkK (nodupN sg) (chkK (disjN ids sg) (ret1 v'))) [] fun v' _ _ => embV [] (RetK.obsUps obs' 0) fuel v' r ∧ embObs s.heap sg obs'
      | none => False) → ∃ v, (results fn a'.tmps).run P w' = .ok v w' ∧ ∃ x I'' O'', Ending.returned v = .returned x ∧ Rel cfg (cxOf w I O obs.length) (hof obs') (fun o => o < obs'.length) w' I'' O'' ∧
      Rep w' I'' O'' (fun o => o < obs'.length) r x ∧ ∀ o, o < obs.length → O'' o = O o := by
    intro a' w' I' O' hS' vs hvs h
    cases vs with
    | none => exact h.elim
    | some vs => exact main a' w' I' O' hS' ⟨vs, hvs, h⟩
  obtain ⟨ms, hnd, _, hds, hms⟩ := hS0.marks
  have hS1 := StRel.turn (a := a0) (w := w0) (a' := ⟨a0.tmps, []⟩) ⟨fun _ _ h => h, fun _ _ => rfl, Nat.le_refl _⟩ (fun _ _ => rfl) hS0.rel.env rfl ⟨[], List.nodup_nil, fun _ => rfl, rfl, fun _ h => by cases h⟩ hS0
  cases e with
  | normal =>
    show LeavesInM _ _ _ _ _ _ a0.defers _ _
    rw [hds]
    exact leaves_marks (cx := cxOf w I O obs.length) (fun _ _ h => h) (fun a w' I' O' hS' => hret a w' I' O' hS' _ rfl hK) ms a0.tmps w0 I0 O0 hnd hms hS1
  | ret =>
    show LeavesInM _ _ _ _ _ _ a0.defers _ _
    rw [hds]
    exact leaves_marks (cx := cxOf w I O obs.length) (fun _ _ h => h) (fun a w' I' O' hS' => hret a w' I' O' hS' _ rfl hK) ms a0.tmps w0 I0 O0 hnd hms hS1
  | exit id => exact hK.elim
  | goto l => exact hK.elim
  | panic ch => exact hK.elim
  | outgrown => exact hK.elim

theorem spec_of_x (hc : CfgOK P cfg) {f : FuncId} {fn : Func} {c : Code} {ct : List Nat} {args : List AV} {obs : List AObj} {r : AV} {obs' : List AObj} (hf : P.funcs[f]? = some fn) (hb : fn.body = some c) (hnm : (fn.name == "runtime.NumGoroutine") = false)
    (hN : args.length ≤ fn.ntmps) (hok : codeOK fn.ntmps c = true) (hle : obs.length ≤ obs'.length)
    (h : xcode cfg (Spec P cfg) ct (Loops P cfg fn.ntmps none obs.length) c ⟨argsT args 0, RetK.obsUps obs 0, obs.length⟩ (RetK cfg (Spec P cfg) fn.results.toList obs.length r obs')) : Spec P cfg f args obs r obs' :=
  spec_of_good hc hf hb hnm hN hle (good_of_x hc c _ _ hok h)

end
end Go.Ab

namespace Go.Ab
section
variable {P : Program} {cfg : Cfg} {N : Nat} {cx : Ctx}

/-- An own row has become immutable. -/
def frzV (o es : Nat) (g : Nat → AV) (v : AV) : AV := match v with
  | .osl o' i n f => match Nat.beq o' o with
    | true => .sl es n f (shiftG i g)
    | false => .osl o' i n f
  | v => v

def frzT (o es : Nat) (g : Nat → AV) : List (Nat × AV) → List (Nat × AV)
  | [] => []
  | (t, v) :: l => (t, frzV o es g v) :: frzT o es g l

def frzSt (o : Nat) (s : St) : St := match hget s.heap o with
  | some (.row es _ g) => ⟨frzT o es g s.tmps, (o, none) :: s.heap, s.nx⟩
  | _ => s

theorem tget_frzT (o es : Nat) (g : Nat → AV) : ∀ (l : List (Nat × AV)) (t : Nat), tget (frzT o es g l) t = frzV o es g (tget l t) := by
  intro l
  induction l with
  | nil => intro t; rfl
  | cons p l ih =>
    intro t
    obtain ⟨k, v⟩ := p
    unfold frzT tget
    simp only [look]
    cases hb : Nat.beq k t with
    | true => rfl
    | false => exact ih t

theorem frz_val {H : Nat → Option AObj} {D : Nat → Prop} {w : World} {I : Nat → Prop} {O : OM} (hR : Rel cfg cx H D w I O) {o es n0 : Nat} {g : Nat → AV} (ho : H o = some (.row es n0 g)) {v : AV} {x : Value} (h : Rep w I O D v x) :
    Rep w (fun b => I b ∨ Blk O [o] b) (kill O [o]) D (frzV o es g v) x := by
  have dflt : Rep w (fun b => I b ∨ Blk O [o] b) (kill O [o]) D v x :=
    h.mono (fun _ h => .inl h) (fun _ _ => rfl) (fun o' _ => by unfold kill; by_cases h0 : o' ∈ [o] <;> simp [h0]) (fun _ h => h) hR.used
  unfold frzV
  split
  · rename_i o' i n f
    split
    · rename_i hb
      have := Nat.eq_of_beq_eq_true hb
      subst this
      have he : EvR (fun _ _ _ _ _ => True) H (pur 1 (.osl o' i n f) (fun u ids => .ret u (dead ids))) (.sl es n f (shiftG i g)) (dead [o']) [o'] := .rd ho (.ret _ _)
      obtain ⟨u, ids, r', h1, h2⟩ := (pur_sound hR 1).1 _ _ _ _ _ he
      have hid : u = .sl es n f (shiftG i g) ∧ dead ids = dead [o'] := by
        have := h1.ret_inv
        exact ⟨this.1.symm, this.2.symm⟩
      have hids : ids = [o'] := by
        have h3 := hid.2
        match ids, h3 with
        | [], h3 => cases h3
        | [a], h3 => simp [dead] at h3; rw [h3]
        | a :: b :: l, h3 => simp [dead] at h3
      rw [hids] at h2
      rw [← hid.1]
      exact .pure (h2 x h)
    · exact dflt
  · exact dflt

theorem frz_sound {m : Nat} {s : St} {a : Act} {w : World} {I : Nat → Prop} {O : OM} (hS : StRel cfg N m cx s a w I O) (o : Nat) : ∃ I' O', StRel cfg N m cx (frzSt o s) a w I' O' := by
  unfold frzSt
  split
  · rename_i es n0 g ho
    obtain ⟨hm, hR, hT, hMk⟩ := hS
    refine ⟨fun b => I b ∨ Blk O [o] b, kill O [o], hm, ?_, ⟨rfl, hT.size, fun t ht => ?_, hT.gone⟩, hMk⟩
    · have hF := hR.freeze [o]
      have e : hget ((o, none) :: s.heap) = updF (hget s.heap) (dead [o]) := by
        funext o'
        rw [updF_dead]
        unfold hget
        simp only [look]
        cases hb : Nat.beq o o' with
        | true => have := Nat.eq_of_beq_eq_true hb; subst this; simp
        | false =>
          have : o' ≠ o := fun e => by subst e; simp at hb
          simp [this]
      show Rel cfg cx (hget ((o, none) :: s.heap)) _ w _ _
      rw [e]
      exact hF
    · show Rep w _ _ _ (tget (frzT o es g s.tmps) t) _
      rw [tget_frzT]
      exact frz_val hR ho (hT.rep t ht)
  · exact ⟨I, O, hS⟩

/-- A cut at which own rows become immutable. -/
theorem cut_freeze (hc : CfgOK P cfg) {r : Option Nat} {m : Nat} {ct ct' : List Nat} {x y : Code} {s : St} {K : Exit → St → Prop} (hokx : codeOK N x = true) (hoky : codeOK N y = true) {α : Type} (st : α → St) (inv : α → Prop)
    (h1 : xcode cfg (Spec P cfg) ct (Loops P cfg N r m) x s (fun e s' => match e with | .normal => ∃ x' ρ o, inv x' ∧ Emb m ρ (frzSt o s') (st x') | e => K e s'))
    (h2 : ∀ x', inv x' → xcode cfg (Spec P cfg) ct' (Loops P cfg N r m) y (st x') K) : Loops P cfg N r m (.seq x y) s K := by
  refine ⟨good_seq ((good_of_x hc x s _ hokx h1).mono ?_)⟩
  intro e s' h
  cases e with
  | normal =>
    obtain ⟨x', ρ, o, h3, h4⟩ := h
    have hg := (good_of_x hc y (st x') K hoky (h2 x' h3)).weaken h4
    exact fun n0 cx a w I O hS hrd => by
      obtain ⟨I', O', hS'⟩ := frz_sound hS o
      exact hg n0 cx a w I' O' hS' hrd
  | _ => exact h

end
end Go.Ab

/-
  Rows that are held aside: a slice in a box becomes a value that is known by its place; its row is found again when something is appended to it.
-/

namespace Go.Ab
section
variable {P : Program} {cfg : Cfg} {N : Nat} {cx : Ctx}

theorem hget_cons (k : Nat) (x : Option AObj) (l : Ups) (o : Nat) : hget ((k, x) :: l) o = if o = k then x else hget l o := by
  unfold hget
  simp only [look]
  cases hb : Nat.beq k o with
  | true => have := Nat.eq_of_beq_eq_true hb; subst this; cases x <;> simp
  | false =>
    have : o ≠ k := fun e => by subst e; simp at hb
    simp [this]

def heldS (oc j o q : Nat) (ad : Option Addr) (cap : Nat) (s : St) : St := match hget s.heap oc, hget s.heap o with
  | some (.box cs), some (.row es n g) => ⟨s.tmps, (o, some (.held ad cap es n g)) :: (oc, some (.box (putL j [.raw q ad n cap] cs))) :: s.heap, s.nx⟩
  | _, _ => s

def heldOK (oc j o : Nat) (s : St) : Prop := match hget s.heap oc, hget s.heap o with
  | some (.box cs), some (.row _ n _) => j < cs.length ∧ ∃ f, nth cs j = .osl o 0 n f
  | _, _ => False

theorem heldS_sound {m : Nat} {s : St} {a : Act} {w : World} {I : Nat → Prop} {O : OM} (hS : StRel cfg N m cx s a w I O) {oc j o : Nat} (q : Nat) (h : heldOK oc j o s) : ∃ ad cap, StRel cfg N m cx (heldS oc j o q ad cap s) a w I O := by
  unfold heldOK at h
  split at h
  · rename_i cs es n g hoc ho
    obtain ⟨hj, f, hv⟩ := h
    obtain ⟨hm, hR, hT, hMk⟩ := hS
    obtain ⟨pc, hpc, hn1, b, bo, sz, hpl, hal, hle, hcs⟩ := hR.live hoc
    obtain ⟨p, hp, hO⟩ := hR.live ho
    have hx := hcs j hj
    rw [hv] at hx
    obtain ⟨ad, cap, hx1, hkn, hcap, hfl, hlk⟩ := hx.osl_inv hp
    have hne : o ≠ oc := fun e => by rw [e, hoc] at ho; cases ho
    refine ⟨ad, cap, ?_⟩
    unfold heldS
    rw [hoc, ho]
    refine ⟨hm, ?_, ⟨hT.defers, hT.size, hT.rep, hT.gone⟩, hMk⟩
    refine { hR with
      dom := fun o' => ?_
      objs := fun o' ob p' hob hp' => ?_ }
    · rw [hR.dom o', hget_cons, hget_cons]
      by_cases h1 : o' = o
      · subst h1; simp [ho]
      · rw [if_neg h1]
        by_cases h2 : o' = oc
        · subst h2; simp [hoc]
        · rw [if_neg h2]
    · rw [hget_cons, hget_cons] at hob
      by_cases h1 : o' = o
      · subst h1
        rw [if_pos rfl] at hob
        cases hob
        rw [hp] at hp'
        cases hp'
        refine ⟨hO, hcap, fun h0 => ?_⟩
        obtain ⟨b2, bo2, sz2, e1, e2, e3⟩ := hlk h0
        rw [hO.2.1] at e2 e3
        exact ⟨b2, bo2, sz2, e1, by rw [e2, Nat.zero_mul, Nat.add_zero], by rw [Nat.zero_add] at e3; exact e3⟩
      · rw [if_neg h1] at hob
        by_cases h2 : o' = oc
        · subst h2
          rw [if_pos rfl] at hob
          cases hob
          rw [hpc] at hp'
          cases hp'
          refine ⟨hn1, b, bo, sz, hpl, hal, by rw [putL_length]; exact hle, fun i hi => ?_⟩
          rw [putL_length] at hi
          rw [nth_putL _ _ _ (by simp; omega)]
          by_cases hij : j ≤ i ∧ i < j + 1
          · have : i = j := by omega
            subst this
            rw [if_pos (by simp), Nat.sub_self, hx1]
            exact .pure (.raw _ _ _ _)
          · rw [if_neg (by simpa using hij)]
            exact hcs i hi
        · rw [if_neg h2] at hob
          exact hR.objs o' ob p' hob hp'
  · exact h.elim

def heldAll (oc : Nat) : List (Nat × Nat × Nat) → St → (St → Prop) → Prop
  | [], s, Q => Q s
  | (j, o, q) :: l, s, Q => heldOK oc j o s ∧ ∀ ad cap, heldAll oc l (heldS oc j o q ad cap s) Q

theorem heldAll_sound {m : Nat} {a : Act} {w : World} {I : Nat → Prop} {O : OM} {oc : Nat} {Q : St → Prop} : ∀ (l : List (Nat × Nat × Nat)) (s : St), StRel cfg N m cx s a w I O → heldAll oc l s Q → ∃ s', Q s' ∧ StRel cfg N m cx s' a w I O := by
  intro l
  induction l with
  | nil => intro s hS h; exact ⟨s, h, hS⟩
  | cons x l ih =>
    intro s hS h
    obtain ⟨j, o, q⟩ := x
    obtain ⟨h1, h2⟩ := h
    obtain ⟨ad, cap, h3⟩ := heldS_sound hS q h1
    exact ih _ h3 (h2 ad cap)

/-- A cut at which rows are held aside. -/
theorem cut_held (hc : CfgOK P cfg) {r : Option Nat} {m : Nat} {ct ct' : List Nat} {x y : Code} {s : St} {K : Exit → St → Prop} (hokx : codeOK N x = true) (hoky : codeOK N y = true) {α : Type} (st : α → St) (inv : α → Prop)
    (h1 : xcode cfg (Spec P cfg) ct (Loops P cfg N r m) x s (fun e s' => match e with | .normal => ∃ oc l, heldAll oc l s' (fun s'' => ∃ x' ρ, inv x' ∧ Emb m ρ s'' (st x')) | e => K e s'))
    (h2 : ∀ x', inv x' → xcode cfg (Spec P cfg) ct' (Loops P cfg N r m) y (st x') K) : Loops P cfg N r m (.seq x y) s K := by
  refine ⟨good_seq ((good_of_x hc x s _ hokx h1).mono ?_)⟩
  intro e s' h
  cases e with
  | normal =>
    obtain ⟨oc, l, h⟩ := h
    intro n0 cx a w I O hS hrd
    obtain ⟨s2, ⟨x', ρ, h3, h4⟩, hS2⟩ := heldAll_sound l s' hS h
    exact (good_of_x hc y (st x') K hoky (h2 x' h3)).weaken h4 n0 cx a w I O hS2 hrd
  | _ => exact h

def outS (o r : Nat) (G' : Nat → AV) (s : St) : St := match hget s.heap o, hget s.heap r with
  | some (.held ..), some (.row es' N' _) => ⟨s.tmps, (o, none) :: (r, some (.row es' N' G')) :: s.heap, s.nx⟩
  | _, _ => s

def outOK (o r : Nat) (G' : Nat → AV) (s : St) : Prop := match hget s.heap o, hget s.heap r with
  | some (.held ad cap es n g), some (.row es' N' G) => ∀ i, i < N' → (G' i).cells.length = es' ∧ ∀ j, j < es' → nth (G' i).cells j = nth (G i).cells j ∨ (∃ q, nth (G i).cells j = .raw q ad n cap) ∧ nth (G' i).cells j = .sl es n false g
  | _, _ => False

theorem outS_sound {m : Nat} {s : St} {a : Act} {w : World} {I : Nat → Prop} {O : OM} (hS : StRel cfg N m cx s a w I O) {o r : Nat} {G' : Nat → AV} (h : outOK o r G' s) : ∃ I' O', StRel cfg N m cx (outS o r G' s) a w I' O' := by
  unfold outOK at h
  split at h
  · rename_i ad cap es n g es' N' G ho hr
    obtain ⟨hm, hR, hT, hMk⟩ := hS
    obtain ⟨p, hp, hO, hcap, hlk⟩ := hR.live ho
    obtain ⟨pr, hpr, hOr⟩ := hR.live hr
    have hne : r ≠ o := fun e => by rw [e, ho] at hr; cases hr
    have hF := hR.freeze [o]
    have hI : ∀ b, I b → I b ∨ Blk O [o] b := fun _ h => .inl h
    have hk : ∀ o', kill O [o] o' = if o' = o then none else O o' := fun o' => by unfold kill; by_cases h0 : o' = o <;> simp [h0]
    have hu : PRep w (fun b => I b ∨ Blk O [o] b) (.sl es n false g) (.slice ad n cap) := by
      by_cases hn : n = 0
      · subst hn
        exact .sl 0 0 (fun _ _ => Go.undef) hcap (fun h => by cases h) (fun e => absurd rfl e) (fun i hi => absurd hi (by omega)) (fun i j hi => absurd hi (by omega)) (fun i j hi => absurd hi (by omega)) (fun i j hi => absurd hi (by omega))
      · obtain ⟨b, bo, sz, e1, e2, e3⟩ := hlk (by omega)
        obtain ⟨hpn, hpes, hlen, h6⟩ := hO
        rcases h6 with ⟨_, h6⟩ | ⟨b', bo', sz', h6, hal, hle, hcs⟩
        · rw [e1] at h6; cases h6
        · rw [e1] at h6
          cases h6
          refine .sl b bo (fun k j => cellAt w b (bo + (k * es + j))) hcap (fun h => by cases h) (fun _ => ⟨e2, .inr ⟨o, p, bo, sz, by simp, hp, e1⟩⟩) hlen (fun k j hk hj => ?_) (fun k j hk hj => (hcs k j hk hj).2) (fun k j hk hj => (hcs k j hk hj).1.mono hI fun _ _ => rfl)
          refine cellAt_eq hal ?_
          have : (k + 1) * es ≤ n * es := Nat.mul_le_mul_right _ hk
          rw [Nat.succ_mul] at this
          omega
    unfold outS
    rw [ho, hr]
    refine ⟨fun b => I b ∨ Blk O [o] b, kill O [o], hm, ?_, ⟨hT.defers, hT.size, fun t ht => ?_, hT.gone⟩, hMk⟩
    · refine { hF with
        dom := fun o' => ?_
        objs := fun o' ob p' hob hp' => ?_ }
      · rw [hF.dom o', updF_dead, hget_cons, hget_cons]
        by_cases h1 : o' = o
        · subst h1; simp
        · rw [if_neg (by simpa using h1), if_neg h1]
          by_cases h2 : o' = r
          · subst h2; simp [hr]
          · rw [if_neg h2]
      · rw [hget_cons, hget_cons] at hob
        by_cases h1 : o' = o
        · rw [if_pos h1] at hob; cases hob
        · rw [if_neg h1] at hob
          by_cases h2 : o' = r
          · subst h2
            rw [if_pos rfl] at hob
            cases hob
            rw [hk, if_neg h1] at hp'
            rw [hpr] at hp'
            cases hp'
            obtain ⟨q1, q2, q3, q4⟩ := hOr
            refine ⟨q1, q2, fun i hi => (h i hi).1, ?_⟩
            rcases q4 with q4 | ⟨b, bo, sz, q5, q6, q7, q8⟩
            · exact .inl q4
            · refine .inr ⟨b, bo, sz, q5, q6, q7, fun i j hi hj => ?_⟩
              obtain ⟨q9, q10⟩ := q8 i j hi hj
              rcases (h i hi).2 j hj with e | ⟨⟨q, e⟩, e'⟩
              · rw [e]; exact ⟨q9.mono hI fun _ _ => rfl, q10⟩
              · rw [e] at q9
                rw [e']
                refine ⟨?_, q10⟩
                generalize cellAt w b (bo + (i * es' + j)) = xx at q9
                cases q9
                exact hu
          · rw [if_neg h2] at hob
            exact hF.objs o' ob p' (by rw [updF_dead, if_neg (by simpa using h1)]; exact hob) hp'
    · exact (hT.rep t ht).mono hI (fun _ _ => rfl) (fun o' _ => by rw [hk]; by_cases h0 : o' = o <;> simp [h0]) (fun _ h => h) hR.used
  · exact h.elim

def outAll (r : Nat) : List (Nat × (Nat → AV)) → St → (St → Prop) → Prop
  | [], s, Q => Q s
  | (o, G') :: l, s, Q => outOK o r G' s ∧ outAll r l (outS o r G' s) Q

theorem outAll_sound {m : Nat} {a : Act} {w : World} {r : Nat} {Q : St → Prop} : ∀ (l : List (Nat × (Nat → AV))) (s : St) (I : Nat → Prop) (O : OM), StRel cfg N m cx s a w I O → outAll r l s Q → ∃ s' I' O', Q s' ∧ StRel cfg N m cx s' a w I' O' := by
  intro l
  induction l with
  | nil => intro s I O hS h; exact ⟨s, I, O, h, hS⟩
  | cons x l ih =>
    intro s I O hS h
    obtain ⟨o, G'⟩ := x
    obtain ⟨h1, h2⟩ := h
    obtain ⟨I', O', h3⟩ := outS_sound hS h1
    exact ih _ I' O' h3 h2

/-- A cut at which rows that were held aside become immutable. -/
theorem cut_out (hc : CfgOK P cfg) {rr : Option Nat} {m : Nat} {ct ct' : List Nat} {x y : Code} {s : St} {K : Exit → St → Prop} (hokx : codeOK N x = true) (hoky : codeOK N y = true) {α : Type} (st : α → St) (inv : α → Prop)
    (h1 : xcode cfg (Spec P cfg) ct (Loops P cfg N rr m) x s (fun e s' => match e with | .normal => ∃ r l, outAll r l s' (fun s'' => ∃ x' ρ, inv x' ∧ Emb m ρ s'' (st x')) | e => K e s'))
    (h2 : ∀ x', inv x' → xcode cfg (Spec P cfg) ct' (Loops P cfg N rr m) y (st x') K) : Loops P cfg N rr m (.seq x y) s K := by
  refine ⟨good_seq ((good_of_x hc x s _ hokx h1).mono ?_)⟩
  intro e s' h
  cases e with
  | normal =>
    obtain ⟨r, l, h⟩ := h
    intro n0 cx a w I O hS hrd
    obtain ⟨s2, I', O', ⟨x', ρ, h3, h4⟩, hS2⟩ := outAll_sound l s' I O hS h
    exact (good_of_x hc y (st x') K hoky (h2 x' h3)).weaken h4 n0 cx a w I' O' hS2 hrd
  | _ => exact h

end
end Go.Ab

namespace Go.Ab
section
variable {P : Program} {cfg : Cfg}

def zchk : ZK → Value → Bool
  | .bool, .bool false => true
  | .int k, .int k' n => decide (k = k') && decide (n = 0)
  | .str, .string s => s.data.isEmpty
  | .slice, .slice none 0 0 => true
  | .ptr, .pointer none => true
  | .other, x => x.oneCell'
  | _, _ => false

def zchks : List ZK → List Value → Bool
  | [], [] => true
  | z :: l, v :: m => zchk z v && zchks l m
  | _, _ => false

def dchk : TD → TypeDesc → Bool
  | .bool, .bool => true
  | .int k, .int k' => decide (k = k')
  | .str, .string => true
  | .slice e, .slice e' => Nat.beq e e'
  | .pointer e, .pointer e' => Nat.beq e e'
  | .struct fs, .struct fields => decide (fields.toList.map (fun f => (f.offset, f.type)) = fs)
  | .other, _ => true
  | _, _ => false

def fieldsB (P : Program) : TypeDesc → Bool
  | .struct fields => fields.toList.all fun f => (P.info? f.type).isSome
  | _ => true

def tyChk (P : Program) (t : TypeId) (ti : TyI) : Bool :=
  match P.info? t, P.underlying t with
  | some i, some d => match i.zero with
    | some z => Nat.beq i.size ti.size && Nat.beq i.bytes ti.bytes && decide (d.isRow = ti.agg) && Nat.beq z.cells.size ti.size && zchks ti.zero z.cells.toList && dchk ti.desc d && fieldsB P d
    | none => false
  | _, _ => false

def tysChk (P : Program) : List (Nat × TyI) → Bool
  | [] => true
  | (t, ti) :: l => tyChk P t ti && tysChk P l

theorem zchk_spec {z : ZK} {v : Value} (h : zchk z v = true) : zmatch z v := by
  unfold zchk at h
  split at h
  · rfl
  · simp only [Bool.and_eq_true, decide_eq_true_eq] at h; obtain ⟨rfl, rfl⟩ := h; rfl
  · rename_i s
    show Value.string s = .string ByteArray.empty
    have : s.data = #[] := by simpa using h
    cases s
    simp only at this
    rw [this]
    rfl
  · rfl
  · rfl
  · exact h
  · cases h

theorem zchks_spec : ∀ (zs : List ZK) (vs : List Value), zchks zs vs = true → zs.length = vs.length ∧ ∀ j, j < zs.length → zmatch (zs.getD j .other) (vs.getD j Go.undef) := by
  intro zs
  induction zs with
  | nil => intro vs h; cases vs with
    | nil => exact ⟨rfl, fun j hj => by cases hj⟩
    | cons => cases h
  | cons z zs ih => intro vs h; cases vs with
    | nil => cases h
    | cons v vs =>
      simp only [zchks, Bool.and_eq_true] at h
      obtain ⟨h1, h2⟩ := ih vs h.2
      refine ⟨by simp [h1], fun j hj => ?_⟩
      cases j with
      | zero => exact zchk_spec h.1
      | succ j => simpa using h2 j (by simpa using hj)

theorem dchk_spec {t : TD} {d : TypeDesc} (h : dchk t d = true) : dmatch t d := by
  unfold dchk at h
  split at h
  · rfl
  · have := of_decide_eq_true h; subst this; rfl
  · rfl
  · have := Nat.eq_of_beq_eq_true h; subst this; rfl
  · have := Nat.eq_of_beq_eq_true h; subst this; rfl
  · exact ⟨_, rfl, of_decide_eq_true h⟩
  · trivial
  · cases h

theorem tyChk_spec {t : TypeId} {ti : TyI} (h : tyChk P t ti = true) : TyOK P t ti ∧ ∀ d, P.underlying t = some d → fieldsThere P d := by
  unfold tyChk at h
  split at h
  · rename_i i d hi hd
    split at h
    · rename_i z hz
      simp only [Bool.and_eq_true, decide_eq_true_eq] at h
      obtain ⟨⟨⟨⟨⟨⟨h1, h2⟩, h3⟩, h4⟩, h5⟩, h6⟩, h7⟩ := h
      have e1 := Nat.eq_of_beq_eq_true h1
      have e2 := Nat.eq_of_beq_eq_true h2
      have e4 := Nat.eq_of_beq_eq_true h4
      obtain ⟨h8, h9⟩ := zchks_spec _ _ h5
      have hlen : ti.zero.length = ti.size := by rw [h8, ← e4]; simp
      refine ⟨⟨i, d, z, hi, hd, hz, e1, e2, h3, e4, hlen, fun j hj => ?_, dchk_spec h6⟩, fun d' hd' => ?_⟩
      · have := h9 j (by omega)
        simpa using this
      · rw [hd] at hd'
        cases hd'
        cases d with
        | struct fields =>
          simp only [fieldsB, List.all_eq_true] at h7
          exact h7
        | _ => trivial
    · cases h
  · cases h

theorem tysChk_spec : ∀ (l : List (Nat × TyI)), tysChk P l = true → ∀ t ti, look l t = some ti → tyChk P t ti = true := by
  intro l
  induction l with
  | nil => intro _ t ti h; cases h
  | cons q l ih =>
    intro h t ti hl
    obtain ⟨k, tk⟩ := q
    simp only [tysChk, Bool.and_eq_true] at h
    simp only [look] at hl
    cases hb : Nat.beq k t with
    | true =>
      simp only [hb] at hl
      cases hl
      rw [← Nat.eq_of_beq_eq_true hb]
      exact h.1
    | false => simp only [hb] at hl; exact ih h.2 t ti hl

def plainB : ZK → TypeDesc → Bool
  | .bool, .bool => true
  | .int k, .int k' => decide (k = k')
  | .str, .string => true
  | _, _ => false

def eqFs (P : Program) : List ZK → List Field → Nat → Bool
  | [], [], _ => true
  | z :: zs, f :: fs, i => decide (f.name ≠ "_") && Nat.beq f.offset i && (match P.underlying f.type with | some d => plainB z d | none => false) && eqFs P zs fs (i + 1)
  | _, _, _ => false

def eqChk (P : Program) (t : TypeId) (zs : List ZK) : Bool :=
  match P.underlying t with
  | some (.struct fields) => eqFs P zs fields.toList 0 && !P.stoodInHeld t && !P.eqGuardType P.depth t
  | _ => false

def eqsChk (P : Program) : List (Nat × List ZK) → Bool
  | [] => true
  | (t, zs) :: l => eqChk P t zs && eqsChk P l

theorem plainB_spec {z : ZK} {d : TypeDesc} (h : plainB z d = true) : plainK z d := by
  unfold plainB at h
  split at h
  · rfl
  · have := of_decide_eq_true h; subst this; rfl
  · rfl
  · cases h

theorem eqFs_spec : ∀ (zs : List ZK) (fs : List Field) (k : Nat), eqFs P zs fs k = true → fs.length = zs.length ∧ ∀ (i : Nat) (z : ZK), zs[i]? = some z → ∃ (f : Field) (d : TypeDesc), fs[i]? = some f ∧ f.name ≠ "_" ∧ f.offset = k + i ∧ P.underlying f.type = some d ∧ plainK z d := by
  intro zs
  induction zs with
  | nil => intro fs k h; cases fs with
    | nil => exact ⟨rfl, fun i z h => by simp at h⟩
    | cons => cases h
  | cons z zs ih => intro fs k h; cases fs with
    | nil => cases h
    | cons f fs =>
      simp only [eqFs, Bool.and_eq_true, decide_eq_true_eq] at h
      obtain ⟨⟨⟨h1, h2⟩, h3⟩, h4⟩ := h
      obtain ⟨h5, h6⟩ := ih fs (k + 1) h4
      refine ⟨by simp [h5], fun i z' hi => ?_⟩
      cases i with
      | zero =>
        simp at hi
        subst hi
        split at h3
        · rename_i d hd
          exact ⟨f, d, rfl, h1, by have := Nat.eq_of_beq_eq_true h2; omega, hd, plainB_spec h3⟩
        · cases h3
      | succ i =>
        obtain ⟨f', d, q1, q2, q3, q4, q5⟩ := h6 i z' (by simpa using hi)
        exact ⟨f', d, by simpa using q1, q2, by omega, q4, q5⟩

theorem eqChk_spec {t : TypeId} {zs : List ZK} (h : eqChk P t zs = true) : EqOK P t zs := by
  unfold eqChk at h
  split at h
  · rename_i fields hu
    simp only [Bool.and_eq_true, Bool.not_eq_true'] at h
    obtain ⟨⟨h1, h2⟩, h3⟩ := h
    obtain ⟨h4, h5⟩ := eqFs_spec _ _ _ h1
    refine ⟨⟨fields, hu, by simpa using h4, fun i z hi => ?_⟩, h2, h3⟩
    obtain ⟨f, d, q1, q2, q3, q4, q5⟩ := h5 i z hi
    exact ⟨f, d, by simpa using q1, q2, by omega, q4, q5⟩
  · cases h

theorem eqsChk_spec : ∀ (l : List (Nat × List ZK)), eqsChk P l = true → ∀ t zs, look l t = some zs → eqChk P t zs = true := by
  intro l
  induction l with
  | nil => intro _ t ti h; cases h
  | cons q l ih =>
    intro h t ti hl
    obtain ⟨k, tk⟩ := q
    simp only [eqsChk, Bool.and_eq_true] at h
    simp only [look] at hl
    cases hb : Nat.beq k t with
    | true =>
      simp only [hb] at hl
      cases hl
      rw [← Nat.eq_of_beq_eq_true hb]
      exact h.1
    | false => simp only [hb] at hl; exact ih h.2 t ti hl

theorem cfgOK_of (h : tysChk P cfg.ty = true) (hm : P.follows .mixedOrders = true) (he : eqsChk P cfg.eqs = true) : CfgOK P cfg where
  ty := fun t ti hl => (tyChk_spec (tysChk_spec _ h t ti hl)).1
  fields := fun t ti d hl => (tyChk_spec (tysChk_spec _ h t ti hl)).2 d
  mixed := hm
  eqs := fun t zs hl => eqChk_spec (eqsChk_spec _ he t zs hl)

theorem bcase_of {c : Bool} {A B : Prop} (h1 : c = true → A) (h2 : c = false → B) : bcase c A B := by
  cases c
  · exact h2 rfl
  · exact h1 rfl

end
end Go.Ab

namespace Go.Ab

theorem LeL.of_spec {l m : List AV} (h1 : l.length = m.length) (h2 : ∀ j, j < l.length → Le (nth l j) (nth m j)) : LeL l m := by
  induction l generalizing m with
  | nil => cases m with
    | nil => trivial
    | cons => simp at h1
  | cons u l ih => cases m with
    | nil => simp at h1
    | cons v m => exact ⟨h2 0 (by simp), ih (by simpa using h1) fun j hj => h2 (j + 1) (by simpa using hj)⟩

theorem embV_le {ρ : List (Nat × Option Nat)} {H' : Ups} {f : Nat} {u v : AV} (h : Le u v) (hp : pureCell v = true) : embV ρ H' (f + 1) u v := by
  cases h with
  | refl =>
    cases u <;> simp only [pureCell] at hp <;> first
      | (cases hp; done)
      | (unfold embV; exact trivial)
      | (unfold embV; exact rfl)
      | (unfold embV; exact ⟨rfl, rfl⟩)
      | (unfold embV; exact ⟨rfl, fun _ => rfl, fun h => h, fun i _ => .refl _⟩)
      | (unfold embV; exact LeL.refl _)
      | (unfold embV; exact ⟨rfl, rfl, rfl, rfl⟩)
  | sl hn he hf h => unfold embV; exact ⟨hn, he, hf, h⟩
  | ro hl h => unfold embV; exact LeL.of_spec hl h
  | agg => cases hp
  | tup => cases hp
  | fn => cases hp

theorem embL_le {ρ : List (Nat × Option Nat)} {H' : Ups} : ∀ (l m : List AV) (f : Nat), l.length + 1 < f → LeL l m → pureCells m = true → embV.embL ρ H' f l m := by
  intro l
  induction l with
  | nil =>
    intro m f hf h _
    cases m with
    | nil => cases f with
      | zero => omega
      | succ f => unfold embV.embL; trivial
    | cons => exact h.elim
  | cons u l ih =>
    intro m f hf h hp
    cases m with
    | nil => exact h.elim
    | cons v m =>
      cases f with
      | zero => omega
      | succ f =>
        cases f with
        | zero => simp at hf
        | succ f =>
          unfold pureCells at hp
          split at hp
          · rename_i hv
            unfold embV.embL
            exact ⟨embV_le h.1 hv, ih m (f + 1) (by simp at hf; omega) h.2 hp⟩
          · cases hp

/-- Pure values serve as weaker ones. -/
theorem embV_leV {ρ : List (Nat × Option Nat)} {H' : Ups} {u v : AV} (h : Le u v) (hp : pureV v = true) (hl : v.cells.length < 50) : embV ρ H' fuel u v := by
  cases v with
  | agg cs' =>
    have key : ∀ cs, LeL cs cs' → embV ρ H' fuel (.agg cs) (.agg cs') := by
      intro cs hcs
      show embV ρ H' (59 + 1) (.agg cs) (.agg cs')
      unfold embV
      have := (leL_spec _ _ hcs).1
      exact embL_le cs cs' 59 (by simp [AV.cells] at hl; omega) hcs hp
    cases h with
    | refl => exact key _ (LeL.refl _)
    | agg hl h => exact key _ (LeL.of_spec hl h)
  | _ => exact embV_le h hp

theorem embO_le {ρ : List (Nat × Option Nat)} {H' : Ups} {x y : AObj} (h : LeO x y) (hp : pureObj y = true) (hl : (match y with | .box cs => cs.length | _ => 0) < 50) : embO ρ H' x y := by
  cases x with
  | held => cases y with
    | box => exact h.elim
    | row => exact h.elim
    | held => cases hp
  | box cs => cases y with
    | row => exact h.elim
    | held => exact h.elim
    | box cs' =>
      have := (leL_spec _ _ h).1
      exact embL_le cs cs' fuel (by simp at hl; show cs.length + 1 < 60; omega) h hp
  | row es n g => cases y with
    | box => exact h.elim
    | held => exact h.elim
    | row es' n' g' => exact h

abbrev iV (n : Int) : AV := .int .i64 n
def rowG {α : Type} (f : α → AV) (d : α) (l : List α) : Nat → AV := fun i => f (l.getD i d)
def intsV (l : List Int) : AV := .sl 1 l.length false (rowG iV 0 l)

def I64 (l : List Int) : Prop := ∀ x ∈ l, InI64 x

theorem I64.get {l : List Int} (h : I64 l) (i : Nat) : InI64 (l.getD i 0) := by
  rw [List.getD_eq_getElem?_getD]
  cases hi : l[i]? with
  | none => exact ⟨by decide, by decide⟩
  | some x => exact h x (List.mem_of_getElem? hi)

structure Tp where
  l : List Int
  pos : Nat

def Tp.ok (t : Tp) : Prop := I64 t.l ∧ t.l.length ≤ 500 ∧ t.pos ≤ t.l.length

def Tp.raw (t : Tp) : Int × Tp := if t.l.length ≤ t.pos then (0, t) else (t.l.getD t.pos 0, ⟨t.l, t.pos + 1⟩)
def modF (x n : Int) : Int := if n < 1 then 0 else x % n
def Tp.n (t : Tp) (n : Int) : Int × Tp := (modF t.raw.1 n, t.raw.2)
def Tp.range (t : Tp) (lo hi : Int) : Int × Tp := (lo + (t.n (hi - lo + 1)).1, (t.n (hi - lo + 1)).2)
def Tp.pick (t : Tp) (l : List Int) : Int × Tp := (l.getD (t.n l.length).1.toNat 0, (t.n l.length).2)

def tapeO (t : Tp) : AObj := .box [intsV t.l, iV t.pos]

theorem tape_emb {ρ : List (Nat × Option Nat)} {H' : Ups} {t : Tp} {p : Int} (h : p = t.pos) : embO ρ H' (.box [.sl 1 t.l.length false (rowG iV 0 t.l), iV p]) (tapeO t) := by
  subst h
  exact embO_le ⟨.refl _, .refl _, trivial⟩ rfl (by simp [tapeO])

theorem Tp.raw_ok {t : Tp} (h : t.ok) : InI64 t.raw.1 ∧ t.raw.2.ok := by
  unfold Tp.raw
  split
  · exact ⟨⟨by simp, by simp⟩, h⟩
  · exact ⟨h.1.get _, h.1, h.2.1, by show t.pos + 1 ≤ t.l.length; omega⟩

theorem Tp.n_ok {t : Tp} (h : t.ok) (n : Int) : (t.n n).2.ok := (Tp.raw_ok h).2

theorem modF_lt (x n : Int) : 0 ≤ modF x n ∧ (0 < n → modF x n < n) ∧ (n ≤ 0 → modF x n = 0) := by
  unfold modF
  split
  · omega
  · have h1 := Int.emod_nonneg x (b := n) (by omega)
    have h2 := Int.emod_lt_of_pos x (b := n) (by omega)
    omega

theorem Tp.n_lt (t : Tp) (n : Int) : 0 ≤ (t.n n).1 ∧ (0 < n → (t.n n).1 < n) ∧ (n ≤ 0 → (t.n n).1 = 0) := modF_lt _ _

theorem drop_cons {α : Type} {l : List α} {i : Nat} (d : α) (h : i < l.length) : l.drop i = l.getD i d :: l.drop (i + 1) := by
  rw [List.getD_eq_getElem?_getD, List.getElem?_eq_getElem h]
  exact List.drop_eq_getElem_cons h

def idxP {α : Type} (p : α → Bool) : List α → Nat → Int
  | [], _ => -1
  | y :: l, i => bif p y then (i : Int) else idxP p l (i + 1)

theorem idxP_t {α : Type} {p : α → Bool} {y : α} {l : List α} {i : Nat} (h : p y = true) : idxP p (y :: l) i = i := by unfold idxP; rw [h]; rfl
theorem idxP_f {α : Type} {p : α → Bool} {y : α} {l : List α} {i : Nat} (h : p y = false) : idxP p (y :: l) i = idxP p l (i + 1) := by rw [idxP, h]; rfl

theorem idxP_any {α : Type} (p : α → Bool) (l : List α) (i : Nat) : decide (0 ≤ idxP p l i) = l.any p := by
  induction l generalizing i with
  | nil => rfl
  | cons y l ih =>
    unfold idxP
    rw [List.any_cons]
    cases p y with
    | true =>
      simp only [cond_true, Bool.true_or]
      exact decide_eq_true (by omega)
    | false => simpa using ih (i + 1)

theorem getD_take {α : Type} (l : List α) (d : α) {i k : Nat} (h : i < k) : (l.take k).getD i d = l.getD i d := by
  rw [List.getD_eq_getElem?_getD, List.getD_eq_getElem?_getD, List.getElem?_take_of_lt h]

theorem getD_drop {α : Type} (l : List α) (d : α) (k i : Nat) : (l.drop k).getD i d = l.getD (k + i) d := by
  rw [List.getD_eq_getElem?_getD, List.getD_eq_getElem?_getD, List.getElem?_drop]

theorem le_row {α : Type} {es n : Nat} {f : Bool} {fv : α → AV} {d : α} {l : List α} {g : Nat → AV} (hn : n = l.length) (h : ∀ i, i < n → g i = fv (l.getD i d)) : Le (.sl es n f g) (.sl es l.length false (rowG fv d l)) :=
  .sl hn (fun _ => rfl) nofun fun i hi => by rw [h i hi]; exact .refl _

theorem le_take {α : Type} {es n k : Nat} {f : Bool} {fv : α → AV} {d : α} {l : List α} (hk : k ≤ l.length) (hn : n = k) : Le (.sl es n f (rowG fv d l)) (.sl es (l.take k).length false (rowG fv d (l.take k))) :=
  le_row (by simp; omega) fun i hi => by rw [getD_take l d (by omega)]; rfl

theorem le_drop {α : Type} {es n k : Nat} {f : Bool} {fv : α → AV} {d : α} {l : List α} {k' : Nat} (hk : k' = k) (hn : n = l.length - k) : Le (.sl es n f (fun j => rowG fv d l (k' + j))) (.sl es (l.drop k).length false (rowG fv d (l.drop k))) :=
  le_row (by simp; omega) fun i hi => by rw [getD_drop l d, hk]; rfl

theorem le_nil {α : Type} {es es' : Nat} {f : Bool} {fv : α → AV} {d : α} {g : Nat → AV} : Le (.sl es 0 f g) (.sl es' ([] : List α).length false (rowG fv d [])) :=
  .sl rfl (fun h => absurd rfl h) nofun fun i hi => absurd hi (Nat.not_lt_zero i)

theorem take_snoc {α : Type} {l : List α} {i : Nat} (d : α) (h : i < l.length) : l.take (i + 1) = l.take i ++ [l.getD i d] := by
  rw [List.getD_eq_getElem?_getD, List.getElem?_eq_getElem h]
  exact List.take_succ_eq_append_getElem h

theorem foldl_take {α β : Type} (f : β → α → β) (a : β) {l : List α} {i : Nat} (d : α) (h : i < l.length) : (l.take (i + 1)).foldl f a = f ((l.take i).foldl f a) (l.getD i d) := by
  rw [take_snoc d h, List.foldl_append]
  rfl

theorem getD_mem {α : Type} {l : List α} {i : Nat} (d : α) (h : i < l.length) : l.getD i d ∈ l := by
  rw [List.getD_eq_getElem?_getD, List.getElem?_eq_getElem h]
  exact List.getElem_mem _

theorem take_len {α : Type} {l : List α} {i : Nat} (h : i ≤ l.length) : (l.take i).length = i := by
  rw [List.length_take, Nat.min_eq_left h]

theorem getD_app_l {α : Type} {l m : List α} {i : Nat} (d : α) (h : i < l.length) : (l ++ m).getD i d = l.getD i d := by
  rw [List.getD_eq_getElem?_getD, List.getD_eq_getElem?_getD, List.getElem?_append_left h]

theorem getD_app_r {α : Type} {l : List α} {x : α} {m : List α} {i : Nat} (d : α) (h : i = l.length) : (l ++ x :: m).getD i d = x := by
  rw [List.getD_eq_getElem?_getD, List.getElem?_append_right (by omega), h]
  simp

theorem getD_out {α : Type} {l : List α} {i : Nat} (d : α) (h : l.length ≤ i) : l.getD i d = d := by
  rw [List.getD_eq_getElem?_getD, List.getElem?_eq_none h]
  rfl

theorem le_app {α : Type} {f : α → AV} {d : α} {l : List α} {x : α} {n : Nat} {h : Nat → AV} (hn : n = l.length) (h0 : Le (h 0) (f x)) : ∀ i, i < n + 1 → Le (appG n (rowG f d l) h i) (rowG f d (l ++ [x]) i) := by
  intro i hi
  by_cases hin : i < n
  · have e1 : appG n (rowG f d l) h i = f (l.getD i d) := by
      have : Nat.blt i n = true := by simpa using hin
      simp [appG, this, rowG]
    have e2 : rowG f d (l ++ [x]) i = f (l.getD i d) := by
      unfold rowG
      rw [getD_app_l d (by omega)]
    rw [e1, e2]
    exact .refl _
  · have hi' : i = n := by omega
    subst hi'
    have e1 : appG i (rowG f d l) h i = h 0 := by
      have : Nat.blt i i = false := blt_false (by omega)
      simp [appG, this]
    have e2 : rowG f d (l ++ [x]) i = f x := by
      unfold rowG
      rw [getD_app_r d hn]
    rw [e1, e2]
    exact h0

theorem leL1 {u v : AV} (h : Le u v) : LeL [u] [v] := ⟨h, trivial⟩

end Go.Ab
