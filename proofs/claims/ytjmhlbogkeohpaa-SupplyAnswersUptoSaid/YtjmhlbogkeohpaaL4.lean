/- The layer: an abstract machine over the model's code and the proof that it is sound. -/
import Derived.Test.YtjmhlbogkeohpaaL3
import Derived.RangeFuncNested
import Derived.LoopNIn
namespace Go.Ab
section
variable {P : Program} {cfg : Cfg} {cx : Ctx} {N : Nat}

def resF (tmps : Array Value) : ResultVar → Sem Value
  | .tmp t => pure (tmps.getD t undef)
  | .cell a t => do loadVar t (← asAddr (tmps.getD a undef))

theorem resAV_sound (hc : CfgOK P cfg) {m : Nat} {s : St} {a : Act} {w : World} {I : Nat → Prop} {O : OM} (hS : StRel cfg N m cx s a w I O) : ∀ (rs : List ResultVar) (vs : List AV), resAV cfg s rs = some vs →
    ∃ xs : List Value, (rs.mapM (resF a.tmps)).run P w = .ok xs w ∧ xs.length = vs.length ∧ ∀ j, j < vs.length → Rep w I O (fun o => o < s.nx) (nth vs j) (xs.getD j Go.undef) := by
  intro rs
  induction rs with
  | nil => intro vs h; cases h; exact ⟨[], by simp, rfl, fun j hj => by cases hj⟩
  | cons q rs ih =>
    intro vs h
    cases q with
    | tmp t =>
      simp only [resAV] at h
      split at h
      · rename_i vs' hvs
        cases h
        obtain ⟨xs, h1, h2, h3⟩ := ih vs' hvs
        refine ⟨a.tmps.getD t Go.undef :: xs, ?_, by simp [h2], fun j hj => ?_⟩
        · rw [List.mapM_cons]
          simp [resF, h1]
        · cases j with
          | zero => exact hS.tmps.rep t rfl
          | succ j => exact h3 j (by simpa using hj)
      · cases h
    | cell ad ty =>
      simp only [resAV] at h
      split at h
      · rename_i vs' o ti hvs had hty
        split at h
        · rename_i cs hob
          obtain ⟨p, hp, hO⟩ := hS.rel.live hob
          have hrep := hS.tmps.rep ad rfl
          rw [had] at hrep
          obtain ⟨b, bo, sz, hpl, hi, hxv⟩ := hrep.ptr_inv hp
          obtain ⟨hn, b', bo', sz', hpl', hal, hle, hcs⟩ := hO
          rw [hpl] at hpl'
          cases hpl'
          simp only [Nat.zero_mul, Nat.add_zero] at hxv
          obtain ⟨xs, h1, h2, h3⟩ := ih vs' hvs
          have key : ∀ v, EvR (fun _ _ _ _ _ => True) (hget s.heap) (loadPg ti cs) v [] [] → ∃ xs : List Value, ((ResultVar.cell ad ty :: rs).mapM (resF a.tmps)).run P w = .ok xs w ∧ xs.length = (v :: vs').length ∧ ∀ j, j < (v :: vs').length → Rep w I O (fun o => o < s.nx) (nth (v :: vs') j) (xs.getD j Go.undef) := by
            intro v hv
            obtain ⟨_, x, hrun, hx⟩ := run_load_cells (w := w) (I := I) (O := O) (D := fun o => o < s.nx) hc hty hv b bo (fun j => cellAt w b (bo + j)) (fun j hj => cellAt_eq hal (by omega)) (fun j hj => hcs j hj)
            have hrun' : (loadVar ty ⟨b, bo, none⟩).run P w = .ok x w := by
              have := hrun
              simp [Instr.loadAt, Instr.sureAddr] at this
              exact this
            have hgd : a.tmps.getD ad Go.undef = .pointer (some ⟨b, bo, none⟩) := hxv
            refine ⟨x :: xs, ?_, by simp [h2], fun j hj => ?_⟩
            · rw [List.mapM_cons, Sem.run_bind]
              have e : (resF a.tmps (.cell ad ty)).run P w = .ok x w := by
                unfold resF
                simp only
                rw [hgd]
                simp [asAddr, hrun']
              rw [e]
              simp [h1]
            · cases j with
              | zero => exact hx
              | succ j => exact h3 j (by simpa using hj)
          split at h
          · rename_i hag
            split at h
            · rename_i hsz
              cases h
              refine key _ ?_
              unfold loadPg
              rw [hag]
              simp only [chkK, hsz]
              exact .ret _ _
            · cases h
          · rename_i hag
            split at h
            · cases h
              refine key _ ?_
              unfold loadPg
              rw [hag]
              exact .ret _ _
            · cases h
        · cases h
      · cases h

theorem results_run (hc : CfgOK P cfg) {m : Nat} {s : St} {a : Act} {w : World} {I : Nat → Prop} {O : OM} (hS : StRel cfg N m cx s a w I O) {fn : Func} {vs : List AV} (h : resAV cfg s fn.results.toList = some vs) :
    ∃ x, (results fn a.tmps).run P w = .ok x w ∧ Rep w I O (fun o => o < s.nx) (oneOf vs) x := by
  obtain ⟨xs, h1, h2, h3⟩ := resAV_sound hc hS _ _ h
  have hrun : (results fn a.tmps).run P w = .ok (if h : xs.toArray.size = 1 then xs.toArray[0] else .tuple xs.toArray) w := by
    have e0 : results fn a.tmps = (fn.results.mapM (resF a.tmps)) >>= fun vs => pure (if h : vs.size = 1 then vs[0] else .tuple vs) := by
      unfold results
      congr 1
    have e2 : fn.results.mapM (resF a.tmps) = Functor.map List.toArray (fn.results.toList.mapM (resF a.tmps)) := by
      rw [← List.mapM_toArray]
    rw [e0, Sem.run_bind, e2, Sem.run_map, h1]
    rfl
  refine ⟨_, hrun, ?_⟩
  match xs, vs, h2, h3 with
  | [], [], _, _ => exact .tup rfl fun j hj => by cases hj
  | [x], [v], _, h3 => exact h3 0 (by simp)
  | x :: x' :: xs, v :: v' :: vs, h2, h3 =>
    have : ¬ (x :: x' :: xs).toArray.size = 1 := by simp
    rw [dif_neg this]
    exact .tup (by simpa using h2) fun j hj => by simpa using h3 j hj

theorem hget_obsUps : ∀ (obs : List AObj) (i o : Nat), hget (RetK.obsUps obs i) o = if i ≤ o then hof obs (o - i) else none := by
  intro obs
  induction obs with
  | nil => intro i o; simp [RetK.obsUps, hget, look, hof]
  | cons x l ih =>
    intro i o
    unfold RetK.obsUps hget
    simp only [look]
    cases hb : Nat.beq i o with
    | true =>
      have := Nat.eq_of_beq_eq_true hb
      subst this
      simp [hof]
    | false =>
      have hne : i ≠ o := fun e => by subst e; simp at hb
      have := ih (i + 1) o
      unfold hget at this
      simp only
      rw [this]
      by_cases hi : i ≤ o
      · rw [if_pos hi, if_pos (by omega), show o - i = (o - (i + 1)) + 1 by omega]
        rfl
      · rw [if_neg hi, if_neg (by omega)]

theorem hget_obsUps0 (obs : List AObj) : hget (RetK.obsUps obs 0) = hof obs := by
  funext o
  rw [hget_obsUps]
  simp

theorem tget_argsT : ∀ (l : List AV) (i t : Nat), tget (argsT l i) t = if i ≤ t then nth l (t - i) else .undef := by
  intro l
  induction l with
  | nil => intro i t; simp [argsT, tget, look, nth]
  | cons v l ih =>
    intro i t
    unfold argsT tget
    simp only [look]
    cases hb : Nat.beq i t with
    | true =>
      have := Nat.eq_of_beq_eq_true hb
      subst this
      simp [nth]
    | false =>
      have hne : i ≠ t := fun e => by subst e; simp at hb
      have := ih (i + 1) t
      unfold tget at this
      simp only
      rw [this]
      by_cases hi : i ≤ t
      · rw [if_pos hi, if_pos (by omega), show t - i = (t - (i + 1)) + 1 by omega]
        rfl
      · rw [if_neg hi, if_neg (by omega)]

theorem upTo_spec : ∀ (n i : Nat), (upTo n i).length = n ∧ ∀ j, j < n → nthN (upTo n i) j = i + j := by
  intro n
  induction n with
  | zero => intro i; exact ⟨rfl, fun j hj => by cases hj⟩
  | succ n ih =>
    intro i
    obtain ⟨h1, h2⟩ := ih (i + 1)
    refine ⟨by simp [upTo, h1], fun j hj => ?_⟩
    cases j with
    | zero => rfl
    | succ j => show nthN (upTo n (i + 1)) j = _; rw [h2 j (by omega)]; omega

theorem nthN_append_l (l m : List Nat) (j : Nat) (h : j < l.length) : nthN (l ++ m) j = nthN l j := by
  induction l generalizing j with
  | nil => cases h
  | cons x l ih => cases j with
    | zero => rfl
    | succ j => exact ih j (by simpa using h)

theorem embObs_spec {H : Ups} : ∀ (sg : List Nat) (obs : List AObj), embObs H sg obs → obs.length = sg.length ∧ ∀ j, j < sg.length → ∃ x y, hget H (nthN sg j) = some x ∧ hof obs j = some y ∧ pureObj x = true ∧ embO [] [] x y := by
  intro sg
  induction sg with
  | nil => intro obs h; cases obs with
    | nil => exact ⟨rfl, fun j hj => by cases hj⟩
    | cons => exact h.elim
  | cons o sg ih => intro obs h; cases obs with
    | nil => exact h.elim
    | cons y obs =>
      obtain ⟨h1, h2⟩ := h
      obtain ⟨h3, h4⟩ := ih obs h2
      refine ⟨by simp [h3], fun j hj => ?_⟩
      cases j with
      | zero =>
        split at h1
        · rename_i x hx
          split at h1
          · rename_i hp; exact ⟨x, y, hx, rfl, hp, h1⟩
          · exact h1.elim
        · exact h1.elim
      | succ j => exact h4 j (by simpa using hj)

theorem embX_nil : EmbX [] [] [] where
  ren := fun _ _ _ h => by cases h
  ghost := fun _ _ h => by cases h

/-- A pure object that is said in other words. -/
theorem ObjRep.reword {w : World} {I I' : Nat → Prop} {O O' : OM} {D D' : Nat → Prop} {p : Own} {x y : AObj} (hI : ∀ b, I b → I' b) (h : ObjRep w I O D p x) (hp : pureObj x = true) (he : embO [] [] x y) : ObjRep w I' O' D' p y := by
  cases x with
  | held => cases hp
  | box cs =>
    cases y with
    | row es n g => exact he.elim
    | held => exact he.elim
    | box cs' =>
      obtain ⟨h1, b, bo, sz, hpl, ha, hl, hr⟩ := h
      obtain ⟨h2, h3⟩ := embL_spec _ cs cs' he
      refine ⟨h1, b, bo, sz, hpl, ha, by omega, fun j hj => ?_⟩
      obtain ⟨f', _, h4⟩ := h3 j hj
      have hx := (hr j (by omega)).of_pureCell (pureCells_nth hp j (by omega))
      have hy : Rep w I (embOM [] [] fun _ => none) (fun _ => False) (nth cs' j) (cellAt w b (bo + j)) := emb_val (H := []) (O := fun _ => none) (D := fun _ => False) (fun o => by simp [hget, look]) embX_nil f' _ _ _ (.pure hx) h4
      have e : (embOM [] [] fun _ => none) = (fun _ => none : OM) := by funext o; simp [embOM, hget, look]
      rw [e] at hy
      exact .pure ((pure_of_rep hy).mono hI fun _ _ => rfl)
  | row es n g =>
    cases y with
    | box cs' => exact he.elim
    | held => exact he.elim
    | row es' n' g' =>
      have hO : ObjRep w I' O' D' p (.row es n g) := by
        obtain ⟨h1, h2, h3, h4⟩ := h
        refine ⟨h1, h2, h3, ?_⟩
        rcases h4 with h4 | ⟨b, bo, sz, hp, ha, hl, hr⟩
        · exact .inl h4
        · exact .inr ⟨b, bo, sz, hp, ha, hl, fun i j hi hj => ⟨(hr i j hi hj).1.mono hI fun _ _ => rfl, (hr i j hi hj).2⟩⟩
      exact LeO.rep (x := .row es n g) (y := .row es' n' g') he hO

/-- The memory as the caller finds it. -/
theorem Rel.home {H : Nat → Option AObj} {D : Nat → Prop} {w : World} {I : Nat → Prop} {O : OM} (hR : Rel cfg cx H D w I O) {ex ids : List Nat} {obs : List AObj} (hnd : nodupN (upTo cx.m 0 ++ ex) = true) (hdj : disjN ids (upTo cx.m 0 ++ ex) = true) (hl : obs.length = (upTo cx.m 0 ++ ex).length)
    (hobs : ∀ j, j < (upTo cx.m 0 ++ ex).length → ∃ x y, H (nthN (upTo cx.m 0 ++ ex) j) = some x ∧ hof obs j = some y ∧ pureObj x = true ∧ embO [] [] x y) :
    Rel cfg cx (hof obs) (fun o => o < obs.length) w (fun b => I b ∨ Blk O ids b) (subO O (upTo cx.m 0 ++ ex)) ∧ ∀ o, o < cx.m → subO O (upTo cx.m 0 ++ ex) o = cx.O0 o := by
  have hup := upTo_spec cx.m 0
  have hfst : ∀ j, j < cx.m → j < (upTo cx.m 0 ++ ex).length ∧ nthN (upTo cx.m 0 ++ ex) j = j := fun j hj => by
    refine ⟨by simp [hup.1]; omega, ?_⟩
    rw [nthN_append_l _ _ _ (by rw [hup.1]; exact hj), hup.2 j hj]
    simp
  generalize hsg : upTo cx.m 0 ++ ex = sg at hnd hdj hl hobs hfst
  have hsub : ∀ {j p}, subO O sg j = some p → j < sg.length ∧ O (nthN sg j) = some p := fun h => by
    unfold subO at h
    split at h
    · exact ⟨by assumption, h⟩
    · cases h
  have hO0 : ∀ o, o < cx.m → subO O sg o = cx.O0 o := fun o ho => by
    obtain ⟨h1, h2⟩ := hfst o ho
    obtain ⟨x, y, h3, _⟩ := hobs o h1
    rw [h2] at h3
    unfold subO
    rw [if_pos h1, h2]
    rcases hR.O0O o ho with e | e
    · exact e
    · rw [(hR.dom o).1 e] at h3; cases h3
  refine ⟨?_, hO0⟩
  exact {
    dom := fun j => by
      unfold subO
      by_cases hj : j < sg.length
      · obtain ⟨x, y, h1, h2, _⟩ := hobs j hj
        obtain ⟨p, hp, _⟩ := hR.live h1
        simp [hj, h2, hp]
      · rw [if_neg hj, hof_none obs j (by omega)]
        simp
    used := fun j p h => by have := (hsub h).1; omega
    objs := fun j ob p h h' => by
      obtain ⟨h1, h2⟩ := hsub h'
      obtain ⟨x, y, h3, h4, h5, h6⟩ := hobs j h1
      rw [h] at h4
      cases h4
      exact (hR.objs _ _ p h3 h2).reword (fun _ h => .inl h) h5 h6
    inj := fun j j' p p' b bo sz b' bo' sz' h1 h2 h3 h4 h5 => by
      obtain ⟨q1, q2⟩ := hsub h1
      obtain ⟨q3, q4⟩ := hsub h2
      exact hR.inj _ _ p p' b bo sz b' bo' sz' q2 q4 h3 h4 (fun e => h5 (nodupN_inj sg hnd j j' q1 q3 e))
    notI := fun j p b bo sz h1 h2 h3 => by
      obtain ⟨q1, q2⟩ := hsub h1
      rcases h3 with h3 | ⟨o', p', bo', sz', q3, q4, q5⟩
      · exact hR.notI _ p b bo sz q2 h2 h3
      · exact hR.inj _ o' p p' b bo sz b bo' sz' q2 q4 h2 q5 (fun e => disjN_spec ids sg hdj o' q3 (e ▸ nthN_mem sg j q1)) rfl
    lt := fun j p b bo sz h1 h2 => hR.lt _ p b bo sz (hsub h1).2 h2
    Ilt := (hR.freeze ids).Ilt
    size := hR.size
    frame := hR.frame
    env := hR.env
    new := fun j p b bo sz h1 h2 => hR.new _ p b bo sz (hsub h1).2 h2
    glob := (hR.freeze ids).glob
    I0I := fun b h => .inl (hR.I0I b h)
    II0 := (hR.freeze ids).II0
    O0O := fun o ho => .inl (hO0 o ho)
    Dm := fun o ho => by have := (hfst o ho).1; omega }

/-- A function's contract by the walk of its body. -/
theorem spec_of_good (hc : CfgOK P cfg) {f : FuncId} {fn : Func} {c : Code} {args : List AV} {obs : List AObj} {r : AV} {obs' : List AObj} (hf : P.funcs[f]? = some fn) (hb : fn.body = some c) (hnm : (fn.name == "runtime.NumGoroutine") = false)
    (hN : args.length ≤ fn.ntmps) (hle : obs.length ≤ obs'.length)
    (h : Good P cfg fn.ntmps none obs.length c ⟨argsT args 0, RetK.obsUps obs 0, obs.length⟩ (RetK cfg (Spec P cfg) fn.results.toList obs.length r obs')) : Spec P cfg f args obs r obs' := by
  refine ⟨⟨fn, hf, by rw [hb]; rfl, hnm⟩, hle, fun w I O vals hR hvs hrep => ?_⟩
  refine (callsIn_wide (n := 0)).1 (callsIn_of_wp_marks hf hb trivial ?_)
  have hS : StRel cfg fn.ntmps obs.length (cxOf w I O obs.length) ⟨argsT args 0, RetK.obsUps obs 0, obs.length⟩ { tmps := vals ++ Array.replicate (fn.ntmps - vals.size) undef, defers := [] } w I O := by
    refine ⟨rfl, ?_, ⟨rfl, by simp; omega, fun t _ => ?_, fun t h => by cases h⟩, ⟨[], List.nodup_nil, fun _ => rfl, rfl, fun _ h => by cases h⟩⟩
    · rw [hget_obsUps0]; exact hR
    · rw [tget_argsT]
      simp only [Nat.zero_le, if_true, Nat.sub_zero]
      by_cases ht : t < args.length
      · have e : (vals ++ Array.replicate (fn.ntmps - vals.size) undef).getD t Go.undef = vals.getD t Go.undef := by
          have : t < vals.size := by omega
          simp [Array.getElem?_append_left this]
        rw [e]
        exact hrep t ht
      · have e : nth args t = .undef := by
          rw [nth_eq]
          simp [List.getElem?_eq_none (Nat.le_of_not_lt ht)]
        rw [e]
        exact .pure (.undef _)
  refine wpIn_mono (h 0 _ _ w I O hS rfl) ?_
  intro e a0 w0 ⟨s, I0, O0, hK, hS0⟩
  have main : ∀ (a' : Act) (w' : World) (I' : Nat → Prop) (O' : OM), StRel cfg fn.ntmps obs.length (cxOf w I O obs.length) s a' w' I' O' → (∃ vs, resAV cfg s fn.results.toList = some vs ∧ ev (Spec P cfg) [] (hget s.heap) (viewArg (upTo obs.length 0 ++ expo obs.length r (oneOf vs)) (oneOf vs) fun v' ids => chkK (nodupN (upTo obs.length 0 ++ expo obs.length r (oneOf vs))) (chkK (disjN ids (upTo obs.length 0 ++ expo obs.length r (oneOf vs))) (ret1 v'))) []
      fun v' _ _ => embV [] (RetK.obsUps obs' 0) fuel v' r ∧ embObs s.heap (upTo obs.length 0 ++ expo obs.length r (oneOf vs)) obs') → ∃ v, (results fn a'.tmps).run P w' = .ok v w' ∧ ∃ x I'' O'', Ending.returned v = .returned x ∧ Rel cfg (cxOf w I O obs.length) (hof obs') (fun o => o < obs'.length) w' I'' O'' ∧
      Rep w' I'' O'' (fun o => o < obs'.length) r x ∧ ∀ o, o < obs.length → O'' o = O o := by
    rintro a' w' I' O' hS' ⟨vs, hvs, hev⟩
    obtain ⟨x, hrun, hx⟩ := results_run hc hS' hvs
    refine ⟨x, hrun, x, ?_⟩
    obtain ⟨v', ups, rds, ⟨h1, h2⟩, _, h3⟩ := ev_elim _ _ _ _ _ hev
    obtain ⟨rr, h4, _⟩ := h3 (fun q hq => by cases hq)
    obtain ⟨h5, h6⟩ := embObs_spec _ _ h2
    obtain ⟨u', ids, r', h7, h8⟩ := viewArg_sound hS'.rel (fun j hj => let ⟨x, y, h9, _⟩ := h6 j hj; ⟨x, h9⟩) h4
    obtain ⟨hnd, h7⟩ := h7.chk_inv
    obtain ⟨hdj, h7⟩ := h7.chk_inv
    obtain ⟨rfl, _⟩ := h7.ret1_inv
    obtain ⟨h10, h11⟩ := Rel.home hS'.rel hnd hdj h5 h6
    refine ⟨_, _, rfl, h10, ?_, h11⟩
    have hdom := h10.dom
    rw [← hget_obsUps0 obs'] at hdom
    have hX : EmbX [] (RetK.obsUps obs' 0) (RetK.obsUps obs' 0) := ⟨fun o' y o hy ho => by cases ho; exact ⟨y, hy⟩, fun o' y hy ho => by cases ho⟩
    have := emb_val (D' := fun o => o < obs'.length) hdom hX fuel _ _ x (h8 x hx) h1
    have e : embOM [] (RetK.obsUps obs' 0) (subO O' (upTo obs.length 0 ++ expo obs.length r (oneOf vs))) = subO O' (upTo obs.length 0 ++ expo obs.length r (oneOf vs)) := by
      funext o
      unfold embOM
      split
      · rename_i hn; exact ((hdom o).2 hn).symm
      · rfl
    exact e ▸ this
  have hret : ∀ (a' : Act) (w' : World) (I' : Nat → Prop) (O' : OM), StRel cfg fn.ntmps obs.length (cxOf w I O obs.length) s a' w' I' O' → ∀ vs, resAV cfg s fn.results.toList = vs → (match vs with
      | some vs => match oneOf vs with
        | v => match upTo obs.length 0 ++ expo obs.length r v with
          | sg => ev (Spec P cfg) [] (hget s.heap) (viewArg sg v fun v' ids => chkK (nodupN sg) (chkK (disjN ids sg) (ret1 v'))) [] fun v' _ _ => embV [] (RetK.obsUps obs' 0) fuel v' r ∧ embObs s.heap sg obs'
      | none => False) → ∃ v, (results fn a'.tmps).run P w' = .ok v w' ∧ ∃ x I'' O'', Ending.returned v = .returned x ∧ Rel cfg (cxOf w I O obs.length) (hof obs') (fun o => o < obs'.length) w' I'' O'' ∧
      Rep w' I'' O'' (fun o => o < obs'.length) r x ∧ ∀ o, o < obs.length → O'' o = O o := by
    intro a' w' I' O' hS' vs hvs h
    cases vs with
    | none => exact h.elim
    | some vs => exact main a' w' I' O' hS' ⟨vs, hvs, h⟩
  obtain ⟨ms, hnd, _, hds, hms⟩ := hS0.marks
  have hS1 := StRel.turn (a := a0) (w := w0) (a' := ⟨a0.tmps, []⟩) ⟨fun _ _ h => h, fun _ _ => rfl, Nat.le_refl _⟩ (fun _ _ => rfl) hS0.rel.env rfl ⟨[], List.nodup_nil, fun _ => rfl, rfl, fun _ h => by cases h⟩ hS0
  cases e with
  | normal =>
    show LeavesInM _ _ _ _ _ _ a0.defers _ _
    rw [hds]
    exact leaves_marks (cx := cxOf w I O obs.length) (fun _ _ h => h) (fun a w' I' O' hS' => hret a w' I' O' hS' _ rfl hK) ms a0.tmps w0 I0 O0 hnd hms hS1
  | ret =>
    show LeavesInM _ _ _ _ _ _ a0.defers _ _
    rw [hds]
    exact leaves_marks (cx := cxOf w I O obs.length) (fun _ _ h => h) (fun a w' I' O' hS' => hret a w' I' O' hS' _ rfl hK) ms a0.tmps w0 I0 O0 hnd hms hS1
  | exit id => exact hK.elim
  | goto l => exact hK.elim
  | panic ch => exact hK.elim
  | outgrown => exact hK.elim

theorem spec_of_x (hc : CfgOK P cfg) {f : FuncId} {fn : Func} {c : Code} {ct : List Nat} {args : List AV} {obs : List AObj} {r : AV} {obs' : List AObj} (hf : P.funcs[f]? = some fn) (hb : fn.body = some c) (hnm : (fn.name == "runtime.NumGoroutine") = false)
    (hN : args.length ≤ fn.ntmps) (hok : codeOK fn.ntmps c = true) (hle : obs.length ≤ obs'.length)
    (h : xcode cfg (Spec P cfg) ct (Loops P cfg fn.ntmps none obs.length) c ⟨argsT args 0, RetK.obsUps obs 0, obs.length⟩ (RetK cfg (Spec P cfg) fn.results.toList obs.length r obs')) : Spec P cfg f args obs r obs' :=
  spec_of_good hc hf hb hnm hN hle (good_of_x hc c _ _ hok h)

end
end Go.Ab

namespace Go.Ab
section
variable {P : Program} {cfg : Cfg}

def zchk : ZK → Value → Bool
  | .bool, .bool false => true
  | .int k, .int k' n => decide (k = k') && decide (n = 0)
  | .str, .string s => s.data.isEmpty
  | .slice, .slice none 0 0 => true
  | .ptr, .pointer none => true
  | .other, x => x.oneCell'
  | _, _ => false

def zchks : List ZK → List Value → Bool
  | [], [] => true
  | z :: l, v :: m => zchk z v && zchks l m
  | _, _ => false

def dchk : TD → TypeDesc → Bool
  | .bool, .bool => true
  | .int k, .int k' => decide (k = k')
  | .str, .string => true
  | .slice e, .slice e' => Nat.beq e e'
  | .pointer e, .pointer e' => Nat.beq e e'
  | .struct fs, .struct fields => decide (fields.toList.map (fun f => (f.offset, f.type)) = fs)
  | .other, _ => true
  | _, _ => false

def fieldsB (P : Program) : TypeDesc → Bool
  | .struct fields => fields.toList.all fun f => (P.info? f.type).isSome
  | _ => true

def tyChk (P : Program) (t : TypeId) (ti : TyI) : Bool :=
  match P.info? t, P.underlying t with
  | some i, some d => match i.zero with
    | some z => Nat.beq i.size ti.size && Nat.beq i.bytes ti.bytes && decide (d.isRow = ti.agg) && Nat.beq z.cells.size ti.size && zchks ti.zero z.cells.toList && dchk ti.desc d && fieldsB P d
    | none => false
  | _, _ => false

def tysChk (P : Program) : List (Nat × TyI) → Bool
  | [] => true
  | (t, ti) :: l => tyChk P t ti && tysChk P l

theorem zchk_spec {z : ZK} {v : Value} (h : zchk z v = true) : zmatch z v := by
  unfold zchk at h
  split at h
  · rfl
  · simp only [Bool.and_eq_true, decide_eq_true_eq] at h; obtain ⟨rfl, rfl⟩ := h; rfl
  · rename_i s
    show Value.string s = .string ByteArray.empty
    have : s.data = #[] := by simpa using h
    cases s
    simp only at this
    rw [this]
    rfl
  · rfl
  · rfl
  · exact h
  · cases h

theorem zchks_spec : ∀ (zs : List ZK) (vs : List Value), zchks zs vs = true → zs.length = vs.length ∧ ∀ j, j < zs.length → zmatch (zs.getD j .other) (vs.getD j Go.undef) := by
  intro zs
  induction zs with
  | nil => intro vs h; cases vs with
    | nil => exact ⟨rfl, fun j hj => by cases hj⟩
    | cons => cases h
  | cons z zs ih => intro vs h; cases vs with
    | nil => cases h
    | cons v vs =>
      simp only [zchks, Bool.and_eq_true] at h
      obtain ⟨h1, h2⟩ := ih vs h.2
      refine ⟨by simp [h1], fun j hj => ?_⟩
      cases j with
      | zero => exact zchk_spec h.1
      | succ j => simpa using h2 j (by simpa using hj)

theorem dchk_spec {t : TD} {d : TypeDesc} (h : dchk t d = true) : dmatch t d := by
  unfold dchk at h
  split at h
  · rfl
  · have := of_decide_eq_true h; subst this; rfl
  · rfl
  · have := Nat.eq_of_beq_eq_true h; subst this; rfl
  · have := Nat.eq_of_beq_eq_true h; subst this; rfl
  · exact ⟨_, rfl, of_decide_eq_true h⟩
  · trivial
  · cases h

theorem tyChk_spec {t : TypeId} {ti : TyI} (h : tyChk P t ti = true) : TyOK P t ti ∧ ∀ d, P.underlying t = some d → fieldsThere P d := by
  unfold tyChk at h
  split at h
  · rename_i i d hi hd
    split at h
    · rename_i z hz
      simp only [Bool.and_eq_true, decide_eq_true_eq] at h
      obtain ⟨⟨⟨⟨⟨⟨h1, h2⟩, h3⟩, h4⟩, h5⟩, h6⟩, h7⟩ := h
      have e1 := Nat.eq_of_beq_eq_true h1
      have e2 := Nat.eq_of_beq_eq_true h2
      have e4 := Nat.eq_of_beq_eq_true h4
      obtain ⟨h8, h9⟩ := zchks_spec _ _ h5
      have hlen : ti.zero.length = ti.size := by rw [h8, ← e4]; simp
      refine ⟨⟨i, d, z, hi, hd, hz, e1, e2, h3, e4, hlen, fun j hj => ?_, dchk_spec h6⟩, fun d' hd' => ?_⟩
      · have := h9 j (by omega)
        simpa using this
      · rw [hd] at hd'
        cases hd'
        cases d with
        | struct fields =>
          simp only [fieldsB, List.all_eq_true] at h7
          exact h7
        | _ => trivial
    · cases h
  · cases h

theorem tysChk_spec : ∀ (l : List (Nat × TyI)), tysChk P l = true → ∀ t ti, look l t = some ti → tyChk P t ti = true := by
  intro l
  induction l with
  | nil => intro _ t ti h; cases h
  | cons q l ih =>
    intro h t ti hl
    obtain ⟨k, tk⟩ := q
    simp only [tysChk, Bool.and_eq_true] at h
    simp only [look] at hl
    cases hb : Nat.beq k t with
    | true =>
      simp only [hb] at hl
      cases hl
      rw [← Nat.eq_of_beq_eq_true hb]
      exact h.1
    | false => simp only [hb] at hl; exact ih h.2 t ti hl

def plainB : ZK → TypeDesc → Bool
  | .bool, .bool => true
  | .int k, .int k' => decide (k = k')
  | .str, .string => true
  | _, _ => false

def eqFs (P : Program) : List ZK → List Field → Nat → Bool
  | [], [], _ => true
  | z :: zs, f :: fs, i => decide (f.name ≠ "_") && Nat.beq f.offset i && (match P.underlying f.type with | some d => plainB z d | none => false) && eqFs P zs fs (i + 1)
  | _, _, _ => false

def eqChk (P : Program) (t : TypeId) (zs : List ZK) : Bool :=
  match P.underlying t with
  | some (.struct fields) => eqFs P zs fields.toList 0 && !P.stoodInHeld t && !P.eqGuardType P.depth t
  | _ => false

def eqsChk (P : Program) : List (Nat × List ZK) → Bool
  | [] => true
  | (t, zs) :: l => eqChk P t zs && eqsChk P l

theorem plainB_spec {z : ZK} {d : TypeDesc} (h : plainB z d = true) : plainK z d := by
  unfold plainB at h
  split at h
  · rfl
  · have := of_decide_eq_true h; subst this; rfl
  · rfl
  · cases h

theorem eqFs_spec : ∀ (zs : List ZK) (fs : List Field) (k : Nat), eqFs P zs fs k = true → fs.length = zs.length ∧ ∀ (i : Nat) (z : ZK), zs[i]? = some z → ∃ (f : Field) (d : TypeDesc), fs[i]? = some f ∧ f.name ≠ "_" ∧ f.offset = k + i ∧ P.underlying f.type = some d ∧ plainK z d := by
  intro zs
  induction zs with
  | nil => intro fs k h; cases fs with
    | nil => exact ⟨rfl, fun i z h => by simp at h⟩
    | cons => cases h
  | cons z zs ih => intro fs k h; cases fs with
    | nil => cases h
    | cons f fs =>
      simp only [eqFs, Bool.and_eq_true, decide_eq_true_eq] at h
      obtain ⟨⟨⟨h1, h2⟩, h3⟩, h4⟩ := h
      obtain ⟨h5, h6⟩ := ih fs (k + 1) h4
      refine ⟨by simp [h5], fun i z' hi => ?_⟩
      cases i with
      | zero =>
        simp at hi
        subst hi
        split at h3
        · rename_i d hd
          exact ⟨f, d, rfl, h1, by have := Nat.eq_of_beq_eq_true h2; omega, hd, plainB_spec h3⟩
        · cases h3
      | succ i =>
        obtain ⟨f', d, q1, q2, q3, q4, q5⟩ := h6 i z' (by simpa using hi)
        exact ⟨f', d, by simpa using q1, q2, by omega, q4, q5⟩

theorem eqChk_spec {t : TypeId} {zs : List ZK} (h : eqChk P t zs = true) : EqOK P t zs := by
  unfold eqChk at h
  split at h
  · rename_i fields hu
    simp only [Bool.and_eq_true, Bool.not_eq_true'] at h
    obtain ⟨⟨h1, h2⟩, h3⟩ := h
    obtain ⟨h4, h5⟩ := eqFs_spec _ _ _ h1
    refine ⟨⟨fields, hu, by simpa using h4, fun i z hi => ?_⟩, h2, h3⟩
    obtain ⟨f, d, q1, q2, q3, q4, q5⟩ := h5 i z hi
    exact ⟨f, d, by simpa using q1, q2, by omega, q4, q5⟩
  · cases h

theorem eqsChk_spec : ∀ (l : List (Nat × List ZK)), eqsChk P l = true → ∀ t zs, look l t = some zs → eqChk P t zs = true := by
  intro l
  induction l with
  | nil => intro _ t ti h; cases h
  | cons q l ih =>
    intro h t ti hl
    obtain ⟨k, tk⟩ := q
    simp only [eqsChk, Bool.and_eq_true] at h
    simp only [look] at hl
    cases hb : Nat.beq k t with
    | true =>
      simp only [hb] at hl
      cases hl
      rw [← Nat.eq_of_beq_eq_true hb]
      exact h.1
    | false => simp only [hb] at hl; exact ih h.2 t ti hl

theorem cfgOK_of (h : tysChk P cfg.ty = true) (hm : P.follows .mixedOrders = true) (he : eqsChk P cfg.eqs = true) : CfgOK P cfg where
  ty := fun t ti hl => (tyChk_spec (tysChk_spec _ h t ti hl)).1
  fields := fun t ti d hl => (tyChk_spec (tysChk_spec _ h t ti hl)).2 d
  mixed := hm
  eqs := fun t zs hl => eqChk_spec (eqsChk_spec _ he t zs hl)

theorem bcase_of {c : Bool} {A B : Prop} (h1 : c = true → A) (h2 : c = false → B) : bcase c A B := by
  cases c
  · exact h2 rfl
  · exact h1 rfl

end
end Go.Ab

namespace Go.Ab
section
variable {P : Program} {cfg : Cfg} {N : Nat} {cx : Ctx}

theorem wpIn_FW_any {r : Option Nat} {n n' : Nat} {c : Code} {Q : Exit → Act → World → Prop} {a : Act} {w : World} (h : c.wpIn (FW r) n P Q a w) : c.wpIn (FW r) n' P Q a w :=
  fun b k cs hro hb _ => h b k cs hro hb (fun _ hd => by cases hd)

/-- What a stretch of a round may touch: seen from its beginning. -/
def roundCx (W : World) (I : Nat → Prop) (O : OM) (m : Nat) : Ctx := ⟨W, fun b => ∃ o p bo sz, O o = some p ∧ p.pl = some (b, bo, sz), I, O, m, fun k o => W.heap[k]? = some o ∧ noCells o = true, true⟩

theorem Rel.enter {H : Nat → Option AObj} {D : Nat → Prop} {W : World} {I : Nat → Prop} {O : OM} (hR : Rel cfg cx H D W I O) {m : Nat} (hm : ∀ o, o < m → D o) : Rel cfg (roundCx W I O m) H D W I O where
  dom := hR.dom
  used := hR.used
  objs := hR.objs
  inj := hR.inj
  notI := hR.notI
  lt := hR.lt
  Ilt := hR.Ilt
  size := Nat.le_refl _
  frame := fun _ _ _ => rfl
  new := fun o p _ bo sz h1 h2 => .inr ⟨o, p, bo, sz, h1, h2⟩
  glob := hR.glob
  I0I := fun _ h => h
  II0 := fun _ h => .inl h
  O0O := fun _ _ => .inl rfl
  Dm := hm
  env := ⟨SameEnv.refl _, fun _ _ h => h⟩

theorem Rel.back {H H' : Nat → Option AObj} {D D' : Nat → Prop} {W W' : World} {I I' : Nat → Prop} {O O' : OM} {m : Nat} (h0 : Rel cfg cx H D W I O) (h1 : Rel cfg (roundCx W I O m) H' D' W' I' O') (hm : ∀ o, o < cx.m → o < m) : Rel cfg cx H' D' W' I' O' where
  dom := h1.dom
  used := h1.used
  objs := h1.objs
  inj := h1.inj
  notI := h1.notI
  lt := h1.lt
  Ilt := h1.Ilt
  size := Nat.le_trans h0.size h1.size
  frame := fun b hb hM => by
    rw [h1.frame b (Nat.lt_of_lt_of_le hb h0.size) (fun ⟨o, p, bo, sz, q1, q2⟩ => by
      rcases h0.new o p b bo sz q1 q2 with h | h
      · omega
      · exact hM h)]
    exact h0.frame b hb hM
  new := fun o p b bo sz q1 q2 => by
    rcases h1.new o p b bo sz q1 q2 with h | ⟨o', p', bo', sz', q3, q4⟩
    · exact .inl (Nat.le_trans h0.size h)
    · exact h0.new o' p' b bo' sz' q3 q4
  glob := h1.glob
  I0I := fun b h => h1.I0I b (h0.I0I b h)
  II0 := fun b h => by
    rcases h1.II0 b h with h | h | ⟨o', p', bo', sz', q3, q4⟩
    · exact h0.II0 b h
    · exact .inr (.inl (Nat.le_trans h0.size h))
    · exact .inr (h0.new o' p' b bo' sz' q3 q4)
  O0O := fun o ho => by
    rcases h1.O0O o (hm o ho) with h | h
    · rw [h]; exact h0.O0O o ho
    · exact .inr h
  Dm := fun o ho => h1.Dm o (hm o ho)
  env := h0.env.step h1.env.same

/-- Immutable blocks lie as they lay. -/
theorem Rel.kept_I {H H' : Nat → Option AObj} {D D' : Nat → Prop} {W W' : World} {I I' : Nat → Prop} {O O' : OM} {m : Nat} (h0 : Rel cfg cx H D W I O) (h1 : Rel cfg (roundCx W I O m) H' D' W' I' O') (b : Nat) (hb : I b) : W'.heap[b]? = W.heap[b]? :=
  h1.frame b (h0.Ilt b hb) (fun ⟨o, p, bo, sz, q1, q2⟩ => h0.notI o p b bo sz q1 q2 hb)

/-- Values of the activation, seen behind the stretch. -/
theorem Rep.behind {H H' : Nat → Option AObj} {D' : Nat → Prop} {W W' : World} {I I' : Nat → Prop} {O O' : OM} {m : Nat} (h0 : Rel cfg cx H (fun o => o < m) W I O) (h1 : Rel cfg (roundCx W I O m) H' D' W' I' O') {v : AV} {x : Value} (h : Rep W I O (fun o => o < m) v x) : Rep W' I' O' D' v x :=
  h.mono h1.I0I (h0.kept_I h1) h1.O0O h1.Dm h0.used

theorem sameCells_alloc (w : World) (o : Obj) : SameCells (w.alloc o) w := by
  have hlt : ∀ a : Addr, (w.cell? a).isSome = true → a.block < w.heap.size := fun a h => by
    obtain ⟨v, hv⟩ := Option.isSome_iff_exists.1 h
    exact World.block_lt_of_cell? _ _ hv
  have hb : ∀ a : Addr, a.block < w.heap.size → (w.alloc o).heap[a.block]? = w.heap[a.block]? := fun a h => by
    show (w.heap.push o)[a.block]? = _
    rw [Array.getElem?_push_lt h, Array.getElem?_eq_getElem h]
  refine ⟨fun a v hv => ?_, fun a hv => ?_, by simp⟩
  · rw [← hv, World.cell?_of_block (hb a (hlt a (by rw [hv]; rfl)))]
  · exact World.frozen?_of_block (hb a (hlt a hv))

/-- What an iterator of two values does: it hands the elements to yield, in turn, as long as yield says so. -/
def IterSpec (P : Program) (gf : FuncId) (caps : List AV) (len : Nat) (e0 e1 : Nat → AV) : Prop :=
  (∀ args w, (callFunc gf args).run P w = .ok (.enter gf args) w) ∧
  ∀ (w : World) (I : Nat → Prop) (lb : Array Value), (∀ b, I b → b < w.heap.size) → lb.size = caps.length → (∀ j, j < caps.length → PRep w I (nth caps j) (lb.getD j Go.undef)) →
    ∃ v0 v1 : Nat → Value, (∀ k, k < len → PRep w I (e0 k) (v0 k) ∧ PRep w I (e1 k) (v1 k)) ∧
      ∀ (l n : Nat) (J : Nat → World → Prop) (Jx : World → Prop) (W : World), (∀ b, I b → W.heap[b]? = w.heap[b]?) →
        (∀ k W1, k < len → J k W1 → YieldAt (FW none) n P l #[v0 k, v1 k] W1 fun e W' => (e = .returned (.bool true) ∧ J (k + 1) W' ∧ ∀ b, I b → W'.heap[b]? = W1.heap[b]?) ∨ (e = .returned (.bool false) ∧ Jx W')) →
        J 0 W → CallsIn (FW none) n P gf (#[.func (.yield l) #[] #[]] ++ lb) W fun e W' => (∃ v, e = .returned v) ∧ (J len W' ∨ Jx W')

theorem zip2 {α β : Type} (p0 p1 : α) (v0 v1 : β) : (#[p0, p1] : Array α).zip #[v0, v1] = #[(p0, v0), (p1, v1)] := by
  apply Array.toList_inj.1
  simp

theorem updO_true (t : Nat) : updO (fun _ => true) (some t) true = fun _ => true := by
  funext k
  unfold updO
  simp

/-- A range over a function. -/
theorem range_inv (hc : CfgOK P cfg) {m : Nat} {ct ct' : List Nat} {g : Operand} {p0 p1 : Nat} {assign body : Code} {s : St} {K : Exit → St → Prop} (hoka : codeOK N assign = true) (hokb : codeOK N body = true) (hp0 : p0 < N) (hp1 : p1 < N)
    {gf : FuncId} {caps : List AV} {len : Nat} {e0 e1 : Nat → AV} (hit : IterSpec P gf caps len e0 e1) (hg : rho cfg (tget s.tmps) g = .fn gf caps) (hcaps : ∀ v ∈ caps, ∃ cs, v = .ro cs)
    (st st1 : Nat → St) (ρ0 : List (Nat × Option Nat)) (h0 : Emb m ρ0 s (st 0)) (inv : Nat → Prop) (hi0 : inv 0)
    (ha : ∀ k l, k < len → inv k → m ≤ (st k).nx ∧ xcode cfg (Spec P cfg) ct (Loops P cfg N (some l) (st k).nx) assign ⟨(p1, e1 k) :: (p0, e0 k) :: (st k).tmps, (st k).heap, (st k).nx⟩ (fun e s' => match e with | .normal => ∃ ρ, Emb (st k).nx ρ s' (st1 k) | _ => False))
    (hb : ∀ k l, k < len → inv k → xcode cfg (Spec P cfg) ct' (Loops P cfg N (some l) (st1 k).nx) body (st1 k) (fun e s' => match e with | .normal => inv (k + 1) ∧ ∃ ρ, Emb m ρ ⟨(st k).tmps, s'.heap, s'.nx⟩ (st (k + 1)) | .ret => K .ret ⟨(st k).tmps, s'.heap, s'.nx⟩ | _ => False))
    (hK : inv len → K .normal (st len)) : Loops P cfg N none m (.rangeFunc g #[p0, p1] assign body) s K := by
  refine ⟨fun n cx0 a w I O hS0 hrd => wpIn_FW_any (n := 3) ?_⟩
  obtain ⟨ms, hnd, _, hds, hms⟩ := hS0.marks
  -- the context keeps the marks
  obtain ⟨cx, hcx⟩ : ∃ cx, cx = cx0.also ms := ⟨_, rfl⟩
  have hcw : cx.w0 = cx0.w0 := by rw [hcx]; rfl
  have hcm : cx.m = cx0.m := by rw [hcx]; rfl
  have hR0 : Rel cfg cx (hget s.heap) (fun o => o < s.nx) w I O := by rw [hcx]; exact hS0.rel.also (fun D hD => (hms D hD).2)
  obtain ⟨lb, hgv, hlb, hlr⟩ := (hg ▸ rep_operand hS0.rel hS0.tmps g (fun _ _ => rfl)).fn_inv
  have hcp : ∀ j, j < caps.length → PRep w I (nth caps j) (lb.getD j Go.undef) := fun j hj => by
    have hmem : nth caps j ∈ caps := by rw [nth_eq]; rw [List.getD_eq_getElem?_getD, List.getElem?_eq_getElem hj]; exact List.getElem_mem _
    obtain ⟨cs, hcs⟩ := hcaps _ hmem
    have := hlr j hj
    rw [hcs] at this ⊢
    cases this with
    | pure h => exact h
  obtain ⟨v0, v1, hel, hrun⟩ := hit.2 w I lb hR0.Ilt hlb hcp
  refine wpIn_rangeFunc ?_
  intro fn hfn
  obtain ⟨rc, hrc⟩ : ∃ rc : LoopState → Option Code → Loop, rc = fun st pe => { state := st, pending := pe, fn, tmps := a.tmps, params := #[p0, p1], assign, body, defers := w.heap.size } := ⟨_, rfl⟩
  obtain ⟨W1, hW1⟩ : ∃ W1, W1 = (w.alloc (.deferred (some []))).alloc (.loop (rc .ready none)) := ⟨_, rfl⟩
  have hsz1 : W1.heap.size = w.heap.size + 2 := by rw [hW1]; simp
  have hD1 : W1.heap[w.heap.size]? = some (.deferred (some [])) := by
    rw [hW1]
    show ((w.heap.push _).push _)[w.heap.size]? = _
    have hp : (w.heap.push (Obj.deferred (some []))).size = w.heap.size + 1 := Array.size_push _
    rw [Array.getElem?_push, if_neg (by omega), Array.getElem?_push_size]
  have hL1 : W1.heap[w.heap.size + 1]? = some (.loop (rc .ready none)) := by
    have := World.alloc_heap_new (w.alloc (.deferred (some []))) (.loop (rc .ready none))
    rw [World.size_alloc] at this
    rw [hW1]
    exact this
  have hold1 : ∀ b, b < w.heap.size → W1.heap[b]? = w.heap[b]? := fun b hb => by
    rw [hW1]
    show ((w.heap.push _).push _)[b]? = _
    rw [Array.getElem?_push_lt (by simp; omega), Array.getElem_push_lt hb, Array.getElem?_eq_getElem hb]
  have hcells1 : SameCells W1 w := by
    rw [hW1]
    have q1 := sameCells_alloc w (.deferred (some []))
    have q2 := sameCells_alloc (w.alloc (.deferred (some []))) (.loop (rc .ready none))
    exact ⟨fun x v h => q2.cell x v (q1.cell x v h), fun x h => by
      rw [q2.frozen x (by obtain ⟨v, hv⟩ := Option.isSome_iff_exists.1 h; rw [q1.cell x v hv]; rfl), q1.frozen x h], Nat.le_trans q1.size q2.size⟩
  have henv1 : EnvOK cx W1 := by
    rw [hW1]
    exact (hR0.env.step (SameEnv.alloc _ _)).step (SameEnv.alloc _ _)
  have hKlt : ∀ k o, cx.K k o → k < w.heap.size := fun k o h => by
    have := (hR0.env.kept k o h).1
    rcases Nat.lt_or_ge k w.heap.size with h1 | h1
    · exact h1
    · rw [Array.getElem?_eq_none h1] at this; cases this
  have hw0 : cx.w0.heap.size ≤ w.heap.size := hR0.size
  have envput : ∀ (W : World) (k : Nat) (o : Obj), w.heap.size ≤ k → EnvOK cx W → EnvOK cx (W.putObj k o) := fun W k o hk he => by
    refine ⟨⟨he.same.os, he.same.tape, he.same.output, fun i x hi hx => ?_⟩, fun i x hi => ?_⟩
    · have hlt : i < cx.w0.heap.size := by
        rcases Nat.lt_or_ge i cx.w0.heap.size with h1 | h1
        · exact h1
        · rw [Array.getElem?_eq_none h1] at hi; cases hi
      rw [World.putObj_heap_other (by omega)]
      exact he.same.keep i x hi hx
    · rw [World.putObj_heap_other (by have := hKlt i x hi; omega)]
      exact he.kept i x hi
  have nomarks : ∀ (W : World), Marks cx W ([] : List Deferred) := fun W => ⟨[], List.nodup_nil, fun _ => rfl, rfl, fun _ h => by cases h⟩
  have hS1 : StRel cfg N m cx s ⟨a.tmps, []⟩ w I O := ⟨hcm.trans hS0.m, hR0, ⟨rfl, hS0.tmps.size, hS0.tmps.rep, hS0.tmps.gone⟩, nomarks w⟩
  have hS2 := emb_sound hS1 h0
  have turnput : ∀ {s' : St} {W : World} {I' : Nat → Prop} {O' : OM} {o : Obj} (o' : Obj), W.heap[w.heap.size + 1]? = some o → noCells o = true → StRel cfg N m cx s' ⟨a.tmps, []⟩ W I' O' → StRel cfg N m cx s' ⟨a.tmps, []⟩ (W.putObj (w.heap.size + 1) o') I' O' := fun o' ho hn hS =>
    hS.turn (sameCells_put ho hn) (fun b hb => World.putObj_heap_other (by omega)) (envput _ _ _ (by omega) hS.rel.env) rfl (nomarks _)
  refine ⟨w.heap.size + 1, [markOf w.heap.size], W1, { target := .fn (.func gf) lb, args := #[.func (.yield (w.heap.size + 1)) #[] #[]] }, W1, gf, #[.func (.yield (w.heap.size + 1)) #[] #[]] ++ lb, W1, ?_, ?_, fun _ _ => trivial, ?_, (fun h => by cases h), ?_⟩
  · rw [hW1, hrc]; exact run_enterLoop_outer _ _ _ _ _
  · simp only [resolve, hgv]
    simp [go_sem]
  · simp [invoke, go_sem, hit.1]
  refine (hrun (w.heap.size + 1) (3 - 1)
    (fun k W => inv k ∧ ∃ I1 O1, StRel cfg N m cx (st k) ⟨a.tmps, []⟩ W I1 O1 ∧ (∀ b, I b → I1 b) ∧ (∀ b, I b → W.heap[b]? = w.heap[b]?) ∧ W.heap[w.heap.size + 1]? = some (.loop (rc .ready none)) ∧ W.heap[w.heap.size]? = some (.deferred (some [])))
    (fun W => ∃ s' I1 O1, K .ret s' ∧ StRel cfg N m cx s' ⟨a.tmps, []⟩ W I1 O1 ∧ W.heap[w.heap.size + 1]? = some (.loop (rc .done (some .ret))) ∧ W.heap[w.heap.size]? = some (.deferred (some [])))
    W1 (fun b hb => hold1 b (hR0.Ilt b hb)) ?_ ?_).mono ?_
  · rintro k W hk ⟨hiv, I1, O1, hS, hII, hkeep, hl, hD⟩
    have hlW : w.heap.size + 1 < W.heap.size := (Array.getElem?_eq_some_iff.1 hl).1
    have hy := run_yield (P := P) (args := #[v0 k, v1 k]) hl (by rw [hrc]; rfl)
    rw [hrc] at hy
    refine ⟨fn, _, assign, body, hy, roundIn_of_wpIn hfn ?_⟩
    clear hy
    obtain ⟨hnx, hxa⟩ := ha k (w.heap.size + 1) hk hiv
    have hmx : ∀ o, o < cx.m → o < (st k).nx := fun o ho => Nat.lt_of_lt_of_le (by rw [hS.m] at ho; exact ho) hnx
    have hRr := hS.rel.enter (m := (st k).nx) (fun _ h => h)
    have hwI : ∀ b, I b → W.heap[b]? = w.heap[b]? := hkeep
    obtain ⟨he0, he1⟩ := hel k hk
    have hpe : ∀ {v : AV} {x : Value}, PRep w I v x → Rep W I1 O1 (fun o => o < (st k).nx) v x := fun h => .pure (h.mono hII hwI)
    have hT1 := TRel.put hS.tmps (fun _ _ h => h) (some p0) (fun _ h => by cases h; exact hp0) (e0 k) (v0 k) true (fun _ => hpe he0) (fun h => by cases h)
    have hT2 := TRel.put hT1 (fun _ _ h => h) (some p1) (fun _ h => by cases h; exact hp1) (e1 k) (v1 k) true (fun _ => hpe he1) (fun h => by cases h)
    rw [updO_true, updO_true, ← tget_cons, ← tget_cons] at hT2
    have hSa : StRel cfg N (st k).nx (roundCx W I1 O1 (st k).nx) ⟨(p1, e1 k) :: (p0, e0 k) :: (st k).tmps, (st k).heap, (st k).nx⟩ { tmps := (a.tmps.setIfInBounds p0 (v0 k)).setIfInBounds p1 (v1 k), defers := [] } W I1 O1 :=
      ⟨rfl, hRr, hT2, ⟨[], List.nodup_nil, fun _ => rfl, rfl, fun _ h => by cases h⟩⟩
    have hga := good_of_x hc assign _ _ hoka hxa (3 - 1) _ _ W I1 O1 hSa rfl
    have htm : ((#[p0, p1] : Array Tmp).zip #[v0 k, v1 k]).foldl (fun tmps (t, a) => tmps.setIfInBounds t a) a.tmps = (a.tmps.setIfInBounds p0 (v0 k)).setIfInBounds p1 (v1 k) := by rw [zip2]; rfl
    refine wpIn_mono (htm ▸ hga) ?_
    rintro e a2 W2 ⟨s2, I2, O2, hk2, hSb⟩
    cases e with
    | normal =>
      obtain ⟨ρ, hE⟩ := hk2
      have hSc := emb_sound hSb hE
      have hRc := hS.rel.back hSc.rel hmx
      have hl2 := (hSc.rel.env.kept _ _ ⟨hl, rfl⟩).1
      have hD2 := (hSc.rel.env.kept _ _ ⟨hD, rfl⟩).1
      have hkI2 := fun b hb => hS.rel.kept_I hSc.rel b (hII b hb)
      refine ⟨_, run_beginRound hl2 (by rw [hrc]), ?_⟩
      have hlW2 : w.heap.size + 1 < W2.heap.size := (Array.getElem?_eq_some_iff.1 hl2).1
      obtain ⟨W3, hW3⟩ : ∃ W3, W3 = W2.putObj (w.heap.size + 1) (.loop { rc .ready none with state := .busy }) := ⟨_, rfl⟩
      rw [← hW3]
      have hl3 : W3.heap[w.heap.size + 1]? = some (.loop { rc .ready none with state := .busy }) := by rw [hW3]; exact World.putObj_heap_same hlW2
      have hD3 : W3.heap[w.heap.size]? = some (.deferred (some [])) := by rw [hW3]; exact (World.putObj_heap_other (by omega)).trans hD2
      have hsc3 : SameCells W3 W2 := by rw [hW3]; exact sameCells_put hl2 rfl
      have hR3 : Rel cfg cx (hget (st1 k).heap) (fun o => o < (st1 k).nx) W3 I2 (embOM ρ (st1 k).heap O2) := hRc.turn hsc3 (fun b hb => by rw [hW3]; exact World.putObj_heap_other (by omega)) (by rw [hW3]; exact envput _ _ _ (by omega) hRc.env)
      have hnx1 : (st k).nx ≤ (st1 k).nx := by
        have := hE.chk
        unfold embChk at this
        split at this
        · exact Nat.le_of_ble_eq_true this
        · cases this
      have hT0 : ∀ t, Rep W3 I2 (embOM ρ (st1 k).heap O2) (fun o => o < (st1 k).nx) (tget (st k).tmps t) (a.tmps.getD t Go.undef) := fun t => (Rep.behind hS.rel hSc.rel (hS.tmps.rep t rfl)).turn hsc3
      have hRd := hR3.enter (m := (st1 k).nx) (fun _ ho => ho)
      have hSd : StRel cfg N (st1 k).nx (roundCx W3 I2 (embOM ρ (st1 k).heap O2) (st1 k).nx) (st1 k) a2 W3 I2 (embOM ρ (st1 k).heap O2) := by
        refine ⟨rfl, hRd, ⟨rfl, hSc.tmps.size, fun t ht => (hSc.tmps.rep t ht).turn hsc3, fun t ht => by cases ht⟩, ?_⟩
        have : a2.defers = [] := by
          obtain ⟨ms2, _, h1, h2, _⟩ := hSc.marks
          rw [h1 rfl] at h2
          exact h2
        rw [this]
        exact ⟨[], List.nodup_nil, fun _ => rfl, rfl, fun _ h => by cases h⟩
      have hgb := good_of_x hc body _ _ hokb (hb k (w.heap.size + 1) hk hiv) (3 - 1) _ _ W3 I2 _ hSd rfl
      refine wpIn_mono hgb ?_
      rintro e a4 W4 ⟨s4, I4, O4, hk4, hSe⟩
      have hRe := hR3.back hSe.rel (fun o ho => Nat.lt_of_lt_of_le (hmx o ho) hnx1)
      have hl4 := (hSe.rel.env.kept _ _ ⟨hl3, rfl⟩).1
      have hD4 := (hSe.rel.env.kept _ _ ⟨hD3, rfl⟩).1
      have hlW4 : w.heap.size + 1 < W4.heap.size := (Array.getElem?_eq_some_iff.1 hl4).1
      have hI34 : ∀ b, I b → I2 b := fun b hb => hSc.rel.I0I b (hII b hb)
      have hkI4 : ∀ b, I b → W4.heap[b]? = W.heap[b]? := fun b hb => by
        have hbl := hR0.Ilt b hb
        rw [hR3.kept_I hSe.rel b (hI34 b hb), hW3, World.putObj_heap_other (by omega)]
        exact hkI2 b hb
      have hT4 : StRel cfg N m cx ⟨(st k).tmps, s4.heap, s4.nx⟩ ⟨a.tmps, []⟩ W4 I4 O4 :=
        ⟨hS.m, hRe, ⟨rfl, hS.tmps.size, fun t _ => Rep.behind hR3 hSe.rel (hT0 t), fun t ht => by cases ht⟩, nomarks _⟩
      cases e with
      | normal =>
        obtain ⟨hiv4, ρ4, hE4⟩ := hk4
        have hSf := emb_sound hT4 hE4
        refine ⟨_, _, run_endRound none hl4, .inl ⟨rfl, ⟨hiv4, I4, _, turnput _ hl4 rfl hSf, fun b hb => hSe.rel.I0I b (hI34 b hb), fun b hb => ?_, ?_, ?_⟩, fun b hb => ?_⟩⟩
        · have hbl := hR0.Ilt b hb
          rw [World.putObj_heap_other (by omega), hkI4 b hb]
          exact hkeep b hb
        · rw [World.putObj_heap_same hlW4, hrc]; rfl
        · rw [World.putObj_heap_other (by omega)]; exact hD4
        · have hbl := hR0.Ilt b hb
          rw [World.putObj_heap_other (by omega)]
          exact hkI4 b hb
      | ret =>
        refine ⟨_, _, run_endRound (some .ret) hl4, .inr ⟨rfl, _, I4, O4, hk4, turnput _ hl4 rfl hT4, ?_, ?_⟩⟩
        · rw [World.putObj_heap_same hlW4, hrc]; rfl
        · rw [World.putObj_heap_other (by omega)]; exact hD4
      | exit id => exact hk4.elim
      | goto t => exact hk4.elim
      | panic ch => exact hk4.elim
      | outgrown => exact hk4.elim
    | ret => exact hk2.elim
    | exit id => exact hk2.elim
    | goto t => exact hk2.elim
    | panic ch => exact hk2.elim
    | outgrown => exact hk2.elim
  · exact ⟨hi0, I, _, hS2.turn hcells1 (fun b hb => hold1 b (by omega)) henv1 rfl (nomarks _), fun _ h => h, fun b hb => hold1 b (hR0.Ilt b hb), hL1, hD1⟩
  · have fin : ∀ {s' : St} {W : World} {I' : Nat → Prop} {O' : OM} {o : Obj} (o' : Obj), W.heap[w.heap.size + 1]? = some o → noCells o = true → W.heap[w.heap.size]? = some (.deferred (some [])) → StRel cfg N m cx s' ⟨a.tmps, []⟩ W I' O' →
        StRel cfg N m cx0 s' { a with defers := markOf w.heap.size :: a.defers } (W.putObj (w.heap.size + 1) o') I' O' := by
      intro s' W I' O' o o' ho hn hD hS
      have hS' := turnput o' ho hn hS
      have hRx := hS'.rel
      rw [hcx] at hRx
      obtain ⟨hRy, hmy⟩ := hRx.unalso
      refine ⟨hS0.m, hRy, ⟨rfl, hS'.tmps.size, hS'.tmps.rep, hS'.tmps.gone⟩, ⟨w.heap.size :: ms, ?_, (fun h => by rw [hrd] at h; cases h), ?_, fun D hDm => ?_⟩⟩
      · refine List.nodup_cons.2 ⟨fun hin => ?_, hnd⟩
        have := (hms _ hin).2
        rw [Array.getElem?_eq_none (Nat.le_refl _)] at this
        cases this
      · show markOf w.heap.size :: a.defers = _
        rw [hds]
        rfl
      · rcases List.mem_cons.1 hDm with rfl | hDm
        · exact ⟨by rw [← hcw]; exact hw0, (World.putObj_heap_other (by omega)).trans hD⟩
        · exact ⟨(hms D hDm).1, hmy D hDm⟩
    rintro e W2 ⟨⟨v, rfl⟩, ⟨hiv, I2, O2, hS2', _, _, hl2, hD2⟩ | ⟨s2, I2, O2, hk2, hS2', hl2, hD2⟩⟩
    · exact ⟨none, _, by have := run_endLoop (P := P) hl2 (by rw [hrc]; simp); rw [hrc] at this; exact this, st len, I2, O2, hK hiv, fin _ hl2 rfl hD2 hS2'⟩
    · exact ⟨some .ret, _, by have := run_endLoop (P := P) hl2 (by rw [hrc]; simp); rw [hrc] at this; exact this, wpIn_ret ⟨s2, I2, O2, hk2, fin _ hl2 rfl hD2 hS2'⟩⟩

end
end Go.Ab

namespace Go.Ab
section
variable {P : Program} {cfg : Cfg} {N : Nat} {cx : Ctx}

/-- An own row has become immutable. -/
def frzV (o es : Nat) (g : Nat → AV) (v : AV) : AV := match v with
  | .osl o' i n f => match Nat.beq o' o with
    | true => .sl es n f (shiftG i g)
    | false => .osl o' i n f
  | v => v

def frzT (o es : Nat) (g : Nat → AV) : List (Nat × AV) → List (Nat × AV)
  | [] => []
  | (t, v) :: l => (t, frzV o es g v) :: frzT o es g l

def frzSt (o : Nat) (s : St) : St := match hget s.heap o with
  | some (.row es _ g) => ⟨frzT o es g s.tmps, (o, none) :: s.heap, s.nx⟩
  | _ => s

theorem tget_frzT (o es : Nat) (g : Nat → AV) : ∀ (l : List (Nat × AV)) (t : Nat), tget (frzT o es g l) t = frzV o es g (tget l t) := by
  intro l
  induction l with
  | nil => intro t; rfl
  | cons p l ih =>
    intro t
    obtain ⟨k, v⟩ := p
    unfold frzT tget
    simp only [look]
    cases hb : Nat.beq k t with
    | true => rfl
    | false => exact ih t

theorem frz_val {H : Nat → Option AObj} {D : Nat → Prop} {w : World} {I : Nat → Prop} {O : OM} (hR : Rel cfg cx H D w I O) {o es n0 : Nat} {g : Nat → AV} (ho : H o = some (.row es n0 g)) {v : AV} {x : Value} (h : Rep w I O D v x) :
    Rep w (fun b => I b ∨ Blk O [o] b) (kill O [o]) D (frzV o es g v) x := by
  have dflt : Rep w (fun b => I b ∨ Blk O [o] b) (kill O [o]) D v x :=
    h.mono (fun _ h => .inl h) (fun _ _ => rfl) (fun o' _ => by unfold kill; by_cases h0 : o' ∈ [o] <;> simp [h0]) (fun _ h => h) hR.used
  unfold frzV
  split
  · rename_i o' i n f
    split
    · rename_i hb
      have := Nat.eq_of_beq_eq_true hb
      subst this
      have he : EvR (fun _ _ _ _ _ => True) H (pur 1 (.osl o' i n f) (fun u ids => .ret u (dead ids))) (.sl es n f (shiftG i g)) (dead [o']) [o'] := .rd ho (.ret _ _)
      obtain ⟨u, ids, r', h1, h2⟩ := (pur_sound hR 1).1 _ _ _ _ _ he
      have hid : u = .sl es n f (shiftG i g) ∧ dead ids = dead [o'] := by
        have := h1.ret_inv
        exact ⟨this.1.symm, this.2.symm⟩
      have hids : ids = [o'] := by
        have h3 := hid.2
        match ids, h3 with
        | [], h3 => cases h3
        | [a], h3 => simp [dead] at h3; rw [h3]
        | a :: b :: l, h3 => simp [dead] at h3
      rw [hids] at h2
      rw [← hid.1]
      exact .pure (h2 x h)
    · exact dflt
  · exact dflt

theorem frz_sound {m : Nat} {s : St} {a : Act} {w : World} {I : Nat → Prop} {O : OM} (hS : StRel cfg N m cx s a w I O) (o : Nat) : ∃ I' O', StRel cfg N m cx (frzSt o s) a w I' O' := by
  unfold frzSt
  split
  · rename_i es n0 g ho
    obtain ⟨hm, hR, hT, hMk⟩ := hS
    refine ⟨fun b => I b ∨ Blk O [o] b, kill O [o], hm, ?_, ⟨rfl, hT.size, fun t ht => ?_, hT.gone⟩, hMk⟩
    · have hF := hR.freeze [o]
      have e : hget ((o, none) :: s.heap) = updF (hget s.heap) (dead [o]) := by
        funext o'
        rw [updF_dead]
        unfold hget
        simp only [look]
        cases hb : Nat.beq o o' with
        | true => have := Nat.eq_of_beq_eq_true hb; subst this; simp
        | false =>
          have : o' ≠ o := fun e => by subst e; simp at hb
          simp [this]
      show Rel cfg cx (hget ((o, none) :: s.heap)) _ w _ _
      rw [e]
      exact hF
    · show Rep w _ _ _ (tget (frzT o es g s.tmps) t) _
      rw [tget_frzT]
      exact frz_val hR ho (hT.rep t ht)
  · exact ⟨I, O, hS⟩

/-- A cut at which own rows become immutable. -/
theorem cut_freeze (hc : CfgOK P cfg) {r : Option Nat} {m : Nat} {ct ct' : List Nat} {x y : Code} {s : St} {K : Exit → St → Prop} (hokx : codeOK N x = true) (hoky : codeOK N y = true) {α : Type} (st : α → St) (inv : α → Prop)
    (h1 : xcode cfg (Spec P cfg) ct (Loops P cfg N r m) x s (fun e s' => match e with | .normal => ∃ x' ρ o, inv x' ∧ Emb m ρ (frzSt o s') (st x') | e => K e s'))
    (h2 : ∀ x', inv x' → xcode cfg (Spec P cfg) ct' (Loops P cfg N r m) y (st x') K) : Loops P cfg N r m (.seq x y) s K := by
  refine ⟨good_seq ((good_of_x hc x s _ hokx h1).mono ?_)⟩
  intro e s' h
  cases e with
  | normal =>
    obtain ⟨x', ρ, o, h3, h4⟩ := h
    have hg := (good_of_x hc y (st x') K hoky (h2 x' h3)).weaken h4
    exact fun n0 cx a w I O hS hrd => by
      obtain ⟨I', O', hS'⟩ := frz_sound hS o
      exact hg n0 cx a w I' O' hS' hrd
  | _ => exact h

end
end Go.Ab

namespace Go.Ab

theorem LeL.of_spec {l m : List AV} (h1 : l.length = m.length) (h2 : ∀ j, j < l.length → Le (nth l j) (nth m j)) : LeL l m := by
  induction l generalizing m with
  | nil => cases m with
    | nil => trivial
    | cons => simp at h1
  | cons u l ih => cases m with
    | nil => simp at h1
    | cons v m => exact ⟨h2 0 (by simp), ih (by simpa using h1) fun j hj => h2 (j + 1) (by simpa using hj)⟩

theorem embV_le {ρ : List (Nat × Option Nat)} {H' : Ups} {f : Nat} {u v : AV} (h : Le u v) (hp : pureCell v = true) : embV ρ H' (f + 1) u v := by
  cases h with
  | refl =>
    cases u <;> simp only [pureCell] at hp <;> first
      | (cases hp; done)
      | (unfold embV; exact trivial)
      | (unfold embV; exact rfl)
      | (unfold embV; exact ⟨rfl, rfl⟩)
      | (unfold embV; exact ⟨rfl, fun _ => rfl, fun h => h, fun i _ => .refl _⟩)
      | (unfold embV; exact LeL.refl _)
      | (unfold embV; exact ⟨rfl, rfl, rfl, rfl⟩)
  | sl hn he hf h => unfold embV; exact ⟨hn, he, hf, h⟩
  | ro hl h => unfold embV; exact LeL.of_spec hl h
  | agg => cases hp
  | tup => cases hp
  | fn => cases hp

theorem embL_le {ρ : List (Nat × Option Nat)} {H' : Ups} : ∀ (l m : List AV) (f : Nat), l.length + 1 < f → LeL l m → pureCells m = true → embV.embL ρ H' f l m := by
  intro l
  induction l with
  | nil =>
    intro m f hf h _
    cases m with
    | nil => cases f with
      | zero => omega
      | succ f => unfold embV.embL; trivial
    | cons => exact h.elim
  | cons u l ih =>
    intro m f hf h hp
    cases m with
    | nil => exact h.elim
    | cons v m =>
      cases f with
      | zero => omega
      | succ f =>
        cases f with
        | zero => simp at hf
        | succ f =>
          unfold pureCells at hp
          split at hp
          · rename_i hv
            unfold embV.embL
            exact ⟨embV_le h.1 hv, ih m (f + 1) (by simp at hf; omega) h.2 hp⟩
          · cases hp

/-- Pure values serve as weaker ones. -/
theorem embV_leV {ρ : List (Nat × Option Nat)} {H' : Ups} {u v : AV} (h : Le u v) (hp : pureV v = true) (hl : v.cells.length < 50) : embV ρ H' fuel u v := by
  cases v with
  | agg cs' =>
    have key : ∀ cs, LeL cs cs' → embV ρ H' fuel (.agg cs) (.agg cs') := by
      intro cs hcs
      show embV ρ H' (59 + 1) (.agg cs) (.agg cs')
      unfold embV
      have := (leL_spec _ _ hcs).1
      exact embL_le cs cs' 59 (by simp [AV.cells] at hl; omega) hcs hp
    cases h with
    | refl => exact key _ (LeL.refl _)
    | agg hl h => exact key _ (LeL.of_spec hl h)
  | _ => exact embV_le h hp

theorem embO_le {ρ : List (Nat × Option Nat)} {H' : Ups} {x y : AObj} (h : LeO x y) (hp : pureObj y = true) (hl : (match y with | .box cs => cs.length | _ => 0) < 50) : embO ρ H' x y := by
  cases x with
  | held => cases y with
    | box => exact h.elim
    | row => exact h.elim
    | held => cases hp
  | box cs => cases y with
    | row => exact h.elim
    | held => exact h.elim
    | box cs' =>
      have := (leL_spec _ _ h).1
      exact embL_le cs cs' fuel (by simp at hl; show cs.length + 1 < 60; omega) h hp
  | row es n g => cases y with
    | box => exact h.elim
    | held => exact h.elim
    | row es' n' g' => exact h

abbrev iV (n : Int) : AV := .int .i64 n
def rowG {α : Type} (f : α → AV) (d : α) (l : List α) : Nat → AV := fun i => f (l.getD i d)
def intsV (l : List Int) : AV := .sl 1 l.length false (rowG iV 0 l)

def I64 (l : List Int) : Prop := ∀ x ∈ l, InI64 x

theorem I64.get {l : List Int} (h : I64 l) (i : Nat) : InI64 (l.getD i 0) := by
  rw [List.getD_eq_getElem?_getD]
  cases hi : l[i]? with
  | none => exact ⟨by decide, by decide⟩
  | some x => exact h x (List.mem_of_getElem? hi)

structure Tp where
  l : List Int
  pos : Nat

def Tp.ok (t : Tp) : Prop := I64 t.l ∧ t.l.length ≤ 500 ∧ t.pos ≤ t.l.length

def Tp.raw (t : Tp) : Int × Tp := if t.l.length ≤ t.pos then (0, t) else (t.l.getD t.pos 0, ⟨t.l, t.pos + 1⟩)
def modF (x n : Int) : Int := if n < 1 then 0 else x % n
def Tp.n (t : Tp) (n : Int) : Int × Tp := (modF t.raw.1 n, t.raw.2)
def Tp.range (t : Tp) (lo hi : Int) : Int × Tp := (lo + (t.n (hi - lo + 1)).1, (t.n (hi - lo + 1)).2)
def Tp.pick (t : Tp) (l : List Int) : Int × Tp := (l.getD (t.n l.length).1.toNat 0, (t.n l.length).2)

def tapeO (t : Tp) : AObj := .box [intsV t.l, iV t.pos]

theorem tape_emb {ρ : List (Nat × Option Nat)} {H' : Ups} {t : Tp} {p : Int} (h : p = t.pos) : embO ρ H' (.box [.sl 1 t.l.length false (rowG iV 0 t.l), iV p]) (tapeO t) := by
  subst h
  exact embO_le ⟨.refl _, .refl _, trivial⟩ rfl (by simp [tapeO])

theorem Tp.raw_ok {t : Tp} (h : t.ok) : InI64 t.raw.1 ∧ t.raw.2.ok := by
  unfold Tp.raw
  split
  · exact ⟨⟨by simp, by simp⟩, h⟩
  · exact ⟨h.1.get _, h.1, h.2.1, by show t.pos + 1 ≤ t.l.length; omega⟩

theorem Tp.n_ok {t : Tp} (h : t.ok) (n : Int) : (t.n n).2.ok := (Tp.raw_ok h).2

theorem modF_lt (x n : Int) : 0 ≤ modF x n ∧ (0 < n → modF x n < n) ∧ (n ≤ 0 → modF x n = 0) := by
  unfold modF
  split
  · omega
  · have h1 := Int.emod_nonneg x (b := n) (by omega)
    have h2 := Int.emod_lt_of_pos x (b := n) (by omega)
    omega

theorem Tp.n_lt (t : Tp) (n : Int) : 0 ≤ (t.n n).1 ∧ (0 < n → (t.n n).1 < n) ∧ (n ≤ 0 → (t.n n).1 = 0) := modF_lt _ _

theorem drop_cons {α : Type} {l : List α} {i : Nat} (d : α) (h : i < l.length) : l.drop i = l.getD i d :: l.drop (i + 1) := by
  rw [List.getD_eq_getElem?_getD, List.getElem?_eq_getElem h]
  exact List.drop_eq_getElem_cons h

def idxP {α : Type} (p : α → Bool) : List α → Nat → Int
  | [], _ => -1
  | y :: l, i => bif p y then (i : Int) else idxP p l (i + 1)

theorem idxP_t {α : Type} {p : α → Bool} {y : α} {l : List α} {i : Nat} (h : p y = true) : idxP p (y :: l) i = i := by unfold idxP; rw [h]; rfl
theorem idxP_f {α : Type} {p : α → Bool} {y : α} {l : List α} {i : Nat} (h : p y = false) : idxP p (y :: l) i = idxP p l (i + 1) := by rw [idxP, h]; rfl

theorem idxP_any {α : Type} (p : α → Bool) (l : List α) (i : Nat) : decide (0 ≤ idxP p l i) = l.any p := by
  induction l generalizing i with
  | nil => rfl
  | cons y l ih =>
    unfold idxP
    rw [List.any_cons]
    cases p y with
    | true =>
      simp only [cond_true, Bool.true_or]
      exact decide_eq_true (by omega)
    | false => simpa using ih (i + 1)

theorem getD_take {α : Type} (l : List α) (d : α) {i k : Nat} (h : i < k) : (l.take k).getD i d = l.getD i d := by
  rw [List.getD_eq_getElem?_getD, List.getD_eq_getElem?_getD, List.getElem?_take_of_lt h]

theorem getD_drop {α : Type} (l : List α) (d : α) (k i : Nat) : (l.drop k).getD i d = l.getD (k + i) d := by
  rw [List.getD_eq_getElem?_getD, List.getD_eq_getElem?_getD, List.getElem?_drop]

theorem le_row {α : Type} {es n : Nat} {f : Bool} {fv : α → AV} {d : α} {l : List α} {g : Nat → AV} (hn : n = l.length) (h : ∀ i, i < n → g i = fv (l.getD i d)) : Le (.sl es n f g) (.sl es l.length false (rowG fv d l)) :=
  .sl hn (fun _ => rfl) nofun fun i hi => by rw [h i hi]; exact .refl _

theorem le_take {α : Type} {es n k : Nat} {f : Bool} {fv : α → AV} {d : α} {l : List α} (hk : k ≤ l.length) (hn : n = k) : Le (.sl es n f (rowG fv d l)) (.sl es (l.take k).length false (rowG fv d (l.take k))) :=
  le_row (by simp; omega) fun i hi => by rw [getD_take l d (by omega)]; rfl

theorem le_drop {α : Type} {es n k : Nat} {f : Bool} {fv : α → AV} {d : α} {l : List α} {k' : Nat} (hk : k' = k) (hn : n = l.length - k) : Le (.sl es n f (fun j => rowG fv d l (k' + j))) (.sl es (l.drop k).length false (rowG fv d (l.drop k))) :=
  le_row (by simp; omega) fun i hi => by rw [getD_drop l d, hk]; rfl

theorem le_nil {α : Type} {es es' : Nat} {f : Bool} {fv : α → AV} {d : α} {g : Nat → AV} : Le (.sl es 0 f g) (.sl es' ([] : List α).length false (rowG fv d [])) :=
  .sl rfl (fun h => absurd rfl h) nofun fun i hi => absurd hi (Nat.not_lt_zero i)

theorem take_snoc {α : Type} {l : List α} {i : Nat} (d : α) (h : i < l.length) : l.take (i + 1) = l.take i ++ [l.getD i d] := by
  rw [List.getD_eq_getElem?_getD, List.getElem?_eq_getElem h]
  exact List.take_succ_eq_append_getElem h

theorem foldl_take {α β : Type} (f : β → α → β) (a : β) {l : List α} {i : Nat} (d : α) (h : i < l.length) : (l.take (i + 1)).foldl f a = f ((l.take i).foldl f a) (l.getD i d) := by
  rw [take_snoc d h, List.foldl_append]
  rfl

theorem getD_mem {α : Type} {l : List α} {i : Nat} (d : α) (h : i < l.length) : l.getD i d ∈ l := by
  rw [List.getD_eq_getElem?_getD, List.getElem?_eq_getElem h]
  exact List.getElem_mem _

theorem take_len {α : Type} {l : List α} {i : Nat} (h : i ≤ l.length) : (l.take i).length = i := by
  rw [List.length_take, Nat.min_eq_left h]

theorem getD_app_l {α : Type} {l m : List α} {i : Nat} (d : α) (h : i < l.length) : (l ++ m).getD i d = l.getD i d := by
  rw [List.getD_eq_getElem?_getD, List.getD_eq_getElem?_getD, List.getElem?_append_left h]

theorem getD_app_r {α : Type} {l : List α} {x : α} {m : List α} {i : Nat} (d : α) (h : i = l.length) : (l ++ x :: m).getD i d = x := by
  rw [List.getD_eq_getElem?_getD, List.getElem?_append_right (by omega), h]
  simp

theorem getD_out {α : Type} {l : List α} {i : Nat} (d : α) (h : l.length ≤ i) : l.getD i d = d := by
  rw [List.getD_eq_getElem?_getD, List.getElem?_eq_none h]
  rfl

theorem le_app {α : Type} {f : α → AV} {d : α} {l : List α} {x : α} {n : Nat} {h : Nat → AV} (hn : n = l.length) (h0 : Le (h 0) (f x)) : ∀ i, i < n + 1 → Le (appG n (rowG f d l) h i) (rowG f d (l ++ [x]) i) := by
  intro i hi
  by_cases hin : i < n
  · have e1 : appG n (rowG f d l) h i = f (l.getD i d) := by
      have : Nat.blt i n = true := by simpa using hin
      simp [appG, this, rowG]
    have e2 : rowG f d (l ++ [x]) i = f (l.getD i d) := by
      unfold rowG
      rw [getD_app_l d (by omega)]
    rw [e1, e2]
    exact .refl _
  · have hi' : i = n := by omega
    subst hi'
    have e1 : appG i (rowG f d l) h i = h 0 := by
      have : Nat.blt i i = false := blt_false (by omega)
      simp [appG, this]
    have e2 : rowG f d (l ++ [x]) i = f x := by
      unfold rowG
      rw [getD_app_r d hn]
    rw [e1, e2]
    exact h0

theorem leL1 {u v : AV} (h : Le u v) : LeL [u] [v] := ⟨h, trivial⟩

end Go.Ab

namespace Go.Ab


end Go.Ab

/-
  Walks that end in some state: contracts whose results are only known by what holds of them.
-/

namespace Go.Ab
section
variable {P : Program} {cfg : Cfg}

theorem region_ex (hc : CfgOK P cfg) {N : Nat} {r : Option Nat} {m id : Nat} {ct : List Nat} {ops : Array Oper} {draw : Bool} {T : List (Nat × AV)} {H : Ups} {nx : Nat} {K : Exit → St → Prop} {L : Code → St → (Exit → St → Prop) → Prop}
    (h : xcode cfg (Spec P cfg) ct L (.region id ops draw) ⟨T, H, nx⟩ K) (hok : regOK N ops.toList draw = true) :
    ∃ s0, K .normal s0 ∧ Good P cfg N r m (.region id ops draw) ⟨T, H, nx⟩ (fun e s => e = .normal ∧ s = s0) := by
  simp only [xcode] at h
  unfold regOK at hok
  simp only [Bool.and_eq_true, Bool.or_eq_true, Bool.not_eq_true'] at hok
  obtain ⟨hok1, hok2⟩ := hok
  obtain ⟨tr, s, log', q1, q2, q3, q4, q5, q6, q7⟩ := xops_sound hok1 ops.toList 0 T T H [] [] _ (fun _ => true) (fun j => by simp) rfl (fun j d hj => by omega) (fun t => .inr ⟨rfl, rfl⟩) h
  have q3' : K .normal s := by
    cases draw with
    | false => exact q3
    | true =>
      simp only at q3
      split at q3
      · exact q3
      · exact q3.elim
  refine ⟨s, q3', ?_⟩
  intro n0 cx a w I O hS hrd
  obtain ⟨ms, hnd, hrm, hds, hms⟩ := hS.marks
  have hS1 := hS.rel.also (fun D hD => (hms D hD).2)
  let ent : Nat → TE := fun k => tr.getD k ⟨true, .undef, [], []⟩
  have hent : ∀ j e, tr[j]? = some e → ent (0 + j) = e := fun j e he => by show tr.getD (0 + j) _ = e; simp [he]
  have htr : TrI cfg (Spec P cfg) ops.toList nx (tget T) (hget H) ent := fun k o hk => TrI.of_list ops.toList 0 tr (fun j => by simp) hent q1 k o (Nat.zero_le _) hk
  obtain ⟨e1, e2, e3⟩ := end_sel (all := ops.toList) (T0 := tget T) (H0 := hget H) ops.toList 0 tr (fun j => by simp) hent q2
  simp only [Nat.zero_add, Array.length_toList] at e1 e2 e3 q4
  have hfin : ∀ a' w' I' O', Rel cfg (cx.also ms) (Hat ent yes ops.size (hget H)) (fun o => o < nx + ops.size) w' I' O' → TRel N a.defers (Tat ops.toList ent yes ops.size (tget T)) (Vat ops.toList ent yes ops.size) a' w' I' O' (fun o => o < nx + ops.size) →
      ∃ s' I' O', (Exit.normal = .normal ∧ s' = s) ∧ StRel cfg N m cx s' a' w' I' O' := by
    intro a' w' I' O' hR1' hT'
    obtain ⟨hR', hms'⟩ := hR1'.unalso
    have hda : a'.defers = a.defers := hT'.defers
    refine ⟨s, I', O', ⟨rfl, rfl⟩, hS.m, ?_, ?_, ⟨ms, hnd, hrm, hda.trans hds, fun D hD => ⟨(hms D hD).1, hms' D hD⟩⟩⟩
    · rw [q5, q4]
      show Rel cfg cx (endH tr (Hat ent yes 0 (hget H))) _ w' I' O'
      rw [e3]
      exact hR'
    · rw [q4]
      refine ⟨rfl, hT'.size, fun t _ => ?_, fun t h => by cases h⟩
      rcases q6 t with e | ⟨e4, e5⟩
      · rw [e]; exact .pure (.undef _)
      · have e4' : endV ops.toList tr (Vat ops.toList ent yes 0) t = true := e4
        have e5' : tget s.tmps t = endT ops.toList tr (Tat ops.toList ent yes 0 (tget T)) t := e5
        rw [e2] at e4'
        rw [e1] at e5'
        rw [e5']
        exact hT'.rep t e4'
  cases draw with
  | false => exact region_text hc htr hok1 hS1 hS.tmps fun a' w' I' O' hR' hT' => hfin a' w' I' O' hR' hT'
  | true =>
    simp only at q3
    split at q3
    · rename_i hchk
      have hdr : drawOK ops.toList ops.toList 0 = true := by simpa using hok2
      obtain ⟨gs, g1, g2, g3⟩ := logOf_list tr log' [] q7
      rw [List.append_nil] at g2
      have hlen : gs.length = ops.toList.length := by rw [g1, q2]
      rw [g2, ← hlen] at hchk
      have hspec := chk_spec gs hchk
      have hdyn : DynOK ops ent := by
        intro i j hij hj
        have hjg : j < gs.length := by rw [hlen]; simpa using hj
        have hig : i < gs.length := by omega
        have htj : tr[j]? = some (ent j) := by
          have hlt : j < tr.length := by omega
          show tr[j]? = some (tr.getD j _)
          simp [hlt]
        have hti : tr[i]? = some (ent i) := by
          have hlt : i < tr.length := by omega
          show tr[i]? = some (tr.getD i _)
          simp [hlt]
        obtain ⟨a1, a2⟩ := g3 j _ _ htj (List.getElem?_eq_getElem hjg)
        obtain ⟨b1, b2⟩ := g3 i _ _ hti (List.getElem?_eq_getElem hig)
        rcases hspec j _ (List.getElem?_eq_getElem hjg) i _ hij (List.getElem?_eq_getElem hig) with ⟨c1, c2, c3⟩ | hb
        · refine .inr ⟨fun b hw hex hm => meets_false c2 b (b2 b hw) (a1 hex b hm), fun b hw hex hm => meets_false c1 b (a2 b hw) (b1 hex b hm), fun b hw => ?_⟩
          cases hwj : wrH ent j b with
          | false => rfl
          | true => exact absurd (a2 b hwj) (meets_false c3 b (b2 b hw))
        · exact .inl hb
      exact region_draw hc htr hok1 hdr hdyn hS1 hS.tmps fun a' w' I' O' hR' hT' => hfin a' w' I' O' hR' hT'
    · exact q3.elim

/-- It ends, in one state of which 'K' holds. -/
def EndsIn (P : Program) (cfg : Cfg) (N : Nat) (r : Option Nat) (m : Nat) (c : Code) (s : St) (K : Exit → St → Prop) : Prop :=
  ∃ e0 s0, K e0 s0 ∧ Good P cfg N r m c s (fun e s => e = e0 ∧ s = s0)

structure LoopsE (P : Program) (cfg : Cfg) (N : Nat) (r : Option Nat) (m : Nat) (c : Code) (s : St) (K : Exit → St → Prop) : Prop where
  ok : EndsIn P cfg N r m c s K

theorem EndsIn.seq {N : Nat} {r : Option Nat} {m : Nat} {x y : Code} {s : St} {K : Exit → St → Prop} (h : EndsIn P cfg N r m x s fun e s' => match e with | .normal => EndsIn P cfg N r m y s' K | e => K e s') : EndsIn P cfg N r m (.seq x y) s K := by
  obtain ⟨e1, s1, h1, h2⟩ := h
  cases e1 with
  | normal =>
    obtain ⟨e0, s0, h3, h4⟩ := h1
    refine ⟨e0, s0, h3, good_seq (h2.mono fun e s' h => ?_)⟩
    obtain ⟨rfl, rfl⟩ := h
    exact h4
  | _ =>
    refine ⟨_, s1, h1, good_seq (h2.mono fun e s' h => ?_)⟩
    obtain ⟨rfl, rfl⟩ := h
    exact ⟨rfl, rfl⟩

theorem EndsIn.weaken {N : Nat} {r : Option Nat} {m : Nat} {ρ : List (Nat × Option Nat)} {c : Code} {s s' : St} {K : Exit → St → Prop} (h : Emb m ρ s s') (hg : EndsIn P cfg N r m c s' K) : EndsIn P cfg N r m c s K := by
  obtain ⟨e0, s0, h1, h2⟩ := hg
  exact ⟨e0, s0, h1, h2.weaken h⟩

theorem ends_of_x (hc : CfgOK P cfg) {N : Nat} {r : Option Nat} {m : Nat} {ct : List Nat} : ∀ (c : Code) (s : St) (K : Exit → St → Prop), codeOK N c = true → xcode cfg (Spec P cfg) ct (LoopsE P cfg N r m) c s K → EndsIn P cfg N r m c s K := by
  intro c
  induction c with
  | skip => intro s K _ h; exact ⟨.normal, s, h, fun n0 cx a w I O hS _ => wpIn_skip ⟨s, I, O, ⟨rfl, rfl⟩, hS⟩⟩
  | region id ops draw =>
    intro s K hok h
    obtain ⟨T, H, nx⟩ := s
    obtain ⟨s0, h1, h2⟩ := region_ex (r := r) (m := m) hc h hok
    exact ⟨.normal, s0, h1, h2⟩
  | seq x y ihx ihy =>
    intro s K hok h
    simp only [codeOK, Bool.and_eq_true] at hok
    unfold xcode at h
    split at h
    · exact h.ok
    obtain ⟨e1, s1, h1, h2⟩ := ihx s _ hok.1 h
    refine EndsIn.seq ⟨e1, s1, ?_, h2⟩
    cases e1 with
    | normal => exact ihy s1 K hok.2 h1
    | _ => exact h1
  | cond c x y ihx ihy =>
    intro s K hok h
    simp only [codeOK, Bool.and_eq_true] at hok
    simp only [xcode] at h
    split at h
    · rename_i b hb
      cases b with
      | true =>
        obtain ⟨e0, s0, h1, h2⟩ := ihx s K hok.1 h
        exact ⟨e0, s0, h1, good_cond hb (fun _ => h2) (fun e => by cases e)⟩
      | false =>
        obtain ⟨e0, s0, h1, h2⟩ := ihy s K hok.2 h
        exact ⟨e0, s0, h1, good_cond hb (fun e => by cases e) (fun _ => h2)⟩
    · exact h.elim
  | block id x ih =>
    intro s K hok h
    obtain ⟨e1, s1, h1, h2⟩ := ih s _ hok h
    have key : ∀ K', (match e1 with | .exit i => (match Nat.beq i id with | true => K' .normal s1 | false => K' (.exit i) s1) | e => K' e s1) → Good P cfg N r m (.block id x) s K' := fun K' hk => good_block (h2.mono fun e s' h => by
      obtain ⟨rfl, rfl⟩ := h
      exact hk)
    cases e1 with
    | exit i =>
      simp only at h1
      cases hb : Nat.beq i id with
      | true =>
        rw [hb] at h1
        exact ⟨.normal, s1, h1, key _ (by simp only [hb]; exact ⟨trivial, trivial⟩)⟩
      | false =>
        rw [hb] at h1
        exact ⟨.exit i, s1, h1, key _ (by simp only [hb]; exact ⟨trivial, trivial⟩)⟩
    | _ => exact ⟨_, s1, h1, key _ ⟨rfl, rfl⟩⟩
  | loop x ih => intro s K hok h; exact h.ok
  | rangeFunc g ps x y ihx ihy => intro s K hok h; exact h.ok
  | exit id => intro s K _ h; exact ⟨.exit id, s, h, fun n0 cx a w I O hS _ => wpIn_exit ⟨s, I, O, ⟨rfl, rfl⟩, hS⟩⟩
  | ret => intro s K _ h; exact ⟨.ret, s, h, fun n0 cx a w I O hS _ => wpIn_ret ⟨s, I, O, ⟨rfl, rfl⟩, hS⟩⟩
  | _ => intro s K hok h; cases hok

/-- A loop. -/
theorem loops_introE (hc : CfgOK P cfg) {N : Nat} {r : Option Nat} {m : Nat} {ct : List Nat} {c : Code} {s : St} {K : Exit → St → Prop} (hok : codeOK N c = true) {α : Type} (st : α → St) (inv : α → Prop) (μ : α → Nat) (x0 : α) (ρ0 : List (Nat × Option Nat)) (h0 : inv x0) (hE : Emb m ρ0 s (st x0))
    (round : ∀ x, inv x → xcode cfg (Spec P cfg) ct (LoopsE P cfg N r m) c (st x) (fun e s' => match e with | .normal => ∃ x' ρ, inv x' ∧ μ x' < μ x ∧ Emb m ρ s' (st x') | e => K e s')) : LoopsE P cfg N r m (.loop c) s K := by
  have key : ∀ (n : Nat) (x : α), μ x ≤ n → inv x → ∃ e0 s0, K e0 s0 ∧ ∃ M, ∀ (n0 : Nat) (cx : Ctx) (a : Act) (w : World) (I : Nat → Prop) (O : OM), StRel cfg N m cx (st x) a w I O → cx.rd = r.isSome →
      Code.roundsIn (FW r) n0 P c (fun e a' w' => ∃ s' I' O', (e = e0 ∧ s' = s0) ∧ StRel cfg N m cx s' a' w' I' O') M a w := by
    intro n
    induction n with
    | zero =>
      intro x hn hx
      obtain ⟨e1, s1, h1, h2⟩ := ends_of_x hc c (st x) _ hok (round x hx)
      cases e1 with
      | normal => obtain ⟨x', ρ, h3, h4, _⟩ := h1; omega
      | _ => exact ⟨_, s1, h1, 1, fun n0 cx a w I O hS hrd => wpIn_mono (h2 n0 cx a w I O hS hrd) fun e a' w' ⟨s', I', O', h, hS'⟩ => by
          obtain ⟨rfl, rfl⟩ := h
          exact ⟨s', I', O', ⟨rfl, rfl⟩, hS'⟩⟩
    | succ n ih =>
      intro x hn hx
      obtain ⟨e1, s1, h1, h2⟩ := ends_of_x hc c (st x) _ hok (round x hx)
      cases e1 with
      | normal =>
        obtain ⟨x', ρ, h3, h4, h5⟩ := h1
        obtain ⟨e0, s0, h6, M, h7⟩ := ih x' (by omega) h3
        exact ⟨e0, s0, h6, M + 1, fun n0 cx a w I O hS hrd => wpIn_mono (h2 n0 cx a w I O hS hrd) fun e a' w' ⟨s', I', O', h, hS'⟩ => by
          obtain ⟨rfl, rfl⟩ := h
          exact h7 n0 cx a' w' I' _ (emb_sound hS' h5) hrd⟩
      | _ => exact ⟨_, s1, h1, 1, fun n0 cx a w I O hS hrd => wpIn_mono (h2 n0 cx a w I O hS hrd) fun e a' w' ⟨s', I', O', h, hS'⟩ => by
          obtain ⟨rfl, rfl⟩ := h
          exact ⟨s', I', O', ⟨rfl, rfl⟩, hS'⟩⟩
  obtain ⟨e0, s0, h1, M, h2⟩ := key _ x0 (Nat.le_refl _) h0
  exact ⟨EndsIn.weaken hE ⟨e0, s0, h1, fun n0 cx a w I O hS hrd => wpIn_loop_rounds M (h2 n0 cx a w I O hS hrd)⟩⟩

/-- A cut: what holds at it. -/
theorem cut_introE (hc : CfgOK P cfg) {N : Nat} {r : Option Nat} {m : Nat} {ct ct' : List Nat} {x y : Code} {s : St} {K : Exit → St → Prop} (hokx : codeOK N x = true) (hoky : codeOK N y = true) {α : Type} (st : α → St) (inv : α → Prop)
    (h1 : xcode cfg (Spec P cfg) ct (LoopsE P cfg N r m) x s (fun e s' => match e with | .normal => ∃ x' ρ, inv x' ∧ Emb m ρ s' (st x') | e => K e s'))
    (h2 : ∀ x', inv x' → xcode cfg (Spec P cfg) ct' (LoopsE P cfg N r m) y (st x') K) : LoopsE P cfg N r m (.seq x y) s K := by
  obtain ⟨e1, s1, h3, h4⟩ := ends_of_x hc x s _ hokx h1
  refine ⟨EndsIn.seq ⟨e1, s1, ?_, h4⟩⟩
  cases e1 with
  | normal =>
    obtain ⟨x', ρ, h5, h6⟩ := h3
    exact (ends_of_x hc y (st x') K hoky (h2 x' h5)).weaken h6
  | _ => exact h3

/-- A contract with a result of which 'Q' holds. -/
def SpecE (P : Program) (cfg : Cfg) (f : FuncId) (args : List AV) (obs : List AObj) (Q : AV → List AObj → Prop) : Prop := ∃ r obs', Q r obs' ∧ Spec P cfg f args obs r obs'

theorem spec_ex (hc : CfgOK P cfg) {f : FuncId} {fn : Func} {c : Code} {ct : List Nat} {args : List AV} {obs : List AObj} {Q : AV → List AObj → Prop} (hf : P.funcs[f]? = some fn) (hb : fn.body = some c) (hnm : (fn.name == "runtime.NumGoroutine") = false)
    (hN : args.length ≤ fn.ntmps) (hok : codeOK fn.ntmps c = true)
    (h : xcode cfg (Spec P cfg) ct (LoopsE P cfg fn.ntmps none obs.length) c ⟨argsT args 0, RetK.obsUps obs 0, obs.length⟩ (fun e s => ∃ r obs', Q r obs' ∧ obs.length ≤ obs'.length ∧ RetK cfg (Spec P cfg) fn.results.toList obs.length r obs' e s)) : SpecE P cfg f args obs Q := by
  obtain ⟨e0, s0, ⟨r, obs', h1, h2, h3⟩, h4⟩ := ends_of_x hc c _ _ hok h
  refine ⟨r, obs', h1, spec_of_good hc hf hb hnm hN h2 (h4.mono fun e s h => ?_)⟩
  obtain ⟨rfl, rfl⟩ := h
  exact h3

end
end Go.Ab

namespace Go.Ab
section
variable {P : Program} {cfg : Cfg} {N : Nat} {cx : Ctx}

/-! Own rows become immutable, in temporaries and in boxes -/
def frzL (o es : Nat) (g : Nat → AV) : List AV → List AV
  | [] => []
  | v :: l => frzV o es g v :: frzL o es g l

def frzB (o es : Nat) (g : Nat → AV) : Option AObj → Option AObj
  | some (.box cs) => some (.box (frzL o es g cs))
  | x => x

def frzHp (o es : Nat) (g : Nat → AV) : Ups → Ups
  | [] => []
  | (k, x) :: l => (k, frzB o es g x) :: frzHp o es g l

def frzS (o : Nat) (s : St) : St := match hget s.heap o with
  | some (.row es _ g) => ⟨frzT o es g s.tmps, (o, none) :: frzHp o es g s.heap, s.nx⟩
  | _ => s

def frzSs : List Nat → St → St
  | [], s => s
  | o :: l, s => frzSs l (frzS o s)

theorem look_frzHp (o es : Nat) (g : Nat → AV) : ∀ (l : Ups) (k : Nat), look (frzHp o es g l) k = (look l k).map (frzB o es g) := by
  intro l
  induction l with
  | nil => intro k; rfl
  | cons p l ih =>
    intro k
    obtain ⟨j, x⟩ := p
    simp only [frzHp, look]
    cases Nat.beq j k with
    | true => rfl
    | false => exact ih k

theorem hget_frzHp (o es : Nat) (g : Nat → AV) (l : Ups) (k : Nat) : hget (frzHp o es g l) k = frzB o es g (hget l k) := by
  unfold hget
  rw [look_frzHp]
  cases look l k with
  | none => rfl
  | some x => cases x with
    | none => rfl
    | some y => cases y <;> rfl

theorem frzL_len (o es : Nat) (g : Nat → AV) (l : List AV) : (frzL o es g l).length = l.length := by
  induction l with
  | nil => rfl
  | cons v l ih => simp [frzL, ih]

theorem nth_frzL (o es : Nat) (g : Nat → AV) : ∀ (l : List AV) (j : Nat), nth (frzL o es g l) j = frzV o es g (nth l j) := by
  intro l
  induction l with
  | nil => intro j; rfl
  | cons v l ih => intro j; cases j with
    | zero => rfl
    | succ j => exact ih j

theorem frzS_sound {m : Nat} {s : St} {a : Act} {w : World} {I : Nat → Prop} {O : OM} (hS : StRel cfg N m cx s a w I O) (o : Nat) : ∃ I' O', StRel cfg N m cx (frzS o s) a w I' O' := by
  unfold frzS
  split
  · rename_i es n0 g ho
    obtain ⟨hm, hR, hT, hMk⟩ := hS
    refine ⟨fun b => I b ∨ Blk O [o] b, kill O [o], hm, ?_, ⟨rfl, hT.size, fun t ht => ?_, hT.gone⟩, hMk⟩
    · have hF := hR.freeze [o]
      have e : ∀ o', hget ((o, none) :: frzHp o es g s.heap) o' = if o' = o then none else frzB o es g (hget s.heap o') := by
        intro o'
        rw [← hget_frzHp]
        unfold hget
        simp only [look]
        cases hb : Nat.beq o o' with
        | true => have := Nat.eq_of_beq_eq_true hb; subst this; simp
        | false =>
          have : o' ≠ o := fun e => by subst e; simp at hb
          simp [this]
      have e2 : ∀ o', updF (hget s.heap) (dead [o]) o' = if o' = o then none else hget s.heap o' := by
        intro o'
        rw [updF_dead]
        by_cases h : o' = o <;> simp [h]
      refine { hF with
        dom := fun o' => ?_
        objs := fun o' ob p hob hp => ?_ }
      · rw [hF.dom o', e, e2]
        by_cases h : o' = o
        · simp [h]
        · rw [if_neg h, if_neg h]
          cases hget s.heap o' with
          | none => exact Iff.rfl
          | some y => cases y <;> simp [frzB]
      · rw [e] at hob
        by_cases h : o' = o
        · rw [if_pos h] at hob; cases hob
        · rw [if_neg h] at hob
          have hk : kill O [o] o' = O o' := by unfold kill; simp [h]
          rw [hk] at hp
          cases hy : hget s.heap o' with
          | none => rw [hy] at hob; cases hob
          | some y =>
            rw [hy] at hob
            have h2 := hF.objs o' y p (by rw [e2, if_neg h]; exact hy) (by rw [hk]; exact hp)
            cases y with
            | row es' n' g' => cases hob; exact h2
            | held => cases hob; exact h2
            | box cs =>
              cases hob
              obtain ⟨h3, b, bo, sz, h4, h5, h6, h7⟩ := hR.objs o' (.box cs) p hy hp
              refine ⟨h3, b, bo, sz, h4, h5, by rw [frzL_len]; exact h6, fun j hj => ?_⟩
              rw [frzL_len] at hj
              rw [nth_frzL]
              exact frz_val hR ho (h7 j hj)
    · show Rep w _ _ _ (tget (frzT o es g s.tmps) t) _
      rw [tget_frzT]
      exact frz_val hR ho (hT.rep t ht)
  · exact ⟨I, O, hS⟩

theorem frzSs_sound {m : Nat} : ∀ (l : List Nat) {s : St} {a : Act} {w : World} {I : Nat → Prop} {O : OM}, StRel cfg N m cx s a w I O → ∃ I' O', StRel cfg N m cx (frzSs l s) a w I' O' := by
  intro l
  induction l with
  | nil => intro s a w I O h; exact ⟨I, O, h⟩
  | cons o l ih =>
    intro s a w I O h
    obtain ⟨I', O', h'⟩ := frzS_sound h o
    exact ih h'

/-- The state serves as a weaker one, once some own rows have become immutable. -/
def EmbF (m : Nat) (ρ : List (Nat × Option Nat)) (os : List Nat) (s s' : St) : Prop := Emb m ρ (frzSs os s) s'

theorem embF_sound {m : Nat} {ρ : List (Nat × Option Nat)} {os : List Nat} {s s' : St} {a : Act} {w : World} {I : Nat → Prop} {O : OM} (hS : StRel cfg N m cx s a w I O) (h : EmbF m ρ os s s') : ∃ I' O', StRel cfg N m cx s' a w I' O' := by
  obtain ⟨I', O', h'⟩ := frzSs_sound os hS
  exact ⟨I', _, emb_sound h' h⟩

theorem EndsIn.weakenF {r : Option Nat} {m : Nat} {ρ : List (Nat × Option Nat)} {os : List Nat} {c : Code} {s s' : St} {K : Exit → St → Prop} (h : EmbF m ρ os s s') (hg : EndsIn P cfg N r m c s' K) : EndsIn P cfg N r m c s K := by
  obtain ⟨e0, s0, h1, h2⟩ := hg
  refine ⟨e0, s0, h1, fun n0 cx a w I O hS hrd => ?_⟩
  obtain ⟨I', O', h'⟩ := embF_sound hS h
  exact h2 n0 cx a w I' O' h' hrd

/-- A loop at whose rounds' ends own rows may become immutable. -/
theorem loops_introF (hc : CfgOK P cfg) {r : Option Nat} {m : Nat} {ct : List Nat} {c : Code} {s : St} {K : Exit → St → Prop} (hok : codeOK N c = true) {α : Type} (st : α → St) (inv : α → Prop) (μ : α → Nat) (x0 : α) (ρ0 : List (Nat × Option Nat)) (os0 : List Nat) (h0 : inv x0) (hE : EmbF m ρ0 os0 s (st x0))
    (round : ∀ x, inv x → xcode cfg (Spec P cfg) ct (LoopsE P cfg N r m) c (st x) (fun e s' => match e with | .normal => ∃ x' ρ os, inv x' ∧ μ x' < μ x ∧ EmbF m ρ os s' (st x') | e => K e s')) : LoopsE P cfg N r m (.loop c) s K := by
  have key : ∀ (n : Nat) (x : α), μ x ≤ n → inv x → ∃ e0 s0, K e0 s0 ∧ ∃ M, ∀ (n0 : Nat) (cx : Ctx) (a : Act) (w : World) (I : Nat → Prop) (O : OM), StRel cfg N m cx (st x) a w I O → cx.rd = r.isSome →
      Code.roundsIn (FW r) n0 P c (fun e a' w' => ∃ s' I' O', (e = e0 ∧ s' = s0) ∧ StRel cfg N m cx s' a' w' I' O') M a w := by
    intro n
    induction n with
    | zero =>
      intro x hn hx
      obtain ⟨e1, s1, h1, h2⟩ := ends_of_x hc c (st x) _ hok (round x hx)
      cases e1 with
      | normal => obtain ⟨x', ρ, os, h3, h4, _⟩ := h1; omega
      | _ => exact ⟨_, s1, h1, 1, fun n0 cx a w I O hS hrd => wpIn_mono (h2 n0 cx a w I O hS hrd) fun e a' w' ⟨s', I', O', h, hS'⟩ => by
          obtain ⟨rfl, rfl⟩ := h
          exact ⟨s', I', O', ⟨rfl, rfl⟩, hS'⟩⟩
    | succ n ih =>
      intro x hn hx
      obtain ⟨e1, s1, h1, h2⟩ := ends_of_x hc c (st x) _ hok (round x hx)
      cases e1 with
      | normal =>
        obtain ⟨x', ρ, os, h3, h4, h5⟩ := h1
        obtain ⟨e0, s0, h6, M, h7⟩ := ih x' (by omega) h3
        exact ⟨e0, s0, h6, M + 1, fun n0 cx a w I O hS hrd => wpIn_mono (h2 n0 cx a w I O hS hrd) fun e a' w' ⟨s', I', O', h, hS'⟩ => by
          obtain ⟨rfl, rfl⟩ := h
          obtain ⟨I2, O2, h8⟩ := embF_sound hS' h5
          exact h7 n0 cx a' w' I2 O2 h8 hrd⟩
      | _ => exact ⟨_, s1, h1, 1, fun n0 cx a w I O hS hrd => wpIn_mono (h2 n0 cx a w I O hS hrd) fun e a' w' ⟨s', I', O', h, hS'⟩ => by
          obtain ⟨rfl, rfl⟩ := h
          exact ⟨s', I', O', ⟨rfl, rfl⟩, hS'⟩⟩
  obtain ⟨e0, s0, h1, M, h2⟩ := key _ x0 (Nat.le_refl _) h0
  exact ⟨EndsIn.weakenF hE ⟨e0, s0, h1, fun n0 cx a w I O hS hrd => wpIn_loop_rounds M (h2 n0 cx a w I O hS hrd)⟩⟩

/-- A cut at which own rows may become immutable. -/
theorem cut_introF (hc : CfgOK P cfg) {r : Option Nat} {m : Nat} {ct ct' : List Nat} {x y : Code} {s : St} {K : Exit → St → Prop} (hokx : codeOK N x = true) (hoky : codeOK N y = true) {α : Type} (st : α → St) (inv : α → Prop)
    (h1 : xcode cfg (Spec P cfg) ct (LoopsE P cfg N r m) x s (fun e s' => match e with | .normal => ∃ x' ρ os, inv x' ∧ EmbF m ρ os s' (st x') | e => K e s'))
    (h2 : ∀ x', inv x' → xcode cfg (Spec P cfg) ct' (LoopsE P cfg N r m) y (st x') K) : LoopsE P cfg N r m (.seq x y) s K := by
  obtain ⟨e1, s1, h3, h4⟩ := ends_of_x hc x s _ hokx h1
  refine ⟨EndsIn.seq ⟨e1, s1, ?_, h4⟩⟩
  cases e1 with
  | normal =>
    obtain ⟨x', ρ, os, h5, h6⟩ := h3
    exact (ends_of_x hc y (st x') K hoky (h2 x' h5)).weakenF h6
  | _ => exact h3

end
end Go.Ab

namespace Go.Ab

/-- A literal list. -/
theorem le_lit {α : Type} (f : α → AV) (d : α) (l : List α) {es n : Nat} {b : Bool} (hn : n = l.length) : Le (.sl es n b (listG (l.map f))) (.sl es l.length false (rowG f d l)) :=
  .sl hn (fun _ => rfl) nofun fun i hi => by
    subst hn
    show Le (nth (l.map f) i) (f (l.getD i d))
    rw [nth_eq, List.getD_eq_getElem?_getD, List.getElem?_map, List.getD_eq_getElem?_getD, List.getElem?_eq_getElem hi]
    exact .refl _

theorem le_ints (l : List Int) {n : Nat} {b : Bool} (hn : n = l.length) : Le (.sl 1 n b (listG (l.map iV))) (intsV l) := le_lit iV 0 l hn

theorem le_len {α : Type} {es n : Nat} {f : Bool} {fv : α → AV} {d : α} {l : List α} (h : n = l.length) : Le (.sl es n f (rowG fv d l)) (.sl es l.length false (rowG fv d l)) :=
  .sl h (fun _ => rfl) nofun fun _ _ => .refl _

theorem Tp.range_lt (t : Tp) (lo hi : Int) : lo ≤ (t.range lo hi).1 ∧ (lo ≤ hi → (t.range lo hi).1 ≤ hi) ∧ (hi < lo → (t.range lo hi).1 = lo) := by
  have h := Tp.n_lt t (hi - lo + 1)
  have e : (t.range lo hi).1 = lo + (t.n (hi - lo + 1)).1 := rfl
  rw [e]
  omega

theorem Tp.pick_mem (t : Tp) {l : List Int} (hl : l.length ≠ 0) : (t.pick l).1 ∈ l := by
  have h := Tp.n_lt t l.length
  exact getD_mem 0 (by omega)


end Go.Ab

/-
  Rows that are held aside: a slice in a box becomes a value that is known by its place; its row is found again when something is appended to it.
-/

namespace Go.Ab
section
variable {P : Program} {cfg : Cfg} {N : Nat} {cx : Ctx}

theorem hget_cons (k : Nat) (x : Option AObj) (l : Ups) (o : Nat) : hget ((k, x) :: l) o = if o = k then x else hget l o := by
  unfold hget
  simp only [look]
  cases hb : Nat.beq k o with
  | true => have := Nat.eq_of_beq_eq_true hb; subst this; cases x <;> simp
  | false =>
    have : o ≠ k := fun e => by subst e; simp at hb
    simp [this]

def heldS (oc j o q : Nat) (ad : Option Addr) (cap : Nat) (s : St) : St := match hget s.heap oc, hget s.heap o with
  | some (.box cs), some (.row es n g) => ⟨s.tmps, (o, some (.held ad cap es n g)) :: (oc, some (.box (putL j [.raw q ad n cap] cs))) :: s.heap, s.nx⟩
  | _, _ => s

def heldOK (oc j o : Nat) (s : St) : Prop := match hget s.heap oc, hget s.heap o with
  | some (.box cs), some (.row _ n _) => j < cs.length ∧ ∃ f, nth cs j = .osl o 0 n f
  | _, _ => False

theorem heldS_sound {m : Nat} {s : St} {a : Act} {w : World} {I : Nat → Prop} {O : OM} (hS : StRel cfg N m cx s a w I O) {oc j o : Nat} (q : Nat) (h : heldOK oc j o s) : ∃ ad cap, StRel cfg N m cx (heldS oc j o q ad cap s) a w I O := by
  unfold heldOK at h
  split at h
  · rename_i cs es n g hoc ho
    obtain ⟨hj, f, hv⟩ := h
    obtain ⟨hm, hR, hT, hMk⟩ := hS
    obtain ⟨pc, hpc, hn1, b, bo, sz, hpl, hal, hle, hcs⟩ := hR.live hoc
    obtain ⟨p, hp, hO⟩ := hR.live ho
    have hx := hcs j hj
    rw [hv] at hx
    obtain ⟨ad, cap, hx1, hkn, hcap, hfl, hlk⟩ := hx.osl_inv hp
    have hne : o ≠ oc := fun e => by rw [e, hoc] at ho; cases ho
    refine ⟨ad, cap, ?_⟩
    unfold heldS
    rw [hoc, ho]
    refine ⟨hm, ?_, ⟨hT.defers, hT.size, hT.rep, hT.gone⟩, hMk⟩
    refine { hR with
      dom := fun o' => ?_
      objs := fun o' ob p' hob hp' => ?_ }
    · rw [hR.dom o', hget_cons, hget_cons]
      by_cases h1 : o' = o
      · subst h1; simp [ho]
      · rw [if_neg h1]
        by_cases h2 : o' = oc
        · subst h2; simp [hoc]
        · rw [if_neg h2]
    · rw [hget_cons, hget_cons] at hob
      by_cases h1 : o' = o
      · subst h1
        rw [if_pos rfl] at hob
        cases hob
        rw [hp] at hp'
        cases hp'
        refine ⟨hO, hcap, fun h0 => ?_⟩
        obtain ⟨b2, bo2, sz2, e1, e2, e3⟩ := hlk h0
        rw [hO.2.1] at e2 e3
        exact ⟨b2, bo2, sz2, e1, by rw [e2, Nat.zero_mul, Nat.add_zero], by rw [Nat.zero_add] at e3; exact e3⟩
      · rw [if_neg h1] at hob
        by_cases h2 : o' = oc
        · subst h2
          rw [if_pos rfl] at hob
          cases hob
          rw [hpc] at hp'
          cases hp'
          refine ⟨hn1, b, bo, sz, hpl, hal, by rw [putL_length]; exact hle, fun i hi => ?_⟩
          rw [putL_length] at hi
          rw [nth_putL _ _ _ (by simp; omega)]
          by_cases hij : j ≤ i ∧ i < j + 1
          · have : i = j := by omega
            subst this
            rw [if_pos (by simp), Nat.sub_self, hx1]
            exact .pure (.raw _ _ _ _)
          · rw [if_neg (by simpa using hij)]
            exact hcs i hi
        · rw [if_neg h2] at hob
          exact hR.objs o' ob p' hob hp'
  · exact h.elim

def heldAll (oc : Nat) : List (Nat × Nat × Nat) → St → (St → Prop) → Prop
  | [], s, Q => Q s
  | (j, o, q) :: l, s, Q => heldOK oc j o s ∧ ∀ ad cap, heldAll oc l (heldS oc j o q ad cap s) Q

theorem heldAll_sound {m : Nat} {a : Act} {w : World} {I : Nat → Prop} {O : OM} {oc : Nat} {Q : St → Prop} : ∀ (l : List (Nat × Nat × Nat)) (s : St), StRel cfg N m cx s a w I O → heldAll oc l s Q → ∃ s', Q s' ∧ StRel cfg N m cx s' a w I O := by
  intro l
  induction l with
  | nil => intro s hS h; exact ⟨s, h, hS⟩
  | cons x l ih =>
    intro s hS h
    obtain ⟨j, o, q⟩ := x
    obtain ⟨h1, h2⟩ := h
    obtain ⟨ad, cap, h3⟩ := heldS_sound hS q h1
    exact ih _ h3 (h2 ad cap)

/-- A cut at which rows are held aside. -/
theorem cut_held (hc : CfgOK P cfg) {r : Option Nat} {m : Nat} {ct ct' : List Nat} {x y : Code} {s : St} {K : Exit → St → Prop} (hokx : codeOK N x = true) (hoky : codeOK N y = true) {α : Type} (st : α → St) (inv : α → Prop)
    (h1 : xcode cfg (Spec P cfg) ct (Loops P cfg N r m) x s (fun e s' => match e with | .normal => ∃ oc l, heldAll oc l s' (fun s'' => ∃ x' ρ, inv x' ∧ Emb m ρ s'' (st x')) | e => K e s'))
    (h2 : ∀ x', inv x' → xcode cfg (Spec P cfg) ct' (Loops P cfg N r m) y (st x') K) : Loops P cfg N r m (.seq x y) s K := by
  refine ⟨good_seq ((good_of_x hc x s _ hokx h1).mono ?_)⟩
  intro e s' h
  cases e with
  | normal =>
    obtain ⟨oc, l, h⟩ := h
    intro n0 cx a w I O hS hrd
    obtain ⟨s2, ⟨x', ρ, h3, h4⟩, hS2⟩ := heldAll_sound l s' hS h
    exact (good_of_x hc y (st x') K hoky (h2 x' h3)).weaken h4 n0 cx a w I O hS2 hrd
  | _ => exact h

def outS (o r : Nat) (G' : Nat → AV) (s : St) : St := match hget s.heap o, hget s.heap r with
  | some (.held ..), some (.row es' N' _) => ⟨s.tmps, (o, none) :: (r, some (.row es' N' G')) :: s.heap, s.nx⟩
  | _, _ => s

def outOK (o r : Nat) (G' : Nat → AV) (s : St) : Prop := match hget s.heap o, hget s.heap r with
  | some (.held ad cap es n g), some (.row es' N' G) => ∀ i, i < N' → (G' i).cells.length = es' ∧ ∀ j, j < es' → nth (G' i).cells j = nth (G i).cells j ∨ (∃ q, nth (G i).cells j = .raw q ad n cap) ∧ nth (G' i).cells j = .sl es n false g
  | _, _ => False

theorem outS_sound {m : Nat} {s : St} {a : Act} {w : World} {I : Nat → Prop} {O : OM} (hS : StRel cfg N m cx s a w I O) {o r : Nat} {G' : Nat → AV} (h : outOK o r G' s) : ∃ I' O', StRel cfg N m cx (outS o r G' s) a w I' O' := by
  unfold outOK at h
  split at h
  · rename_i ad cap es n g es' N' G ho hr
    obtain ⟨hm, hR, hT, hMk⟩ := hS
    obtain ⟨p, hp, hO, hcap, hlk⟩ := hR.live ho
    obtain ⟨pr, hpr, hOr⟩ := hR.live hr
    have hne : r ≠ o := fun e => by rw [e, ho] at hr; cases hr
    have hF := hR.freeze [o]
    have hI : ∀ b, I b → I b ∨ Blk O [o] b := fun _ h => .inl h
    have hk : ∀ o', kill O [o] o' = if o' = o then none else O o' := fun o' => by unfold kill; by_cases h0 : o' = o <;> simp [h0]
    have hu : PRep w (fun b => I b ∨ Blk O [o] b) (.sl es n false g) (.slice ad n cap) := by
      by_cases hn : n = 0
      · subst hn
        exact .sl 0 0 (fun _ _ => Go.undef) hcap (fun h => by cases h) (fun e => absurd rfl e) (fun i hi => absurd hi (by omega)) (fun i j hi => absurd hi (by omega)) (fun i j hi => absurd hi (by omega)) (fun i j hi => absurd hi (by omega))
      · obtain ⟨b, bo, sz, e1, e2, e3⟩ := hlk (by omega)
        obtain ⟨hpn, hpes, hlen, h6⟩ := hO
        rcases h6 with ⟨_, h6⟩ | ⟨b', bo', sz', h6, hal, hle, hcs⟩
        · rw [e1] at h6; cases h6
        · rw [e1] at h6
          cases h6
          refine .sl b bo (fun k j => cellAt w b (bo + (k * es + j))) hcap (fun h => by cases h) (fun _ => ⟨e2, .inr ⟨o, p, bo, sz, by simp, hp, e1⟩⟩) hlen (fun k j hk hj => ?_) (fun k j hk hj => (hcs k j hk hj).2) (fun k j hk hj => (hcs k j hk hj).1.mono hI fun _ _ => rfl)
          refine cellAt_eq hal ?_
          have : (k + 1) * es ≤ n * es := Nat.mul_le_mul_right _ hk
          rw [Nat.succ_mul] at this
          omega
    unfold outS
    rw [ho, hr]
    refine ⟨fun b => I b ∨ Blk O [o] b, kill O [o], hm, ?_, ⟨hT.defers, hT.size, fun t ht => ?_, hT.gone⟩, hMk⟩
    · refine { hF with
        dom := fun o' => ?_
        objs := fun o' ob p' hob hp' => ?_ }
      · rw [hF.dom o', updF_dead, hget_cons, hget_cons]
        by_cases h1 : o' = o
        · subst h1; simp
        · rw [if_neg (by simpa using h1), if_neg h1]
          by_cases h2 : o' = r
          · subst h2; simp [hr]
          · rw [if_neg h2]
      · rw [hget_cons, hget_cons] at hob
        by_cases h1 : o' = o
        · rw [if_pos h1] at hob; cases hob
        · rw [if_neg h1] at hob
          by_cases h2 : o' = r
          · subst h2
            rw [if_pos rfl] at hob
            cases hob
            rw [hk, if_neg h1] at hp'
            rw [hpr] at hp'
            cases hp'
            obtain ⟨q1, q2, q3, q4⟩ := hOr
            refine ⟨q1, q2, fun i hi => (h i hi).1, ?_⟩
            rcases q4 with q4 | ⟨b, bo, sz, q5, q6, q7, q8⟩
            · exact .inl q4
            · refine .inr ⟨b, bo, sz, q5, q6, q7, fun i j hi hj => ?_⟩
              obtain ⟨q9, q10⟩ := q8 i j hi hj
              rcases (h i hi).2 j hj with e | ⟨⟨q, e⟩, e'⟩
              · rw [e]; exact ⟨q9.mono hI fun _ _ => rfl, q10⟩
              · rw [e] at q9
                rw [e']
                refine ⟨?_, q10⟩
                generalize cellAt w b (bo + (i * es' + j)) = xx at q9
                cases q9
                exact hu
          · rw [if_neg h2] at hob
            exact hF.objs o' ob p' (by rw [updF_dead, if_neg (by simpa using h1)]; exact hob) hp'
    · exact (hT.rep t ht).mono hI (fun _ _ => rfl) (fun o' _ => by rw [hk]; by_cases h0 : o' = o <;> simp [h0]) (fun _ h => h) hR.used
  · exact h.elim

def outAll (r : Nat) : List (Nat × (Nat → AV)) → St → (St → Prop) → Prop
  | [], s, Q => Q s
  | (o, G') :: l, s, Q => outOK o r G' s ∧ outAll r l (outS o r G' s) Q

theorem outAll_sound {m : Nat} {a : Act} {w : World} {r : Nat} {Q : St → Prop} : ∀ (l : List (Nat × (Nat → AV))) (s : St) (I : Nat → Prop) (O : OM), StRel cfg N m cx s a w I O → outAll r l s Q → ∃ s' I' O', Q s' ∧ StRel cfg N m cx s' a w I' O' := by
  intro l
  induction l with
  | nil => intro s I O hS h; exact ⟨s, I, O, h, hS⟩
  | cons x l ih =>
    intro s I O hS h
    obtain ⟨o, G'⟩ := x
    obtain ⟨h1, h2⟩ := h
    obtain ⟨I', O', h3⟩ := outS_sound hS h1
    exact ih _ I' O' h3 h2

/-- A cut at which rows that were held aside become immutable. -/
theorem cut_out (hc : CfgOK P cfg) {rr : Option Nat} {m : Nat} {ct ct' : List Nat} {x y : Code} {s : St} {K : Exit → St → Prop} (hokx : codeOK N x = true) (hoky : codeOK N y = true) {α : Type} (st : α → St) (inv : α → Prop)
    (h1 : xcode cfg (Spec P cfg) ct (Loops P cfg N rr m) x s (fun e s' => match e with | .normal => ∃ r l, outAll r l s' (fun s'' => ∃ x' ρ, inv x' ∧ Emb m ρ s'' (st x')) | e => K e s'))
    (h2 : ∀ x', inv x' → xcode cfg (Spec P cfg) ct' (Loops P cfg N rr m) y (st x') K) : Loops P cfg N rr m (.seq x y) s K := by
  refine ⟨good_seq ((good_of_x hc x s _ hokx h1).mono ?_)⟩
  intro e s' h
  cases e with
  | normal =>
    obtain ⟨r, l, h⟩ := h
    intro n0 cx a w I O hS hrd
    obtain ⟨s2, I', O', ⟨x', ρ, h3, h4⟩, hS2⟩ := outAll_sound l s' I O hS h
    exact (good_of_x hc y (st x') K hoky (h2 x' h3)).weaken h4 n0 cx a w I' O' hS2 hrd
  | _ => exact h

end
end Go.Ab
