/- The layer: an abstract machine over the model's code and the proof that it is sound. -/
import Derived.Test.YtjmhlbogkeohpaaL2
import Derived.OrdersIn
import Derived.Sort.LoopGhostIn
import Derived.Test.YtjmhlbogkeohpaaL0
import Derived.RangeFuncLeaves
import Derived.RangeFuncNested
namespace Go.Ab
section
variable {P : Program} {cfg : Cfg} {cx : Ctx} {N : Nat} {ds : List Deferred}

def wrT (all : List Oper) (k t : Nat) : Bool := match all[k]? with
  | some o => decide (o.dst = some t)
  | none => false
def wrH (ent : Nat → TE) (k o : Nat) : Bool := (look (ent k).ups o).isSome
def gH (ent : Nat → TE) (k o : Nat) : Option AObj := match look (ent k).ups o with
  | some x => x
  | none => none

def Tat (all : List Oper) (ent : Nat → TE) (p : Nat → Bool) (m : Nat) (T0 : Nat → AV) : Nat → AV := sel (wrT all) (fun k _ => (ent k).v) p m T0
def Vat (all : List Oper) (ent : Nat → TE) (p : Nat → Bool) (m : Nat) : Nat → Bool := sel (wrT all) (fun k _ => (ent k).ex) p m (fun _ => true)
def Hat (ent : Nat → TE) (p : Nat → Bool) (m : Nat) (H0 : Nat → Option AObj) : Nat → Option AObj := sel (wrH ent) (gH ent) p m H0

def yes : Nat → Bool := fun _ => true

/-- The course, by numbers. -/
def TrI (cfg : Cfg) (Sp : SpecT) (all : List Oper) (nx : Nat) (T0 : Nat → AV) (H0 : Nat → Option AObj) (ent : Nat → TE) : Prop :=
  ∀ k o, all[k]? = some o → guardSeen all (Tat all ent yes k T0) o ∧ (ent k).ex = guardOn all (Tat all ent yes k T0) (Vat all ent yes k) o ∧
    ((ent k).ex = true → EvR Sp (Hat ent yes k H0) (opPg cfg (nx + k) o.op (rho cfg (Tat all ent yes k T0))) (ent k).v (ent k).ups (ent k).rds) ∧ ((ent k).ex = false → (ent k).ups = [])

theorem upd_sel {α : Type} {all : List Oper} {o : Oper} {k : Nat} (hk : all[k]? = some o) (g : Nat → Nat → α) (p : Nat → Bool) (hp : p k = true) (F : Nat → α) (v : α) (hg : ∀ t, g k t = v) : updO (sel (wrT all) g p k F) o.dst v = sel (wrT all) g p (k + 1) F := by
  funext t
  have hw : wrT all k t = decide (o.dst = some t) := by unfold wrT; rw [hk]
  rw [sel_succ, hp, hg, hw]
  cases hd : o.dst with
  | none => simp [updO]
  | some d =>
    by_cases h : t = d
    · subst h; simp [updO]
    · have : ¬ d = t := fun e => h e.symm
      simp [updO, h, this]

theorem updF_sel {ent : Nat → TE} {k : Nat} (p : Nat → Bool) (hp : p k = true) (H : Nat → Option AObj) : updF (sel (wrH ent) (gH ent) p k H) (ent k).ups = sel (wrH ent) (gH ent) p (k + 1) H := by
  funext o
  have hw : wrH ent k o = (look (ent k).ups o).isSome := rfl
  have hg : gH ent k o = match look (ent k).ups o with | some x => x | none => none := rfl
  rw [sel_succ, hp, hw, hg]
  unfold updF
  cases look (ent k).ups o <;> simp

theorem TrI.of_list {Sp : SpecT} {all : List Oper} {nx : Nat} {T0 : Nat → AV} {H0 : Nat → Option AObj} {ent : Nat → TE} : ∀ (rest : List Oper) (i : Nat) (tr : List TE), (∀ j, rest[j]? = all[i + j]?) → (∀ j e, tr[j]? = some e → ent (i + j) = e) →
    Tr cfg Sp all nx rest i (Tat all ent yes i T0) (Vat all ent yes i) (Hat ent yes i H0) tr → ∀ k o, i ≤ k → all[k]? = some o → guardSeen all (Tat all ent yes k T0) o ∧ (ent k).ex = guardOn all (Tat all ent yes k T0) (Vat all ent yes k) o ∧
    ((ent k).ex = true → EvR Sp (Hat ent yes k H0) (opPg cfg (nx + k) o.op (rho cfg (Tat all ent yes k T0))) (ent k).v (ent k).ups (ent k).rds) ∧ ((ent k).ex = false → (ent k).ups = []) := by
  intro rest
  induction rest with
  | nil =>
    intro i tr hr _ _ k o hik hk
    have := hr (k - i)
    rw [show i + (k - i) = k by omega, hk] at this
    simp at this
  | cons x rest ih =>
    intro i tr hr he h k o hik hk
    cases tr with
    | nil => exact h.elim
    | cons e tr =>
      obtain ⟨h1, h2, h3, h4, h5⟩ := h
      have hx : all[i]? = some x := by simpa using (hr 0).symm
      have he0 : ent i = e := by simpa using he 0 e rfl
      by_cases hki : k = i
      · subst hki
        rw [hx] at hk
        cases hk
        subst he0
        exact ⟨h1, h2, h3, h4⟩
      · subst he0
        have e1 : updO (Tat all ent yes i T0) x.dst (ent i).v = Tat all ent yes (i + 1) T0 := upd_sel hx _ yes rfl T0 _ fun _ => rfl
        have e2 : updO (Vat all ent yes i) x.dst (ent i).ex = Vat all ent yes (i + 1) := upd_sel hx _ yes rfl _ _ fun _ => rfl
        have e3 : updF (Hat ent yes i H0) (ent i).ups = Hat ent yes (i + 1) H0 := updF_sel yes rfl H0
        rw [e1, e2, e3] at h5
        refine ih (i + 1) tr (fun j => ?_) (fun j e' hj => ?_) h5 k o (by omega) hk
        · have := hr (j + 1)
          rw [show i + (j + 1) = i + 1 + j by omega] at this
          simpa using this
        · have := he (j + 1) e' (by simpa using hj)
          rwa [show i + (j + 1) = i + 1 + j by omega] at this

theorem TrI.known {Sp : SpecT} {all : List Oper} {nx : Nat} {T0 : Nat → AV} {H0 : Nat → Option AObj} {ent : Nat → TE} (h : TrI cfg Sp all nx T0 H0 ent) {N : Nat} (hok : okOpsFrom N all all 0 = true) : ∀ k, k ≤ all.length → Known all k (Tat all ent yes k T0) (Vat all ent yes k) (fun i => (ent i).ex) (fun i => (ent i).v) := by
  intro k
  induction k with
  | zero => exact fun _ => ⟨fun i t hi => by omega, fun t _ => rfl, fun i j b hi => by omega⟩
  | succ k ih =>
    intro hk
    have hlt : k < all.length := by omega
    have hx : all[k]? = some all[k] := List.getElem?_eq_getElem hlt
    obtain ⟨h1, h2, _, _⟩ := h k _ hx
    have hop := (okOps_spec all 0 hok k _ hx).1
    rw [Nat.zero_add] at hop
    have := (ih (by omega)).step hx hop (ent k) h2
    have e1 : updO (Tat all ent yes k T0) (all[k]).dst (ent k).v = Tat all ent yes (k + 1) T0 := upd_sel hx _ yes rfl T0 _ fun _ => rfl
    have e2 : updO (Vat all ent yes k) (all[k]).dst (ent k).ex = Vat all ent yes (k + 1) := upd_sel hx _ yes rfl _ _ fun _ => rfl
    rw [e1, e2] at this
    have e4 : (fun i => if i = k then (ent k).ex else (ent i).ex) = fun i => (ent i).ex := by
      funext i
      by_cases hi : i = k <;> simp [hi]
    have e5 : (fun i => if i = k then (ent k).v else (ent i).v) = fun i => (ent i).v := by
      funext i
      by_cases hi : i = k <;> simp [hi]
    rw [e4, e5] at this
    exact this

/-- The numbers of objects given out when the operations of 'p' have been carried out. -/
def Dat (nx m : Nat) (p : Nat → Bool) : Nat → Prop := fun o => o < nx ∨ ∃ k, k < m ∧ p k = true ∧ o = nx + k

theorem Rel.monoD {H : Nat → Option AObj} {D D' : Nat → Prop} {w : World} {I : Nat → Prop} {O : OM} (h : ∀ o, D o → D' o) (hR : Rel cfg cx H D w I O) : Rel cfg cx H D' w I O :=
  { hR with
    used := fun o p hp => h o (hR.used o p hp)
    objs := fun o ob p h1 h2 => (hR.objs o ob p h1 h2).mono (fun _ h => h) (fun _ _ => rfl) (fun _ _ => .inl rfl) h hR.used (fun _ _ _ _ => rfl)
    Dm := fun o ho => h o (hR.Dm o ho) }

theorem TRel.monoD {H : Nat → Option AObj} {D D' : Nat → Prop} {w : World} {I : Nat → Prop} {O : OM} {T : Nat → AV} {V : Nat → Bool} {a : Act} (h : ∀ o, D o → D' o) (hR : Rel cfg cx H D w I O) (hT : TRel N ds T V a w I O D) : TRel N ds T V a w I O D' :=
  ⟨hT.defers, hT.size, fun t ht => (hT.rep t ht).mono (fun _ h => h) (fun _ _ => rfl) (fun _ _ => .inl rfl) h hR.used, hT.gone⟩

theorem valOK_congr {T T' : Nat → AV} {V V' : Nat → Bool} {op : Op} (h : ∀ t, Operand.tmp t ∈ op.operands.toList → T' t = T t ∧ V' t = V t) (hv : valOK T V op) : valOK T' V' op := by
  cases op with
  | pick c x y =>
    obtain ⟨h1, h2, h3⟩ := hv
    have hc : valOK.rhoB T' c = valOK.rhoB T c := by
      cases c with
      | tmp t => simp only [valOK.rhoB]; rw [(h t (by simp [Op.operands])).1]
      | const k => cases k <;> rfl
      | _ => rfl
    refine ⟨fun t e => ?_, fun hb t e => ?_, fun hb t e => ?_⟩
    · rw [(h t (by subst e; simp [Op.operands])).2]; exact h1 t e
    · rw [(h t (by subst e; simp [Op.operands])).2]; rw [hc] at hb; exact h2 hb t e
    · rw [(h t (by subst e; simp [Op.operands])).2]; rw [hc] at hb; exact h3 hb t e
  | _ => exact fun t ht => by rw [(h t ht).2]; exact hv t ht

theorem EvR.congrH {Sp : SpecT} {H H' : Nat → Option AObj} {pg : Pg} {v : AV} {ups : Ups} {r : List Nat} (h : EvR Sp H pg v ups r) : (∀ o, o ∈ r → H' o = H o) → EvR Sp H' pg v ups r := by
  induction h with
  | ret v ups => exact fun _ => .ret v ups
  | need hp _ ih => exact fun hr => .need hp (ih hr)
  | rd ho _ ih => exact fun hr => .rd ((hr _ (by simp)).trans ho) (ih fun o ho => hr o (List.mem_cons_of_mem _ ho))
  | call hs _ ih => exact fun hr => .call hs (ih hr)

theorem opPg_congr {nid : Nat} {op : Op} {ρ ρ' : Operand → AV} (h : ∀ x ∈ op.operands.toList, ρ' x = ρ x) : opPg cfg nid op ρ' = opPg cfg nid op ρ := by
  have pairs : ∀ ps : List (Nat × Operand), (∀ p ∈ ps, ρ' p.2 = ρ p.2) → (ps.map fun p => (p.1, ρ' p.2)) = ps.map fun p => (p.1, ρ p.2) := fun ps hp => List.map_congr_left fun p hm => by rw [hp p hm]
  cases op with
  | move x => simp only [opPg]; rw [h x (by simp [Op.operands])]
  | assign x => simp only [opPg]; rw [h x (by simp [Op.operands])]
  | pick c x y => simp only [opPg]; rw [h x (by simp [Op.operands]), h y (by simp [Op.operands]), h c (by simp [Op.operands])]
  | box t x => simp only [opPg]; rw [h x (by simp [Op.operands])]
  | build t parts => simp only [opPg]; rw [pairs parts.toList fun p hp => h p.2 (by simp only [Op.operands, List.mem_map]; exact ⟨p, hp, rfl⟩)]
  | buildSlice t len parts => simp only [opPg]; rw [pairs parts.toList fun p hp => h p.2 (by simp only [Op.operands, List.mem_map]; exact ⟨p, hp, rfl⟩)]
  | load t x => simp only [opPg]; rw [h x (by simp [Op.operands])]
  | store t x y => simp only [opPg]; rw [h x (by simp [Op.operands]), h y (by simp [Op.operands])]
  | nilCheck x => simp only [opPg]; rw [h x (by simp [Op.operands])]
  | binOp op t x y t' => simp only [opPg]; rw [h x (by simp [Op.operands]), h y (by simp [Op.operands])]
  | unOp op t x => simp only [opPg]; rw [h x (by simp [Op.operands])]
  | convert s d x => simp only [opPg]; rw [h x (by simp [Op.operands])]
  | makeFunc fn first cap =>
    simp only [opPg]
    have : cap.toList.map ρ' = cap.toList.map ρ := List.map_congr_left fun x hx => h x (by simp only [Op.operands, Array.toList_append, List.mem_append]; exact .inr hx)
    rw [this]
  | makeSlice t l c => simp only [opPg]; rw [h l (by simp [Op.operands])]
  | slice t x lo hi mx =>
    have h1 : lo.map ρ' = lo.map ρ := by
      cases lo with
      | none => rfl
      | some y => simp only [Option.map_some]; rw [h y (by simp [Op.operands])]
    have h2 : hi.map ρ' = hi.map ρ := by
      cases hi with
      | none => rfl
      | some y => simp only [Option.map_some]; rw [h y (by simp [Op.operands])]
    have h3 : ∀ k, maxK ρ' hi mx k = maxK ρ hi mx k := fun k => by
      unfold maxK
      cases mx with
      | none => rfl
      | some m => cases hi with
        | none => rfl
        | some y =>
          simp only
          rw [h y (by simp [Op.operands]), h m (by simp [Op.operands])]
    simp only [opPg]
    rw [h x (by simp [Op.operands]), h1, h2, h3]
  | fieldAddr s x f => simp only [opPg]; rw [h x (by simp [Op.operands])]
  | field s x f => simp only [opPg]; rw [h x (by simp [Op.operands])]
  | indexAddr t x ix => simp only [opPg]; rw [h x (by simp [Op.operands]), h ix (by simp [Op.operands])]
  | extract t i => simp only [opPg]; rw [h t (by simp [Op.operands])]
  | call c =>
    have h1 : c.args.toList.map ρ' = c.args.toList.map ρ := List.map_congr_left fun x hx => h x (by simp only [Op.operands, Call.operands, Array.toList_append, List.mem_append]; exact .inr hx)
    simp only [opPg]
    rw [h1]
    cases hc : c.callee with
    | value f => simp only; rw [h f (by simp [Op.operands, Call.operands, hc])]
    | builtin b => cases b <;> rfl
    | invoke x m => rfl
  | _ => rfl

end
end Go.Ab

namespace Go.Ab
section
variable {P : Program} {cfg : Cfg} {cx : Ctx} {N : Nat} {ds : List Deferred}

/-- Every function, any depth; 'r': in a round of a range over a function. -/
def FW (r : Option Nat) : Fence := { Fence.wide with round := r }

theorem callsIn_FW {r : Option Nat} {n : Nat} {f : FuncId} {args : Array Value} {w : World} {R : Ending → World → Prop} (h : Calls P f args w R) : CallsIn (FW r) n P f args w R := (callsIn_wide (n := n)).2 h

theorem rowsIn_FW {r : Option Nat} {n : Nat} {row : String} {args : Array Value} {w : World} {R : Value → World → Prop} (h : Rows P row args w R) : RowsIn (FW r) n P row args w R := by
  intro c cs _
  obtain ⟨v, w', h1, h2⟩ := h c cs
  exact ⟨v, w', h1, stepsIn_wide.2 h2⟩

theorem wpIn_FW {r : Option Nat} {n : Nat} {o : Oper} {a : Act} {w : World} {K : Act → World → Prop} {Q : Exit → Act → World → Prop} (ho : ∀ c, o.op ≠ .defer c) (h : o.wp P a w K Q) : o.wpIn (FW r) n P a w K Q := by
  refine ⟨fun _ _ => trivial, ?_⟩
  rw [Oper.semAt_eq _ _ _ ho]
  unfold Oper.wp at h
  generalize (execOp a.eval o).run P w = res at h
  cases res with
  | ok x w' =>
    cases x with
    | value v => exact h
    | skip => exact h
    | defer d => exact h
    | enter f args => exact ⟨(fun h => by cases h), callsIn_FW h⟩
    | row s args => exact ⟨(fun h => by cases h), rowsIn_FW h⟩
    | _ => exact h.elim
  | halt x w' =>
    cases x with
    | panic v => exact h
    | _ => exact h.elim

/-- One operation, whatever has been carried out before: where it reads what it reads in the order of the text. -/
theorem step_any (hc : CfgOK P cfg) {r : Option Nat} {n0 : Nat} {ops : Array Oper} {nx : Nat} {T0 : Nat → AV} {H0 : Nat → Option AObj} {ent : Nat → TE} (htr : TrI cfg (Spec P cfg) ops.toList nx T0 H0 ent) (hok : okOpsFrom N ops.toList ops.toList 0 = true)
    {p : Nat → Bool} {i : Nat} {o : Oper} (hi : ops[i]? = some o) (hpi : p i = false)
    (hT : ∀ t, t ∈ looks ops.toList o → Tat ops.toList ent p ops.size T0 t = Tat ops.toList ent yes i T0 t ∧ Vat ops.toList ent p ops.size t = Vat ops.toList ent yes i t)
    (hH : (ent i).ex = true → ∀ b, b ∈ (ent i).rds → Hat ent p ops.size H0 b = Hat ent yes i H0 b)
    (hTa : ∀ t, wrT ops.toList i t = true → ∀ k, i < k → p k = true → wrT ops.toList k t = false) (hHa : ∀ b, wrH ent i b = true → ∀ k, i < k → p k = true → wrH ent k b = false)
    {a : Act} {w : World} {I : Nat → Prop} {O : OM} (hR : Rel cfg cx (Hat ent p ops.size H0) (Dat nx ops.size p) w I O) (hTR : TRel N ds (Tat ops.toList ent p ops.size T0) (Vat ops.toList ent p ops.size) a w I O (Dat nx ops.size p))
    {K : Act → World → Prop} {Q : Exit → Act → World → Prop}
    (hK : ∀ a' w' I' O', Rel cfg cx (Hat ent (fun j => p j || decide (j = i)) ops.size H0) (Dat nx ops.size (fun j => p j || decide (j = i))) w' I' O' →
      TRel N ds (Tat ops.toList ent (fun j => p j || decide (j = i)) ops.size T0) (Vat ops.toList ent (fun j => p j || decide (j = i)) ops.size) a' w' I' O' (Dat nx ops.size (fun j => p j || decide (j = i))) → K a' w') :
    wpOpIn (FW r) n0 P ops Q i K a w := by
  have hlt : i < ops.size := (Array.getElem?_eq_some_iff.1 hi).1
  have hil : ops.toList[i]? = some o := by simpa using hi
  obtain ⟨h1, h2, h3, h4⟩ := htr i o hil
  obtain ⟨hop, hdN⟩ := okOps_spec ops.toList 0 hok i o hil
  rw [Nat.zero_add] at hop
  have hKn := htr.known hok i (by simp; omega)
  have hTT : ∀ t, wrT ops.toList i t = decide (o.dst = some t) := fun t => by unfold wrT; rw [hil]
  -- the states behind the operation
  have e1 : Tat ops.toList ent (fun j => p j || decide (j = i)) ops.size T0 = updO (Tat ops.toList ent p ops.size T0) o.dst (ent i).v := by
    funext t
    unfold Tat
    rw [sel_add _ _ p T0 t i (hTa t) ops.size hlt, hTT]
    cases hd : o.dst with
    | none => simp [updO]
    | some d =>
      by_cases h : t = d
      · subst h; simp [updO]
      · have : ¬ d = t := fun e => h e.symm
        simp [updO, h, this]
  have e2 : Vat ops.toList ent (fun j => p j || decide (j = i)) ops.size = updO (Vat ops.toList ent p ops.size) o.dst (ent i).ex := by
    funext t
    unfold Vat
    rw [sel_add _ _ p _ t i (hTa t) ops.size hlt, hTT]
    cases hd : o.dst with
    | none => simp [updO]
    | some d =>
      by_cases h : t = d
      · subst h; simp [updO]
      · have : ¬ d = t := fun e => h e.symm
        simp [updO, h, this]
  have e3 : Hat ent (fun j => p j || decide (j = i)) ops.size H0 = updF (Hat ent p ops.size H0) (ent i).ups := by
    funext b
    unfold Hat
    rw [sel_add _ _ p H0 b i (hHa b) ops.size hlt]
    have hw : wrH ent i b = (look (ent i).ups b).isSome := rfl
    have hg : gH ent i b = match look (ent i).ups b with | some x => x | none => none := rfl
    rw [hw, hg]
    unfold updF
    cases look (ent i).ups b <;> simp
  have hD : ∀ b, insD (Dat nx ops.size p) (nx + i) b → Dat nx ops.size (fun j => p j || decide (j = i)) b := by
    rintro b ((h | ⟨k, q1, q2, q3⟩) | h)
    · exact .inl h
    · exact .inr ⟨k, q1, by simp [q2], q3⟩
    · exact .inr ⟨i, hlt, by simp, h⟩
  have hnD : ¬ Dat nx ops.size p (nx + i) := by
    rintro (h | ⟨k, q1, q2, q3⟩)
    · omega
    · have : k = i := by omega
      subst this
      rw [hpi] at q2
      cases q2
  -- the guard
  have hseen : guardSeen ops.toList (Tat ops.toList ent p ops.size T0) o := by
    unfold guardSeen at h1 ⊢
    cases hg : o.guard with
    | none => trivial
    | some g =>
      obtain ⟨j, b⟩ := g
      rw [hg] at h1
      obtain ⟨d, c, q1, q2⟩ := h1
      refine ⟨d, c, q1, ?_⟩
      rw [(hT d (by unfold looks; rw [hg]; simp [q1])).1]
      exact q2
  have hgon : guardOn ops.toList (Tat ops.toList ent p ops.size T0) (Vat ops.toList ent p ops.size) o = (ent i).ex := by
    rw [h2]
    unfold guardOn
    cases hg : o.guard with
    | none => rfl
    | some g =>
      obtain ⟨j, b⟩ := g
      simp only
      cases hd : dstOf ops.toList j with
      | none => rfl
      | some d =>
        simp only
        obtain ⟨q1, q2⟩ := hT d (by unfold looks; rw [hg]; simp [hd])
        rw [q1, q2]
  unfold wpOpIn
  rw [hi]
  simp only
  rw [wanted_eq hTR o hseen, hgon]
  cases hex : (ent i).ex with
  | true =>
    rw [if_pos rfl]
    have hnd : ∀ c, o.op ≠ .defer c := fun c hc => by
      have := h3 hex
      rw [hc] at this
      exact (EvR.fail_inv this).elim
    refine wpIn_FW hnd ?_
    have hopr : ∀ t, Operand.tmp t ∈ o.op.operands.toList → t ∈ looks ops.toList o := fun t ht => by
      unfold looks
      rw [List.mem_append]
      exact .inl (List.mem_filterMap.2 ⟨.tmp t, ht, rfl⟩)
    have hval : valOK (Tat ops.toList ent p ops.size T0) (Vat ops.toList ent p ops.size) o.op :=
      valOK_congr (fun t ht => hT t (hopr t ht)) (okOp_sound hKn hop (by rw [← h2]; exact hex))
    have hev : EvR (Spec P cfg) (Hat ent p ops.size H0) (opPg cfg (nx + i) o.op (rho cfg (Tat ops.toList ent p ops.size T0))) (ent i).v (ent i).ups (ent i).rds := by
      have hcong : opPg cfg (nx + i) o.op (rho cfg (Tat ops.toList ent p ops.size T0)) = opPg cfg (nx + i) o.op (rho cfg (Tat ops.toList ent yes i T0)) := opPg_congr fun x hx => by
        cases x with
        | tmp t => exact (hT t (hopr t hx)).1
        | _ => rfl
      rw [hcong]
      exact (h3 hex).congrH (hH hex)
    refine step_exec hc hR hTR hnD hval hdN hev fun a' w' I' O' hR' hT' => hK a' w' I' O' ?_ ?_
    · rw [e3]; exact hR'.monoD hD
    · rw [e1, e2, hex]; exact hT'.monoD hD hR'
  | false =>
    rw [if_neg (by simp)]
    have hu := h4 hex
    have hR2 : Rel cfg cx (Hat ent (fun j => p j || decide (j = i)) ops.size H0) (Dat nx ops.size (fun j => p j || decide (j = i))) w I O := by
      rw [e3, hu, updF_nil]
      exact hR.monoD fun b h => hD b (.inl h)
    refine ⟨fun _ _ => trivial, hK _ w I O hR2 ?_⟩
    rw [e1, e2, hex]
    refine TRel.put (hTR.monoD (fun b h => hD b (.inl h)) hR) (fun _ _ h => h) o.dst hdN _ _ false (fun h => by cases h) (fun _ => rfl)

/-- The region in the order of the text. -/
theorem region_text (hc : CfgOK P cfg) {r : Option Nat} {n0 : Nat} {ops : Array Oper} {id nx : Nat} {T0 : Nat → AV} {H0 : Nat → Option AObj} {ent : Nat → TE} (htr : TrI cfg (Spec P cfg) ops.toList nx T0 H0 ent) (hok : okOpsFrom N ops.toList ops.toList 0 = true)
    {a : Act} {w : World} {I : Nat → Prop} {O : OM} (hR : Rel cfg cx H0 (fun o => o < nx) w I O) (hTR : TRel N ds T0 (fun _ => true) a w I O (fun o => o < nx)) {Q : Exit → Act → World → Prop}
    (hQ : ∀ a' w' I' O', Rel cfg cx (Hat ent yes ops.size H0) (fun o => o < nx + ops.size) w' I' O' → TRel N ds (Tat ops.toList ent yes ops.size T0) (Vat ops.toList ent yes ops.size) a' w' I' O' (fun o => o < nx + ops.size) → Q .normal a' w') :
    (Code.region id ops false).wpIn (FW r) n0 P Q a w := by
  refine wpIn_region ?_
  have key : ∀ (n k : Nat), k + n = ops.size → ∀ (a : Act) (w : World) (I : Nat → Prop) (O : OM), Rel cfg cx (Hat ent (fun j => decide (j < k)) ops.size H0) (Dat nx ops.size (fun j => decide (j < k))) w I O →
      TRel N ds (Tat ops.toList ent (fun j => decide (j < k)) ops.size T0) (Vat ops.toList ent (fun j => decide (j < k)) ops.size) a w I O (Dat nx ops.size (fun j => decide (j < k))) → wpOpsIn (FW r) n0 P ops Q (List.range' k n) a w := by
    intro n
    induction n with
    | zero =>
      intro k hk a w I O hR hT
      have hkn : k = ops.size := by omega
      subst hkn
      have e1 : Hat ent (fun j => decide (j < ops.size)) ops.size H0 = Hat ent yes ops.size H0 := funext fun t => sel_below _ _ _ t _ _ (Nat.le_refl _)
      have e2 : Tat ops.toList ent (fun j => decide (j < ops.size)) ops.size T0 = Tat ops.toList ent yes ops.size T0 := funext fun t => sel_below _ _ _ t _ _ (Nat.le_refl _)
      have e3 : Vat ops.toList ent (fun j => decide (j < ops.size)) ops.size = Vat ops.toList ent yes ops.size := funext fun t => sel_below _ _ _ t _ _ (Nat.le_refl _)
      rw [e1] at hR
      rw [e2, e3] at hT
      have hD : ∀ o, Dat nx ops.size (fun j => decide (j < ops.size)) o → o < nx + ops.size := by
        rintro o (h | ⟨k, q1, _, q3⟩) <;> omega
      exact hQ a w I O (hR.monoD hD) (hT.monoD hD hR)
    | succ n ih =>
      intro k hk a w I O hR hT
      have hlt : k < ops.size := by omega
      rw [List.range'_succ, wpOpsIn_cons]
      have hp : (fun j => decide (j < k) || decide (j = k)) = fun j => decide (j < k + 1) := by
        funext j
        by_cases h1 : j < k
        · simp [h1, show j < k + 1 by omega]
        · by_cases h2 : j = k
          · simp [h2]
          · simp [h1, h2, show ¬ j < k + 1 by omega]
      refine step_any hc htr hok (Array.getElem?_eq_getElem hlt) (p := fun j => decide (j < k)) (by simp) (fun t _ => ⟨sel_below _ _ _ t _ _ (by omega), sel_below _ _ _ t _ _ (by omega)⟩) (fun _ b _ => sel_below _ _ _ b _ _ (by omega))
        (fun t _ j hj hpj => by simp at hpj; omega) (fun b _ j hj hpj => by simp at hpj; omega) hR hT fun a' w' I' O' hR' hT' => ?_
      rw [hp] at hR' hT'
      exact ih (k + 1) (by omega) a' w' I' O' hR' hT'
  have e0 : ∀ {α : Type} (wr : Nat → Nat → Bool) (g : Nat → Nat → α) (F : Nat → α), sel wr g (fun j => decide (j < 0)) ops.size F = F := fun wr g F => funext fun t => sel_below wr g F t 0 ops.size (Nat.zero_le _)
  rw [List.range_eq_range']
  refine key ops.size 0 (by omega) a w I O ?_ ?_
  · unfold Hat
    rw [e0]
    exact hR.monoD fun o h => .inl h
  · unfold Tat Vat
    rw [e0, e0]
    exact hTR.monoD (fun o h => .inl h) hR

end
end Go.Ab

namespace Go.Ab
section
variable {P : Program} {cfg : Cfg} {cx : Ctx} {N : Nat} {ds : List Deferred}

/-- What has been carried out is closed under the edges. -/
def Closed (ops : Array Oper) (listed : Array Bool) : Prop := ∀ (j : Nat) (o : Oper), ops[j]? = some o → listed.getD j false = true → ∀ e ∈ o.after, Region.binds .any e = true → listed.getD e.on false = true

theorem before_listed {ops : Array Oper} {listed : Array Bool} (hcl : Closed ops listed) : ∀ (f i j : Nat), before ops.toList f i j = true → (∀ o, ops[j]? = some o → ∀ e ∈ o.after, Region.binds .any e = true → listed.getD e.on false = true) → listed.getD i false = true := by
  intro f
  induction f with
  | zero => intro i j h; cases h
  | succ f ih =>
    intro i j h hj
    unfold before at h
    rw [nthOp_eq] at h
    cases ho : ops[j]? with
    | none => rw [show ops.toList[j]? = none by simpa using ho] at h; cases h
    | some o =>
      rw [show ops.toList[j]? = some o by simpa using ho] at h
      simp only [List.any_eq_true, Bool.and_eq_true, Bool.or_eq_true] at h
      obtain ⟨e, he, ⟨hb, _⟩, h2⟩ := h
      have hl := hj o ho e (by simpa using he) hb
      rcases h2 with h2 | h2
      · rw [← Nat.eq_of_beq_eq_true h2]; exact hl
      · exact ih i e.on h2 fun o' ho' => hcl e.on o' ho' hl

theorem drawOK_spec {all : List Oper} : ∀ (l : List Oper) (i : Nat), drawOK all l i = true → ∀ k o, l[k]? = some o → edgesLt o (i + k) = true ∧ drawFrom all (i + k) o all 0 = true := by
  intro l
  induction l with
  | nil => intro i _ k o h; simp at h
  | cons x l ih =>
    intro i h k o hk
    simp only [drawOK, Bool.and_eq_true] at h
    cases k with
    | zero => simp at hk; subst hk; exact h.1
    | succ k =>
      have := ih (i + 1) h.2 k o (by simpa using hk)
      rwa [Nat.add_assoc, Nat.add_comm 1 k] at this

theorem drawFrom_spec {all : List Oper} {j : Nat} {oj : Oper} : ∀ (l : List Oper) (i : Nat), drawFrom all j oj l i = true → ∀ k o, l[k]? = some o → i + k < j → apartT all o oj = true ∨ before all 40 (i + k) j = true := by
  intro l
  induction l with
  | nil => intro i _ k o h; simp at h
  | cons x l ih =>
    intro i h k o hk hlt
    unfold drawFrom at h
    have hij : Nat.blt i j = true := by simp; omega
    simp only [hij, Bool.and_eq_true, Bool.or_eq_true] at h
    cases k with
    | zero => simp at hk; subst hk; exact h.1
    | succ k =>
      have := ih (i + 1) h.2 k o (by simpa using hk) (by omega)
      rwa [Nat.add_assoc, Nat.add_comm 1 k] at this

theorem memN_true {x : Nat} {l : List Nat} (h : x ∈ l) : memN x l = true := by
  induction l with
  | nil => cases h
  | cons b l ih =>
    unfold memN
    cases hb : Nat.beq x b with
    | true => rfl
    | false =>
      rcases List.mem_cons.1 h with e | e
      · subst e; simp at hb
      · exact ih e

theorem apartT_spec {all : List Oper} {x y : Oper} (h : apartT all x y = true) : (∀ d, x.dst = some d → d ∉ looks all y) ∧ (∀ d, y.dst = some d → d ∉ looks all x) ∧ (∀ d, x.dst = some d → y.dst ≠ some d) := by
  unfold apartT at h
  simp only [Bool.and_eq_true, Bool.not_eq_true'] at h
  obtain ⟨⟨h1, h2⟩, h3⟩ := h
  refine ⟨fun d hd hm => ?_, fun d hd hm => ?_, fun d hd hm => ?_⟩
  · rw [hd] at h1; simp only [isIn] at h1; rw [memN_true hm] at h1; cases h1
  · rw [hd] at h2; simp only [isIn] at h2; rw [memN_true hm] at h2; cases h2
  · rw [hd, hm] at h3; simp [isIn, memN] at h3

theorem filter_less {l : List Nat} {p : Nat → Bool} {i : Nat} (hi : i ∈ l) (hp : p i = true) : (l.filter fun k => p k && !decide (k = i)).length < (l.filter p).length := by
  have le : ∀ l : List Nat, (l.filter fun k => p k && !decide (k = i)).length ≤ (l.filter p).length := by
    intro l
    induction l with
    | nil => exact Nat.le_refl _
    | cons x l ih =>
      rw [List.filter_cons, List.filter_cons]
      cases hx : p x with
      | true =>
        rw [if_pos rfl]
        split
        · simp only [List.length_cons]; omega
        · simp only [List.length_cons]; omega
      | false => simpa using ih
  induction l with
  | nil => cases hi
  | cons x l ih =>
    rw [List.filter_cons, List.filter_cons]
    by_cases hxi : x = i
    · subst hxi
      rw [hp, if_pos rfl, if_neg (by simp)]
      have := le l
      simp only [List.length_cons]
      omega
    · have hil : i ∈ l := by rcases List.mem_cons.1 hi with e | e; exact absurd e.symm hxi; exact e
      have := ih hil
      cases hx : p x with
      | true =>
        rw [if_pos rfl, if_pos (by simp [hxi])]
        simp only [List.length_cons]
        omega
      | false => simpa using this

/-- What is asked of the memory that the operations touch: who is not in order has nothing to do with each other. -/
def DynOK (ops : Array Oper) (ent : Nat → TE) : Prop := ∀ i j, i < j → j < ops.size → before ops.toList 40 i j = true ∨
  ((∀ b, wrH ent i b = true → (ent j).ex = true → b ∉ (ent j).rds) ∧ (∀ b, wrH ent j b = true → (ent i).ex = true → b ∉ (ent i).rds) ∧ (∀ b, wrH ent i b = true → wrH ent j b = false))

theorem region_draw (hc : CfgOK P cfg) {r : Option Nat} {n0 : Nat} {ops : Array Oper} {id nx : Nat} {T0 : Nat → AV} {H0 : Nat → Option AObj} {ent : Nat → TE} (htr : TrI cfg (Spec P cfg) ops.toList nx T0 H0 ent) (hok : okOpsFrom N ops.toList ops.toList 0 = true)
    (hdr : drawOK ops.toList ops.toList 0 = true) (hdyn : DynOK ops ent)
    {a : Act} {w : World} {I : Nat → Prop} {O : OM} (hR : Rel cfg cx H0 (fun o => o < nx) w I O) (hTR : TRel N ds T0 (fun _ => true) a w I O (fun o => o < nx)) {Q : Exit → Act → World → Prop}
    (hQ : ∀ a' w' I' O', Rel cfg cx (Hat ent yes ops.size H0) (fun o => o < nx + ops.size) w' I' O' → TRel N ds (Tat ops.toList ent yes ops.size T0) (Vat ops.toList ent yes ops.size) a' w' I' O' (fun o => o < nx + ops.size) → Q .normal a' w') :
    (Code.region id ops true).wpIn (FW r) n0 P Q a w := by
  refine wpIn_region_any hc.mixed ?_
  have edges : ∀ k o, ops[k]? = some o → ∀ e ∈ o.after, Region.binds .any e = true → e.on < k := by
    intro k o ho e he hb
    obtain ⟨h1, _⟩ := drawOK_spec ops.toList 0 hdr k o (by simpa using ho)
    unfold edgesLt at h1
    rw [Nat.zero_add, List.all_eq_true] at h1
    have := h1 e (by simpa using he)
    simpa [hb] using this
  have tmps : ∀ i j oi oj, i < j → ops[i]? = some oi → ops[j]? = some oj → apartT ops.toList oi oj = true ∨ before ops.toList 40 i j = true := by
    intro i j oi oj hij hi hj
    obtain ⟨_, h2⟩ := drawOK_spec ops.toList 0 hdr j oj (by simpa using hj)
    rw [Nat.zero_add] at h2
    have := drawFrom_spec ops.toList 0 h2 i oi (by simpa using hi) (by omega)
    rwa [Nat.zero_add] at this
  have wrTs : ∀ k t, wrT ops.toList k t = true → ∃ o, ops[k]? = some o ∧ o.dst = some t := by
    intro k t h
    unfold wrT at h
    split at h
    · rename_i o ho
      exact ⟨o, by simpa using ho, by simpa using h⟩
    · cases h
  have key : ∀ (fuel : Nat) (listed : Array Bool) (a : Act) (w : World) (I : Nat → Prop) (O : OM), listed.size = ops.size → Closed ops listed → ((List.range ops.size).filter fun k => !listed.getD k false).length ≤ fuel →
      Rel cfg cx (Hat ent (fun k => listed.getD k false) ops.size H0) (Dat nx ops.size (fun k => listed.getD k false)) w I O →
      TRel N ds (Tat ops.toList ent (fun k => listed.getD k false) ops.size T0) (Vat ops.toList ent (fun k => listed.getD k false) ops.size) a w I O (Dat nx ops.size (fun k => listed.getD k false)) → wpAnyIn (FW r) n0 P .any ops Q fuel listed a w := by
    intro fuel
    have done : ∀ (listed : Array Bool) (a : Act) (w : World) (I : Nat → Prop) (O : OM), (∀ k, k < ops.size → listed.getD k false = true) →
        Rel cfg cx (Hat ent (fun k => listed.getD k false) ops.size H0) (Dat nx ops.size (fun k => listed.getD k false)) w I O →
        TRel N ds (Tat ops.toList ent (fun k => listed.getD k false) ops.size T0) (Vat ops.toList ent (fun k => listed.getD k false) ops.size) a w I O (Dat nx ops.size (fun k => listed.getD k false)) → Q .normal a w := by
      intro listed a w I O hall hR hT
      have e : ∀ {α : Type} (wr : Nat → Nat → Bool) (g : Nat → Nat → α) (F : Nat → α), sel wr g (fun k => listed.getD k false) ops.size F = sel wr g yes ops.size F := fun wr g F => funext fun t => sel_congr wr g _ _ F t _ fun k hk _ => hall k hk
      unfold Hat at hR
      unfold Tat Vat at hT
      rw [e] at hR
      rw [e, e] at hT
      have hD : ∀ o, Dat nx ops.size (fun k => listed.getD k false) o → o < nx + ops.size := by
        rintro o (h | ⟨k, q1, _, q3⟩) <;> omega
      exact hQ a w I O (hR.monoD hD) (hT.monoD hD hR)
    have full : ∀ (listed : Array Bool), listed.size = ops.size → Region.ready .any ops listed = [] → ∀ k, k < ops.size → listed.getD k false = true := by
      intro listed hls hr k
      induction k using Nat.strongRecOn with
      | _ k ih =>
        intro hk
        cases hl : listed.getD k false with
        | true => rfl
        | false =>
          have : k ∈ Region.ready .any ops listed := mem_ready.2 ⟨by
            have hlt : k < listed.size := by omega
            simp [hlt] at hl ⊢; exact hl, ops[k], Array.getElem?_eq_getElem hk, fun e he hb => ih e.on (edges k _ (Array.getElem?_eq_getElem hk) e he hb) (Nat.lt_trans (edges k _ (Array.getElem?_eq_getElem hk) e he hb) hk)⟩
          rw [hr] at this
          cases this
    induction fuel with
    | zero =>
      intro listed a w I O hls hcl hcnt hR hT
      have hall : ∀ k, k < ops.size → listed.getD k false = true := by
        intro k hk
        cases hl : listed.getD k false with
        | true => rfl
        | false =>
          have : k ∈ (List.range ops.size).filter fun k => !listed.getD k false := List.mem_filter.2 ⟨List.mem_range.2 hk, by rw [hl]; rfl⟩
          have := List.length_pos_of_mem this
          omega
      refine ⟨?_, done listed a w I O hall hR hT⟩
      rw [List.eq_nil_iff_forall_not_mem]
      intro k hk
      obtain ⟨h1, o, h2, _⟩ := mem_ready.1 hk
      have hlt : k < ops.size := (Array.getElem?_eq_some_iff.1 h2).1
      have := hall k hlt
      have hlt' : k < listed.size := by omega
      simp [hlt'] at this h1
      rw [this] at h1
      cases h1
    | succ fuel ih =>
      intro listed a w I O hls hcl hcnt hR hT
      refine ⟨fun hr => done listed a w I O (full listed hls hr) hR hT, fun i hi => ?_⟩
      obtain ⟨h1, o, ho, hed⟩ := mem_ready.1 hi
      have hlt : i < ops.size := (Array.getElem?_eq_some_iff.1 ho).1
      have hpi : listed.getD i false = false := by
        have hlt' : i < listed.size := by omega
        simp [hlt'] at h1 ⊢; exact h1
      have hedi : ∀ o', ops[i]? = some o' → ∀ e ∈ o'.after, Region.binds .any e = true → listed.getD e.on false = true := fun o' ho' => by rw [ho] at ho'; cases ho'; exact hed
      have before_i : ∀ k, before ops.toList 40 k i = true → listed.getD k false = true := fun k h => before_listed hcl 40 k i h hedi
      have after_i : ∀ k, before ops.toList 40 i k = true → listed.getD k false = false := fun k h => by
        cases hk : listed.getD k false with
        | false => rfl
        | true =>
          have := before_listed hcl 40 i k h fun o' ho' => hcl k o' ho' hk
          rw [hpi] at this
          cases this
      have hp : (fun j => listed.getD j false || decide (j = i)) = fun j => (listed.setIfInBounds i true).getD j false := by
        funext j
        by_cases hj : j = i
        · subst hj
          have : j < listed.size := by omega
          simp [this]
        · rw [getD_set_ne false (fun e => hj e.symm)]
          simp [hj]
      -- what is read at 't' is what is read in the order of the text
      have eqAt : ∀ {α : Type} (wr : Nat → Nat → Bool) (g : Nat → Nat → α) (F : Nat → α) (t : Nat), (∀ k, k < ops.size → wr k t = true → k ≠ i → before ops.toList 40 (min k i) (max k i) = true) →
          sel wr g (fun j => listed.getD j false) ops.size F t = sel wr g yes i F t := by
        intro α wr g F t h
        refine (sel_congr wr g _ (fun j => decide (j < i)) F t _ fun k hk hw => ?_).trans (sel_below wr g F t i ops.size (by omega))
        by_cases hki : k = i
        · subst hki; simpa using hpi
        · have hb := h k hk hw hki
          rcases Nat.lt_or_gt_of_ne hki with hlt' | hgt
          · rw [Nat.min_eq_left (by omega), Nat.max_eq_right (by omega)] at hb
            rw [before_i k hb]; simp [hlt']
          · rw [Nat.min_eq_right (by omega), Nat.max_eq_left (by omega)] at hb
            rw [after_i k hb]; simp; omega
      refine step_any hc htr hok ho (p := fun j => listed.getD j false) hpi (fun t ht => ?_) (fun hex b hb => ?_) (fun t ht k hik hpk => ?_) (fun b hb k hik hpk => ?_) hR hT fun a' w' I' O' hR' hT' => ?_
      · have cond : ∀ k, k < ops.size → wrT ops.toList k t = true → k ≠ i → before ops.toList 40 (min k i) (max k i) = true := by
          intro k hk hw hki
          obtain ⟨ok, hok', hdk⟩ := wrTs k t hw
          rcases Nat.lt_or_gt_of_ne hki with hlt' | hgt
          · rw [Nat.min_eq_left (by omega), Nat.max_eq_right (by omega)]
            rcases tmps k i ok o hlt' hok' ho with h | h
            · exact absurd ht ((apartT_spec h).1 t hdk)
            · exact h
          · rw [Nat.min_eq_right (by omega), Nat.max_eq_left (by omega)]
            rcases tmps i k o ok hgt ho hok' with h | h
            · exact absurd ht ((apartT_spec h).2.1 t hdk)
            · exact h
        exact ⟨eqAt _ _ _ t cond, eqAt _ _ _ t cond⟩
      · refine eqAt _ _ _ b fun k hk hw hki => ?_
        rcases Nat.lt_or_gt_of_ne hki with hlt' | hgt
        · rw [Nat.min_eq_left (by omega), Nat.max_eq_right (by omega)]
          rcases hdyn k i hlt' hlt with h | h
          · exact h
          · exact absurd hb (h.1 b hw hex)
        · rw [Nat.min_eq_right (by omega), Nat.max_eq_left (by omega)]
          rcases hdyn i k hgt hk with h | h
          · exact h
          · exact absurd hb (h.2.1 b hw hex)
      · cases hw : wrT ops.toList k t with
        | false => rfl
        | true =>
          obtain ⟨oi, hoi, hdi⟩ := wrTs i t ht
          obtain ⟨ok, hok', hdk⟩ := wrTs k t hw
          rcases tmps i k oi ok hik hoi hok' with h | h
          · exact absurd hdk ((apartT_spec h).2.2 t hdi)
          · rw [after_i k h] at hpk; cases hpk
      · by_cases hk : k < ops.size
        · rcases hdyn i k hik hk with h | h
          · rw [after_i k h] at hpk; cases hpk
          · exact h.2.2 b hb
        · have : listed.getD k false = false := by simp [Array.getElem?_eq_none (show listed.size ≤ k by omega)]
          rw [this] at hpk; cases hpk
      · rw [hp] at hR' hT'
        refine ih (listed.setIfInBounds i true) a' w' I' O' (by simp [hls]) ?_ ?_ hR' hT'
        · intro j oj hj hl e he hb
          by_cases hji : j = i
          · subst hji
            rw [ho] at hj
            cases hj
            exact getD_set_true (hed e he hb)
          · rw [getD_set_ne false (fun e => hji e.symm)] at hl
            exact getD_set_true (hcl j oj hj hl e he hb)
        · have hlt' : i < listed.size := by omega
          have := filter_less (l := List.range ops.size) (p := fun k => !listed.getD k false) (i := i) (List.mem_range.2 hlt) (by rw [hpi]; rfl)
          have e2 : ((List.range ops.size).filter fun k => !(listed.setIfInBounds i true).getD k false) = (List.range ops.size).filter fun k => !listed.getD k false && !decide (k = i) := by
            congr 1
            funext k
            rw [← congrFun hp k]
            simp
          rw [e2]
          omega
  have e0 : (fun k => (Array.replicate ops.size false).getD k false) = fun _ => false := by
    funext k
    rcases Nat.lt_or_ge k ops.size with h | h
    · simp [h]
    · simp [h]
  have e1 : ∀ {α : Type} (wr : Nat → Nat → Bool) (g : Nat → Nat → α) (F : Nat → α), sel wr g (fun _ => false) ops.size F = F := fun wr g F => funext fun t => by
    have := sel_below wr g F t 0 ops.size (Nat.zero_le _)
    refine (sel_congr wr g _ (fun j => decide (j < 0)) F t _ fun k _ _ => ?_).trans this
    simp
  refine key ops.size (Array.replicate ops.size false) a { w with drawn := w.drawn + 1 } I O (by simp) ?_ ?_ ?_ ?_
  · intro j o _ h
    rw [congrFun e0 j] at h
    cases h
  · exact Nat.le_trans (List.length_filter_le _ _) (by simp)
  · rw [e0]
    unfold Hat
    rw [e1]
    exact (Rel.heap_eq (w := w) (w' := { w with drawn := w.drawn + 1 }) rfl (SameEnv.heap rfl rfl rfl rfl) hR).monoD fun o h => .inl h
  · rw [e0]
    unfold Tat Vat
    rw [e1, e1]
    have hR1 := Rel.heap_eq (w := w) (w' := { w with drawn := w.drawn + 1 }) rfl (SameEnv.heap rfl rfl rfl rfl) hR
    have : TRel N ds T0 (fun _ => true) a { w with drawn := w.drawn + 1 } I O (fun o => o < nx) := ⟨hTR.defers, hTR.size, fun t ht => Rep.heap_eq (w := w) (w' := { w with drawn := w.drawn + 1 }) rfl hR (hTR.rep t ht), hTR.gone⟩
    exact this.monoD (fun o h => .inl h) hR1

end
end Go.Ab

namespace Go.Ab
section
variable {P : Program} {cfg : Cfg} {cx : Ctx} {N : Nat} {Sp : SpecT}

theorem forceL_eq : ∀ (l : List AV) (K : List AV → Prop), forceL l K ↔ K l := by
  intro l
  induction l with
  | nil => intro K; exact Iff.rfl
  | cons v l ih =>
    intro K
    unfold forceL
    rw [ih]
    cases v <;> exact Iff.rfl

theorem force_eq (v : AV) (K : AV → Prop) : force v K ↔ K v := by
  cases v <;> first | exact Iff.rfl | exact forceL_eq _ _

theorem forceUps_eq : ∀ (l : Ups) (K : Ups → Prop), forceUps l K ↔ K l := by
  intro l
  induction l with
  | nil => intro K; exact Iff.rfl
  | cons u l ih =>
    intro K
    obtain ⟨o, x⟩ := u
    cases x with
    | none => exact ih _
    | some x => cases x with
      | box cs => simp only [forceUps]; rw [forceL_eq]; exact ih _
      | row es n g => exact ih _
      | held => exact ih _

theorem catH_eq (H : Ups) : ∀ (ups : Ups) (K : Ups → Prop), catH ups H K ↔ K (ups ++ H) := by
  intro ups
  induction ups with
  | nil => intro K; exact Iff.rfl
  | cons u l ih => intro K; unfold catH; exact ih _

theorem snocPC_eq (p : PC) : ∀ (l : List PC) (K : List PC → Prop), snocPC l p K ↔ K (l ++ [p]) := by
  intro l
  induction l with
  | nil => intro K; exact Iff.rfl
  | cons q l ih => intro K; unfold snocPC; exact ih _

theorem nthPCK_eq : ∀ (l : List PC) (j : Nat) (K : PC → Prop), nthPCK l j K ↔ K (nthPC l j) := by
  intro l
  induction l with
  | nil => intro j K; exact Iff.rfl
  | cons p l ih => intro j K; cases j with
    | zero => exact Iff.rfl
    | succ j => exact ih j K

def holds (pc : PC) : Prop := ∀ q ∈ pc, q.1 = q.2

theorem impK_elim : ∀ (pc : PC) (p : Prop) (K : Prop → Prop), impK pc p K → ∃ q : Prop, K q ∧ (q → holds pc → p) := by
  intro pc
  induction pc with
  | nil => intro p K h; exact ⟨p, h, fun h _ => h⟩
  | cons x l ih =>
    intro p K h
    obtain ⟨c, b⟩ := x
    obtain ⟨q, h1, h2⟩ := ih _ _ h
    exact ⟨q, h1, fun hq hh => h2 hq (fun y hy => hh y (List.mem_cons_of_mem _ hy)) (hh (c, b) (by simp))⟩

theorem ev_elim (pc : PC) (H : Nat → Option AObj) : ∀ (pg : Pg) (rds : List Nat) (K : AV → Ups → List Nat → Prop), ev Sp pc H pg rds K → ∃ v ups rds', K v ups rds' ∧ (∀ x ∈ rds, x ∈ rds') ∧ (holds pc → ∃ r, EvR Sp H pg v ups r ∧ ∀ x ∈ r, x ∈ rds') := by
  intro pg
  induction pg with
  | ret v ups =>
    intro rds K h
    unfold ev at h
    rw [force_eq, forceUps_eq] at h
    exact ⟨v, ups, rds, h, fun _ h => h, fun _ => ⟨[], .ret v ups, fun x hx => by cases hx⟩⟩
  | need p k ih =>
    intro rds K h
    unfold ev at h
    obtain ⟨q, ⟨h1, h2⟩, h3⟩ := impK_elim pc p _ h
    obtain ⟨v, ups, rds', h4, h5, h6⟩ := ih rds K h2
    refine ⟨v, ups, rds', h4, h5, fun hh => ?_⟩
    obtain ⟨r, h7, h8⟩ := h6 hh
    exact ⟨r, .need (h3 h1 hh) h7, h8⟩
  | rd o k ih =>
    intro rds K h
    unfold ev at h
    split at h
    · rename_i x hx
      obtain ⟨v, ups, rds', h4, h5, h6⟩ := ih x (o :: rds) K h
      refine ⟨v, ups, rds', h4, fun y hy => h5 y (List.mem_cons_of_mem _ hy), fun hh => ?_⟩
      obtain ⟨r, h7, h8⟩ := h6 hh
      refine ⟨o :: r, .rd hx h7, fun y hy => ?_⟩
      rcases List.mem_cons.1 hy with e | e
      · subst e; exact h5 y (by simp)
      · exact h8 y e
    · obtain ⟨q, ⟨h1, h2⟩, h3⟩ := impK_elim pc False _ h
      exact ⟨_, _, rds, h2, fun _ h => h, fun hh => (h3 h1 hh).elim⟩
  | call f args obs k ih =>
    intro rds K h
    unfold ev at h
    obtain ⟨r, obs', h⟩ := h
    obtain ⟨q, ⟨h1, h2⟩, h3⟩ := impK_elim pc _ _ h
    obtain ⟨v, ups, rds', h4, h5, h6⟩ := ih r obs' rds K h2
    refine ⟨v, ups, rds', h4, h5, fun hh => ?_⟩
    obtain ⟨r', h7, h8⟩ := h6 hh
    exact ⟨r', .call (h3 h1 hh) h7, h8⟩
  | fail =>
    intro rds K h
    unfold ev at h
    obtain ⟨q, ⟨h1, h2⟩, h3⟩ := impK_elim pc False _ h
    exact ⟨_, _, rds, h2, fun _ h => h, fun hh => (h3 h1 hh).elim⟩

/-- The end of a course. -/
def endT : List Oper → List TE → (Nat → AV) → Nat → AV
  | o :: rest, e :: tr, T => endT rest tr (updO T o.dst e.v)
  | _, _, T => T
def endV : List Oper → List TE → (Nat → Bool) → Nat → Bool
  | o :: rest, e :: tr, V => endV rest tr (updO V o.dst e.ex)
  | _, _, V => V
def endH : List TE → (Nat → Option AObj) → Nat → Option AObj
  | e :: tr, H => endH tr (updF H e.ups)
  | [], H => H

theorem tget_cons (T : List (Nat × AV)) (d : Nat) (v : AV) : tget ((d, v) :: T) = updO (tget T) (some d) v := by
  funext t
  unfold tget updO
  simp only [look]
  cases hb : Nat.beq d t with
  | true => have := Nat.eq_of_beq_eq_true hb; subst this; simp
  | false => have : t ≠ d := fun e => by subst e; simp at hb
             simp [this]

theorem hget_append (ups H : Ups) : hget (ups ++ H) = updF (hget H) ups := by
  funext o
  unfold hget updF
  rw [look_append]
  cases look ups o with
  | none => rfl
  | some x => cases x <;> rfl

theorem put2_eq (dst : Option Nat) (v u : AV) (T U : List (Nat × AV)) (K : List (Nat × AV) → List (Nat × AV) → Prop) (h : put2 dst v u T U K) : ∃ T' U', K T' U' ∧ tget T' = updO (tget T) dst v ∧ tget U' = updO (tget U) dst u := by
  cases dst with
  | none => exact ⟨T, U, h, rfl, rfl⟩
  | some d => exact ⟨_, _, h, tget_cons T d v, tget_cons U d u⟩

/-- The log of a course, the latest first. -/
def LogOf : List TE → List Log → List Log → Prop
  | [], l, l0 => l = l0
  | e :: tr, l, l0 => ∃ g : Log, (e.ex = true → (∀ x ∈ e.rds, x ∈ g.rds)) ∧ (∀ x, (look e.ups x).isSome = true → x ∈ g.wrs) ∧ LogOf tr l (g :: l0)

theorem ids_spec (ups : Ups) (x : Nat) (h : (look ups x).isSome = true) : x ∈ ids ups := by
  induction ups with
  | nil => cases h
  | cons u l ih =>
    obtain ⟨o, y⟩ := u
    simp only [look] at h
    simp only [ids, List.mem_cons]
    cases hb : Nat.beq o x with
    | true => exact .inl (Nat.eq_of_beq_eq_true hb).symm
    | false => simp only [hb] at h; exact .inr (ih h)

theorem nthPC_snoc (l : List PC) (p : PC) (j : Nat) : nthPC (l ++ [p]) j = if j < l.length then nthPC l j else if j = l.length then p else [] := by
  induction l generalizing j with
  | nil => cases j <;> simp [nthPC]
  | cons q l ih =>
    cases j with
    | zero => simp [nthPC]
    | succ j =>
      simp only [List.cons_append, nthPC, ih, List.length_cons]
      by_cases h1 : j < l.length
      · simp [h1]
      · by_cases h2 : j = l.length
        · simp [h2]
        · simp [h1, h2]

theorem upd_ne {α : Type} (F : Nat → α) (d : Option Nat) (x : α) (t : Nat) (h : d ≠ some t) : updO F d x t = F t := by
  cases d with
  | none => rfl
  | some k =>
    have : t ≠ k := fun e => h (by rw [e])
    simp [updO, this]

theorem upd_eq {α : Type} (F : Nat → α) (t : Nat) (x : α) : updO F (some t) x t = x := by simp [updO]

theorem xops_sound {all : List Oper} {nx : Nat} (hok : okOpsFrom N all all 0 = true) : ∀ (rest : List Oper) (i : Nat) (T U : List (Nat × AV)) (H : Ups) (pcs : List PC) (log : List Log) (K : St → List Log → Prop) (V : Nat → Bool),
    (∀ j, rest[j]? = all[i + j]?) → pcs.length = i → (∀ j d, j < i → writers all d = [j] → (V d = true ↔ holds (nthPC pcs j))) → (∀ t, tget U t = .undef ∨ (V t = true ∧ tget U t = tget T t)) →
    xops cfg Sp all nx rest i T U H pcs log K → ∃ tr s log', Tr cfg Sp all nx rest i (tget T) V (hget H) tr ∧ tr.length = rest.length ∧ K s log' ∧ s.nx = nx + (i + rest.length) ∧ hget s.heap = endH tr (hget H) ∧
      (∀ t, tget s.tmps t = .undef ∨ (endV rest tr V t = true ∧ tget s.tmps t = endT rest tr (tget T) t)) ∧ LogOf tr log' log := by
  intro rest
  induction rest with
  | nil =>
    intro i T U H pcs log K V _ _ _ hU h
    exact ⟨[], _, log, trivial, rfl, h, rfl, rfl, hU, rfl⟩
  | cons o rest ih =>
    intro i T U H pcs log K V hr hpl hpc hU h
    have hi : all[i]? = some o := by simpa using (hr 0).symm
    have hop := (okOps_spec all 0 hok i o hi).1
    rw [Nat.zero_add] at hop
    have hr' : ∀ j, rest[j]? = all[i + 1 + j]? := fun j => by
      have := hr (j + 1)
      rw [show i + (j + 1) = i + 1 + j by omega] at this
      simpa using this
    -- one step, whatever it is
    have go : ∀ (v u : AV) (ups : Ups) (ex : Bool) (r : List Nat) (g : Log) (pc : PC) (T' U' : List (Nat × AV)) (H' : Ups), guardSeen all (tget T) o → ex = guardOn all (tget T) V o → (ex = true → EvR Sp (hget H) (opPg cfg (nx + i) o.op (rho cfg (tget T))) v ups r) → (ex = false → ups = []) →
        tget T' = updO (tget T) o.dst v → tget U' = updO (tget U) o.dst u → hget H' = updF (hget H) ups → (u = .undef ∨ (ex = true ∧ u = v)) → (ex = true ↔ holds pc) → (ex = true → (∀ x ∈ r, x ∈ g.rds)) → (∀ x, (look ups x).isSome = true → x ∈ g.wrs) →
        xops cfg Sp all nx rest (i + 1) T' U' H' (pcs ++ [pc]) (g :: log) K → ∃ tr s log', Tr cfg Sp all nx (o :: rest) i (tget T) V (hget H) tr ∧ tr.length = (o :: rest).length ∧ K s log' ∧ s.nx = nx + (i + (o :: rest).length) ∧ hget s.heap = endH tr (hget H) ∧
          (∀ t, tget s.tmps t = .undef ∨ (endV (o :: rest) tr V t = true ∧ tget s.tmps t = endT (o :: rest) tr (tget T) t)) ∧ LogOf tr log' log := by
      intro v u ups ex r g pc T' U' H' g1 g2 g3 g4 g5 g6 g7 g8 g9 g10 g11 g12
      have hpc' : ∀ j d, j < i + 1 → writers all d = [j] → (updO V o.dst ex d = true ↔ holds (nthPC (pcs ++ [pc]) j)) := by
        intro j d hj hw
        rw [nthPC_snoc, hpl]
        by_cases hji : j = i
        · subst hji
          have : j ∈ writers all d := by rw [hw]; simp
          obtain ⟨o', h1, h2⟩ := (writers_spec all d j).1 this
          rw [hi] at h1
          cases h1
          rw [h2, upd_eq]
          simpa using g9
        · have hne : o.dst ≠ some d := fun e => by
            have : i ∈ writers all d := (writers_spec all d i).2 ⟨o, hi, e⟩
            rw [hw] at this
            simp at this
            omega
          rw [upd_ne _ _ _ _ hne, if_pos (by omega)]
          exact hpc j d (by omega) hw
      have hU' : ∀ t, tget U' t = .undef ∨ (updO V o.dst ex t = true ∧ tget U' t = tget T' t) := by
        intro t
        rw [g5, g6]
        by_cases hd : o.dst = some t
        · rw [hd, upd_eq, upd_eq, upd_eq]
          rcases g8 with e | ⟨e1, e2⟩
          · exact .inl e
          · exact .inr ⟨e1, e2⟩
        · rw [upd_ne _ _ _ _ hd, upd_ne _ _ _ _ hd, upd_ne _ _ _ _ hd]
          exact hU t
      obtain ⟨tr, s, log', q1, q2, q3, q4, q5, q6, q7⟩ := ih (i + 1) T' U' H' (pcs ++ [pc]) (g :: log) K (updO V o.dst ex) hr' (by simp [hpl]) hpc' hU' g12
      rw [g5, g7] at q1
      rw [g7] at q5
      rw [g5] at q6
      exact ⟨⟨ex, v, ups, r⟩ :: tr, s, log', ⟨g1, g2, g3, g4, q1⟩, by simp [q2], q3, by rw [q4]; simp; omega, q5, q6, g, g10, g11, q7⟩
    unfold xops at h
    cases hg : o.guard with
    | none =>
      rw [hg] at h
      simp only at h
      obtain ⟨v, ups, rds', h1, _, h2⟩ := ev_elim _ _ _ _ _ h
      obtain ⟨r, h3, h4⟩ := h2 (fun q hq => by cases hq)
      obtain ⟨T', U', h5, h6, h7⟩ := put2_eq _ _ _ _ _ _ h1
      rw [catH_eq, snocPC_eq] at h5
      have hs : guardSeen all (tget T) o := by unfold guardSeen; rw [hg]; trivial
      have hon : guardOn all (tget T) V o = true := by unfold guardOn; rw [hg]
      exact go v v ups true r _ [] T' U' _ hs hon.symm (fun _ => h3) (fun e => by cases e) h6 h7 (hget_append ups H) (.inr ⟨rfl, rfl⟩) ⟨fun _ q hq => by (cases hq), fun _ => rfl⟩ (fun _ => h4) (fun x hx => ids_spec ups x hx) h5
    | some gu =>
      obtain ⟨j, b⟩ := gu
      rw [hg] at h
      simp only at h
      cases hd : dstOf all j with
      | none => rw [hd] at h; exact h.elim
      | some d =>
        rw [hd] at h
        simp only at h
        cases hT : tget T d with
        | bool c =>
          rw [hT] at h
          simp only at h
          -- the guard's temporary has one writer
          have hjd : j < i ∧ writers all d = [j] := by
            unfold okOp at hop
            rw [hg] at hop
            simp only at hop
            split at hop
            · rename_i h1
              split at h1
              · rename_i hlt
                rw [hd] at h1
                simp only at h1
                split at h1
                · rename_i j' hw
                  have e := Nat.eq_of_beq_eq_true h1
                  subst e
                  exact ⟨by simpa using hlt, hw⟩
                · cases h1
              · cases h1
            · cases hop
          have hVd := hpc j d hjd.1 hjd.2
          have hs : guardSeen all (tget T) o := by unfold guardSeen; rw [hg]; exact ⟨d, c, hd, hT⟩
          have hon : guardOn all (tget T) V o = (V d && (c == b)) := by unfold guardOn; rw [hg]; simp only [hd, hT, isB]
          cases hq : quietOp cfg o.op with
          | true =>
            rw [hq] at h
            simp only at h
            rw [nthPCK_eq] at h
            obtain ⟨v, ups, rds', h1, _, h2⟩ := ev_elim _ _ _ _ _ h
            cases ups with
            | cons u l => exact h1.elim
            | nil =>
              simp only at h1
              obtain ⟨T', U', h5, h6, h7⟩ := put2_eq _ _ _ _ _ _ h1
              rw [snocPC_eq] at h5
              have hiff : guardOn all (tget T) V o = true ↔ holds ((c, b) :: nthPC pcs j) := by
                rw [hon]
                simp only [Bool.and_eq_true, beq_iff_eq, hVd]
                constructor
                · rintro ⟨q1, q2⟩ q hq
                  rcases List.mem_cons.1 hq with e | e
                  · subst e; exact q2
                  · exact q1 q e
                · intro q
                  exact ⟨fun y hy => q y (List.mem_cons_of_mem _ hy), q (c, b) (by simp)⟩
              cases hex : guardOn all (tget T) V o with
              | true =>
                obtain ⟨r, h3, h4⟩ := h2 (hiff.1 hex)
                exact go v .undef [] true r _ _ T' U' H hs hex.symm (fun _ => h3) (fun e => by cases e) h6 h7 (by rw [updF_nil]) (.inl rfl) ⟨fun _ => hiff.1 hex, fun _ => rfl⟩ (fun _ => h4) (fun x hx => by cases hx) h5
              | false =>
                exact go v .undef [] false [] _ _ T' U' H hs hex.symm (fun e => by cases e) (fun _ => rfl) h6 h7 (by rw [updF_nil]) (.inl rfl) (by rw [← hex]; exact hiff) (fun e => by cases e) (fun x hx => by cases hx) h5
          | false =>
            rw [hq] at h
            simp only at h
            split at h
            · rename_i hnil
              have hV : V d = true := hVd.2 (by rw [hnil]; exact fun q hq => by cases hq)
              rw [hV, Bool.true_and] at hon
              cases hcb : (c == b) with
              | true =>
                rw [hcb] at h
                simp only [bcase] at h
                obtain ⟨v, ups, rds', h1, _, h2⟩ := ev_elim _ _ _ _ _ h
                obtain ⟨r, h3, h4⟩ := h2 (fun q hq => by cases hq)
                obtain ⟨T', U', h5, h6, h7⟩ := put2_eq _ _ _ _ _ _ h1
                rw [catH_eq, snocPC_eq] at h5
                exact go v v ups true r _ [] T' U' _ hs (by rw [hon, hcb]) (fun _ => h3) (fun e => by cases e) h6 h7 (hget_append ups H) (.inr ⟨rfl, rfl⟩) ⟨fun _ q hq => by (cases hq), fun _ => rfl⟩ (fun _ => h4) (fun x hx => ids_spec ups x hx) h5
              | false =>
                rw [hcb] at h
                simp only [bcase] at h
                obtain ⟨T', U', h5, h6, h7⟩ := put2_eq _ _ _ _ _ _ h
                rw [snocPC_eq] at h5
                refine go .undef .undef [] false [] _ _ T' U' H hs (by rw [hon, hcb]) (fun e => by cases e) (fun _ => rfl) h6 h7 (by rw [updF_nil]) (.inl rfl) ⟨fun e => by (cases e), fun q => ?_⟩ (fun e => by cases e) (fun x hx => by cases hx) h5
                have := q (c, b) (by simp)
                simp at hcb
                exact absurd this hcb
            · exact h.elim
        | _ => rw [hT] at h; exact h.elim

end
end Go.Ab

namespace Go.Ab
section
variable {P : Program} {cfg : Cfg} {cx : Ctx} {N : Nat}

/-- The mark that a range over a function leaves among the deferred calls. -/
def markOf (D : Nat) : Deferred := { target := .collected D, args := #[] }

def Marks (cx : Ctx) (w : World) (ds : List Deferred) : Prop := ∃ ms : List Nat, ms.Nodup ∧ (cx.rd = true → ms = []) ∧ ds = ms.map markOf ∧ ∀ D ∈ ms, cx.w0.heap.size ≤ D ∧ w.heap[D]? = some (.deferred (some []))

/-- The context with more blocks to be kept. -/
def Ctx.also (cx : Ctx) (ms : List Nat) : Ctx := { cx with K := fun k o => cx.K k o ∨ (k ∈ ms ∧ o = .deferred (some [])) }

theorem Rel.also {H : Nat → Option AObj} {D : Nat → Prop} {w : World} {I : Nat → Prop} {O : OM} (hR : Rel cfg cx H D w I O) {ms : List Nat} (h : ∀ D ∈ ms, w.heap[D]? = some (.deferred (some []))) : Rel cfg (cx.also ms) H D w I O :=
  ⟨hR.dom, hR.used, hR.objs, hR.inj, hR.notI, hR.lt, hR.Ilt, hR.size, hR.frame, hR.new, hR.glob, hR.I0I, hR.II0, hR.O0O, hR.Dm, ⟨hR.env.same, fun k o hk => hk.elim (hR.env.kept k o) fun ⟨h1, h2⟩ => by subst h2; exact ⟨h k h1, rfl⟩⟩⟩

theorem Rel.unalso {H : Nat → Option AObj} {D : Nat → Prop} {w : World} {I : Nat → Prop} {O : OM} {ms : List Nat} (hR : Rel cfg (cx.also ms) H D w I O) : Rel cfg cx H D w I O ∧ ∀ D ∈ ms, w.heap[D]? = some (.deferred (some [])) :=
  ⟨⟨hR.dom, hR.used, hR.objs, hR.inj, hR.notI, hR.lt, hR.Ilt, hR.size, hR.frame, hR.new, hR.glob, hR.I0I, hR.II0, hR.O0O, hR.Dm, ⟨hR.env.same, fun k o hk => hR.env.kept k o (.inl hk)⟩⟩, fun D hD => (hR.env.kept D _ (.inr ⟨hD, rfl⟩)).1⟩

/-- A state of the abstract machine stands for a frame and a world. -/
structure StRel (cfg : Cfg) (N m : Nat) (cx : Ctx) (s : St) (a : Act) (w : World) (I : Nat → Prop) (O : OM) : Prop where
  m : cx.m = m
  rel : Rel cfg cx (hget s.heap) (fun o => o < s.nx) w I O
  tmps : TRel N a.defers (tget s.tmps) (fun _ => true) a w I O (fun o => o < s.nx)
  marks : Marks cx w a.defers

def Good (P : Program) (cfg : Cfg) (N : Nat) (r : Option Nat) (m : Nat) (c : Code) (s : St) (K : Exit → St → Prop) : Prop :=
  ∀ (n : Nat) (cx : Ctx) (a : Act) (w : World) (I : Nat → Prop) (O : OM), StRel cfg N m cx s a w I O → cx.rd = r.isSome → c.wpIn (FW r) n P (fun e a' w' => ∃ s' I' O', K e s' ∧ StRel cfg N m cx s' a' w' I' O') a w

/-- What a loop means, or a sequence that is cut (behind a name). -/
structure Loops (P : Program) (cfg : Cfg) (N : Nat) (r : Option Nat) (m : Nat) (c : Code) (s : St) (K : Exit → St → Prop) : Prop where
  ok : Good P cfg N r m c s K

theorem logOf_list : ∀ (tr : List TE) (l l0 : List Log), LogOf tr l l0 → ∃ gs : List Log, gs.length = tr.length ∧ l = gs.reverse ++ l0 ∧ ∀ (k : Nat) (e : TE) (g : Log), tr[k]? = some e → gs[k]? = some g → (e.ex = true → ∀ x ∈ e.rds, x ∈ g.rds) ∧ ∀ x, (look e.ups x).isSome = true → x ∈ g.wrs := by
  intro tr
  induction tr with
  | nil => intro l l0 h; exact ⟨[], rfl, h, fun k e g h => by simp at h⟩
  | cons e tr ih =>
    intro l l0 h
    obtain ⟨g, h1, h2, h3⟩ := h
    obtain ⟨gs, q1, q2, q3⟩ := ih l (g :: l0) h3
    refine ⟨g :: gs, by simp [q1], by simp [q2], fun k e' g' hk hg => ?_⟩
    cases k with
    | zero => simp at hk hg; subst hk; subst hg; exact ⟨h1, h2⟩
    | succ k => exact q3 k e' g' (by simpa using hk) (by simpa using hg)

theorem meets_false {l m : List Nat} (h : meets l m = false) : ∀ x ∈ l, x ∉ m := by
  induction l with
  | nil => intro x hx; cases hx
  | cons y l ih =>
    intro x hx
    unfold meets at h
    cases hm : memN y m with
    | true => simp [hm] at h
    | false =>
      simp only [hm] at h
      rcases List.mem_cons.1 hx with e | e
      · subst e; exact memN_spec hm
      · exact ih h x e

theorem snocInd {α : Type} {motive : List α → Prop} (nil : motive []) (append_singleton : ∀ l x, motive l → motive (l ++ [x])) : ∀ l, motive l := by
  intro l
  have : ∀ m : List α, motive m.reverse := by
    intro m
    induction m with
    | nil => exact nil
    | cons x m ih => rw [List.reverse_cons]; exact append_singleton _ x ih
  have := this l.reverse
  rwa [List.reverse_reverse] at this

theorem chkOne_spec {all : List Oper} {j : Nat} {x : Log} : ∀ (gs : List Log), chkOne all j x gs.reverse gs.length = true → ∀ i g, gs[i]? = some g → (meets x.wrs g.rds = false ∧ meets g.wrs x.rds = false ∧ meets g.wrs x.wrs = false) ∨ before all 40 i j = true := by
  intro gs
  induction gs using snocInd with
  | nil => intro _ i g h; simp at h
  | append_singleton gs y ih =>
    intro h i g hg
    rw [List.reverse_append, List.length_append] at h
    simp only [List.reverse_cons, List.reverse_nil, List.nil_append, List.cons_append, List.length_cons, List.length_nil, Nat.zero_add] at h
    unfold chkOne at h
    have rest : chkOne all j x gs.reverse gs.length = true := by
      split at h
      · exact h
      · split at h
        · exact h
        · cases h
    by_cases hi : i < gs.length
    · exact ih rest i g (by rwa [List.getElem?_append_left hi] at hg)
    · have hil : i = gs.length := by
        have := (List.getElem?_eq_some_iff.1 hg).1
        simp at this
        omega
      subst hil
      simp at hg
      subst hg
      split at h
      · rename_i e1 e2 e3
        exact .inl ⟨e1, e2, e3⟩
      · split at h
        · rename_i hb; exact .inr hb
        · cases h

theorem chk_spec {all : List Oper} : ∀ (gs : List Log), chk all gs.reverse gs.length = true → ∀ j x, gs[j]? = some x → ∀ i g, i < j → gs[i]? = some g → (meets x.wrs g.rds = false ∧ meets g.wrs x.rds = false ∧ meets g.wrs x.wrs = false) ∨ before all 40 i j = true := by
  intro gs
  induction gs using snocInd with
  | nil => intro _ j x h; simp at h
  | append_singleton gs y ih =>
    intro h j x hx i g hij hg
    rw [List.reverse_append, List.length_append] at h
    simp only [List.reverse_cons, List.reverse_nil, List.nil_append, List.cons_append, List.length_cons, List.length_nil, Nat.zero_add] at h
    unfold chk at h
    split at h
    · rename_i hone
      have hjl : j < (gs ++ [y]).length := (List.getElem?_eq_some_iff.1 hx).1
      simp at hjl
      have hi : i < gs.length := by omega
      have hg' : gs[i]? = some g := by rwa [List.getElem?_append_left hi] at hg
      by_cases hj : j < gs.length
      · exact ih h j x (by rwa [List.getElem?_append_left hj] at hx) i g hij hg'
      · have : j = gs.length := by omega
        subst this
        simp at hx
        subst hx
        exact chkOne_spec gs hone i g hg'
    · cases h

theorem end_sel {all : List Oper} {T0 : Nat → AV} {H0 : Nat → Option AObj} {ent : Nat → TE} : ∀ (rest : List Oper) (i : Nat) (tr : List TE), (∀ j, rest[j]? = all[i + j]?) → (∀ j e, tr[j]? = some e → ent (i + j) = e) → tr.length = rest.length →
    endT rest tr (Tat all ent yes i T0) = Tat all ent yes (i + rest.length) T0 ∧ endV rest tr (Vat all ent yes i) = Vat all ent yes (i + rest.length) ∧ endH tr (Hat ent yes i H0) = Hat ent yes (i + rest.length) H0 := by
  intro rest
  induction rest with
  | nil =>
    intro i tr _ _ hl
    have : tr = [] := List.eq_nil_of_length_eq_zero (by simpa using hl)
    subst this
    exact ⟨rfl, rfl, rfl⟩
  | cons x rest ih =>
    intro i tr hr he hl
    cases tr with
    | nil => simp at hl
    | cons e tr =>
      have hx : all[i]? = some x := by simpa using (hr 0).symm
      have he0 : ent i = e := by simpa using he 0 e rfl
      subst he0
      have e1 : updO (Tat all ent yes i T0) x.dst (ent i).v = Tat all ent yes (i + 1) T0 := upd_sel hx _ yes rfl T0 _ fun _ => rfl
      have e2 : updO (Vat all ent yes i) x.dst (ent i).ex = Vat all ent yes (i + 1) := upd_sel hx _ yes rfl _ _ fun _ => rfl
      have e3 : updF (Hat ent yes i H0) (ent i).ups = Hat ent yes (i + 1) H0 := updF_sel yes rfl H0
      simp only [endT, endV, endH]
      rw [e1, e2, e3]
      have := ih (i + 1) tr (fun j => by
        have := hr (j + 1)
        rw [show i + (j + 1) = i + 1 + j by omega] at this
        simpa using this) (fun j e' hj => by
        have := he (j + 1) e' (by simpa using hj)
        rwa [show i + (j + 1) = i + 1 + j by omega] at this) (by simpa using hl)
      rw [show i + 1 + rest.length = i + (x :: rest).length by simp; omega] at this
      exact this

theorem good_region (hc : CfgOK P cfg) {N : Nat} {r : Option Nat} {m id : Nat} {ct : List Nat} {ops : Array Oper} {draw : Bool} {T : List (Nat × AV)} {H : Ups} {nx : Nat} {K : Exit → St → Prop}
    (h : xcode cfg (Spec P cfg) ct (Loops P cfg N r m) (.region id ops draw) ⟨T, H, nx⟩ K) (hok : regOK N ops.toList draw = true) :
    Good P cfg N r m (.region id ops draw) ⟨T, H, nx⟩ K := by
  intro n0 cx a w I O hS hrd
  obtain ⟨ms, hnd, hrm, hds, hms⟩ := hS.marks
  have hS1 := hS.rel.also (fun D hD => (hms D hD).2)
  simp only [xcode] at h
  unfold regOK at hok
  simp only [Bool.and_eq_true, Bool.or_eq_true, Bool.not_eq_true'] at hok
  obtain ⟨hok1, hok2⟩ := hok
  obtain ⟨tr, s, log', q1, q2, q3, q4, q5, q6, q7⟩ := xops_sound hok1 ops.toList 0 T T H [] [] _ (fun _ => true) (fun j => by simp) rfl (fun j d hj => by omega) (fun t => .inr ⟨rfl, rfl⟩) h
  let ent : Nat → TE := fun k => tr.getD k ⟨true, .undef, [], []⟩
  have hent : ∀ j e, tr[j]? = some e → ent (0 + j) = e := fun j e he => by show tr.getD (0 + j) _ = e; simp [he]
  have htr : TrI cfg (Spec P cfg) ops.toList nx (tget T) (hget H) ent := fun k o hk => TrI.of_list ops.toList 0 tr (fun j => by simp) hent q1 k o (Nat.zero_le _) hk
  obtain ⟨e1, e2, e3⟩ := end_sel (all := ops.toList) (T0 := tget T) (H0 := hget H) ops.toList 0 tr (fun j => by simp) hent q2
  simp only [Nat.zero_add, Array.length_toList] at e1 e2 e3 q4
  have hfin : ∀ a' w' I' O', K .normal s → Rel cfg (cx.also ms) (Hat ent yes ops.size (hget H)) (fun o => o < nx + ops.size) w' I' O' → TRel N a.defers (Tat ops.toList ent yes ops.size (tget T)) (Vat ops.toList ent yes ops.size) a' w' I' O' (fun o => o < nx + ops.size) →
      ∃ s' I' O', K .normal s' ∧ StRel cfg N m cx s' a' w' I' O' := by
    intro a' w' I' O' hK hR1' hT'
    obtain ⟨hR', hms'⟩ := hR1'.unalso
    have hda : a'.defers = a.defers := hT'.defers
    refine ⟨s, I', O', hK, hS.m, ?_, ?_, ⟨ms, hnd, hrm, hda.trans hds, fun D hD => ⟨(hms D hD).1, hms' D hD⟩⟩⟩
    · rw [q5, q4]
      show Rel cfg cx (endH tr (Hat ent yes 0 (hget H))) _ w' I' O'
      rw [e3]
      exact hR'
    · rw [q4]
      refine ⟨rfl, hT'.size, fun t _ => ?_, fun t h => by cases h⟩
      rcases q6 t with e | ⟨e4, e5⟩
      · rw [e]; exact .pure (.undef _)
      · have e4' : endV ops.toList tr (Vat ops.toList ent yes 0) t = true := e4
        have e5' : tget s.tmps t = endT ops.toList tr (Tat ops.toList ent yes 0 (tget T)) t := e5
        rw [e2] at e4'
        rw [e1] at e5'
        rw [e5']
        exact hT'.rep t e4'
  cases draw with
  | false =>
    simp only at q3
    exact region_text hc htr hok1 hS1 hS.tmps fun a' w' I' O' hR' hT' => hfin a' w' I' O' q3 hR' hT'
  | true =>
    simp only at q3
    split at q3
    · rename_i hchk
      have hdr : drawOK ops.toList ops.toList 0 = true := by simpa using hok2
      obtain ⟨gs, g1, g2, g3⟩ := logOf_list tr log' [] q7
      rw [List.append_nil] at g2
      have hlen : gs.length = ops.toList.length := by rw [g1, q2]
      rw [g2, ← hlen] at hchk
      have hspec := chk_spec gs hchk
      have hdyn : DynOK ops ent := by
        intro i j hij hj
        have hjg : j < gs.length := by rw [hlen]; simpa using hj
        have hig : i < gs.length := by omega
        have htj : tr[j]? = some (ent j) := by
          have hlt : j < tr.length := by omega
          show tr[j]? = some (tr.getD j _)
          simp [hlt]
        have hti : tr[i]? = some (ent i) := by
          have hlt : i < tr.length := by omega
          show tr[i]? = some (tr.getD i _)
          simp [hlt]
        obtain ⟨a1, a2⟩ := g3 j _ _ htj (List.getElem?_eq_getElem hjg)
        obtain ⟨b1, b2⟩ := g3 i _ _ hti (List.getElem?_eq_getElem hig)
        rcases hspec j _ (List.getElem?_eq_getElem hjg) i _ hij (List.getElem?_eq_getElem hig) with ⟨c1, c2, c3⟩ | hb
        · refine .inr ⟨fun b hw hex hm => meets_false c2 b (b2 b hw) (a1 hex b hm), fun b hw hex hm => meets_false c1 b (a2 b hw) (b1 hex b hm), fun b hw => ?_⟩
          cases hwj : wrH ent j b with
          | false => rfl
          | true => exact absurd (a2 b hwj) (meets_false c3 b (b2 b hw))
        · exact .inl hb
      exact region_draw hc htr hok1 hdr hdyn hS1 hS.tmps fun a' w' I' O' hR' hT' => hfin a' w' I' O' q3 hR' hT'
    · exact q3.elim

theorem Good.mono {N : Nat} {r : Option Nat} {m : Nat} {c : Code} {s : St} {K K' : Exit → St → Prop} (h : Good P cfg N r m c s K) (hk : ∀ e s, K e s → K' e s) : Good P cfg N r m c s K' := fun n0 cx a w I O hS hrd =>
  wpIn_mono (h n0 cx a w I O hS hrd) fun e _ _ ⟨s', I', O', h1, h2⟩ => ⟨s', I', O', hk e s' h1, h2⟩

theorem good_seq {N : Nat} {r : Option Nat} {m : Nat} {x y : Code} {s : St} {K : Exit → St → Prop} (h : Good P cfg N r m x s fun e s' => match e with | .normal => Good P cfg N r m y s' K | e => K e s') : Good P cfg N r m (.seq x y) s K := by
  intro n0 cx a w I O hS hrd
  refine wpIn_seq (wpIn_mono (h n0 cx a w I O hS hrd) ?_)
  intro e a' w' ⟨s', I', O', h1, h2⟩
  cases e with
  | normal => exact h1 n0 cx a' w' I' O' h2 hrd
  | exit id => exact ⟨s', I', O', h1, h2⟩
  | goto l => exact ⟨s', I', O', h1, h2⟩
  | ret => exact ⟨s', I', O', h1, h2⟩
  | panic ch => exact ⟨s', I', O', h1, h2⟩
  | outgrown => exact ⟨s', I', O', h1, h2⟩

theorem good_block {N : Nat} {r : Option Nat} {m id : Nat} {x : Code} {s : St} {K : Exit → St → Prop} (h : Good P cfg N r m x s fun e s' => match e with | .exit i => (match Nat.beq i id with | true => K .normal s' | false => K (.exit i) s') | e => K e s') : Good P cfg N r m (.block id x) s K := by
  intro n0 cx a w I O hS hrd
  refine wpIn_block (wpIn_mono (h n0 cx a w I O hS hrd) ?_)
  intro e a' w' ⟨s', I', O', h1, h2⟩
  cases e with
  | exit i =>
    simp only [Exit.inBlock]
    simp only at h1
    by_cases hi : i = id
    · subst hi
      have hb : Nat.beq i i = true := by simp
      rw [hb] at h1
      rw [if_pos rfl]
      exact ⟨s', I', O', h1, h2⟩
    · have hb : Nat.beq i id = false := by
        cases hb : Nat.beq i id with
        | false => rfl
        | true => exact absurd (Nat.eq_of_beq_eq_true hb) hi
      rw [hb] at h1
      rw [if_neg hi]
      exact ⟨s', I', O', h1, h2⟩
  | normal => exact ⟨s', I', O', h1, h2⟩
  | goto l => exact ⟨s', I', O', h1, h2⟩
  | ret => exact ⟨s', I', O', h1, h2⟩
  | panic ch => exact ⟨s', I', O', h1, h2⟩
  | outgrown => exact ⟨s', I', O', h1, h2⟩

theorem good_cond {N : Nat} {r : Option Nat} {m : Nat} {c : Operand} {x y : Code} {s : St} {K : Exit → St → Prop} {b : Bool} (hb : rho cfg (tget s.tmps) c = .bool b) (h1 : b = true → Good P cfg N r m x s K) (h2 : b = false → Good P cfg N r m y s K) : Good P cfg N r m (.cond c x y) s K := by
  intro n0 cx a w I O hS hrd
  have hr := rep_operand hS.rel hS.tmps c (fun t _ => rfl)
  rw [hb] at hr
  refine wpIn_cond_split hr.bool_inv (fun h => h1 h n0 cx a w I O hS hrd) (fun h => h2 h n0 cx a w I O hS hrd)

/-- What the walk shows holds. -/
theorem good_of_x (hc : CfgOK P cfg) {N : Nat} {r : Option Nat} {m : Nat} {ct : List Nat} : ∀ (c : Code) (s : St) (K : Exit → St → Prop), codeOK N c = true → xcode cfg (Spec P cfg) ct (Loops P cfg N r m) c s K → Good P cfg N r m c s K := by
  intro c
  induction c with
  | skip => intro s K _ h n0 cx a w I O hS _; exact wpIn_skip ⟨s, I, O, h, hS⟩
  | region id ops draw =>
    intro s K hok h
    obtain ⟨T, H, nx⟩ := s
    exact good_region hc h hok
  | seq x y ihx ihy =>
    intro s K hok h
    simp only [codeOK, Bool.and_eq_true] at hok
    unfold xcode at h
    split at h
    · exact h.ok
    refine good_seq ((ihx s _ hok.1 h).mono fun e s' h' => ?_)
    cases e with
    | normal => exact ihy s' K hok.2 h'
    | _ => exact h'
  | cond c x y ihx ihy =>
    intro s K hok h
    simp only [codeOK, Bool.and_eq_true] at hok
    simp only [xcode] at h
    split at h
    · rename_i b hb
      refine good_cond hb (fun e => ?_) (fun e => ?_)
      · subst e; exact ihx s K hok.1 h
      · subst e; exact ihy s K hok.2 h
    · exact h.elim
  | block id x ih =>
    intro s K hok h
    exact good_block (ih s _ hok h)
  | loop x ih => intro s K hok h; exact h.ok
  | rangeFunc g ps x y ihx ihy => intro s K hok h; exact h.ok
  | exit id => intro s K _ h n0 cx a w I O hS _; exact wpIn_exit ⟨s, I, O, h, hS⟩
  | ret => intro s K _ h n0 cx a w I O hS _; exact wpIn_ret ⟨s, I, O, h, hS⟩
  | _ => intro s K hok h; cases hok

end
end Go.Ab

namespace Go.Ab
section
variable {w : World} {I : Nat → Prop} {O : OM} {D : Nat → Prop}

theorem leL_spec : ∀ (l m : List AV), LeL l m → l.length = m.length ∧ ∀ j, j < l.length → Le (nth l j) (nth m j) := by
  intro l
  induction l with
  | nil => intro m h; cases m with
    | nil => exact ⟨rfl, fun j hj => by cases hj⟩
    | cons => exact h.elim
  | cons u l ih => intro m h; cases m with
    | nil => exact h.elim
    | cons v m =>
      obtain ⟨h1, h2⟩ := ih m h.2
      refine ⟨by simp [h1], fun j hj => ?_⟩
      cases j with
      | zero => exact h.1
      | succ j => exact h2 j (by simpa using hj)

theorem LeL.refl : ∀ (l : List AV), LeL l l
  | [] => trivial
  | v :: l => ⟨.refl v, LeL.refl l⟩

theorem Le.aggL {cs cs' : List AV} (h : LeL cs cs') : Le (.agg cs) (.agg cs') := .agg (leL_spec _ _ h).1 (leL_spec _ _ h).2
theorem Le.tupL {cs cs' : List AV} (h : LeL cs cs') : Le (.tup cs) (.tup cs') := .tup (leL_spec _ _ h).1 (leL_spec _ _ h).2
theorem Le.roL {cs cs' : List AV} (h : LeL cs cs') : Le (.ro cs) (.ro cs') := .ro (leL_spec _ _ h).1 (leL_spec _ _ h).2
theorem Le.fnL {f : FuncId} {cs cs' : List AV} (h : LeL cs cs') : Le (.fn f cs) (.fn f cs') := .fn (leL_spec _ _ h).1 (leL_spec _ _ h).2

theorem le_all {u v : AV} (h : Le u v) : (∀ x, PRep w I u x → PRep w I v x) ∧ u.cells.length = v.cells.length ∧ ∀ j, j < u.cells.length → ∀ x, PRep w I (nth u.cells j) x → PRep w I (nth v.cells j) x := by
  have one : ∀ {u v : AV}, u.cells = [u] → v.cells = [v] → (∀ x, PRep w I u x → PRep w I v x) → (∀ x, PRep w I u x → PRep w I v x) ∧ u.cells.length = v.cells.length ∧ ∀ j, j < u.cells.length → ∀ x, PRep w I (nth u.cells j) x → PRep w I (nth v.cells j) x := by
    intro u v h1 h2 h3
    rw [h1, h2]
    refine ⟨h3, rfl, fun j hj x hx => ?_⟩
    have : j = 0 := by simpa using hj
    subst this
    exact h3 x hx
  induction h with
  | refl v => exact ⟨fun _ h => h, rfl, fun _ _ _ h => h⟩
  | @sl es es' n n' f f' g g' hn he hf h ih =>
    subst hn
    refine one rfl rfl fun x hx => ?_
    cases hx with
    | sl b off vs hcap hfull ha hes hm h1 hr =>
      refine .sl b off vs hcap (fun e => hfull (hf e)) ha (fun i hi => ?_) (fun i j hi hj => ?_) (fun i j hi hj => ?_) (fun i j hi hj => ?_)
      · rw [← (ih i hi).2.1, ← he (by omega)]; exact hes i hi
      · rw [← he (by omega)] at hj ⊢; exact hm i j hi hj
      · rw [← he (by omega)] at hj; exact h1 i j hi hj
      · rw [← he (by omega)] at hj; exact (ih i hi).2.2 j (by rw [hes i hi]; exact hj) _ (hr i j hi hj)
  | @ro cs cs' hl h ih =>
    refine one rfl rfl fun x hx => ?_
    cases hx with
    | ro b off vs hI hm hr => exact .ro b off vs hI (fun j hj => hm j (by omega)) fun j hj => (ih j (by omega)).1 _ (hr j (by omega))
  | @agg cs cs' hl h ih =>
    refine ⟨fun x hx => ?_, hl, fun j hj x hx => (ih j hj).1 x hx⟩
    cases hx with
    | agg h1 hr => exact .agg (by omega) fun j hj => (ih j (by omega)).1 _ (hr j (by omega))
  | @tup cs cs' hl h ih =>
    refine one rfl rfl fun x hx => ?_
    cases hx with
    | tup h1 hr => exact .tup (by omega) fun j hj => (ih j (by omega)).1 _ (hr j (by omega))
  | @fn f cs cs' hl h ih =>
    refine one rfl rfl fun x hx => ?_
    cases hx with
    | fn h1 hr => exact .fn (by omega) fun j hj => (ih j (by omega)).1 _ (hr j (by omega))

theorem Le.prep {u v : AV} (h : Le u v) {x : Value} (hx : PRep w I u x) : PRep w I v x := (le_all h).1 x hx

theorem Le.rep {u v : AV} (h : Le u v) : ∀ {x : Value}, Rep w I O D u x → Rep w I O D v x := by
  induction h with
  | refl v => exact fun h => h
  | sl hn he hf h ih => intro x hx; exact .pure ((Le.sl hn he hf h).prep hx.sl_inv)
  | ro hl h ih => intro x hx; exact .pure ((Le.ro hl h).prep hx.ro_inv)
  | agg hl h ih =>
    intro x hx
    obtain ⟨vs, rfl, h1, h2⟩ := hx.agg_inv
    exact .agg (by omega) fun j hj => ih j (by omega) (h2 j (by omega))
  | tup hl h ih =>
    intro x hx
    obtain ⟨vs, rfl, h1, h2⟩ := hx.tup_inv
    exact .tup (by omega) fun j hj => ih j (by omega) (h2 j (by omega))
  | fn hl h ih =>
    intro x hx
    obtain ⟨vs, rfl, h1, h2⟩ := hx.fn_inv
    exact .fn (by omega) fun j hj => ih j (by omega) (h2 j (by omega))

/-- Objects in weaker words. -/
theorem LeO.rep {p : Own} {x y : AObj} (h : LeO x y) (hx : ObjRep w I O D p x) : ObjRep w I O D p y := by
  cases x with
  | held => cases y with
    | box => exact h.elim
    | row => exact h.elim
    | held => obtain ⟨rfl, rfl, rfl, rfl, rfl⟩ := h; exact hx
  | box cs => cases y with
    | row => exact h.elim
    | held => exact h.elim
    | box cs' =>
      obtain ⟨h1, b, bo, sz, hp, ha, hl, hr⟩ := hx
      obtain ⟨h2, h3⟩ := leL_spec _ _ h
      exact ⟨h1, b, bo, sz, hp, ha, by omega, fun j hj => (h3 j (by omega)).rep (hr j (by omega))⟩
  | row es n g => cases y with
    | box => exact h.elim
    | held => exact h.elim
    | row es' n' g' =>
      obtain ⟨rfl, rfl, h⟩ := h
      obtain ⟨h1, h2, h3, h4⟩ := hx
      refine ⟨h1, h2, fun i hi => by rw [← (le_all (w := w) (I := I) (h i hi)).2.1]; exact h3 i hi, ?_⟩
      rcases h4 with h4 | ⟨b, bo, sz, hp, ha, hl, hr⟩
      · exact .inl h4
      · exact .inr ⟨b, bo, sz, hp, ha, hl, fun i j hi hj => ⟨(le_all (h i hi)).2.2 j (by rw [h3 i hi]; exact hj) _ (hr i j hi hj).1, (hr i j hi hj).2⟩⟩

theorem leOs_spec : ∀ (l m : List AObj), LeOs l m → l.length = m.length ∧ ∀ j x y, hof l j = some x → hof m j = some y → LeO x y := by
  intro l
  induction l with
  | nil => intro m h; cases m with
    | nil => exact ⟨rfl, fun j x y h => by cases h⟩
    | cons => exact h.elim
  | cons u l ih => intro m h; cases m with
    | nil => exact h.elim
    | cons v m =>
      obtain ⟨h1, h2⟩ := ih m h.2
      refine ⟨by simp [h1], fun j x y hx hy => ?_⟩
      cases j with
      | zero => cases hx; cases hy; exact h.1
      | succ j => exact h2 j x y hx hy

theorem hof_iff : ∀ (l : List AObj) (j : Nat), hof l j = none ↔ l.length ≤ j := by
  intro l
  induction l with
  | nil => intro j; simp [hof]
  | cons x l ih => intro j; cases j with
    | zero => simp [hof]
    | succ j => simp [hof, ih]

/-- A contract for weaker arguments serves for stronger ones. -/
theorem Spec.le {P : Program} {cfg : Cfg} {f : FuncId} {args args' : List AV} {obs obs' : List AObj} {r : AV} {ob2 : List AObj} (h : Ab.Spec P cfg f args' obs' r ob2) (ha : LeL args args') (ho : LeOs obs obs') : Ab.Spec P cfg f args obs r ob2 := by
  obtain ⟨h1, h2, h3⟩ := h
  obtain ⟨a1, a2⟩ := leL_spec _ _ ha
  obtain ⟨o1, o2⟩ := leOs_spec _ _ ho
  refine ⟨h1, by omega, fun w I O vals hR hv hrep => ?_⟩
  have hR' : Rel cfg (cxOf w I O obs'.length) (hof obs') (fun o => o < obs'.length) w I O := by
    rw [← o1]
    exact { hR with
      dom := fun o => by rw [hR.dom o, hof_iff, hof_iff, o1]
      objs := fun o y p hy hp => by
        cases hx : hof obs o with
        | none => rw [(hR.dom o).2 hx] at hp; cases hp
        | some x => exact (o2 o x y hx hy).rep (hR.objs o x p hx hp) }
  have := h3 w I O vals hR' (by omega) (fun j hj => by rw [← o1]; exact (a2 j (by omega)).rep (hrep j (by omega)))
  rw [← o1] at this
  exact this

end
end Go.Ab

namespace Go.Ab
section
variable {P : Program} {cfg : Cfg} {cx : Ctx} {N : Nat}

/-- Where the weaker state's objects lie. -/
def embOM (ρ : List (Nat × Option Nat)) (H' : Ups) (O : OM) : OM := fun o' => match hget H' o' with
  | none => none
  | some y => match renOf ρ o' with
    | some o => O o
    | none => match y with
      | .row es _ _ => some ⟨es, 0, none⟩
      | .box _ => none
      | .held .. => none

theorem liveB_iff {H : Ups} {o : Nat} : liveB H o = true ↔ ∃ x, hget H o = some x := by
  unfold liveB
  cases hget H o with
  | none => simp
  | some x => simp

theorem look_mem {α : Type} : ∀ (l : List (Nat × α)) (k : Nat) (x : α), look l k = some x → (k, x) ∈ l := by
  intro l
  induction l with
  | nil => intro k x h; cases h
  | cons p l ih =>
    intro k x h
    obtain ⟨k', y⟩ := p
    simp only [look] at h
    cases hb : Nat.beq k' k with
    | true => simp only [hb] at h; cases h; rw [Nat.eq_of_beq_eq_true hb]; simp
    | false => simp only [hb] at h; exact List.mem_cons_of_mem _ (ih k x h)

theorem hget_look {H : Ups} {o : Nat} {x : AObj} (h : hget H o = some x) : look H o = some (some x) := by
  unfold hget at h
  split at h
  · rename_i y hy; cases h; exact hy
  · cases h

theorem embH_of {ρ : List (Nat × Option Nat)} {H' H : Ups} : ∀ (l : Ups), embH ρ H' H l → ∀ o' y, (o', some y) ∈ l →
    (match renOf ρ o' with
    | some o => ∃ x, hget H o = some x ∧ embO ρ H' x y
    | none => ∃ es g, y = .row es 0 g) := by
  intro l
  induction l with
  | nil => intro _ o' y h; cases h
  | cons p l ih =>
    intro h o' y hm
    obtain ⟨k, z⟩ := p
    cases z with
    | none =>
      rcases List.mem_cons.1 hm with e | e
      · cases e
      · exact ih h o' y e
    | some z =>
      obtain ⟨h1, h2⟩ := h
      rcases List.mem_cons.1 hm with e | e
      · cases e
        split
        · rename_i o ho
          rw [ho] at h1
          simp only at h1
          split at h1
          · rename_i x hx; exact ⟨x, hx, h1⟩
          · exact h1.elim
        · rename_i ho
          rw [ho] at h1
          simp only at h1
          split at h1
          · rename_i es n g; subst h1; exact ⟨es, g, rfl⟩
          · exact h1.elim
      · exact ih h2 o' y e

/-- What the embedding of heaps says at one object. -/
structure EmbX (ρ : List (Nat × Option Nat)) (H' H : Ups) : Prop where
  ren : ∀ o' y o, hget H' o' = some y → renOf ρ o' = some o → ∃ x, hget H o = some x
  ghost : ∀ o' y, hget H' o' = some y → renOf ρ o' = none → ∃ es g, y = .row es 0 g

structure EmbW (ρ : List (Nat × Option Nat)) (H' H : Ups) : Prop where
  ren : ∀ o' y o, hget H' o' = some y → renOf ρ o' = some o → ∃ x, hget H o = some x ∧ embO ρ H' x y
  ghost : ∀ o' y, hget H' o' = some y → renOf ρ o' = none → ∃ es g, y = .row es 0 g

theorem embW_of {ρ : List (Nat × Option Nat)} {H' H : Ups} (h : embH ρ H' H H') : EmbW ρ H' H where
  ren := fun o' y o hy ho => by
    have := embH_of H' h o' y (look_mem _ _ _ (hget_look hy))
    rw [ho] at this
    exact this
  ghost := fun o' y hy ho => by
    have := embH_of H' h o' y (look_mem _ _ _ (hget_look hy))
    rw [ho] at this
    exact this

theorem EmbW.x {ρ : List (Nat × Option Nat)} {H' H : Ups} (h : EmbW ρ H' H) : EmbX ρ H' H where
  ren := fun o' y o h1 h2 => let ⟨x, h3, _⟩ := h.ren o' y o h1 h2; ⟨x, h3⟩
  ghost := h.ghost

theorem embL_spec {ρ : List (Nat × Option Nat)} {H' : Ups} : ∀ (f : Nat) (l m : List AV), embV.embL ρ H' f l m → l.length = m.length ∧ ∀ j, j < m.length → ∃ f', f' < f ∧ embV ρ H' f' (nth l j) (nth m j) := by
  intro f
  induction f with
  | zero => intro l m h; exact absurd h (by simp [embV.embL])
  | succ f ih =>
    intro l m h
    cases l with
    | nil => cases m with
      | nil => exact ⟨rfl, fun j hj => by cases hj⟩
      | cons v m => exact absurd h (by simp [embV.embL])
    | cons u l => cases m with
      | nil => exact absurd h (by simp [embV.embL])
      | cons v m =>
        simp only [embV.embL] at h
        obtain ⟨h1, h2⟩ := ih l m h.2
        refine ⟨by simp [h1], fun j hj => ?_⟩
        cases j with
        | zero => exact ⟨f, Nat.lt_succ_self _, h.1⟩
        | succ j =>
          obtain ⟨f', h3, h4⟩ := h2 j (by simpa using hj)
          exact ⟨f', by omega, h4⟩

theorem emb_val {ρ : List (Nat × Option Nat)} {H' H : Ups} {w : World} {I : Nat → Prop} {O : OM} {D D' : Nat → Prop} (hd : ∀ o, O o = none ↔ hget H o = none) (hW : EmbX ρ H' H) :
    ∀ (f : Nat) (u v : AV) (x : Value), Rep w I O D u x → embV ρ H' f u v → Rep w I (embOM ρ H' O) D' v x := by
  have live : ∀ o' o, liveB H' o' = true → renOf ρ o' = some o → ∃ p, O o = some p ∧ embOM ρ H' O o' = some p := by
    intro o' o h1 h2
    obtain ⟨y, hy⟩ := liveB_iff.1 h1
    obtain ⟨z, hz⟩ := hW.ren o' y o hy h2
    cases ho : O o with
    | none => rw [(hd o).1 ho] at hz; cases hz
    | some p => exact ⟨p, rfl, by unfold embOM; rw [hy, h2]; exact ho⟩
  intro f
  induction f using Nat.strongRecOn with
  | ind f ih =>
    intro u v x hr he
    cases f with
    | zero => exact absurd he (by simp [embV])
    | succ f =>
      have many : ∀ (cs cs' : List AV) (vs : Array Value), vs.size = cs.length → (∀ j, j < cs.length → Rep w I O D (nth cs j) (vs.getD j Go.undef)) → embV.embL ρ H' f cs cs' →
          vs.size = cs'.length ∧ ∀ j, j < cs'.length → Rep w I (embOM ρ H' O) D' (nth cs' j) (vs.getD j Go.undef) := by
        intro cs cs' vs h1 h2 h3
        obtain ⟨h4, h5⟩ := embL_spec f cs cs' h3
        refine ⟨by omega, fun j hj => ?_⟩
        obtain ⟨f', h6, h7⟩ := h5 j hj
        exact ih f' (by omega) _ _ _ (h2 j (by omega)) h7
      cases v with
      | undef => exact .pure (.undef x)
      | bool b' =>
        cases u <;> simp only [embV] at he
        subst he
        rw [hr.bool_inv]; exact .pure (.bool _)
      | int k n =>
        cases u <;> simp only [embV] at he
        obtain ⟨rfl, rfl⟩ := he
        rw [hr.int_inv]; exact .pure (.int _ _)
      | str s =>
        cases u <;> simp only [embV] at he
        subst he
        rw [hr.str_inv]; exact .pure (.str _)
      | nilp =>
        cases u <;> simp only [embV] at he
        cases hr with | pure h => exact .pure h
      | raw o' a' n' c' =>
        cases u <;> simp only [embV] at he
        obtain ⟨rfl, rfl, rfl, rfl⟩ := he
        cases hr with | pure h => cases h; exact .pure (.raw _ _ _ _)
      | ro cs =>
        cases u <;> simp only [embV] at he
        exact (Le.roL he).rep (.pure hr.ro_inv)
      | sl es' n' f' g' =>
        cases u <;> simp only [embV] at he
        rename_i es n fu g
        obtain ⟨h0, h1, h2, h3⟩ := he
        exact (Le.sl h0 h1 h2 h3).rep (.pure hr.sl_inv)
      | ptr o' i' off' =>
        cases u <;> simp only [embV] at he
        rename_i o i off
        obtain ⟨h1, h2, rfl, rfl⟩ := he
        obtain ⟨p, hp, hp'⟩ := live o' o h1 h2
        obtain ⟨b, bo, sz, h3, h4, rfl⟩ := hr.ptr_inv hp
        exact .ptr hp' h3 h4
      | osl o' i' n' f' =>
        cases u <;> simp only [embV] at he
        · rename_i es n fu g
          obtain ⟨h1, rfl, rfl, rfl, rfl⟩ := he
          obtain ⟨y, hy⟩ := liveB_iff.1 h1
          have ho : ∃ p, embOM ρ H' O o' = some p := by
            cases hren : renOf ρ o' with
            | some o => obtain ⟨p, _, hp⟩ := live o' o h1 hren; exact ⟨p, hp⟩
            | none =>
              obtain ⟨es', g', rfl⟩ := hW.ghost o' y hy hren
              exact ⟨⟨es', 0, none⟩, by unfold embOM; rw [hy, hren]⟩
          obtain ⟨p, hp⟩ := ho
          cases hr.sl_inv with
          | sl b off vs hcap hfull ha hes hm hone hrr =>
            have hc := hfull rfl
            exact .osl hp (by omega) hcap (fun _ => hc) (fun h => absurd hc h)
        · rename_i o i n fu
          obtain ⟨h1, h2, rfl, rfl, h3⟩ := he
          obtain ⟨p, hp, hp'⟩ := live o' o h1 h2
          obtain ⟨a, cap, rfl, h4, h5, h6, h7⟩ := hr.osl_inv hp
          exact .osl hp' h4 h5 (fun h => h6 (h3 h)) h7
      | agg cs' =>
        cases u <;> simp only [embV] at he
        obtain ⟨vs, rfl, h1, h2⟩ := hr.agg_inv
        obtain ⟨h3, h4⟩ := many _ cs' vs h1 h2 he
        exact .agg h3 h4
      | tup cs' =>
        cases u <;> simp only [embV] at he
        obtain ⟨vs, rfl, h1, h2⟩ := hr.tup_inv
        obtain ⟨h3, h4⟩ := many _ cs' vs h1 h2 he
        exact .tup h3 h4
      | fn g cs' =>
        cases u <;> simp only [embV] at he
        obtain ⟨rfl, he⟩ := he
        obtain ⟨vs, rfl, h1, h2⟩ := hr.fn_inv
        obtain ⟨h3, h4⟩ := many _ cs' vs h1 h2 he
        exact .fn h3 h4

theorem emb_obj {ρ : List (Nat × Option Nat)} {H' H : Ups} {w : World} {I : Nat → Prop} {O : OM} {D D' : Nat → Prop} (hd : ∀ o, O o = none ↔ hget H o = none) (hW : EmbW ρ H' H) {x y : AObj} {p : Own} (h : ObjRep w I O D p x) (he : embO ρ H' x y) :
    ObjRep w I (embOM ρ H' O) D' p y := by
  cases x with
  | held =>
    cases y with
    | box => exact he.elim
    | row => exact he.elim
    | held =>
      obtain ⟨rfl, rfl, rfl, rfl, rfl⟩ := he
      exact h
  | box cs =>
    cases y with
    | row es n g => exact he.elim
    | held => exact he.elim
    | box cs' =>
      obtain ⟨h1, b, bo, sz, hp, ha, hl, hr⟩ := h
      obtain ⟨h2, h3⟩ := embL_spec _ cs cs' he
      refine ⟨h1, b, bo, sz, hp, ha, by omega, fun j hj => ?_⟩
      obtain ⟨f', _, h4⟩ := h3 j hj
      exact emb_val hd hW.x f' _ _ _ (hr j (by omega)) h4
  | row es n g =>
    cases y with
    | box cs' => exact he.elim
    | held => exact he.elim
    | row es' n' g' =>
      have hO : ObjRep w I (embOM ρ H' O) D' p (.row es n g) := by
        obtain ⟨h1, h2, h3, h4⟩ := h
        refine ⟨h1, h2, h3, ?_⟩
        rcases h4 with h4 | ⟨b, bo, sz, hp, ha, hl, hr⟩
        · exact .inl h4
        · exact .inr ⟨b, bo, sz, hp, ha, hl, hr⟩
      exact LeO.rep (x := .row es n g) (y := .row es' n' g') he hO

theorem keysOK_spec {m nx : Nat} {ρ : List (Nat × Option Nat)} : ∀ (H : Ups), keysOK m nx ρ H = true → ∀ p ∈ H, p.1 < nx ∧ (p.1 < m → renOf ρ p.1 = some p.1) := by
  intro H
  induction H with
  | nil => intro _ p h; cases h
  | cons q H ih =>
    intro h p hp
    obtain ⟨o', z⟩ := q
    unfold keysOK at h
    cases h1 : Nat.blt o' nx with
    | false => simp [h1] at h
    | true =>
      simp only [h1] at h
      have hlt : o' < nx := by simpa using h1
      have rest : keysOK m nx ρ H = true ∧ (o' < m → renOf ρ o' = some o') := by
        split at h
        · rename_i o ho
          split at h
          · rename_i hb
            have := Nat.eq_of_beq_eq_true hb
            subst this
            exact ⟨h, fun _ => ho⟩
          · split at h
            · rename_i hle
              have hle' := Nat.le_of_ble_eq_true hle
              exact ⟨h, fun hlt => by omega⟩
            · cases h
        · split at h
          · rename_i hle
            have hle' := Nat.le_of_ble_eq_true hle
            exact ⟨h, fun hlt => by omega⟩
          · cases h
      rcases List.mem_cons.1 hp with e | e
      · subst e; exact ⟨hlt, rest.2⟩
      · exact ih rest.1 p e

theorem imgs_mem {ρ : List (Nat × Option Nat)} : ∀ (H : Ups) (o' o : Nat) (y : AObj), (o', some y) ∈ H → renOf ρ o' = some o → o ∈ imgs ρ H := by
  intro H
  induction H with
  | nil => intro o' o y h; cases h
  | cons q H ih =>
    intro o' o y h hr
    obtain ⟨k, z⟩ := q
    rcases List.mem_cons.1 h with e | e
    · cases e
      simp only [imgs, hr]
      simp
    · have := ih o' o y e hr
      cases z with
      | none => exact this
      | some z =>
        simp only [imgs]
        split
        · exact List.mem_cons_of_mem _ this
        · exact this

theorem imgs_inj {ρ : List (Nat × Option Nat)} : ∀ (H : Ups), nodupN (imgs ρ H) = true → ∀ o1 o2 o y1 y2, (o1, some y1) ∈ H → (o2, some y2) ∈ H → renOf ρ o1 = some o → renOf ρ o2 = some o → o1 = o2 := by
  intro H
  induction H with
  | nil => intro _ o1 o2 o y1 y2 h; cases h
  | cons q H ih =>
    intro hnd o1 o2 o y1 y2 h1 h2 hr1 hr2
    obtain ⟨k, z⟩ := q
    have tail : nodupN (imgs ρ H) = true ∧ ∀ y, z = some y → ∀ o, renOf ρ k = some o → o ∉ imgs ρ H := by
      cases z with
      | none => exact ⟨hnd, fun y h => by cases h⟩
      | some z =>
        simp only [imgs] at hnd
        split at hnd
        · rename_i oo hoo
          unfold nodupN at hnd
          split at hnd
          · cases hnd
          · rename_i hm
            refine ⟨hnd, fun y _ o ho => ?_⟩
            rw [hoo] at ho
            cases ho
            exact memN_spec hm
        · rename_i hnone
          exact ⟨hnd, fun y _ o ho => by rw [hnone] at ho; cases ho⟩
    rcases List.mem_cons.1 h1 with e1 | e1 <;> rcases List.mem_cons.1 h2 with e2 | e2
    · cases e1; cases e2; rfl
    · cases e1; exact absurd (imgs_mem H o2 o y2 e2 hr2) (tail.2 _ rfl o hr1)
    · cases e2; exact absurd (imgs_mem H o1 o y1 e1 hr1) (tail.2 _ rfl o hr2)
    · exact ih tail.1 o1 o2 o y1 y2 e1 e2 hr1 hr2

theorem embT_get {ρ : List (Nat × Option Nat)} {H' : Ups} {T : List (Nat × AV)} : ∀ (l : List (Nat × AV)), embT ρ H' T l → ∀ t, tget l t = .undef ∨ embV ρ H' fuel (tget T t) (tget l t) := by
  intro l
  induction l with
  | nil => intro _ t; exact .inl rfl
  | cons p l ih =>
    intro h t
    obtain ⟨k, v⟩ := p
    obtain ⟨h1, h2⟩ := h
    unfold tget
    simp only [look]
    cases hb : Nat.beq k t with
    | true =>
      have := Nat.eq_of_beq_eq_true hb
      subst this
      exact .inr h1
    | false => exact ih h2 t

/-- The weaker state stands as well. -/
theorem emb_sound {m : Nat} {ρ : List (Nat × Option Nat)} {s s' : St} {a : Act} {w : World} {I : Nat → Prop} {O : OM} (hS : StRel cfg N m cx s a w I O) (h : Emb m ρ s s') : StRel cfg N m cx s' a w I (embOM ρ s'.heap O) := by
  obtain ⟨hchk, htm, hhp⟩ := h
  obtain ⟨hm, hR, hT, hMk⟩ := hS
  have hW := embW_of hhp
  unfold embChk at hchk
  split at hchk
  · rename_i hk hnd hun
    have hle : m ≤ s'.nx := Nat.le_of_ble_eq_true hchk
    have hkeys := keysOK_spec _ hk
    have inv : ∀ o' p, embOM ρ s'.heap O o' = some p → ∃ y, hget s'.heap o' = some y ∧ ((∃ o, renOf ρ o' = some o ∧ O o = some p) ∨ p.pl = none) := by
      intro o' p hp
      unfold embOM at hp
      split at hp
      · cases hp
      · rename_i y hy
        refine ⟨y, hy, ?_⟩
        split at hp
        · rename_i o ho; exact .inl ⟨o, ho, hp⟩
        · split at hp
          · cases hp; exact .inr rfl
          · cases hp
          · cases hp
    refine ⟨hm, ⟨?_, ?_, ?_, ?_, ?_, ?_, hR.Ilt, hR.size, hR.frame, ?_, hR.glob, hR.I0I, hR.II0, ?_, ?_, hR.env⟩, ⟨rfl, hT.size, fun t _ => ?_, fun t h => by cases h⟩, hMk⟩
    · intro o'
      constructor
      · intro h
        cases hy : hget s'.heap o' with
        | none => rfl
        | some y =>
          exfalso
          unfold embOM at h
          rw [hy] at h
          simp only at h
          split at h
          · rename_i o ho
            obtain ⟨x, hx, _⟩ := hW.ren o' y o hy ho
            rw [(hR.dom o).1 h] at hx
            cases hx
          · rename_i ho
            obtain ⟨es, g, rfl⟩ := hW.ghost o' y hy ho
            cases h
      · intro h
        unfold embOM
        rw [h]
    · intro o' p hp
      obtain ⟨y, hy, _⟩ := inv o' p hp
      exact (hkeys _ (look_mem _ _ _ (hget_look hy))).1
    · intro o' y p hy hp
      unfold embOM at hp
      rw [hy] at hp
      simp only at hp
      split at hp
      · rename_i o ho
        obtain ⟨x, hx, he⟩ := hW.ren o' y o hy ho
        exact emb_obj hR.dom hW (hR.objs o x p hx hp) he
      · rename_i ho
        obtain ⟨es, g, rfl⟩ := hW.ghost o' y hy ho
        cases hp
        exact ⟨rfl, rfl, fun i hi => absurd hi (Nat.not_lt_zero i), .inl ⟨rfl, rfl⟩⟩
    · intro o1 o2 p1 p2 b bo sz b' bo' sz' h1 h2 hp1 hp2 hne
      obtain ⟨y1, hy1, e1⟩ := inv o1 p1 h1
      obtain ⟨y2, hy2, e2⟩ := inv o2 p2 h2
      rcases e1 with ⟨q1, hr1, ho1⟩ | e1
      · rcases e2 with ⟨q2, hr2, ho2⟩ | e2
        · refine hR.inj q1 q2 p1 p2 b bo sz b' bo' sz' ho1 ho2 hp1 hp2 fun e => ?_
          subst e
          exact hne (imgs_inj _ hnd o1 o2 q1 y1 y2 (look_mem _ _ _ (hget_look hy1)) (look_mem _ _ _ (hget_look hy2)) hr1 hr2)
        · rw [e2] at hp2; cases hp2
      · rw [e1] at hp1; cases hp1
    · intro o p b bo sz h hp
      obtain ⟨y, hy, ⟨q, hr, ho⟩ | e⟩ := inv o p h
      · exact hR.notI q p b bo sz ho hp
      · rw [e] at hp; cases hp
    · intro o p b bo sz h hp
      obtain ⟨y, hy, ⟨q, hr, ho⟩ | e⟩ := inv o p h
      · exact hR.lt q p b bo sz ho hp
      · rw [e] at hp; cases hp
    · intro o p b bo sz h hp
      obtain ⟨y, hy, ⟨q, hr, ho⟩ | e⟩ := inv o p h
      · exact hR.new q p b bo sz ho hp
      · rw [e] at hp; cases hp
    · intro o hlt
      rw [hm] at hlt
      cases hy : hget s'.heap o with
      | none => exact .inr (by unfold embOM; rw [hy])
      | some y =>
        have := (hkeys _ (look_mem _ _ _ (hget_look hy))).2 hlt
        have e : embOM ρ s'.heap O o = O o := by unfold embOM; rw [hy, this]
        rw [e]
        exact hR.O0O o (by rw [hm]; exact hlt)
    · intro o hlt
      rw [hm] at hlt
      exact Nat.lt_of_lt_of_le hlt hle
    · rcases embT_get _ htm t with e | e
      · rw [e]; exact .pure (.undef _)
      · exact emb_val hR.dom hW.x _ _ _ _ (hT.rep t rfl) e
  · cases hchk

theorem Good.weaken {r : Option Nat} {m : Nat} {ρ : List (Nat × Option Nat)} {c : Code} {s s' : St} {K : Exit → St → Prop} (h : Emb m ρ s s') (hg : Good P cfg N r m c s' K) : Good P cfg N r m c s K :=
  fun n0 cx a w I _ hS hrd => hg n0 cx a w I _ (emb_sound hS h) hrd

/-- A loop. -/
theorem loops_intro (hc : CfgOK P cfg) {r : Option Nat} {m : Nat} {ct : List Nat} {c : Code} {s : St} {K : Exit → St → Prop} (hok : codeOK N c = true) {α : Type} (st : α → St) (inv : α → Prop) (μ : α → Nat) (x0 : α) (ρ0 : List (Nat × Option Nat)) (h0 : inv x0) (hE : Emb m ρ0 s (st x0))
    (round : ∀ x, inv x → xcode cfg (Spec P cfg) ct (Loops P cfg N r m) c (st x) (fun e s' => match e with | .normal => ∃ x' ρ, inv x' ∧ μ x' < μ x ∧ Emb m ρ s' (st x') | e => K e s')) : Loops P cfg N r m (.loop c) s K := by
  refine ⟨fun n0 cx a w I O hS hrd => ?_⟩
  refine wpIn_loop_ghost (fun n a w => ∃ x I O, inv x ∧ n = μ x ∧ StRel cfg N m cx (st x) a w I O) (μ x0) ⟨x0, I, _, h0, rfl, emb_sound hS hE⟩ ?_
  intro n a w hI
  obtain ⟨x, I, O, hx, rfl, hS⟩ := hI
  refine wpIn_mono (good_of_x hc c (st x) _ hok (round x hx) n0 cx a w I O hS hrd) ?_
  intro e a' w' ⟨s', I', O', h1, h2⟩
  cases e with
  | normal =>
    obtain ⟨x', ρ, h3, h4, h5⟩ := h1
    exact ⟨μ x', h4, x', I', _, h3, rfl, emb_sound h2 h5⟩
  | exit id => exact ⟨s', I', O', h1, h2⟩
  | goto l => exact ⟨s', I', O', h1, h2⟩
  | ret => exact ⟨s', I', O', h1, h2⟩
  | panic ch => exact ⟨s', I', O', h1, h2⟩
  | outgrown => exact ⟨s', I', O', h1, h2⟩

/-- A cut: what holds at it. -/
theorem cut_intro (hc : CfgOK P cfg) {r : Option Nat} {m : Nat} {ct ct' : List Nat} {x y : Code} {s : St} {K : Exit → St → Prop} (hokx : codeOK N x = true) (hoky : codeOK N y = true) {α : Type} (st : α → St) (inv : α → Prop)
    (h1 : xcode cfg (Spec P cfg) ct (Loops P cfg N r m) x s (fun e s' => match e with | .normal => ∃ x' ρ, inv x' ∧ Emb m ρ s' (st x') | e => K e s'))
    (h2 : ∀ x', inv x' → xcode cfg (Spec P cfg) ct' (Loops P cfg N r m) y (st x') K) : Loops P cfg N r m (.seq x y) s K := by
  refine ⟨good_seq ((good_of_x hc x s _ hokx h1).mono ?_)⟩
  intro e s' h
  cases e with
  | normal =>
    obtain ⟨x', ρ, h3, h4⟩ := h
    exact (good_of_x hc y (st x') K hoky (h2 x' h3)).weaken h4
  | _ => exact h

/-- What comes behind a loop may be shown of a weaker state. -/
theorem loops_join {r : Option Nat} {m : Nat} {c : Code} {s : St} {K : Exit → St → Prop} (h : Loops P cfg N r m c s fun e s' => ∃ ρ s'', Emb m ρ s' s'' ∧ K e s'') : Loops P cfg N r m c s K := by
  refine ⟨fun n0 cx a w I O hS hrd => wpIn_mono (h.ok n0 cx a w I O hS hrd) ?_⟩
  intro e a' w' ⟨s', I', O', ⟨ρ, s'', h1, h2⟩, h3⟩
  exact ⟨s'', I', _, h2, emb_sound h3 h1⟩

end
end Go.Ab

namespace Go.Ab
section
variable {P : Program} {cfg : Cfg} {N : Nat} {cx : Ctx}

/-! Worlds whose cells are the same -/
structure SameCells (w' w : World) : Prop where
  cell : ∀ a v, w.cell? a = some v → w'.cell? a = some v
  frozen : ∀ a, (w.cell? a).isSome = true → w'.frozen? a = w.frozen? a
  size : w.heap.size ≤ w'.heap.size

theorem PRep.turn {w w' : World} (h : SameCells w' w) {I : Nat → Prop} {v : AV} {x : Value} (hp : PRep w I v x) : PRep w' I v x := by
  induction hp with
  | undef x => exact .undef x
  | bool b => exact .bool b
  | int k n => exact .int k n
  | str s => exact .str s
  | nilp => exact .nilp
  | raw o a n cap => exact .raw o a n cap
  | sl b off vs hcap hfull ha hes hm h1 hr ih => exact .sl b off vs hcap hfull ha hes (fun i j hi hj => h.cell _ _ (hm i j hi hj)) h1 ih
  | ro b off vs hI hm hr ih => exact .ro b off vs hI (fun j hj => h.cell _ _ (hm j hj)) ih
  | agg hl hr ih => exact .agg hl ih
  | fn hl hr ih => exact .fn hl ih
  | tup hl hr ih => exact .tup hl ih

theorem Rep.turn {w w' : World} (h : SameCells w' w) {I : Nat → Prop} {O : OM} {D : Nat → Prop} {v : AV} {x : Value} (hp : Rep w I O D v x) : Rep w' I O D v x := by
  induction hp with
  | pure hp => exact .pure (hp.turn h)
  | ptr ho hp hi => exact .ptr ho hp hi
  | osl ho hi hcap hfull hpl => exact .osl ho hi hcap hfull hpl
  | deadP ho hd h1 => exact .deadP ho hd h1
  | deadS ho hd h1 => exact .deadS ho hd h1
  | agg hl hr ih => exact .agg hl ih
  | fn hl hr ih => exact .fn hl ih
  | tup hl hr ih => exact .tup hl ih

theorem ObjRep.turn {w w' : World} (h : SameCells w' w) {I : Nat → Prop} {O : OM} {D : Nat → Prop} {p : Own} {x : AObj} (hp : ObjRep w I O D p x) : ObjRep w' I O D p x := by
  have hal : ∀ b sz, Alive w b sz → Alive w' b sz := fun b sz ha j hj => by
    obtain ⟨h1, h2⟩ := ha j hj
    obtain ⟨v, hv⟩ := Option.isSome_iff_exists.1 h1
    rw [h.cell _ _ hv, h.frozen _ h1]
    exact ⟨rfl, h2⟩
  have hca : ∀ b sz j, Alive w b sz → j < sz → cellAt w' b j = cellAt w b j := fun b sz j ha hj => by
    obtain ⟨v, hv⟩ := Option.isSome_iff_exists.1 (ha j hj).1
    unfold cellAt
    rw [h.cell _ _ hv, hv]
  cases x with
  | box cs =>
    obtain ⟨h1, b, bo, sz, h2, h3, h4, h5⟩ := hp
    exact ⟨h1, b, bo, sz, h2, hal b sz h3, h4, fun j hj => by rw [hca b sz _ h3 (by omega)]; exact (h5 j hj).turn h⟩
  | row es n g =>
    obtain ⟨h1, h2, h3, h4⟩ := hp
    refine ⟨h1, h2, h3, h4.imp id ?_⟩
    rintro ⟨b, bo, sz, q1, q2, q3, q4⟩
    exact ⟨b, bo, sz, q1, hal b sz q2, q3, fun i j hi hj => by
      have hlt : i * es + j < n * es := by
        have : (i + 1) * es ≤ n * es := Nat.mul_le_mul_right _ hi
        rw [Nat.add_mul] at this
        omega
      rw [hca b sz _ q2 (by omega)]
      exact ⟨(q4 i j hi hj).1.turn h, (q4 i j hi hj).2⟩⟩
  | held a0 c0 es n g =>
    obtain ⟨⟨h1, h2, h3, h4⟩, h5, h6⟩ := hp
    refine ⟨⟨h1, h2, h3, h4.imp id ?_⟩, h5, h6⟩
    rintro ⟨b, bo, sz, q1, q2, q3, q4⟩
    exact ⟨b, bo, sz, q1, hal b sz q2, q3, fun i j hi hj => by
      have hlt : i * es + j < n * es := by
        have : (i + 1) * es ≤ n * es := Nat.mul_le_mul_right _ hi
        rw [Nat.add_mul] at this
        omega
      rw [hca b sz _ q2 (by omega)]
      exact ⟨(q4 i j hi hj).1.turn h, (q4 i j hi hj).2⟩⟩

theorem Rel.turn {H : Nat → Option AObj} {D : Nat → Prop} {w w' : World} {I : Nat → Prop} {O : OM} (h : SameCells w' w) (hfr : ∀ b, b < cx.w0.heap.size → w'.heap[b]? = w.heap[b]?) (he : EnvOK cx w') (hR : Rel cfg cx H D w I O) : Rel cfg cx H D w' I O where
  dom := hR.dom
  used := hR.used
  objs := fun o ob p h1 h2 => (hR.objs o ob p h1 h2).turn h
  inj := hR.inj
  notI := hR.notI
  lt := fun o p b bo sz h1 h2 => Nat.lt_of_lt_of_le (hR.lt o p b bo sz h1 h2) h.size
  Ilt := fun b hb => Nat.lt_of_lt_of_le (hR.Ilt b hb) h.size
  size := Nat.le_trans hR.size h.size
  frame := fun b h1 h2 => by rw [hfr b h1]; exact hR.frame b h1 h2
  new := hR.new
  glob := fun g cs hg => (hR.glob g cs hg).turn h
  I0I := hR.I0I
  II0 := hR.II0
  O0O := hR.O0O
  Dm := hR.Dm
  env := he

theorem StRel.turn {m : Nat} {s : St} {a a' : Act} {w w' : World} {I : Nat → Prop} {O : OM} (h : SameCells w' w) (hfr : ∀ b, b < cx.w0.heap.size → w'.heap[b]? = w.heap[b]?) (he : EnvOK cx w') (ha : a'.tmps = a.tmps) (hm : Marks cx w' a'.defers) (hS : StRel cfg N m cx s a w I O) : StRel cfg N m cx s a' w' I O :=
  ⟨hS.m, hS.rel.turn h hfr he, ⟨rfl, by rw [ha]; exact hS.tmps.size, fun t ht => by rw [ha]; exact (hS.tmps.rep t ht).turn h, fun t ht => by cases ht⟩, hm⟩

theorem sameCells_put {w : World} {D : Nat} {o o' : Obj} (h : w.heap[D]? = some o) (ho : noCells o = true) : SameCells (w.putObj D o') w := by
  have hlt : D < w.heap.size := by
    rcases Nat.lt_or_ge D w.heap.size with h1 | h1
    · exact h1
    · rw [Array.getElem?_eq_none h1] at h; cases h
  have hno : ∀ a : Addr, a.block = D → w.cell? a = none := fun a e => by
    unfold World.cell?
    rw [e, h]
    cases o <;> first | rfl | exact absurd ho Bool.false_ne_true
  refine ⟨fun a v hv => ?_, fun a hv => ?_, by simp [World.putObj]⟩
  · by_cases e : a.block = D
    · rw [hno a e] at hv; cases hv
    · unfold World.cell? at hv ⊢
      rw [World.putObj_heap_other e]
      exact hv
  · by_cases e : a.block = D
    · rw [hno a e] at hv; cases hv
    · unfold World.frozen?
      rw [World.putObj_heap_other e]

theorem env_put {w : World} {D : Nat} {o' : Obj} (hD : cx.w0.heap.size ≤ D) (hK : ∀ k o, ¬ cx.K k o) (he : EnvOK cx w) : EnvOK cx (w.putObj D o') := by
  refine ⟨⟨he.same.os, he.same.tape, he.same.output, fun k o hk ho => ?_⟩, fun k o h => absurd h (hK k o)⟩
  have hlt : k < cx.w0.heap.size := by
    rcases Nat.lt_or_ge k cx.w0.heap.size with h1 | h1
    · exact h1
    · rw [Array.getElem?_eq_none h1] at hk; cases hk
  rw [World.putObj_heap_other (by omega)]
  exact he.same.keep k o hk ho

/-- The marks are taken off at the function's end. -/
theorem leaves_marks {F : Fence} {n m : Nat} {fn : Func} {s : St} {R : Ending → World → Prop} (hK : ∀ k o, ¬ cx.K k o)
    (fin : ∀ (a : Act) (w : World) (I : Nat → Prop) (O : OM), StRel cfg N m cx s a w I O → ∃ v, (results fn a.tmps).run P w = .ok v w ∧ R (.returned v) w) :
    ∀ (ms : List Nat) (tmps : Array Value) (w : World) (I : Nat → Prop) (O : OM), ms.Nodup → (∀ D ∈ ms, cx.w0.heap.size ≤ D ∧ w.heap[D]? = some (.deferred (some []))) → StRel cfg N m cx s ⟨tmps, []⟩ w I O → LeavesInM F n P fn tmps R (ms.map markOf) .returning w := by
  intro ms
  induction ms with
  | nil =>
    intro tmps w I O _ _ hS
    exact fin _ w I O hS
  | cons D ms ih =>
    intro tmps w I O hnd hms hS
    obtain ⟨hD1, hD2⟩ := hms D (List.mem_cons_self ..)
    rw [List.nodup_cons] at hnd
    refine ⟨nofun, .inl ⟨D, w.putObj D (.deferred none), rfl, run_takeDeferred hD2, ?_⟩⟩
    refine ih tmps _ I O hnd.2 (fun D' hD' => ?_) ?_
    · have hne : D' ≠ D := fun e => hnd.1 (e ▸ hD')
      rw [World.putObj_heap_other hne]
      exact hms D' (List.mem_cons_of_mem _ hD')
    · exact hS.turn (sameCells_put hD2 rfl) (fun b hb => World.putObj_heap_other (by omega)) (env_put hD1 hK hS.rel.env) rfl ⟨[], List.nodup_nil, fun _ => rfl, rfl, fun _ h => by cases h⟩

end
end Go.Ab
