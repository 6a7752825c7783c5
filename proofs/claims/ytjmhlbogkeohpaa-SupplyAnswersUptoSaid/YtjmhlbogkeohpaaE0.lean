/- From the statement's premises to the contracts: what the arguments hold. -/
import Derived.Test.YtjmhlbogkeohpaaRows
import Derived.Test.YtjmhlbogkeohpaaChecked
import Derived.WalkKit
import Derived.ProofKit
import Derived.OpenShut
import Derived.Carry
import Derived.LaidMore
import Derived.Deep.DeepHandedRow
import Derived.Test.YtjmhlbogkeohpaaD0
namespace Go.Proofs.Ytjmhlbogkeohpaa
open Go.ChangeShapes Go.WideShapes Go.ChangeAt Go.RowKit
open Go.Ab
set_option maxRecDepth 100000

theorem own : ownKnob Try.prog.godebug = none := by kernel_rfl
theorem laidOut : laidOutB Try.prog = true := by kernel_rfl
theorem cells3 : Try.prog.cellsOf 3 = 1 := by kernel_rfl

def Old (W : World) : Nat → Prop := fun b => b < W.heap.size

theorem rel0 (W : World) : Rel cfg (cxOf W (Old W) (fun _ => none) 0) (hof []) (fun o => o < 0) W (Old W) (fun _ => none) :=
  { dom := fun o => by simp [hof]
    used := fun o p h => by cases h
    objs := fun o ob p _ h => by cases h
    inj := fun o o' p p' b bo sz b' bo' sz' h => by cases h
    notI := fun o p b bo sz h => by cases h
    lt := fun o p b bo sz h => by cases h
    Ilt := fun b h => h
    size := Nat.le_refl _
    frame := fun _ _ _ => rfl
    new := fun o p b bo sz h => by cases h
    glob := fun g cs hg => by cases hg
    I0I := fun _ h => h
    II0 := fun _ h => .inl h
    O0O := fun _ _ => .inl rfl
    Dm := fun _ h => h
    env := ⟨SameEnv.refl _, fun _ _ h => h.elim⟩ }

/-- A law that the walk has shown. -/
theorem run_law {f : FuncId} {args : List AV} {W : World} {vals : Array Value} (hs : S f args [] (.bool true) []) (hl : vals.size = args.length) (hr : ∀ j, j < args.length → PRep W (Old W) (nth args j) (vals.getD j Go.undef)) :
    Calls Try.prog f vals W fun e W' => e = .returned (.bool true) ∧ Below W.heap.size W W' := by
  obtain ⟨_, _, hc⟩ := hs
  refine (hc W (Old W) (fun _ => none) vals (rel0 W) hl (fun j hj => .pure (hr j hj))).mono fun e W' h => ?_
  obtain ⟨x, I', O', rfl, hR, hx, _⟩ := h
  have hb : x = .bool true := by
    cases hx with
    | pure hp => cases hp; rfl
  subst hb
  refine ⟨rfl, ⟨hR.env.same.os, hR.env.same.tape, hR.env.same.output, hR.size, fun k hk => hR.frame k hk ?_⟩⟩
  rintro ⟨o, p, bo, sz, h, _⟩
  cases h

/-- A slice of integers that came in. -/
theorem open_intsV {H : Type} {enc : TypeId × Value → H} {W : World} {v : Value} {d : DataW H} {ps : List MemPlace} {base : Nat} (hv : Value.okWide Try.prog W .any base 22 v) (h : DataW.Trod enc Try.prog W 0 (fun _ => true) true 22 v d ps) : ∃ l : List Int, I64 l ∧ PRep W (Old W) (intsV l) v := by
  obtain ⟨a0, len, cap, rfl⟩ := okWide_slice Try.underlying22 hv
  obtain ⟨fuel, hf⟩ := h
  rcases open_ints Try.underlying22 Try.underlying3 cells3 hf with ⟨hcs, hx⟩ | ⟨a, len', cap', zs, hcs, _, hl, hm, hz, hx, hcell, hwz⟩
  · simp [Value.cells] at hcs
    obtain ⟨rfl, rfl, rfl⟩ := hcs
    refine ⟨[], (fun x hx => by cases hx), ?_⟩
    exact .sl 0 0 (fun _ _ => Go.undef) (Nat.le_refl _) nofun (fun h => absurd rfl h) (fun i hi => by cases hi) (fun i j hi => by cases hi) (fun i j hi => by cases hi) (fun i j hi => by cases hi)
  · simp [Value.cells] at hcs
    obtain ⟨rfl, rfl, rfl⟩ := hcs
    simp only [if_true] at hz
    refine ⟨zs.take len, fun x hx => ?_, ?_⟩
    · have := hwz x (List.mem_of_mem_take hx)
      simp only [Lit.wf, Bool.and_eq_true, decide_eq_true_eq] at this
      exact this
    · have hlen : (zs.take len).length = len := by simp; omega
      unfold intsV
      rw [hlen]
      refine .sl a.block a.off (fun i _ => .int .i64 (zs.getD i 0)) hl nofun (fun hn => ?_) (fun i hi => rfl) (fun i j hi hj => ?_) (fun i j hi hj => rfl) (fun i j hi hj => ?_)
      · have h0 := hcell 0 (by omega)
        have hsp := World.cell?_spot h0
        have e : a.add 0 = a := by simp [Addr.add]
        rw [e] at hsp h0
        refine ⟨by cases a; simp at hsp; subst hsp; rfl, World.block_lt_of_cell? _ _ h0⟩
      · have hj0 : j = 0 := by omega
        subst hj0
        have h0 := hcell 0 (by omega)
        have hsp := World.cell?_spot h0
        have e : a.add 0 = a := by simp [Addr.add]
        rw [e] at hsp
        have hi' := hcell i (by omega)
        have e2 : a.add i = ⟨a.block, a.off + (i * 1 + 0), none⟩ := by
          obtain ⟨b, off, sp⟩ := a
          simp at hsp
          subst hsp
          rw [Addr.add_mid]
          simp
        rw [e2] at hi'
        exact hi'
      · have hj0 : j = 0 := by omega
        subst hj0
        have e : nth (rowG iV 0 (zs.take len) i).cells 0 = iV (zs.getD i 0) := by
          show iV ((zs.take len).getD i 0) = _
          rw [getD_take zs 0 hi]
        rw [e]
        exact .int _ _

end Go.Proofs.Ytjmhlbogkeohpaa
