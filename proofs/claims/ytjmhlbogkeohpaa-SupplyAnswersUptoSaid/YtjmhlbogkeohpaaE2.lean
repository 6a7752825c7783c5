/- From the statement's premises to the contracts: what the arguments hold. -/
import Derived.Test.YtjmhlbogkeohpaaE1
import Derived.Test.YtjmhlbogkeohpaaD0
namespace Go.Proofs.Ytjmhlbogkeohpaa
open Go.ChangeShapes Go.WideShapes Go.ChangeAt Go.RowKit
open Go.Ab
set_option maxRecDepth 100000
def QI (n : Int) : Prop := (Lit.int .i64 n).wf = true
def QL {α : Type} (Q : α → Prop) (l : List α) : Prop := l.length ≤ 1048576 ∧ ∀ x ∈ l, Q x
section
variable {H : Type} {enc : TypeId × Value → H} {W : World}
theorem rd_I : Rd enc W 3 iV QI := rd_int Try.underlying3
theorem rd_B : Rd enc W 4 AV.bool (fun _ => True) := rd_bool Try.underlying4
theorem rd_ints : Rd enc W 22 intsV (QL QI) := rd_slice (α := Int) (F := iV) 0 1 Try.underlying22 (by kernel_rfl) (by decide) (fun _ => rfl) rd_I
theorem rd_bools : Rd enc W 29 boolsV (QL (fun _ => True)) := rd_slice (α := Bool) (F := AV.bool) false 1 Try.underlying29 (by kernel_rfl) (by decide) (fun _ => rfl) rd_B
def QSup (x : Sup) : Prop := QI x.par ∧ (QL QI) x.lev ∧ QI x.drop ∧ QI x.cap ∧ (fun _ => True) x.alw ∧ True
theorem rd_sup : Rd enc W 49 supV QSup := rd_struct (tot := 5) supV QSup (fun p : Int × (List Int) × Int × Int × Bool × Unit => ⟨p.1, p.2.1, p.2.2.1, p.2.2.2.1, p.2.2.2.2.1⟩) Try.underlying49 (by kernel_rfl) (rdf_cons (o := 0) (o' := 1) rd_I rfl (by kernel_rfl) (rdf_cons (o := 1) (o' := 2) rd_ints rfl (by kernel_rfl) (rdf_cons (o := 2) (o' := 3) rd_I rfl (by kernel_rfl) (rdf_cons (o := 3) (o' := 4) rd_I rfl (by kernel_rfl) (rdf_cons (o := 4) (o' := 5) rd_B rfl (by kernel_rfl) rdf_nil))))) (fun _ => rfl) (fun _ h => h)
theorem rd_sups : Rd enc W 25 supsV (QL QSup) := rd_slice (α := Sup) (F := supV) sup0 5 Try.underlying25 (by kernel_rfl) (by decide) (fun _ => rfl) rd_sup
def QDrw (x : Drw) : Prop := QI x.sup ∧ QI x.low ∧ QI x.high ∧ QI x.load ∧ True
theorem rd_drw : Rd enc W 43 drwV QDrw := rd_struct (tot := 4) drwV QDrw (fun p : Int × Int × Int × Int × Unit => ⟨p.1, p.2.1, p.2.2.1, p.2.2.2.1⟩) Try.underlying43 (by kernel_rfl) (rdf_cons (o := 0) (o' := 1) rd_I rfl (by kernel_rfl) (rdf_cons (o := 1) (o' := 2) rd_I rfl (by kernel_rfl) (rdf_cons (o := 2) (o' := 3) rd_I rfl (by kernel_rfl) (rdf_cons (o := 3) (o' := 4) rd_I rfl (by kernel_rfl) rdf_nil)))) (fun _ => rfl) (fun _ h => h)
theorem rd_drws : Rd enc W 27 drwsV (QL QDrw) := rd_slice (α := Drw) (F := drwV) drw0 4 Try.underlying27 (by kernel_rfl) (by decide) (fun _ => rfl) rd_drw
def QRls (x : Rls) : Prop := (QL (fun _ => True)) x.on ∧ (QL QI) x.lev ∧ True
theorem rd_rls : Rd enc W 31 rlsV QRls := rd_struct (tot := 2) rlsV QRls (fun p : (List Bool) × (List Int) × Unit => ⟨p.1, p.2.1⟩) Try.underlying31 (by kernel_rfl) (rdf_cons (o := 0) (o' := 1) rd_bools rfl (by kernel_rfl) (rdf_cons (o := 1) (o' := 2) rd_ints rfl (by kernel_rfl) rdf_nil)) (fun _ => rfl) (fun _ h => h)
def QChn (x : Chn) : Prop := (fun _ => True) x.over ∧ (QL QI) x.sups ∧ QI x.first ∧ QI x.last ∧ True
theorem rd_chn : Rd enc W 51 chnV QChn := rd_struct (tot := 4) chnV QChn (fun p : Bool × (List Int) × Int × Int × Unit => ⟨p.1, p.2.1, p.2.2.1, p.2.2.2.1⟩) Try.underlying51 (by kernel_rfl) (rdf_cons (o := 0) (o' := 1) rd_B rfl (by kernel_rfl) (rdf_cons (o := 1) (o' := 2) rd_ints rfl (by kernel_rfl) (rdf_cons (o := 2) (o' := 3) rd_I rfl (by kernel_rfl) (rdf_cons (o := 3) (o' := 4) rd_I rfl (by kernel_rfl) rdf_nil)))) (fun _ => rfl) (fun _ h => h)
end
end Go.Proofs.Ytjmhlbogkeohpaa
