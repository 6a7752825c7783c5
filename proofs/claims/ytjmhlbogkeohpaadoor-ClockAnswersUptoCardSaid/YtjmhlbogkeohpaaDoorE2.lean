/- From the statement's premises to the contracts: what the arguments and the listed variable hold. -/
import Derived.Test.YtjmhlbogkeohpaaDoorE1
import Derived.Test.YtjmhlbogkeohpaaDoorD0
namespace Go.Proofs.YtjmhlbogkeohpaaDoor
open Go.ChangeShapes Go.WideShapes Go.ChangeAt Go.RowKit
open Go.Ab
set_option maxRecDepth 100000
def QI (n : Int) : Prop := (Lit.int .i64 n).wf = true
def QL {α : Type} (Q : α → Prop) (l : List α) : Prop := l.length ≤ 1048576 ∧ ∀ x ∈ l, Q x
section
variable {H : Type} {enc : TypeId × Value → H} {W : World}
theorem rd_I : Rd enc W 3 iV QI := rd_int Tryd.underlying3
theorem rd_ints : Rd enc W 22 intsV (QL QI) := rd_slice (α := Int) (F := iV) 0 1 Tryd.underlying22 (by kernel_rfl) (by decide) (fun _ => rfl) rd_I
def QClk (x : Clk) : Prop := QI x.kind ∧ (QL QI) x.par ∧ (QL QI) x.ch ∧ QI x.low ∧ QI x.high ∧ True
theorem rd_clk : Rd enc W 39 clkV QClk := rd_struct (tot := 5) clkV QClk (fun p : Int × (List Int) × (List Int) × Int × Int × Unit => ⟨p.1, p.2.1, p.2.2.1, p.2.2.2.1, p.2.2.2.2.1⟩) Tryd.underlying39 (by kernel_rfl) (rdf_cons (o := 0) (o' := 1) rd_I rfl (by kernel_rfl) (rdf_cons (o := 1) (o' := 2) rd_ints rfl (by kernel_rfl) (rdf_cons (o := 2) (o' := 3) rd_ints rfl (by kernel_rfl) (rdf_cons (o := 3) (o' := 4) rd_I rfl (by kernel_rfl) (rdf_cons (o := 4) (o' := 5) rd_I rfl (by kernel_rfl) rdf_nil))))) (fun _ => rfl) (fun _ h => h)
theorem rd_clks : Rd enc W 25 clksV (QL QClk) := rd_slice (α := Clk) (F := clkV) clk0 5 Tryd.underlying25 (by kernel_rfl) (by decide) (fun _ => rfl) rd_clk
def QLim (x : Lim) : Prop := QI x.clk ∧ QI x.low ∧ QI x.high ∧ True
theorem rd_lim : Rd enc W 32 limV QLim := rd_struct (tot := 3) limV QLim (fun p : Int × Int × Int × Unit => ⟨p.1, p.2.1, p.2.2.1⟩) Tryd.underlying32 (by kernel_rfl) (rdf_cons (o := 0) (o' := 1) rd_I rfl (by kernel_rfl) (rdf_cons (o := 1) (o' := 2) rd_I rfl (by kernel_rfl) (rdf_cons (o := 2) (o' := 3) rd_I rfl (by kernel_rfl) rdf_nil))) (fun _ => rfl) (fun _ h => h)
theorem rd_lims : Rd enc W 28 limsV (QL QLim) := rd_slice (α := Lim) (F := limV) lim0 3 Tryd.underlying28 (by kernel_rfl) (by decide) (fun _ => rfl) rd_lim
end
end Go.Proofs.YtjmhlbogkeohpaaDoor
