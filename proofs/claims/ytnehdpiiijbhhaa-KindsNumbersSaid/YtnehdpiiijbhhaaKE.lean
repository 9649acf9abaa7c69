/- The machine finds the law KindsNumbers true, and the text of its program fit; both by evaluation in the kernel; no condition. -/
import Derived.Test.YtnehdpiiijbhhaaAMEq
import Derived.Test.YtnehdpiiijbhhaaProg
import Derived.KernelRfl
set_option autoImplicit false
namespace Go.AM
open Go Go.RowKit Go.Proofs

def keEq (t : TypeId) : List Bool := []
def keWay (f : FuncId) : Way :=
  match Nat.beq f 13 with
  | true => ⟨false, false, true⟩
  | false => match mem f [24, 25, 26, 30, 39, 40, 41, 31, 32, 33, 27, 29] with
    | true => ⟨true, false, false⟩
    | false => ⟨false, false, false⟩
def keExt (f : FuncId) : Option (List AV → Option AV) :=
  match Nat.beq f 38 with
  | true => some fun l => match l with | [.v (.float .f64 b)] => some (.v (.int .u64 b)) | _ => none
  | false => match Nat.beq f 47 with
    | true => some fun l => match l with | [.v (.int .u64 b)] => some (.v (.float .f64 b.toNat)) | _ => none
    | false => none
noncomputable def KE : Cfg := { P := Try.prog, G := fun _ => .undef, eqT := keEq, way := keWay, ext := keExt, nat := fun _ => none }
def isTrue : Option (Out × Heap) → Bool
  | some (.ret (.v (.bool true)), _) => true
  | _ => false
theorem numbers : isTrue (callF KE 100000 3 [] []) = true := by kernel_rfl
theorem kprog : progOk KE.P = true := by kernel_rfl
end Go.AM
