/- The purse's program for the machine: what is asked of it holds; no condition. -/
import Derived.Test.YtlmfdlmbahlojaaAMRule
import Derived.Test.YtlmfdlmbahlojaaAMEq
import Derived.Test.YtlmfdlmbahlojaaProg
import Derived.KernelRfl
set_option autoImplicit false
namespace Go.AM
open Go Go.RowKit Go.Proofs

def peEq (t : TypeId) : List Bool :=
  match Nat.beq t 23 with
  | true => [true, true, true, true]
  | false => match Nat.beq t 25 with
    | true => [true, true]
    | false => []

def peWay (f : FuncId) : Way :=
  match Nat.beq f 9 with
  | true => ⟨true, false, false⟩
  | false => ⟨false, false, false⟩

-- 3 bivouac/bivouaclaw19.PurseEqual
def tb3 : List (Nat × List Nat) := [(0, [2, 3, 4]), (1, [2, 3, 4]), (2, [2, 9, 10]), (3, [2, 9, 10, 33]), (4, [6]), (5, [2, 9, 11]), (6, [2, 9, 11, 47]), (8, [2, 9, 11, 12, 13]), (9, [2, 9, 11, 119]), (10, [6]), (7, [2, 9, 11]), (11, [6])]
-- 4 bivouac/bivouaclaw19.few
def tb4 : List (Nat × List Nat) := [(0, [0]), (1, [0, 5]), (2, [2]), (3, [2])]
-- 5 bivouac/purse.Serve
def tb5 : List (Nat × List Nat) := [(0, [2, 3, 4, 6]), (1, [2, 3, 4, 6, 38]), (2, [6, 7, 8, 9]), (3, [2, 3, 4, 6, 10]), (4, [2, 3, 4, 6, 10, 11]), (5, [2, 3, 4, 6, 10, 11, 41, 42, 43]), (6, [2, 3, 4, 6, 10, 11, 41, 42, 43, 44]), (7, [2, 3, 4, 6, 10, 11, 13, 41, 42, 43]), (8, [2, 3, 4, 6, 10, 11, 13, 41, 42, 43, 49]), (9, [6, 7, 8, 9]), (10, [2, 3, 4, 6, 10, 11, 41, 42, 43]), (11, [2, 3, 4, 6, 10, 11, 41, 42, 43]), (12, [2, 3, 6, 10, 14, 15]), (13, [2, 3, 6, 10, 14, 15, 16]), (14, [2, 3, 6, 14, 15, 16, 18]), (15, [2, 3, 6, 14, 15, 20]), (16, [2, 3, 6, 14, 15, 20, 21]), (17, [3, 6, 14, 15, 20, 21, 82, 83, 84]), (18, [3, 6, 14, 15, 20, 21, 82, 83, 84, 85]), (19, [3, 6, 14, 15, 20, 21, 23, 82, 83, 84]), (20, [3, 6, 14, 15, 20, 21, 24, 82, 83, 84]), (21, [3, 6, 14, 15, 20, 21, 24, 82, 83, 84]), (22, [3, 6, 14, 15, 20, 21, 82, 83, 84]), (23, [3, 6, 14, 15, 20, 21, 82, 83, 84]), (24, [3, 6, 20, 21]), (25, [6, 7, 8, 9])]
-- 7 bivouac/purse.May
def tb7 : List (Nat × List Nat) := [(0, [1]), (1, [2])]
-- 8 bivouac/purse.wish
def tb8 : List (Nat × List Nat) := [(0, [1]), (1, [2])]
-- 9 bivouac/purse.Serve$1
def tb9 : List (Nat × List Nat) := [(0, [1, 2]), (1, [])]
-- 10 bivouac/purse.Scale
def tb10 : List (Nat × List Nat) := [(0, [0, 1]), (1, [0, 1, 13]), (2, [4, 5]), (3, [0, 1, 16]), (4, [4, 5]), (5, [4, 5])]
-- 11 bivouac/purse.Part
def tb11 : List (Nat × List Nat) := [(0, [1, 2, 4]), (1, [1, 2, 4, 16]), (2, [4, 5]), (3, [4, 5])]
-- 12 bivouac/purse.within
def tb12 : List (Nat × List Nat) := [(0, [0, 1]), (1, [4])]
-- 13 bivouac/num.MulDiv
def tb13 : List (Nat × List Nat) := [(0, [3, 4, 5]), (1, [3, 4, 5, 14]), (2, [6, 7]), (3, [3, 4, 5, 8]), (4, [3, 4, 5, 8]), (5, [5, 8, 9]), (6, [8, 9, 10]), (7, [8, 9, 10, 31]), (8, [6, 7]), (9, [9, 11, 12]), (10, [11, 12, 43]), (11, [11, 45]), (12, [6, 7]), (13, [6, 7]), (14, [11, 49]), (15, [11]), (16, [11, 57]), (17, [6, 7]), (18, [6, 7])]
-- 14 math/bits.Mul64
def tb14 : List (Nat × List Nat) := [(0, [0, 1]), (1, [0, 1, 6]), (2, [0, 1, 6, 7]), (3, [0, 1, 6, 7, 8]), (4, [0, 1, 6, 7, 8, 9]), (5, [0, 1, 6, 7, 8, 9, 10]), (6, [0, 1, 6, 7, 9, 11]), (7, [0, 1, 6, 7, 9, 11, 12]), (8, [0, 1, 6, 7, 9, 12, 13]), (9, [0, 1, 7, 9, 12, 13]), (10, [0, 1, 4]), (11, [4, 5])]
-- 15 bivouac/num.size
def tb15 : List (Nat × List Nat) := [(0, [0]), (1, [0, 4]), (2, [2]), (3, [2])]
-- 16 bivouac/num.MulDiv$1
def tb16 : List (Nat × List Nat) := [(0, [0, 1, 2]), (1, [3])]
-- 17 math/bits.Div64
def tb17 : List (Nat × List Nat) := [(0, [0, 1, 2]), (1, [0, 1, 2, 20]), (2, [0, 1, 2]), (3, [0, 1, 2, 24]), (4, [0, 1, 2]), (5, [0, 1, 2, 27]), (6, [6, 7]), (7, [0, 1, 2, 8]), (8, [0, 1, 2, 8]), (9, [0, 1, 2, 8, 9]), (10, [0, 1, 2, 8, 9, 10]), (11, [1, 2, 8, 9, 10, 11]), (12, [2, 8, 9, 10, 11, 12]), (13, [2, 8, 9, 10, 11, 12, 13]), (14, [2, 8, 9, 10, 11, 13, 14]), (15, [2, 8, 9, 10, 11, 13, 14, 15]), (16, [2, 8, 9, 10, 11, 13, 14, 15, 16]), (17, [2, 8, 9, 10, 11, 13, 14, 15, 16, 78]), (18, [2, 8, 9, 10, 11, 13, 14, 15, 16]), (19, [2, 8, 9, 10, 11, 13, 14, 15, 16]), (20, [2, 8, 9, 10, 11, 13, 14, 15, 16, 85]), (21, [2, 8, 9, 10, 14, 15, 17]), (22, [2, 8, 9, 10, 14, 15, 17, 18]), (23, [2, 8, 9, 10, 14, 15, 16, 17, 18]), (24, [2, 8, 9, 10, 14, 15, 16, 17, 18, 113]), (25, [2, 8, 9, 10, 14, 15, 16, 17, 18]), (26, [2, 8, 9, 10, 14, 15, 16, 17, 18]), (27, [2, 8, 9, 10, 14, 15, 16, 17, 18, 120]), (28, [6, 7])]
-- 18 math/bits.LeadingZeros64
def tb18 : List (Nat × List Nat) := [(0, [0]), (1, [2])]
-- 19 math/bits.Len64
def tb19 : List (Nat × List Nat) := [(0, [0, 2]), (1, [0, 2, 4]), (2, [0]), (3, [0, 2]), (4, [0, 2, 8]), (5, [0, 2]), (6, [0, 2]), (7, [0, 2, 14]), (8, [0, 2]), (9, [0, 2]), (10, [2])]
def tabs : List (Nat × List (Nat × List Nat)) := [(3, tb3), (4, tb4), (5, tb5), (7, tb7), (8, tb8), (9, tb9), (10, tb10), (11, tb11), (12, tb12), (13, tb13), (14, tb14), (15, tb15), (16, tb16), (17, tb17), (18, tb18), (19, tb19)]

noncomputable def PE : Cfg := { P := Try.prog, G := fun _ => .undef, eqT := peEq, way := peWay, ext := fun _ => none, nat := fun _ => none, keep := keepBy tabs }
theorem pe_eq : EqOk PE.P PE.eqT := by
  apply eqOk_of
  intro t ht
  by_cases h1 : t = 23
  · subst h1; kernel_rfl
  · by_cases h2 : t = 25
    · subst h2; kernel_rfl
    · exfalso; apply ht
      simp only [PE, peEq, beq_ne h1, beq_ne h2]

def named (P : Program) : Bool := P.funcs.toList.all fun fn => !(fn.name == "runtime.NumGoroutine")

theorem name_of {P : Program} (h : named P = true) (f : FuncId) (fn : Func) (hf : P.funcs[f]? = some fn) : (fn.name == "runtime.NumGoroutine") = false := by
  simp only [named, List.all_eq_true] at h
  have hm : fn ∈ P.funcs.toList := by
    have : P.funcs.toList[f]? = some fn := by simpa using hf
    exact List.mem_of_getElem? this
  simpa using h fn hm

theorem pe_ok : CfgOk PE where
  eqT := pe_eq
  closed := fun _ => rfl
  follows := by kernel_rfl
  name := name_of (by kernel_rfl)
  ext := fun f g h => by cases h
  nat := fun f g h => by cases h

theorem pe_prog : progOk' PE.P := progOk_spec (by kernel_rfl)

def isTrue : Option (Out × Heap) → Bool
  | some (.ret (.v (.bool true)), _) => true
  | _ => false
theorem awake : isTrue (callF PE 100000 6 [] []) = true := by kernel_rfl
end Go.AM
