/- Whether a kind and a weapon may be, in the machine: the program's word and the reference's are the same; no condition. -/
import Derived.Test.YtnehdpiiijbhhaaKS
set_option autoImplicit false
set_option maxRecDepth 100000
set_option linter.unusedSimpArgs false
namespace Go.AM
open Go Go.RowKit Go.Proofs

theorem betw_n (a b : Int) : betw a b [] = true := rfl
theorem betw_c (a b x : Int) (l : List Int) : betw a b (x :: l) = (rng a b x && betw a b l) := rfl
theorem between_e' (a b : Int) (h : Heap) (r ver off len : Nat) (hl : len ≤ 100) (hn : nums1 (nth h r) ver off len = some ((nums1 (nth h r) ver off len).getD [])) :
    callEL KE 19 [i64 a, i64 b, .ref r ver off len] h = some (.val (bl (betw a b ((nums1 (nth h r) ver off len).getD []))) h ⟨[r], [], false⟩) := between_e a b h r ver off len _ hl hn

/-- A kind's numbers, as they lie. -/
structure Kd where
  cls : Int
  health : Int
  speed : Int
  turn : Int
  sight : Int
  radar : Int
  sonar : Int
  jam : Int
  metal : Int
  energy : Int
  work : Int
  giveM : Int
  giveE : Int
  eatE : Int
  storeM : Int
  storeE : Int
  build : Int
  carry : Int
  weapon : Int
  wreck : Int
def Kd.cells (k : Kd) : List AV := [i64 k.cls, i64 k.health, i64 k.speed, i64 k.turn, i64 k.sight, i64 k.radar, i64 k.sonar, i64 k.jam, i64 k.metal, i64 k.energy, i64 k.work, i64 k.giveM, i64 k.giveE, i64 k.eatE, i64 k.storeM, i64 k.storeE, i64 k.build, i64 k.carry, i64 k.weapon, i64 k.wreck]
/-- A weapon's. -/
structure Wp where
  reach : Int
  damage : Int
  speed : Int
  reload : Int
  splash : Int
  under : Bool
def Wp.cells (w : Wp) : List AV := [i64 w.reach, i64 w.damage, i64 w.speed, i64 w.reload, i64 w.splash, bl w.under]

/-- May a kind be? -/
def kindOk (k : Kd) (n : Int) : Bool := rng 0 5 k.cls && rng 1 9999 k.health && rng 0 65536 k.speed && rng 0 32768 k.turn && rng 0 32 k.sight && rng 0 32 k.radar && rng 0 32 k.sonar && rng 0 32 k.jam &&
  rng 0 65535 k.metal && rng 0 65535 k.energy && rng 0 65535 k.storeM && rng 0 65535 k.storeE && rng 0 65535 k.wreck && rng 1 65535 k.work && rng 0 255 k.giveM && rng 0 255 k.giveE && rng 0 255 k.eatE && rng 0 255 k.build && rng 0 4 k.carry &&
  (decide (k.weapon = 255) || rng 0 (IntKind.i64.wrap (n - 1)) k.weapon)
def weaponOk (w : Wp) : Bool := rng 1 32 w.reach && rng 0 9999 w.damage && rng 1 262144 w.speed && rng 1 255 w.reload && rng 0 8 w.splash

theorem retb {x y : Bool} (h : x = y) : some (Out.ret (bl x)) = some (Out.ret (bl y)) := by rw [h]
theorem rng_speed (s : Int) : rng 0 65536 s = (decide (0 ≤ s) && decide (s ≤ 65536)) := rfl
theorem weapon_c (w : Wp) : retOf (callL KE 21 [.agg w.cells] []) = some (.ret (bl (weaponOk w))) := by
  rw [cu21]
  conv in codeOf _ => simp only [codeOf, Try.f21]
  simp only [tb21, Wp.cells, between_e', nums1_a, unI_n, unI_c, betw_n, betw_c, RR, RC, FF, gd, noDef, kindOf, sl1, allocs, isLit, ↓br_i, ↓reduceIte, reduceCtorEq, List.replicate, decide_eq_true_eq, decide_eq_false_iff_not, decide_true, decide_false, beq_self_eq_true, if_true, if_false, ite_not, Nat.le_refl, Int.cast_ofNat_Int, Nat.reduceAdd, Nat.reduceMul, Nat.reduceDiv, Nat.reduceMod, Nat.reduceSub, Nat.reduceEqDiff, Nat.reduceLT, Nat.reduceLeDiff, Nat.reduceBeqDiff, Int.reduceLT, Int.reduceLE, Int.reduceEq, Int.reduceToNat, Int.reduceAdd, Int.reduceSub, Int.reduceMul, Int.reduceNeg]
  all_goals repeat' (first | (split <;> simp only [*, tb21, between_e', nums1_a, unI_n, unI_c, betw_n, betw_c, RR, RC, FF, gd, noDef, kindOf, sl1, allocs, isLit, ↓br_i, ↓reduceIte, reduceCtorEq, List.replicate, decide_eq_true_eq, decide_eq_false_iff_not, decide_true, decide_false, beq_self_eq_true, if_true, if_false, ite_not, Nat.le_refl, Int.cast_ofNat_Int, Nat.reduceAdd, Nat.reduceMul, Nat.reduceDiv, Nat.reduceMod, Nat.reduceSub, Nat.reduceEqDiff, Nat.reduceLT, Nat.reduceLeDiff, Nat.reduceBeqDiff, Int.reduceLT, Int.reduceLE, Int.reduceEq, Int.reduceToNat, Int.reduceAdd, Int.reduceSub, Int.reduceMul, Int.reduceNeg]))
  all_goals
    refine retb ?_
    simp_all [weaponOk, rng]
  all_goals omega
theorem weapon_e (w : Wp) (h : Heap) : callEL KE 21 [.agg w.cells] h = some (.val (bl (weaponOk w)) h fp0) :=
  call_ret (E := KE) (f := 21) rfl rfl rfl (weapon_c w) (fun _ => rfl) rfl
theorem refWeapon_c (w : Wp) : retOf (callL KE 23 [.agg w.cells] []) = some (.ret (bl (weaponOk w))) := by
  rw [cu23]
  conv in codeOf _ => simp only [codeOf, Try.f23]
  simp only [tb23, Wp.cells, in_e, RR, RC, FF, gd, noDef, kindOf, sl1, allocs, isLit, ↓br_i, ↓reduceIte, reduceCtorEq, List.replicate, decide_eq_true_eq, decide_eq_false_iff_not, decide_true, decide_false, beq_self_eq_true, if_true, if_false, ite_not, Nat.le_refl, Int.cast_ofNat_Int, Nat.reduceAdd, Nat.reduceMul, Nat.reduceDiv, Nat.reduceMod, Nat.reduceSub, Nat.reduceEqDiff, Nat.reduceLT, Nat.reduceLeDiff, Nat.reduceBeqDiff, Int.reduceLT, Int.reduceLE, Int.reduceEq, Int.reduceToNat, Int.reduceAdd, Int.reduceSub, Int.reduceMul, Int.reduceNeg]
  all_goals repeat' (first | (split <;> simp only [*, tb23, in_e, RR, RC, FF, gd, noDef, kindOf, sl1, allocs, isLit, ↓br_i, ↓reduceIte, reduceCtorEq, List.replicate, decide_eq_true_eq, decide_eq_false_iff_not, decide_true, decide_false, beq_self_eq_true, if_true, if_false, ite_not, Nat.le_refl, Int.cast_ofNat_Int, Nat.reduceAdd, Nat.reduceMul, Nat.reduceDiv, Nat.reduceMod, Nat.reduceSub, Nat.reduceEqDiff, Nat.reduceLT, Nat.reduceLeDiff, Nat.reduceBeqDiff, Int.reduceLT, Int.reduceLE, Int.reduceEq, Int.reduceToNat, Int.reduceAdd, Int.reduceSub, Int.reduceMul, Int.reduceNeg]))
  all_goals
    refine retb ?_
    simp_all [weaponOk, rng]
  all_goals omega
theorem refWeapon_e (w : Wp) (h : Heap) : callEL KE 23 [.agg w.cells] h = some (.val (bl (weaponOk w)) h fp0) :=
  call_ret (E := KE) (f := 23) rfl rfl rfl (refWeapon_c w) (fun _ => rfl) rfl
theorem kind_c (k : Kd) (n : Int) : retOf (callL KE 20 [.agg k.cells, i64 n] []) = some (.ret (bl (kindOk k n))) := by
  rw [cu20]
  conv in codeOf _ => simp only [codeOf, Try.f20]
  simp only [tb20, Kd.cells, between_e', nums1_a, unI_n, unI_c, betw_n, betw_c, RR, RC, FF, gd, noDef, kindOf, sl1, allocs, isLit, ↓br_i, ↓reduceIte, reduceCtorEq, List.replicate, decide_eq_true_eq, decide_eq_false_iff_not, decide_true, decide_false, beq_self_eq_true, if_true, if_false, ite_not, Nat.le_refl, Int.cast_ofNat_Int, Nat.reduceAdd, Nat.reduceMul, Nat.reduceDiv, Nat.reduceMod, Nat.reduceSub, Nat.reduceEqDiff, Nat.reduceLT, Nat.reduceLeDiff, Nat.reduceBeqDiff, Int.reduceLT, Int.reduceLE, Int.reduceEq, Int.reduceToNat, Int.reduceAdd, Int.reduceSub, Int.reduceMul, Int.reduceNeg]
  all_goals repeat' (first | (split <;> simp only [*, tb20, between_e', nums1_a, unI_n, unI_c, betw_n, betw_c, RR, RC, FF, gd, noDef, kindOf, sl1, allocs, isLit, ↓br_i, ↓reduceIte, reduceCtorEq, List.replicate, decide_eq_true_eq, decide_eq_false_iff_not, decide_true, decide_false, beq_self_eq_true, if_true, if_false, ite_not, Nat.le_refl, Int.cast_ofNat_Int, Nat.reduceAdd, Nat.reduceMul, Nat.reduceDiv, Nat.reduceMod, Nat.reduceSub, Nat.reduceEqDiff, Nat.reduceLT, Nat.reduceLeDiff, Nat.reduceBeqDiff, Int.reduceLT, Int.reduceLE, Int.reduceEq, Int.reduceToNat, Int.reduceAdd, Int.reduceSub, Int.reduceMul, Int.reduceNeg]))
  all_goals
    refine retb ?_
    simp only [kindOk, rng_speed]
    grind
theorem kind_e (k : Kd) (n : Int) (h : Heap) : callEL KE 20 [.agg k.cells, i64 n] h = some (.val (bl (kindOk k n)) h fp0) :=
  call_ret (E := KE) (f := 20) rfl rfl rfl (kind_c k n) (fun _ => rfl) rfl
def kA (k : Kd) : Bool := rng 0 5 k.cls && rng 1 9999 k.health && rng 0 65536 k.speed && rng 0 32768 k.turn
def kB (k : Kd) : Bool := rng 0 32 k.sight && rng 0 32 k.radar && rng 0 32 k.sonar && rng 0 32 k.jam
def kC (k : Kd) : Bool := rng 0 65535 k.metal && rng 0 65535 k.energy && rng 0 65535 k.storeM && rng 0 65535 k.storeE && rng 0 65535 k.wreck && rng 1 65535 k.work
def kD (k : Kd) : Bool := rng 0 255 k.giveM && rng 0 255 k.giveE && rng 0 255 k.eatE && rng 0 255 k.build && rng 0 4 k.carry
def kEE (k : Kd) (n : Int) : Bool := decide (k.weapon = 255) || rng 0 (IntKind.i64.wrap (n - 1)) k.weapon
noncomputable def st22 (k : Kd) (n : Int) (l : List (Nat × AV)) : St := ⟨T.of (l ++ [(1, i64 n), (2, .ptr 0 0 0 0)]), [.arr 0 false 20 [] [k.cells]], [], KE.keep 22⟩
noncomputable def c22a : Code := subC (codeOf Try.f22) [1, 1]
noncomputable def c22b : Code := subC (codeOf Try.f22) [1, 1, 1]
noncomputable def c22c : Code := subC (codeOf Try.f22) [1, 1, 1, 1]
noncomputable def c22d : Code := subC (codeOf Try.f22) [1, 1, 1, 1, 1]
theorem mid22d (k : Kd) (n : Int) (b5 b6 b7 b8 : Bool) : retOf (bx (goX KE [.code c22d] .normal (st22 k n [(5, bl b5), (6, bl b6), (7, bl b7), (8, bl b8)])) (atF KE Try.f22)) = some (.ret (bl (b5 && b6 && b7 && b8 && kEE k n))) := by
  rw [show c22d = _ from by simp only [c22d, subC, codeOf, Try.f22]; rfl]
  simp only [tb22, st22, Kd.cells, in_e, RR, RC, FF, gd, noDef, kindOf, sl1, allocs, isLit, ↓br_i, ↓reduceIte, reduceCtorEq, List.replicate, decide_eq_true_eq, decide_eq_false_iff_not, decide_true, decide_false, beq_self_eq_true, if_true, if_false, ite_not, Nat.le_refl, Int.cast_ofNat_Int, Nat.reduceAdd, Nat.reduceMul, Nat.reduceDiv, Nat.reduceMod, Nat.reduceSub, Nat.reduceEqDiff, Nat.reduceLT, Nat.reduceLeDiff, Nat.reduceBeqDiff, Int.reduceLT, Int.reduceLE, Int.reduceEq, Int.reduceToNat, Int.reduceAdd, Int.reduceSub, Int.reduceMul, Int.reduceNeg]
  all_goals repeat' (first | (split <;> simp only [*, tb22, in_e, RR, RC, FF, gd, noDef, kindOf, sl1, allocs, isLit, ↓br_i, ↓reduceIte, reduceCtorEq, List.replicate, decide_eq_true_eq, decide_eq_false_iff_not, decide_true, decide_false, beq_self_eq_true, if_true, if_false, ite_not, Nat.le_refl, Int.cast_ofNat_Int, Nat.reduceAdd, Nat.reduceMul, Nat.reduceDiv, Nat.reduceMod, Nat.reduceSub, Nat.reduceEqDiff, Nat.reduceLT, Nat.reduceLeDiff, Nat.reduceBeqDiff, Int.reduceLT, Int.reduceLE, Int.reduceEq, Int.reduceToNat, Int.reduceAdd, Int.reduceSub, Int.reduceMul, Int.reduceNeg]))
  all_goals
    refine retb ?_
    simp only [kA, kB, kC, kD, kEE, rng_speed]
    grind
theorem mid22c (k : Kd) (n : Int) (b5 b6 b7 : Bool) : retOf (bx (goX KE [.code c22c] .normal (st22 k n [(5, bl b5), (6, bl b6), (7, bl b7)])) (atF KE Try.f22)) = some (.ret (bl (b5 && b6 && b7 && kD k && kEE k n))) := by
  have m := mid22d k n
  simp only [st22, Kd.cells, RR, RC, FF, gd, noDef, kindOf, sl1, allocs, isLit, ↓br_i, ↓reduceIte, reduceCtorEq, List.replicate, decide_eq_true_eq, decide_eq_false_iff_not, decide_true, decide_false, beq_self_eq_true, if_true, if_false, ite_not, Nat.le_refl, Int.cast_ofNat_Int, Nat.reduceAdd, Nat.reduceMul, Nat.reduceDiv, Nat.reduceMod, Nat.reduceSub, Nat.reduceEqDiff, Nat.reduceLT, Nat.reduceLeDiff, Nat.reduceBeqDiff, Int.reduceLT, Int.reduceLE, Int.reduceEq, Int.reduceToNat, Int.reduceAdd, Int.reduceSub, Int.reduceMul, Int.reduceNeg] at m
  rw [show c22c = .seq (subC (codeOf Try.f22) [1, 1, 1, 1, 0]) c22d from rfl]
  conv in subC _ _ => simp only [subC, codeOf, Try.f22]
  simp only [tb22, st22, Kd.cells, in_e, m, RR, RC, FF, gd, noDef, kindOf, sl1, allocs, isLit, ↓br_i, ↓reduceIte, reduceCtorEq, List.replicate, decide_eq_true_eq, decide_eq_false_iff_not, decide_true, decide_false, beq_self_eq_true, if_true, if_false, ite_not, Nat.le_refl, Int.cast_ofNat_Int, Nat.reduceAdd, Nat.reduceMul, Nat.reduceDiv, Nat.reduceMod, Nat.reduceSub, Nat.reduceEqDiff, Nat.reduceLT, Nat.reduceLeDiff, Nat.reduceBeqDiff, Int.reduceLT, Int.reduceLE, Int.reduceEq, Int.reduceToNat, Int.reduceAdd, Int.reduceSub, Int.reduceMul, Int.reduceNeg]
  all_goals repeat' (first | (split <;> simp only [*, tb22, in_e, m, RR, RC, FF, gd, noDef, kindOf, sl1, allocs, isLit, ↓br_i, ↓reduceIte, reduceCtorEq, List.replicate, decide_eq_true_eq, decide_eq_false_iff_not, decide_true, decide_false, beq_self_eq_true, if_true, if_false, ite_not, Nat.le_refl, Int.cast_ofNat_Int, Nat.reduceAdd, Nat.reduceMul, Nat.reduceDiv, Nat.reduceMod, Nat.reduceSub, Nat.reduceEqDiff, Nat.reduceLT, Nat.reduceLeDiff, Nat.reduceBeqDiff, Int.reduceLT, Int.reduceLE, Int.reduceEq, Int.reduceToNat, Int.reduceAdd, Int.reduceSub, Int.reduceMul, Int.reduceNeg]))
  all_goals
    refine retb ?_
    simp only [kA, kB, kC, kD, kEE, rng_speed]
    grind
theorem mid22b (k : Kd) (n : Int) (b5 b6 : Bool) : retOf (bx (goX KE [.code c22b] .normal (st22 k n [(5, bl b5), (6, bl b6)])) (atF KE Try.f22)) = some (.ret (bl (b5 && b6 && kC k && kD k && kEE k n))) := by
  have m := mid22c k n
  simp only [st22, Kd.cells, RR, RC, FF, gd, noDef, kindOf, sl1, allocs, isLit, ↓br_i, ↓reduceIte, reduceCtorEq, List.replicate, decide_eq_true_eq, decide_eq_false_iff_not, decide_true, decide_false, beq_self_eq_true, if_true, if_false, ite_not, Nat.le_refl, Int.cast_ofNat_Int, Nat.reduceAdd, Nat.reduceMul, Nat.reduceDiv, Nat.reduceMod, Nat.reduceSub, Nat.reduceEqDiff, Nat.reduceLT, Nat.reduceLeDiff, Nat.reduceBeqDiff, Int.reduceLT, Int.reduceLE, Int.reduceEq, Int.reduceToNat, Int.reduceAdd, Int.reduceSub, Int.reduceMul, Int.reduceNeg] at m
  rw [show c22b = .seq (subC (codeOf Try.f22) [1, 1, 1, 0]) c22c from rfl]
  conv in subC _ _ => simp only [subC, codeOf, Try.f22]
  simp only [tb22, st22, Kd.cells, in_e, m, RR, RC, FF, gd, noDef, kindOf, sl1, allocs, isLit, ↓br_i, ↓reduceIte, reduceCtorEq, List.replicate, decide_eq_true_eq, decide_eq_false_iff_not, decide_true, decide_false, beq_self_eq_true, if_true, if_false, ite_not, Nat.le_refl, Int.cast_ofNat_Int, Nat.reduceAdd, Nat.reduceMul, Nat.reduceDiv, Nat.reduceMod, Nat.reduceSub, Nat.reduceEqDiff, Nat.reduceLT, Nat.reduceLeDiff, Nat.reduceBeqDiff, Int.reduceLT, Int.reduceLE, Int.reduceEq, Int.reduceToNat, Int.reduceAdd, Int.reduceSub, Int.reduceMul, Int.reduceNeg]
  all_goals repeat' (first | (split <;> simp only [*, tb22, in_e, m, RR, RC, FF, gd, noDef, kindOf, sl1, allocs, isLit, ↓br_i, ↓reduceIte, reduceCtorEq, List.replicate, decide_eq_true_eq, decide_eq_false_iff_not, decide_true, decide_false, beq_self_eq_true, if_true, if_false, ite_not, Nat.le_refl, Int.cast_ofNat_Int, Nat.reduceAdd, Nat.reduceMul, Nat.reduceDiv, Nat.reduceMod, Nat.reduceSub, Nat.reduceEqDiff, Nat.reduceLT, Nat.reduceLeDiff, Nat.reduceBeqDiff, Int.reduceLT, Int.reduceLE, Int.reduceEq, Int.reduceToNat, Int.reduceAdd, Int.reduceSub, Int.reduceMul, Int.reduceNeg]))
  all_goals
    refine retb ?_
    simp only [kA, kB, kC, kD, kEE, rng_speed]
    grind
theorem mid22a (k : Kd) (n : Int) (b5 : Bool) : retOf (bx (goX KE [.code c22a] .normal (st22 k n [(5, bl b5)])) (atF KE Try.f22)) = some (.ret (bl (b5 && kB k && kC k && kD k && kEE k n))) := by
  have m := mid22b k n
  simp only [st22, Kd.cells, RR, RC, FF, gd, noDef, kindOf, sl1, allocs, isLit, ↓br_i, ↓reduceIte, reduceCtorEq, List.replicate, decide_eq_true_eq, decide_eq_false_iff_not, decide_true, decide_false, beq_self_eq_true, if_true, if_false, ite_not, Nat.le_refl, Int.cast_ofNat_Int, Nat.reduceAdd, Nat.reduceMul, Nat.reduceDiv, Nat.reduceMod, Nat.reduceSub, Nat.reduceEqDiff, Nat.reduceLT, Nat.reduceLeDiff, Nat.reduceBeqDiff, Int.reduceLT, Int.reduceLE, Int.reduceEq, Int.reduceToNat, Int.reduceAdd, Int.reduceSub, Int.reduceMul, Int.reduceNeg] at m
  rw [show c22a = .seq (subC (codeOf Try.f22) [1, 1, 0]) c22b from rfl]
  conv in subC _ _ => simp only [subC, codeOf, Try.f22]
  simp only [tb22, st22, Kd.cells, in_e, m, RR, RC, FF, gd, noDef, kindOf, sl1, allocs, isLit, ↓br_i, ↓reduceIte, reduceCtorEq, List.replicate, decide_eq_true_eq, decide_eq_false_iff_not, decide_true, decide_false, beq_self_eq_true, if_true, if_false, ite_not, Nat.le_refl, Int.cast_ofNat_Int, Nat.reduceAdd, Nat.reduceMul, Nat.reduceDiv, Nat.reduceMod, Nat.reduceSub, Nat.reduceEqDiff, Nat.reduceLT, Nat.reduceLeDiff, Nat.reduceBeqDiff, Int.reduceLT, Int.reduceLE, Int.reduceEq, Int.reduceToNat, Int.reduceAdd, Int.reduceSub, Int.reduceMul, Int.reduceNeg]
  all_goals repeat' (first | (split <;> simp only [*, tb22, in_e, m, RR, RC, FF, gd, noDef, kindOf, sl1, allocs, isLit, ↓br_i, ↓reduceIte, reduceCtorEq, List.replicate, decide_eq_true_eq, decide_eq_false_iff_not, decide_true, decide_false, beq_self_eq_true, if_true, if_false, ite_not, Nat.le_refl, Int.cast_ofNat_Int, Nat.reduceAdd, Nat.reduceMul, Nat.reduceDiv, Nat.reduceMod, Nat.reduceSub, Nat.reduceEqDiff, Nat.reduceLT, Nat.reduceLeDiff, Nat.reduceBeqDiff, Int.reduceLT, Int.reduceLE, Int.reduceEq, Int.reduceToNat, Int.reduceAdd, Int.reduceSub, Int.reduceMul, Int.reduceNeg]))
  all_goals
    refine retb ?_
    simp only [kA, kB, kC, kD, kEE, rng_speed]
    grind
theorem refKind_c (k : Kd) (n : Int) : retOf (callL KE 22 [.agg k.cells, i64 n] []) = some (.ret (bl (kindOk k n))) := by
  have m := mid22a k n
  simp only [st22, Kd.cells, RR, RC, FF, gd, noDef, kindOf, sl1, allocs, isLit, ↓br_i, ↓reduceIte, reduceCtorEq, List.replicate, decide_eq_true_eq, decide_eq_false_iff_not, decide_true, decide_false, beq_self_eq_true, if_true, if_false, ite_not, Nat.le_refl, Int.cast_ofNat_Int, Nat.reduceAdd, Nat.reduceMul, Nat.reduceDiv, Nat.reduceMod, Nat.reduceSub, Nat.reduceEqDiff, Nat.reduceLT, Nat.reduceLeDiff, Nat.reduceBeqDiff, Int.reduceLT, Int.reduceLE, Int.reduceEq, Int.reduceToNat, Int.reduceAdd, Int.reduceSub, Int.reduceMul, Int.reduceNeg] at m
  rw [cu22, show codeOf Try.f22 = .seq (subC (codeOf Try.f22) [0]) (.seq (subC (codeOf Try.f22) [1, 0]) c22a) from rfl]
  conv in subC _ [0] => simp only [subC, codeOf, Try.f22]
  conv in subC _ [1, 0] => simp only [subC, codeOf, Try.f22]
  simp only [tb22, Kd.cells, in_e, m, RR, RC, FF, gd, noDef, kindOf, sl1, allocs, isLit, ↓br_i, ↓reduceIte, reduceCtorEq, List.replicate, decide_eq_true_eq, decide_eq_false_iff_not, decide_true, decide_false, beq_self_eq_true, if_true, if_false, ite_not, Nat.le_refl, Int.cast_ofNat_Int, Nat.reduceAdd, Nat.reduceMul, Nat.reduceDiv, Nat.reduceMod, Nat.reduceSub, Nat.reduceEqDiff, Nat.reduceLT, Nat.reduceLeDiff, Nat.reduceBeqDiff, Int.reduceLT, Int.reduceLE, Int.reduceEq, Int.reduceToNat, Int.reduceAdd, Int.reduceSub, Int.reduceMul, Int.reduceNeg]
  all_goals repeat' (first | (split <;> simp only [*, tb22, in_e, m, RR, RC, FF, gd, noDef, kindOf, sl1, allocs, isLit, ↓br_i, ↓reduceIte, reduceCtorEq, List.replicate, decide_eq_true_eq, decide_eq_false_iff_not, decide_true, decide_false, beq_self_eq_true, if_true, if_false, ite_not, Nat.le_refl, Int.cast_ofNat_Int, Nat.reduceAdd, Nat.reduceMul, Nat.reduceDiv, Nat.reduceMod, Nat.reduceSub, Nat.reduceEqDiff, Nat.reduceLT, Nat.reduceLeDiff, Nat.reduceBeqDiff, Int.reduceLT, Int.reduceLE, Int.reduceEq, Int.reduceToNat, Int.reduceAdd, Int.reduceSub, Int.reduceMul, Int.reduceNeg]))
  all_goals
    refine retb ?_
    simp only [kA, kB, kC, kD, kEE, kindOk, rng_speed]
    grind
theorem refKind_e (k : Kd) (n : Int) (h : Heap) : callEL KE 22 [.agg k.cells, i64 n] h = some (.val (bl (kindOk k n)) h fp0) :=
  call_ret (E := KE) (f := 22) rfl rfl rfl (refKind_c k n) (fun _ => rfl) rfl
end Go.AM
