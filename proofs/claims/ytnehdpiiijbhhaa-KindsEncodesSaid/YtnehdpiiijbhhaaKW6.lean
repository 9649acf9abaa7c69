/- The program's encoder, in the machine: a book that may be has its bytes; others have none. -/
import Derived.Test.YtnehdpiiijbhhaaKW5
set_option autoImplicit false
set_option maxRecDepth 100000
set_option linter.unusedSimpArgs false
set_option linter.unusedVariables false
namespace Go.AM
open Go Go.RowKit Go.Proofs

theorem fb_none {α : Type} (p : α → Bool) : ∀ (l : List α) (i : Nat), fb p l i = none → ∀ a ∈ l, p a = true
  | [], _, _, a, ha => by cases ha
  | b :: l, i, h, a, ha => by
    unfold fb at h
    split at h
    · next hb =>
      cases ha with
      | head => exact hb
      | tail _ ha => exact fb_none p l (i + 1) h a ha
    · cases h
theorem chk_zero {ks : List Kd} {ws : List Wp} (h : (chk ks ws).1 = 0) : chk ks ws = (0, 0) ∧ 1 ≤ ks.length ∧ ks.length ≤ 16 ∧ ws.length ≤ 16 ∧ (∀ k ∈ ks, kindOk k ws.length = true) ∧ ∀ w ∈ ws, weaponOk w = true := by
  by_cases hc : 1 ≤ ks.length ∧ ks.length ≤ 16 ∧ ws.length ≤ 16
  · cases h1 : fb (fun k => kindOk k ws.length) ks 0 with
    | some b => rw [chk_k ks ws hc b h1] at h; cases h
    | none =>
      cases h2 : fb weaponOk ws 0 with
      | some b => rw [chk_w ks ws hc b h1 h2] at h; cases h
      | none => exact ⟨chk_o ks ws hc h1 h2, hc.1, hc.2.1, hc.2.2, fb_none _ _ _ h1, fb_none _ _ _ h2⟩
  · rw [chk_x ks ws hc] at h; cases h
theorem kind_speed {k : Kd} {n : Int} (h : kindOk k n = true) : 0 ≤ k.speed ∧ k.speed ≤ 65536 := by
  simp only [kindOk, Bool.and_eq_true, rng, decide_eq_true_eq] at h
  have h' := h.1.1.1.1.1.1.1.1.1.1.1.1.1.1.1.1.1.2
  exact h'
theorem weapon_speed {w : Wp} (h : weaponOk w = true) : 0 ≤ w.speed ∧ w.speed ≤ 262144 := by
  simp only [weaponOk, Bool.and_eq_true, rng, decide_eq_true_eq] at h
  have h' := h.1.1.2
  omega
/-- A book's bytes. -/
def bb (ks : List Kd) (ws : List Wp) : List Nat := [b8 ks.length, b8 ws.length] ++ (ks.flatMap kb ++ ws.flatMap wb)
theorem flat_len {α : Type} (g : α → List Nat) (c : Nat) (h : ∀ a, (g a).length = c) : ∀ l : List α, (l.flatMap g).length = c * l.length
  | [] => rfl
  | a :: l => by rw [List.flatMap_cons, List.length_append, h, flat_len g c h l, List.length_cons, Nat.mul_succ]; omega
theorem bb_len (ks : List Kd) (ws : List Wp) : (bb ks ws).length = 2 + 35 * ks.length + 14 * ws.length := by
  simp only [bb, List.length_append, flat_len kb 35 kb_len, flat_len wb 14 wb_len, List.length_cons, List.length_nil]; omega
theorem encode_c (f g : Bool) (ks : List Kd) (ws : List Wp) (hc : (chk ks ws).1 = 0) :
    callL KE 13 [.agg (bookA f g ks ws)] [] = some (.ret (.ref 3 (1 + 27 * ks.length + 13 * ws.length) 0 (bb ks ws).length), hE f g ks ws (1 + 27 * ks.length + 13 * ws.length) (bb ks ws)) := by
  obtain ⟨hc, hk0, hk, hw, sk, sw⟩ := chk_zero hc
  have hlen := kl_len ks
  have hlew := wl_len ws
  have c1 := fun h => check_e f g ks ws h
  simp only [bookA, tupC, hc] at c1
  have o1 := fun f => ones_z f [(ks.length : Int), (ws.length : Int)] (by simp) (by simp)
  simp only [il, wH0, wH, bt, List.map_cons, List.map_nil, List.length_cons, List.length_nil] at o1
  have cq := callEL_eq KE 24
  have pw : KE.way 24 = ⟨true, false, false⟩ := rfl
  have px : KE.ext 24 = none := rfl
  have k1 := loop13 f g ks ws hk (fun k h => kind_speed (sk k h)) lp13x0 rfl ks.length 0 1 [b8 ks.length, b8 ws.length] (by simp; omega) (by omega)
  have k2 := loopw f g ks ws hw (fun k h => weapon_speed (sw k h)) lp13x1 rfl ws.length 0 (1 + 27 * ks.length) ([b8 ks.length, b8 ws.length] ++ ks.flatMap kb) (by rw [List.length_append, flat_len kb 35 kb_len]; simp; omega) (by omega)
  rw [List.drop_zero] at k1 k2
  rw [show [b8 ks.length, b8 ws.length] ++ ks.flatMap kb ++ ws.flatMap wb = bb ks ws from List.append_assoc _ _ _] at k2
  generalize [b8 ks.length, b8 ws.length] ++ ks.flatMap kb = l1 at k1 k2
  generalize bb ks ws = l2 at k2 ⊢
  generalize 1 + 27 * ks.length = v1 at k1 k2 ⊢
  generalize v1 + 13 * ws.length = v2 at k2 ⊢
  have h0 : bt [b8 ks.length, b8 ws.length] = [[u8 (b8 ks.length)], [u8 (b8 ws.length)]] := rfl
  simp only [hE, h0] at k1
  simp only [hE] at k2
  simp only [tq13, RR, RC, FF, gd, noDef, kindOf, sl1, allocs, isLit, ↓br_i, ↓reduceIte, reduceCtorEq, List.replicate, decide_eq_true_eq, decide_eq_false_iff_not, decide_true, decide_false, beq_self_eq_true, if_true, if_false, ite_not, Nat.le_refl, Int.cast_ofNat_Int, Nat.reduceAdd, Nat.reduceMul, Nat.reduceDiv, Nat.reduceMod, Nat.reduceSub, Nat.reduceEqDiff, Nat.reduceLT, Nat.reduceLeDiff, Nat.reduceBeqDiff, Int.reduceLT, Int.reduceLE, Int.reduceEq, Int.reduceToNat, Int.reduceAdd, Int.reduceSub, Int.reduceMul, Int.reduceNeg] at k1
  simp only [tw13, RR, RC, FF, gd, noDef, kindOf, sl1, allocs, isLit, ↓br_i, ↓reduceIte, reduceCtorEq, List.replicate, decide_eq_true_eq, decide_eq_false_iff_not, decide_true, decide_false, beq_self_eq_true, if_true, if_false, ite_not, Nat.le_refl, Int.cast_ofNat_Int, Nat.reduceAdd, Nat.reduceMul, Nat.reduceDiv, Nat.reduceMod, Nat.reduceSub, Nat.reduceEqDiff, Nat.reduceLT, Nat.reduceLeDiff, Nat.reduceBeqDiff, Int.reduceLT, Int.reduceLE, Int.reduceEq, Int.reduceToNat, Int.reduceAdd, Int.reduceSub, Int.reduceMul, Int.reduceNeg] at k2
  conv at k1 in lp13x0 => simp only [lp13x0, subC, codeOf, Try.f13]
  conv at k2 in lp13x1 => simp only [lp13x1, subC, codeOf, Try.f13]
  rw [cu13]
  conv in codeOf _ => simp only [codeOf, Try.f13]
  simp only [tb13, bookA, hlen, hlew, c1, o1, cq, pw, px, nth_eq, callBy, inOf, meets, allLt, memFor, roReg, back, outOf, outRefs, keeps, freezeOut, freeze1, sameVer, backTo, wroteBack, writeBack, markRo, marksOf, outσ, baseOf, ifWr, getD0, hasSl, hasSlL, regRefs, List.range, List.range.loop, List.filter, List.map, slRefs, slRefsL, List.isEmpty, mem, RR, RC, FF, gd, noDef, kindOf, sl1, allocs, isLit, ↓br_i, ↓reduceIte, reduceCtorEq, List.replicate, decide_eq_true_eq, decide_eq_false_iff_not, decide_true, decide_false, beq_self_eq_true, if_true, if_false, ite_not, Nat.le_refl, Int.cast_ofNat_Int, Nat.reduceAdd, Nat.reduceMul, Nat.reduceDiv, Nat.reduceMod, Nat.reduceSub, Nat.reduceEqDiff, Nat.reduceLT, Nat.reduceLeDiff, Nat.reduceBeqDiff, Int.reduceLT, Int.reduceLE, Int.reduceEq, Int.reduceToNat, Int.reduceAdd, Int.reduceSub, Int.reduceMul, Int.reduceNeg]
  rw [k1]
  simp only [tb13, hlen, hlew, nth_eq, callBy, inOf, meets, allLt, memFor, roReg, back, outOf, outRefs, keeps, freezeOut, freeze1, sameVer, backTo, wroteBack, writeBack, markRo, marksOf, outσ, baseOf, ifWr, getD0, hasSl, hasSlL, regRefs, List.range, List.range.loop, List.filter, List.map, slRefs, slRefsL, List.isEmpty, mem, RR, RC, FF, gd, noDef, kindOf, sl1, allocs, isLit, ↓br_i, ↓reduceIte, reduceCtorEq, List.replicate, decide_eq_true_eq, decide_eq_false_iff_not, decide_true, decide_false, beq_self_eq_true, if_true, if_false, ite_not, Nat.le_refl, Int.cast_ofNat_Int, Nat.reduceAdd, Nat.reduceMul, Nat.reduceDiv, Nat.reduceMod, Nat.reduceSub, Nat.reduceEqDiff, Nat.reduceLT, Nat.reduceLeDiff, Nat.reduceBeqDiff, Int.reduceLT, Int.reduceLE, Int.reduceEq, Int.reduceToNat, Int.reduceAdd, Int.reduceSub, Int.reduceMul, Int.reduceNeg]
  rw [k2]
  simp only [tb13, hE, nth_eq, callBy, inOf, meets, allLt, memFor, roReg, back, outOf, outRefs, keeps, freezeOut, freeze1, sameVer, backTo, wroteBack, writeBack, markRo, marksOf, outσ, baseOf, ifWr, getD0, hasSl, hasSlL, regRefs, List.range, List.range.loop, List.filter, List.map, slRefs, slRefsL, List.isEmpty, mem, RR, RC, FF, gd, noDef, kindOf, sl1, allocs, isLit, ↓br_i, ↓reduceIte, reduceCtorEq, List.replicate, decide_eq_true_eq, decide_eq_false_iff_not, decide_true, decide_false, beq_self_eq_true, if_true, if_false, ite_not, Nat.le_refl, Int.cast_ofNat_Int, Nat.reduceAdd, Nat.reduceMul, Nat.reduceDiv, Nat.reduceMod, Nat.reduceSub, Nat.reduceEqDiff, Nat.reduceLT, Nat.reduceLeDiff, Nat.reduceBeqDiff, Int.reduceLT, Int.reduceLE, Int.reduceEq, Int.reduceToNat, Int.reduceAdd, Int.reduceSub, Int.reduceMul, Int.reduceNeg]
theorem encode_n (f g : Bool) (ks : List Kd) (ws : List Wp) (hc : ¬ (chk ks ws).1 = 0) :
    retOf (callL KE 13 [.agg (bookA f g ks ws)] []) = some (.ret (.sl true [])) := by
  have hlen := kl_len ks
  have hlew := wl_len ws
  have c1 := fun h => check_e f g ks ws h
  simp only [bookA, tupC] at c1
  rw [cu13]
  conv in codeOf _ => simp only [codeOf, Try.f13]
  simp only [tb13, bookA, hlen, hlew, c1, hc, RR, RC, FF, gd, noDef, kindOf, sl1, allocs, isLit, ↓br_i, ↓reduceIte, reduceCtorEq, List.replicate, decide_eq_true_eq, decide_eq_false_iff_not, decide_true, decide_false, beq_self_eq_true, if_true, if_false, ite_not, Nat.le_refl, Int.cast_ofNat_Int, Nat.reduceAdd, Nat.reduceMul, Nat.reduceDiv, Nat.reduceMod, Nat.reduceSub, Nat.reduceEqDiff, Nat.reduceLT, Nat.reduceLeDiff, Nat.reduceBeqDiff, Int.reduceLT, Int.reduceLE, Int.reduceEq, Int.reduceToNat, Int.reduceAdd, Int.reduceSub, Int.reduceMul, Int.reduceNeg]
end Go.AM
