/- KindsEncodes, in the machine: it is true, whatever the book; no condition. -/
import Derived.Test.YtnehdpiiijbhhaaKW8
set_option autoImplicit false
set_option maxRecDepth 100000
set_option linter.unusedSimpArgs false
set_option linter.unusedVariables false
namespace Go.AM
open Go Go.RowKit Go.Proofs

theorem und34 : KE.P.underlying 34 = some (.slice 5) := by kernel_rfl
theorem und9 : KE.P.underlying 9 = some .string := by kernel_rfl
theorem und5 : KE.P.underlying 5 = some (.int .u8) := by kernel_rfl
/-- A text of bytes. -/
def strQ (l : List (List AV)) : Option AV := match bytesOf l with | some l => some (.v (.string ⟨l.toArray⟩)) | none => none
theorem cv_str (h : Heap) (x : AV) : convAV KE.P h 34 9 x = bx (rdE h x) strQ := by
  unfold convAV rdE
  rw [und34, und9]
  simp only [und5]
  cases readElems h x with
  | none => cases x <;> rfl
  | some l => cases x <;> rfl
theorem strQ_bt (l : List Nat) : strQ (bt l) = some (.v (.string ⟨(l.map fun n => UInt8.ofNat n).toArray⟩)) := by
  have : bytesOf (bt l) = some (l.map fun n => UInt8.ofNat n) := by
    induction l with
    | nil => rfl
    | cons n l ih =>
      simp only [bt, List.map_cons] at ih ⊢
      simp only [bytesOf, ih, Int.toNat_natCast]
  unfold strQ
  rw [this]
theorem str_eq (l : Bool) (s : ByteArray) : binAV KE.P KE.eqT l .eql 9 (.v (.string s)) (.v (.string s)) = some (bl true) := by
  show mkV (pureRun KE.P (Op.stringOp .eql s s)) = _
  have : pureRun KE.P (Op.stringOp .eql s s) = some (.bool true) := by
    unfold pureRun
    simp [Op.stringOp]
    rfl
  rw [this]
  rfl
theorem encodes_c (f g : Bool) (ks : List Kd) (ws : List Wp) : retOf (callL KE 5 [.agg (bookA f g ks ws)] []) = some (.ret (bl true)) := by
  obtain ⟨f', g', hf⟩ := few_e f g ks ws
  generalize ks.take 18 = ks at *
  generalize ws.take 18 = ws at *
  have hlen := kl_len ks
  have hlew := wl_len ws
  have c2 := refCheck_e f' g' ks ws
  by_cases hc : (chk ks ws).1 = 0
  · have e1 := encode_c f' g' ks ws hc
    obtain ⟨f2, e2⟩ := refEncode_e f' g' ks ws hc
    have hl := bt_len (bb ks ws)
    have hs := strQ_bt (bb ks ws)
    have htk := tk_all (bt (bb ks ws)) _ hl
    generalize bb ks ws = l at *
    generalize 1 + 27 * ks.length + 13 * ws.length = v at *
    have cq := callEL_eq KE 13
    have pw : KE.way 13 = ⟨false, false, true⟩ := rfl
    have px : KE.ext 13 = none := rfl
    simp only [bookA, hE, tupC] at hf c2 e1 e2
    rw [cu5]
    conv in codeOf _ => simp only [codeOf, Try.f5]
    simp only [tb5, bookA, hf, c2, hc, hlen, hlew, e1, e2, cq, pw, px, cv_str, hs, hl, htk, Nat.zero_add, awake_e, str_eq, nth_eq, callBy, inOf, meets, allLt, memFor, roReg, back, outOf, outRefs, keeps, freezeOut, freeze1, sameVer, backTo, wroteBack, writeBack, markRo, marksOf, outσ, baseOf, ifWr, getD0, hasSl, hasSlL, regRefs, List.range, List.range.loop, List.filter, List.map, slRefs, slRefsL, List.isEmpty, mem, RR, RC, FF, gd, noDef, kindOf, sl1, allocs, isLit, ↓br_i, ↓reduceIte, reduceCtorEq, List.replicate, decide_eq_true_eq, decide_eq_false_iff_not, decide_true, decide_false, beq_self_eq_true, if_true, if_false, ite_not, Nat.le_refl, Int.cast_ofNat_Int, Nat.reduceAdd, Nat.reduceMul, Nat.reduceDiv, Nat.reduceMod, Nat.reduceSub, Nat.reduceEqDiff, Nat.reduceLT, Nat.reduceLeDiff, Nat.reduceBeqDiff, Int.reduceLT, Int.reduceLE, Int.reduceEq, Int.reduceToNat, Int.reduceAdd, Int.reduceSub, Int.reduceMul, Int.reduceNeg]
    rw [g_dops_nil]
    rotate_left
    · kernel_rfl
    simp only [tb5, nth_eq, callBy, inOf, meets, allLt, memFor, roReg, back, outOf, outRefs, keeps, freezeOut, freeze1, sameVer, backTo, wroteBack, writeBack, markRo, marksOf, outσ, baseOf, ifWr, getD0, hasSl, hasSlL, regRefs, List.range, List.range.loop, List.filter, List.map, slRefs, slRefsL, List.isEmpty, mem, RR, RC, FF, gd, noDef, kindOf, sl1, allocs, isLit, ↓br_i, ↓reduceIte, reduceCtorEq, List.replicate, decide_eq_true_eq, decide_eq_false_iff_not, decide_true, decide_false, beq_self_eq_true, if_true, if_false, ite_not, Nat.le_refl, Int.cast_ofNat_Int, Nat.reduceAdd, Nat.reduceMul, Nat.reduceDiv, Nat.reduceMod, Nat.reduceSub, Nat.reduceEqDiff, Nat.reduceLT, Nat.reduceLeDiff, Nat.reduceBeqDiff, Int.reduceLT, Int.reduceLE, Int.reduceEq, Int.reduceToNat, Int.reduceAdd, Int.reduceSub, Int.reduceMul, Int.reduceNeg]
  · have e1 := encode_n f' g' ks ws hc
    have hn := fun h => call_ret (E := KE) (f := 13) (h := h) rfl rfl rfl e1 (fun _ => rfl) rfl
    simp only [bookA, tupC] at hf c2 hn
    rw [cu5]
    conv in codeOf _ => simp only [codeOf, Try.f5]
    simp only [tb5, bookA, hf, c2, hc, hlen, hlew, hn, awake_e, RR, RC, FF, gd, noDef, kindOf, sl1, allocs, isLit, ↓br_i, ↓reduceIte, reduceCtorEq, List.replicate, decide_eq_true_eq, decide_eq_false_iff_not, decide_true, decide_false, beq_self_eq_true, if_true, if_false, ite_not, Nat.le_refl, Int.cast_ofNat_Int, Nat.reduceAdd, Nat.reduceMul, Nat.reduceDiv, Nat.reduceMod, Nat.reduceSub, Nat.reduceEqDiff, Nat.reduceLT, Nat.reduceLeDiff, Nat.reduceBeqDiff, Int.reduceLT, Int.reduceLE, Int.reduceEq, Int.reduceToNat, Int.reduceAdd, Int.reduceSub, Int.reduceMul, Int.reduceNeg]
end Go.AM
