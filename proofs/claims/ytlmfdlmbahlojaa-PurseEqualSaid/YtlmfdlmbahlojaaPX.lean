/- The law PurseEqual in the machine: it is true, whatever the purse and the wants; no condition. -/
import Derived.Test.YtlmfdlmbahlojaaPW
set_option autoImplicit false
set_option maxRecDepth 100000
set_option linter.unusedSimpArgs false
namespace Go.AM
open Go Go.RowKit Go.Proofs

theorem awake_c : retOf (callL PE 6 [] []) = some (.ret (bl true)) := by
  have h := awake
  unfold isTrue at h
  split at h
  · next h' e => rw [callL_of e]; rfl
  · cases h
theorem awake_e (h : Heap) : callEL PE 6 [] h = some (.val (bl true) h fp0) := call_ret (E := PE) (f := 6) rfl rfl rfl awake_c (fun _ => rfl) rfl

theorem slice_wl (w : List (Int × Int)) : slice (wl w) 0 66 = wl (w.take 66) := by simp [slice, wl]
theorem few_c (full : Bool) (w : List (Int × Int)) : ∃ f, retOf (callL PE 4 [.sl full (wl w)] []) = some (.ret (.sl f (wl (w.take 66)))) := by
  have hlen := wl_len w
  have hal := allLen_wl w
  by_cases h : 66 < (w.length : Int)
  · refine ⟨full && 66 == (wl w).length, ?_⟩
    have h1 : (66 : Int) ≤ (w.length : Int) := by omega
    rw [cu4]
    conv in codeOf _ => simp only [codeOf, Try.f4]
    simp only [tb4, hlen, h, h1, Nat.zero_le, hal, Nat.sub_zero, slice_wl, RR, RC, FF, pext, gd, noDef, kindOf, sl1, allocs, isLit, ↓br_i, ↓reduceIte, reduceCtorEq, List.replicate, decide_eq_true_eq, decide_eq_false_iff_not, decide_true, decide_false, beq_self_eq_true, if_true, if_false, ite_not, Nat.le_refl, Int.cast_ofNat_Int, Nat.reduceAdd, Nat.reduceMul, Nat.reduceDiv, Nat.reduceMod, Nat.reduceSub, Nat.reduceEqDiff, Nat.reduceLT, Nat.reduceLeDiff, Nat.reduceBeqDiff, Int.reduceLT, Int.reduceLE, Int.reduceEq, Int.reduceToNat, Int.reduceAdd, Int.reduceSub, Int.reduceMul, Int.reduceNeg]
  · refine ⟨full, ?_⟩
    have ht : w.take 66 = w := List.take_of_length_le (by omega)
    rw [cu4]
    conv in codeOf _ => simp only [codeOf, Try.f4]
    simp only [tb4, hlen, h, ht, RR, RC, FF, pext, gd, noDef, kindOf, sl1, allocs, isLit, ↓br_i, ↓reduceIte, reduceCtorEq, List.replicate, decide_eq_true_eq, decide_eq_false_iff_not, decide_true, decide_false, beq_self_eq_true, if_true, if_false, ite_not, Nat.le_refl, Int.cast_ofNat_Int, Nat.reduceAdd, Nat.reduceMul, Nat.reduceDiv, Nat.reduceMod, Nat.reduceSub, Nat.reduceEqDiff, Nat.reduceLT, Nat.reduceLeDiff, Nat.reduceBeqDiff, Int.reduceLT, Int.reduceLE, Int.reduceEq, Int.reduceToNat, Int.reduceAdd, Int.reduceSub, Int.reduceMul, Int.reduceNeg]
theorem few_e (full : Bool) (w : List (Int × Int)) : ∃ f, ∀ h, callEL PE 4 [.sl full (wl w)] h = some (.val (.sl f (wl (w.take 66))) h fp0) := by
  obtain ⟨f, hf⟩ := few_c full w
  exact ⟨f, fun h => call_ret (E := PE) (f := 4) rfl rfl rfl hf (fun _ => rfl) rfl⟩

def tq3 (f g : Bool) (w v : List (Int × Int)) (i : Int) : List (Nat × AV) := [(2, .sl f (wl w)), (9, .sl g (wl v)), (11, i64 i)]
def hq3 (a b c d m e p q r t : Int) : Heap := [.arr 0 false 4 [] [[i64 a, i64 b, i64 c, i64 d]], .arr 0 false 2 [] [[i64 m, i64 e]], .arr 0 false 4 [] [[i64 p, i64 q, i64 r, i64 t]]]

theorem round3 (f g : Bool) (w v : List (Int × Int)) (hl : w.length ≤ 1000) (hv : v.length = w.length) (a b c d m e p q r t : Int) (j : Nat) (hj : j + 1 < w.length)
    (m1 : w[j].1 ≤ w[j + 1].1 → ¬ v[j + 1].1 < v[j].1) (m2 : w[j + 1].1 ≤ w[j].1 → ¬ v[j].1 < v[j + 1].1) (m3 : w[j].2 ≤ w[j + 1].2 → ¬ v[j + 1].2 < v[j].2) (cd : Code) (hb : cd = lp3x0) (t0 : Int) :
    loopL PE cd 3 (T.of (tq3 f g w v t0)) ⟨T.of (tq3 f g w v (j + 1 : Nat)), hq3 a b c d m e p q r t, [], PE.keep 3⟩ =
    loopL PE cd 3 (T.of (tq3 f g w v t0)) ⟨T.of (tq3 f g w v (j + 1 + 1 : Nat)), hq3 a b c d m e p q r t, [], PE.keep 3⟩ := by
  subst hb
  have n1 := wl_nth w j (by omega)
  have n2 := wl_nth w (j + 1) hj
  have n3 := wl_nth v j (by omega)
  have n4 := wl_nth v (j + 1) (by omega)
  have hlen := wl_len w
  have hlev := wl_len v
  have i1 : ((j + 1 : Nat) : Int) < (w.length : Int) := by omega
  have i2 : (0 : Int) ≤ ((j + 1 : Nat) : Int) := by omega
  have i3 : ((j + 1 : Nat) : Int).toNat = j + 1 := by omega
  have i4 := wrapN (j + 1) (by omega)
  have i5 : IntKind.i64.wrap (((j + 1 : Nat) : Int) - 1) = (j : Int) := by rw [wrapI _ (by omega) (by omega)]; omega
  have i6 : (j : Int) < (w.length : Int) := by omega
  have i7 : (0 : Int) ≤ (j : Int) := by omega
  have i8 : (j : Int).toNat = j := by omega
  rw [loopL_go]
  conv in (goX _ _ _ _) => rw [show lp3x0 = _ from by simp only [lp3x0, subC, codeOf, Try.f3]; rfl]
  simp only [tb3, tq3, hq3, hlen, hlev, hv, n1, n2, n3, n4, i1, i2, i3, i4, i5, i6, i7, i8, nth_eq, callBy, inOf, meets, allLt, memFor, roReg, back, outOf, outRefs, keeps, freezeOut, freeze1, sameVer, backTo, wroteBack, writeBack, markRo, marksOf, outσ, baseOf, ifWr, getD0, hasSl, hasSlL, regRefs, List.range, List.range.loop, List.filter, List.map, slRefs, slRefsL, List.isEmpty, mem, RR, RC, FF, pext, gd, noDef, kindOf, sl1, allocs, isLit, ↓br_i, ↓reduceIte, reduceCtorEq, List.replicate, decide_eq_true_eq, decide_eq_false_iff_not, decide_true, decide_false, beq_self_eq_true, if_true, if_false, ite_not, Nat.le_refl, Int.cast_ofNat_Int, Nat.reduceAdd, Nat.reduceMul, Nat.reduceDiv, Nat.reduceMod, Nat.reduceSub, Nat.reduceEqDiff, Nat.reduceLT, Nat.reduceLeDiff, Nat.reduceBeqDiff, Int.reduceLT, Int.reduceLE, Int.reduceEq, Int.reduceToNat, Int.reduceAdd, Int.reduceSub, Int.reduceMul, Int.reduceNeg]
  rw [g_dops_nil]
  rotate_left
  · kernel_rfl
  by_cases c1 : w[j].1 ≤ w[j + 1].1 <;> by_cases c2 : w[j + 1].1 ≤ w[j].1 <;> by_cases c3 : w[j].2 ≤ w[j + 1].2
  all_goals
    simp only [tb3, tq3, hq3, hlen, hlev, hv, n1, n2, n3, n4, i1, i2, i3, i4, i5, i6, i7, i8, m1, m2, m3, c1, c2, c3, nth_eq, callBy, inOf, meets, allLt, memFor, roReg, back, outOf, outRefs, keeps, freezeOut, freeze1, sameVer, backTo, wroteBack, writeBack, markRo, marksOf, outσ, baseOf, ifWr, getD0, hasSl, hasSlL, regRefs, List.range, List.range.loop, List.filter, List.map, slRefs, slRefsL, List.isEmpty, mem, RR, RC, FF, pext, gd, noDef, kindOf, sl1, allocs, isLit, ↓br_i, ↓reduceIte, reduceCtorEq, List.replicate, decide_eq_true_eq, decide_eq_false_iff_not, decide_true, decide_false, beq_self_eq_true, if_true, if_false, ite_not, Nat.le_refl, Int.cast_ofNat_Int, Nat.reduceAdd, Nat.reduceMul, Nat.reduceDiv, Nat.reduceMod, Nat.reduceSub, Nat.reduceEqDiff, Nat.reduceLT, Nat.reduceLeDiff, Nat.reduceBeqDiff, Int.reduceLT, Int.reduceLE, Int.reduceEq, Int.reduceToNat, Int.reduceAdd, Int.reduceSub, Int.reduceMul, Int.reduceNeg]
    rw [g_dops_nil]
    rotate_left
    · kernel_rfl
    simp only [tb3, tq3, hq3, hlen, hlev, hv, n1, n2, n3, n4, i1, i2, i3, i4, i5, i6, i7, i8, m1, m2, m3, c1, c2, c3, nth_eq, callBy, inOf, meets, allLt, memFor, roReg, back, outOf, outRefs, keeps, freezeOut, freeze1, sameVer, backTo, wroteBack, writeBack, markRo, marksOf, outσ, baseOf, ifWr, getD0, hasSl, hasSlL, regRefs, List.range, List.range.loop, List.filter, List.map, slRefs, slRefsL, List.isEmpty, mem, RR, RC, FF, pext, gd, noDef, kindOf, sl1, allocs, isLit, ↓br_i, ↓reduceIte, reduceCtorEq, List.replicate, decide_eq_true_eq, decide_eq_false_iff_not, decide_true, decide_false, beq_self_eq_true, if_true, if_false, ite_not, Nat.le_refl, Int.cast_ofNat_Int, Nat.reduceAdd, Nat.reduceMul, Nat.reduceDiv, Nat.reduceMod, Nat.reduceSub, Nat.reduceEqDiff, Nat.reduceLT, Nat.reduceLeDiff, Nat.reduceBeqDiff, Int.reduceLT, Int.reduceLE, Int.reduceEq, Int.reduceToNat, Int.reduceAdd, Int.reduceSub, Int.reduceMul, Int.reduceNeg]
theorem round3e (f g : Bool) (w v : List (Int × Int)) (a b c d m e p q r t : Int) (i : Int) (hi : ¬ i < w.length) (cd : Code) (hb : cd = lp3x0) (t0 : Int) :
    loopL PE cd 3 (T.of (tq3 f g w v t0)) ⟨T.of (tq3 f g w v i), hq3 a b c d m e p q r t, [], PE.keep 3⟩ =
    some (.exit 0, ⟨T.of (tq3 f g w v i ++ [(47, bl false)]), hq3 a b c d m e p q r t, [], PE.keep 3⟩) := by
  subst hb
  have hlen := wl_len w
  rw [loopL_go]
  conv in (goX _ _ _ _) => rw [show lp3x0 = _ from by simp only [lp3x0, subC, codeOf, Try.f3]; rfl]
  simp only [tb3, tq3, hq3, hlen, hi, nth_eq, callBy, inOf, meets, allLt, memFor, roReg, back, outOf, outRefs, keeps, freezeOut, freeze1, sameVer, backTo, wroteBack, writeBack, markRo, marksOf, outσ, baseOf, ifWr, getD0, hasSl, hasSlL, regRefs, List.range, List.range.loop, List.filter, List.map, slRefs, slRefsL, List.isEmpty, mem, RR, RC, FF, pext, gd, noDef, kindOf, sl1, allocs, isLit, ↓br_i, ↓reduceIte, reduceCtorEq, List.replicate, decide_eq_true_eq, decide_eq_false_iff_not, decide_true, decide_false, beq_self_eq_true, if_true, if_false, ite_not, Nat.le_refl, Int.cast_ofNat_Int, Nat.reduceAdd, Nat.reduceMul, Nat.reduceDiv, Nat.reduceMod, Nat.reduceSub, Nat.reduceEqDiff, Nat.reduceLT, Nat.reduceLeDiff, Nat.reduceBeqDiff, Int.reduceLT, Int.reduceLE, Int.reduceEq, Int.reduceToNat, Int.reduceAdd, Int.reduceSub, Int.reduceMul, Int.reduceNeg]

/-- Who wants no less is given no less. -/
def fair (w v : List (Int × Int)) : Prop := ∀ j, (h : j + 1 < w.length) → (h' : j + 1 < v.length) → (w[j].1 ≤ w[j + 1].1 → ¬ v[j + 1].1 < v[j].1) ∧ (w[j + 1].1 ≤ w[j].1 → ¬ v[j].1 < v[j + 1].1) ∧ (w[j].2 ≤ w[j + 1].2 → ¬ v[j + 1].2 < v[j].2)

theorem loop3 (f g : Bool) (w v : List (Int × Int)) (hl : w.length ≤ 1000) (hv : v.length = w.length) (hf : fair w v) (a b c d m e p q r t : Int) (cd : Code) (hb : cd = lp3x0) : ∀ (n j : Nat), j + 1 + n = w.length + (if w.length = 0 then 1 else 0) →
    ∃ i, loopL PE cd 3 (T.of (tq3 f g w v 1)) ⟨T.of (tq3 f g w v (j + 1 : Nat)), hq3 a b c d m e p q r t, [], PE.keep 3⟩ =
    some (.exit 0, ⟨T.of (tq3 f g w v i ++ [(47, bl false)]), hq3 a b c d m e p q r t, [], PE.keep 3⟩) := by
  intro n
  induction n with
  | zero =>
    intro j hn
    refine ⟨_, round3e f g w v a b c d m e p q r t _ ?_ cd hb 1⟩
    split at hn <;> omega
  | succ n ih =>
    intro j hn
    have hj : j + 1 < w.length := by split at hn <;> omega
    obtain ⟨m1, m2, m3⟩ := hf j hj (by omega)
    rw [round3 f g w v hl hv a b c d m e p q r t j hj m1 m2 m3 cd hb 1]
    exact ih (j + 1) (by omega)

/-! The plain law -/
theorem part_mono (s : Int) {a b : Int} (hs : 0 ≤ s ∧ s ≤ 65536) (ha : 0 ≤ a ∧ a ≤ 1048576) (hb : 0 ≤ b ∧ b ≤ 1048576) (h : a ≤ b) :
    ¬ (IntKind.i64.wrap (b * s)).fdiv (2 ^ min 16 IntKind.i64.bits) < (IntKind.i64.wrap (a * s)).fdiv (2 ^ min 16 IntKind.i64.bits) := by
  have h1 : 0 ≤ a * s := Int.mul_nonneg ha.1 hs.1
  have h2 : a * s ≤ b * s := Int.mul_le_mul_of_nonneg_right h hs.1
  have h3 : b * s ≤ 1048576 * s := Int.mul_le_mul_of_nonneg_right hb.2 hs.1
  rw [wrapI (a * s) (by omega) (by omega), wrapI (b * s) (by omega) (by omega)]
  have p : (2 : Int) ^ min 16 IntKind.i64.bits = 65536 := rfl
  rw [p, fdiv_pos _ _ (by omega), fdiv_pos _ _ (by omega)]
  omega
theorem fair_gs (w : List (Int × Int)) (s : Int) (hx : ∀ p ∈ w, isWish p.1 p.2 = true) : fair w (gs w s) := by
  intro j h h'
  have e1 : (gs w s)[j]'(by omega) = partV w[j].1 w[j].2 s := by simp [gs]
  have e2 : (gs w s)[j + 1] = partV w[j + 1].1 w[j + 1].2 s := by simp [gs]
  have x1 := hx w[j] (List.getElem_mem _)
  have x2 := hx w[j + 1] (List.getElem_mem _)
  have y1 := isWish_le x1
  have y2 := isWish_le x2
  rw [e1, e2]
  unfold partV
  rw [x1, x2]
  by_cases hs : 0 ≤ s ∧ s ≤ 65536
  · rw [if_pos ⟨rfl, hs⟩, if_pos ⟨rfl, hs⟩]
    exact ⟨part_mono s hs ⟨y1.1, y1.2.1⟩ ⟨y2.1, y2.2.1⟩, part_mono s hs ⟨y2.1, y2.2.1⟩ ⟨y1.1, y1.2.1⟩, part_mono s hs y1.2.2 y2.2.2⟩
  · rw [if_neg (by simp [hs]), if_neg (by simp [hs])]
    simp

theorem equal_c (a b c d m e : Int) (full : Bool) (w : List (Int × Int)) : retOf (callL PE 3 [.agg [i64 a, i64 b, i64 c, i64 d], .agg [i64 m, i64 e], .sl full (wl w)] []) = some (.ret (bl true)) := by
  obtain ⟨f, hf⟩ := few_e full w
  have hl : (w.take 66).length ≤ 66 := by simp; omega
  generalize w.take 66 = u at hf hl
  have hlen := wl_len u
  rw [cu3]
  conv in codeOf _ => simp only [codeOf, Try.f3]
  by_cases h : isPurse a b c d = false ∨ isWish m e = false ∨ 64 < (u.length : Int) ∨ ∃ p ∈ u, isWish p.1 p.2 = false
  · have sv := serveN_e a b c d m e f u h
    simp only [tb3, hf, sv, serveErr, awake_e, RR, RC, FF, pext, gd, noDef, kindOf, sl1, allocs, isLit, ↓br_i, ↓reduceIte, reduceCtorEq, List.replicate, decide_eq_true_eq, decide_eq_false_iff_not, decide_true, decide_false, beq_self_eq_true, if_true, if_false, ite_not, Nat.le_refl, Int.cast_ofNat_Int, Nat.reduceAdd, Nat.reduceMul, Nat.reduceDiv, Nat.reduceMod, Nat.reduceSub, Nat.reduceEqDiff, Nat.reduceLT, Nat.reduceLeDiff, Nat.reduceBeqDiff, Int.reduceLT, Int.reduceLE, Int.reduceEq, Int.reduceToNat, Int.reduceAdd, Int.reduceSub, Int.reduceMul, Int.reduceNeg]
  · simp only [not_or, Bool.not_eq_false, not_exists, not_and] at h
    obtain ⟨h1, h2, h3, h4⟩ := h
    obtain ⟨p, q, s, g, sv⟩ := serve_e a b c d m e f u h1 h2 (by omega) h4
    have hlg := wl_len (gs u s)
    have hgl : (gs u s).length = u.length := by simp [gs]
    simp only [tb3, hf, sv, hlen, hlg, hgl, awake_e, RR, RC, FF, pext, gd, noDef, kindOf, sl1, allocs, isLit, ↓br_i, ↓reduceIte, reduceCtorEq, List.replicate, decide_eq_true_eq, decide_eq_false_iff_not, decide_true, decide_false, beq_self_eq_true, if_true, if_false, ite_not, Nat.le_refl, Int.cast_ofNat_Int, Nat.reduceAdd, Nat.reduceMul, Nat.reduceDiv, Nat.reduceMod, Nat.reduceSub, Nat.reduceEqDiff, Nat.reduceLT, Nat.reduceLeDiff, Nat.reduceBeqDiff, Int.reduceLT, Int.reduceLE, Int.reduceEq, Int.reduceToNat, Int.reduceAdd, Int.reduceSub, Int.reduceMul, Int.reduceNeg]
    obtain ⟨i, k⟩ := loop3 f g u (gs u s) (by omega) hgl (fair_gs u s h4) a b c d m e p q c d lp3x0 rfl (u.length - 1) 0 (by split <;> omega)
    simp only [tq3, hq3, RR, RC, FF, pext, gd, noDef, kindOf, sl1, allocs, isLit, ↓br_i, ↓reduceIte, reduceCtorEq, List.replicate, decide_eq_true_eq, decide_eq_false_iff_not, decide_true, decide_false, beq_self_eq_true, if_true, if_false, ite_not, Nat.le_refl, Int.cast_ofNat_Int, Nat.reduceAdd, Nat.reduceMul, Nat.reduceDiv, Nat.reduceMod, Nat.reduceSub, Nat.reduceEqDiff, Nat.reduceLT, Nat.reduceLeDiff, Nat.reduceBeqDiff, Int.reduceLT, Int.reduceLE, Int.reduceEq, Int.reduceToNat, Int.reduceAdd, Int.reduceSub, Int.reduceMul, Int.reduceNeg] at k
    conv at k in lp3x0 => simp only [lp3x0, subC, codeOf, Try.f3]
    rw [k]
    simp only [tb3, awake_e, RR, RC, FF, pext, gd, noDef, kindOf, sl1, allocs, isLit, ↓br_i, ↓reduceIte, reduceCtorEq, List.replicate, decide_eq_true_eq, decide_eq_false_iff_not, decide_true, decide_false, beq_self_eq_true, if_true, if_false, ite_not, Nat.le_refl, Int.cast_ofNat_Int, Nat.reduceAdd, Nat.reduceMul, Nat.reduceDiv, Nat.reduceMod, Nat.reduceSub, Nat.reduceEqDiff, Nat.reduceLT, Nat.reduceLeDiff, Nat.reduceBeqDiff, Int.reduceLT, Int.reduceLE, Int.reduceEq, Int.reduceToNat, Int.reduceAdd, Int.reduceSub, Int.reduceMul, Int.reduceNeg]
end Go.AM
