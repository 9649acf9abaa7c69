/- What serving comes to in the machine, whole; each under its own hypotheses alone. -/
import Derived.Test.YtlmfdlmbahlojaaPV
set_option autoImplicit false
set_option maxRecDepth 100000
set_option linter.unusedSimpArgs false
namespace Go.AM
open Go Go.RowKit Go.Proofs

def serveErr : AV := .tup [.agg [i64 0, i64 0, i64 0, i64 0], i64 0, .sl true [], i64 1]
def serveOk (p q r t s : Int) (f : Bool) (l : List (List AV)) : AV := .tup [.agg [i64 p, i64 q, i64 r, i64 t], i64 s, .sl f l, i64 0]

theorem serve_n (a b c d m e : Int) (full : Bool) (l : List (List AV)) (h : isPurse a b c d = false ∨ isWish m e = false ∨ 64 < (l.length : Int)) :
    retOf (callL PE 5 [.agg [i64 a, i64 b, i64 c, i64 d], .agg [i64 m, i64 e], .sl full l] []) = some (.ret serveErr) := by
  rw [cu5]
  conv in codeOf _ => simp only [codeOf, Try.f5]
  cases hp : isPurse a b c d with
  | false => simp only [tb5, may_e, wish_e, hp, serveErr, RR, RC, FF, pext, gd, noDef, kindOf, sl1, allocs, isLit, ↓br_i, ↓reduceIte, reduceCtorEq, List.replicate, decide_eq_true_eq, decide_eq_false_iff_not, decide_true, decide_false, beq_self_eq_true, if_true, if_false, ite_not, Nat.le_refl, Int.cast_ofNat_Int, Nat.reduceAdd, Nat.reduceMul, Nat.reduceDiv, Nat.reduceMod, Nat.reduceSub, Nat.reduceEqDiff, Nat.reduceLT, Nat.reduceLeDiff, Nat.reduceBeqDiff, Int.reduceLT, Int.reduceLE, Int.reduceEq, Int.reduceToNat, Int.reduceAdd, Int.reduceSub, Int.reduceMul, Int.reduceNeg]
  | true =>
    cases hw : isWish m e with
    | false => simp only [tb5, may_e, wish_e, hp, hw, serveErr, RR, RC, FF, pext, gd, noDef, kindOf, sl1, allocs, isLit, ↓br_i, ↓reduceIte, reduceCtorEq, List.replicate, decide_eq_true_eq, decide_eq_false_iff_not, decide_true, decide_false, beq_self_eq_true, if_true, if_false, ite_not, Nat.le_refl, Int.cast_ofNat_Int, Nat.reduceAdd, Nat.reduceMul, Nat.reduceDiv, Nat.reduceMod, Nat.reduceSub, Nat.reduceEqDiff, Nat.reduceLT, Nat.reduceLeDiff, Nat.reduceBeqDiff, Int.reduceLT, Int.reduceLE, Int.reduceEq, Int.reduceToNat, Int.reduceAdd, Int.reduceSub, Int.reduceMul, Int.reduceNeg]
    | true =>
      have hl : 64 < (l.length : Int) := by simp only [hp, hw] at h; simpa using h
      simp only [tb5, may_e, wish_e, hp, hw, hl, serveErr, RR, RC, FF, pext, gd, noDef, kindOf, sl1, allocs, isLit, ↓br_i, ↓reduceIte, reduceCtorEq, List.replicate, decide_eq_true_eq, decide_eq_false_iff_not, decide_true, decide_false, beq_self_eq_true, if_true, if_false, ite_not, Nat.le_refl, Int.cast_ofNat_Int, Nat.reduceAdd, Nat.reduceMul, Nat.reduceDiv, Nat.reduceMod, Nat.reduceSub, Nat.reduceEqDiff, Nat.reduceLT, Nat.reduceLeDiff, Nat.reduceBeqDiff, Int.reduceLT, Int.reduceLE, Int.reduceEq, Int.reduceToNat, Int.reduceAdd, Int.reduceSub, Int.reduceMul, Int.reduceNeg]

theorem purse_le {a b c d : Int} (h : isPurse a b c d = true) : 0 ≤ a ∧ a ≤ 1073741824 ∧ 0 ≤ b ∧ b ≤ 1073741824 := by
  simp [isPurse, wi] at h; omega

theorem serve_x (a b c d m e : Int) (full : Bool) (w : List (Int × Int)) (hp : isPurse a b c d = true) (hw : isWish m e = true) (hl : w.length ≤ 64) (hx : ∃ p ∈ w, isWish p.1 p.2 = false) :
    retOf (callL PE 5 [.agg [i64 a, i64 b, i64 c, i64 d], .agg [i64 m, i64 e], .sl full (wl w)] []) = some (.ret serveErr) := by
  have hlen := wl_len w
  have hl' : ¬ 64 < (w.length : Int) := by omega
  rw [cu5]
  conv in codeOf _ => simp only [codeOf, Try.f5]
  simp only [tb5, may_e, wish_e, hp, hw, hlen, hl', RR, RC, FF, pext, gd, noDef, kindOf, sl1, allocs, isLit, ↓br_i, ↓reduceIte, reduceCtorEq, List.replicate, decide_eq_true_eq, decide_eq_false_iff_not, decide_true, decide_false, beq_self_eq_true, if_true, if_false, ite_not, Nat.le_refl, Int.cast_ofNat_Int, Nat.reduceAdd, Nat.reduceMul, Nat.reduceDiv, Nat.reduceMod, Nat.reduceSub, Nat.reduceEqDiff, Nat.reduceLT, Nat.reduceLeDiff, Nat.reduceBeqDiff, Int.reduceLT, Int.reduceLE, Int.reduceEq, Int.reduceToNat, Int.reduceAdd, Int.reduceSub, Int.reduceMul, Int.reduceNeg]
  rcases loop1 full w hl a b c d m e lp5x0 rfl w.length 0 0 0 (by omega) (by omega) (by omega) (by omega) (by omega) with ⟨k1, _⟩ | ⟨_, x', y', p, q, k⟩
  · obtain ⟨p, hp', hq⟩ := hx
    have := k1 p (by simpa using hp')
    rw [hq] at this; cases this
  · simp only [tq1, hq1, RR, RC, FF, pext, gd, noDef, kindOf, sl1, allocs, isLit, ↓br_i, ↓reduceIte, reduceCtorEq, List.replicate, decide_eq_true_eq, decide_eq_false_iff_not, decide_true, decide_false, beq_self_eq_true, if_true, if_false, ite_not, Nat.le_refl, Int.cast_ofNat_Int, Nat.reduceAdd, Nat.reduceMul, Nat.reduceDiv, Nat.reduceMod, Nat.reduceSub, Nat.reduceEqDiff, Nat.reduceLT, Nat.reduceLeDiff, Nat.reduceBeqDiff, Int.reduceLT, Int.reduceLE, Int.reduceEq, Int.reduceToNat, Int.reduceAdd, Int.reduceSub, Int.reduceMul, Int.reduceNeg] at k
    conv at k in lp5x0 => simp only [lp5x0, subC, codeOf, Try.f5]
    rw [k]
    simp only [tb5, serveErr, RR, RC, FF, pext, gd, noDef, kindOf, sl1, allocs, isLit, ↓br_i, ↓reduceIte, reduceCtorEq, List.replicate, decide_eq_true_eq, decide_eq_false_iff_not, decide_true, decide_false, beq_self_eq_true, if_true, if_false, ite_not, Nat.le_refl, Int.cast_ofNat_Int, Nat.reduceAdd, Nat.reduceMul, Nat.reduceDiv, Nat.reduceMod, Nat.reduceSub, Nat.reduceEqDiff, Nat.reduceLT, Nat.reduceLeDiff, Nat.reduceBeqDiff, Int.reduceLT, Int.reduceLE, Int.reduceEq, Int.reduceToNat, Int.reduceAdd, Int.reduceSub, Int.reduceMul, Int.reduceNeg]

theorem serve_ok (a b c d m e : Int) (full : Bool) (w : List (Int × Int)) (hp : isPurse a b c d = true) (hw : isWish m e = true) (hl : w.length ≤ 64) (hx : ∀ p ∈ w, isWish p.1 p.2 = true) : ∃ p q s,
    (w = [] ∧ ∃ h', callL PE 5 [.agg [i64 a, i64 b, i64 c, i64 d], .agg [i64 m, i64 e], .sl full (wl w)] [] = some (.ret (.tup [.agg [i64 p, i64 q, i64 c, i64 d], i64 s, .sl true [], i64 0]), h')) ∨
    ∃ g0 g1 g2 g3 v, callL PE 5 [.agg [i64 a, i64 b, i64 c, i64 d], .agg [i64 m, i64 e], .sl full (wl w)] [] =
      some (.ret (.tup [.agg [i64 p, i64 q, i64 c, i64 d], i64 s, .ref 4 v 0 w.length, i64 0]), [g0, g1, g2, g3, .arr v false 2 [] (wl (gs w s))]) := by
  have hlen := wl_len w
  have hl' : ¬ 64 < (w.length : Int) := by omega
  have hpl := purse_le hp
  have hwl := isWish_le hw
  obtain ⟨X, hX⟩ : ∃ X, callL PE 5 [.agg [i64 a, i64 b, i64 c, i64 d], .agg [i64 m, i64 e], .sl full (wl w)] [] = X := ⟨_, rfl⟩
  rw [hX]
  rw [cu5] at hX
  conv at hX in codeOf _ => simp only [codeOf, Try.f5]
  simp only [tb5, may_e, wish_e, hp, hw, hlen, hl', RR, RC, FF, pext, gd, noDef, kindOf, sl1, allocs, isLit, ↓br_i, ↓reduceIte, reduceCtorEq, List.replicate, decide_eq_true_eq, decide_eq_false_iff_not, decide_true, decide_false, beq_self_eq_true, if_true, if_false, ite_not, Nat.le_refl, Int.cast_ofNat_Int, Nat.reduceAdd, Nat.reduceMul, Nat.reduceDiv, Nat.reduceMod, Nat.reduceSub, Nat.reduceEqDiff, Nat.reduceLT, Nat.reduceLeDiff, Nat.reduceBeqDiff, Int.reduceLT, Int.reduceLE, Int.reduceEq, Int.reduceToNat, Int.reduceAdd, Int.reduceSub, Int.reduceMul, Int.reduceNeg] at hX
  rcases loop1 full w hl a b c d m e lp5x0 rfl w.length 0 0 0 (by omega) (by omega) (by omega) (by omega) (by omega) with ⟨_, x', y', x0, x1, y0, y1, k⟩ | ⟨⟨p, hp', hq⟩, _⟩
  · simp only [tq1, hq1, RR, RC, FF, pext, gd, noDef, kindOf, sl1, allocs, isLit, ↓br_i, ↓reduceIte, reduceCtorEq, List.replicate, decide_eq_true_eq, decide_eq_false_iff_not, decide_true, decide_false, beq_self_eq_true, if_true, if_false, ite_not, Nat.le_refl, Int.cast_ofNat_Int, Nat.reduceAdd, Nat.reduceMul, Nat.reduceDiv, Nat.reduceMod, Nat.reduceSub, Nat.reduceEqDiff, Nat.reduceLT, Nat.reduceLeDiff, Nat.reduceBeqDiff, Int.reduceLT, Int.reduceLE, Int.reduceEq, Int.reduceToNat, Int.reduceAdd, Int.reduceSub, Int.reduceMul, Int.reduceNeg] at k
    conv at k in lp5x0 => simp only [lp5x0, subC, codeOf, Try.f5]
    rw [k] at hX
    have v1 : IntKind.i64.wrap (a + m) = a + m := wrapI _ (by omega) (by omega)
    have v2 : IntKind.i64.wrap (b + e) = b + e := wrapI _ (by omega) (by omega)
    obtain ⟨s1, c1⟩ := scale_e (a + m) x' (by omega) x0 (by omega) x1
    obtain ⟨s2, c2⟩ := scale_e (b + e) y' (by omega) y0 (by omega) y1
    simp only [tb5, hlen, v1, v2, c1, c2, RR, RC, FF, pext, gd, noDef, kindOf, sl1, allocs, isLit, ↓br_i, ↓reduceIte, reduceCtorEq, List.replicate, decide_eq_true_eq, decide_eq_false_iff_not, decide_true, decide_false, beq_self_eq_true, if_true, if_false, ite_not, Nat.le_refl, Int.cast_ofNat_Int, Nat.reduceAdd, Nat.reduceMul, Nat.reduceDiv, Nat.reduceMod, Nat.reduceSub, Nat.reduceEqDiff, Nat.reduceLT, Nat.reduceLeDiff, Nat.reduceBeqDiff, Int.reduceLT, Int.reduceLE, Int.reduceEq, Int.reduceToNat, Int.reduceAdd, Int.reduceSub, Int.reduceMul, Int.reduceNeg] at hX
    rw [g_dops_nil] at hX
    rotate_left
    · kernel_rfl
    simp only [tb5, hlen, v1, v2, c1, c2, RR, RC, FF, pext, gd, noDef, kindOf, sl1, allocs, isLit, ↓br_i, ↓reduceIte, reduceCtorEq, List.replicate, decide_eq_true_eq, decide_eq_false_iff_not, decide_true, decide_false, beq_self_eq_true, if_true, if_false, ite_not, Nat.le_refl, Int.cast_ofNat_Int, Nat.reduceAdd, Nat.reduceMul, Nat.reduceDiv, Nat.reduceMod, Nat.reduceSub, Nat.reduceEqDiff, Nat.reduceLT, Nat.reduceLeDiff, Nat.reduceBeqDiff, Int.reduceLT, Int.reduceLE, Int.reduceEq, Int.reduceToNat, Int.reduceAdd, Int.reduceSub, Int.reduceMul, Int.reduceNeg] at hX
    clear k
    by_cases h0 : w = []
    · subst h0
      have k2 := round2e full [] a b c d m e x' y' (a + m) (b + e) (a + m) (b + e) (min s2 s1) (.sl true []) [] (.inl rfl) (.inl rfl) lp5x1 rfl
      simp only [tq2, hq1, RR, RC, FF, pext, gd, noDef, kindOf, sl1, allocs, isLit, ↓br_i, ↓reduceIte, reduceCtorEq, List.replicate, decide_eq_true_eq, decide_eq_false_iff_not, decide_true, decide_false, beq_self_eq_true, if_true, if_false, ite_not, Nat.le_refl, Int.cast_ofNat_Int, Nat.reduceAdd, Nat.reduceMul, Nat.reduceDiv, Nat.reduceMod, Nat.reduceSub, Nat.reduceEqDiff, Nat.reduceLT, Nat.reduceLeDiff, Nat.reduceBeqDiff, Int.reduceLT, Int.reduceLE, Int.reduceEq, Int.reduceToNat, Int.reduceAdd, Int.reduceSub, Int.reduceMul, Int.reduceNeg] at k2
      conv at k2 in lp5x1 => simp only [lp5x1, subC, codeOf, Try.f5]
      simp only [RR, RC, FF, pext, gd, noDef, kindOf, sl1, allocs, isLit, ↓br_i, ↓reduceIte, reduceCtorEq, List.replicate, decide_eq_true_eq, decide_eq_false_iff_not, decide_true, decide_false, beq_self_eq_true, if_true, if_false, ite_not, Nat.le_refl, Int.cast_ofNat_Int, Nat.reduceAdd, Nat.reduceMul, Nat.reduceDiv, Nat.reduceMod, Nat.reduceSub, Nat.reduceEqDiff, Nat.reduceLT, Nat.reduceLeDiff, Nat.reduceBeqDiff, Int.reduceLT, Int.reduceLE, Int.reduceEq, Int.reduceToNat, Int.reduceAdd, Int.reduceSub, Int.reduceMul, Int.reduceNeg] at hX
      rw [k2] at hX
      simp only [tb5, RR, RC, FF, pext, gd, noDef, kindOf, sl1, allocs, isLit, ↓br_i, ↓reduceIte, reduceCtorEq, List.replicate, decide_eq_true_eq, decide_eq_false_iff_not, decide_true, decide_false, beq_self_eq_true, if_true, if_false, ite_not, Nat.le_refl, Int.cast_ofNat_Int, Nat.reduceAdd, Nat.reduceMul, Nat.reduceDiv, Nat.reduceMod, Nat.reduceSub, Nat.reduceEqDiff, Nat.reduceLT, Nat.reduceLeDiff, Nat.reduceBeqDiff, Int.reduceLT, Int.reduceLE, Int.reduceEq, Int.reduceToNat, Int.reduceAdd, Int.reduceSub, Int.reduceMul, Int.reduceNeg] at hX
      subst hX
      exact ⟨_, _, _, .inl ⟨rfl, _, rfl⟩⟩
    · have hw0 : 0 < w.length := List.length_pos_iff.2 h0
      obtain ⟨mt, en, k2⟩ := loop2 full w hl hw0 a b c d m e x' y' (a + m) (b + e) (min s2 s1) lp5x1 rfl
      simp only [tq2, hq1, RR, RC, FF, pext, gd, noDef, kindOf, sl1, allocs, isLit, ↓br_i, ↓reduceIte, reduceCtorEq, List.replicate, decide_eq_true_eq, decide_eq_false_iff_not, decide_true, decide_false, beq_self_eq_true, if_true, if_false, ite_not, Nat.le_refl, Int.cast_ofNat_Int, Nat.reduceAdd, Nat.reduceMul, Nat.reduceDiv, Nat.reduceMod, Nat.reduceSub, Nat.reduceEqDiff, Nat.reduceLT, Nat.reduceLeDiff, Nat.reduceBeqDiff, Int.reduceLT, Int.reduceLE, Int.reduceEq, Int.reduceToNat, Int.reduceAdd, Int.reduceSub, Int.reduceMul, Int.reduceNeg] at k2
      conv at k2 in lp5x1 => simp only [lp5x1, subC, codeOf, Try.f5]
      rw [k2] at hX
      simp only [tb5, RR, RC, FF, pext, gd, noDef, kindOf, sl1, allocs, isLit, ↓br_i, ↓reduceIte, reduceCtorEq, List.replicate, decide_eq_true_eq, decide_eq_false_iff_not, decide_true, decide_false, beq_self_eq_true, if_true, if_false, ite_not, Nat.le_refl, Int.cast_ofNat_Int, Nat.reduceAdd, Nat.reduceMul, Nat.reduceDiv, Nat.reduceMod, Nat.reduceSub, Nat.reduceEqDiff, Nat.reduceLT, Nat.reduceLeDiff, Nat.reduceBeqDiff, Int.reduceLT, Int.reduceLE, Int.reduceEq, Int.reduceToNat, Int.reduceAdd, Int.reduceSub, Int.reduceMul, Int.reduceNeg] at hX
      subst hX
      exact ⟨_, _, _, .inr ⟨_, _, _, _, _, rfl⟩⟩
  · have := hx p (by simpa using hp')
    rw [hq] at this; cases this
theorem serve_e (a b c d m e : Int) (full : Bool) (w : List (Int × Int)) (hp : isPurse a b c d = true) (hw : isWish m e = true) (hl : w.length ≤ 64) (hx : ∀ p ∈ w, isWish p.1 p.2 = true) : ∃ p q s f,
    ∀ h, callEL PE 5 [.agg [i64 a, i64 b, i64 c, i64 d], .agg [i64 m, i64 e], .sl full (wl w)] h = some (.val (.tup [.agg [i64 p, i64 q, i64 c, i64 d], i64 s, .sl f (wl (gs w s)), i64 0]) h fp0) := by
  have pw5 : PE.way 5 = ⟨false, false, false⟩ := rfl
  obtain ⟨p, q, s, ⟨rfl, h', k⟩ | ⟨g0, g1, g2, g3, v, k⟩⟩ := serve_ok a b c d m e full w hp hw hl hx
  · exact ⟨p, q, s, true, fun h => call_val (S := []) rfl rfl rfl k rfl rfl⟩
  · refine ⟨p, q, s, false, fun h => call_val (S := [4]) rfl rfl rfl k ?_ rfl⟩
    have hlg : (wl (gs w s)).length = w.length := by simp [wl, gs]
    have ht := tk_all (wl (gs w s)) w.length hlg
    rw [pw5]
    simp only [hlg, ht, Nat.zero_add, nth_eq, callBy, inOf, meets, allLt, memFor, roReg, back, outOf, outRefs, keeps, freezeOut, freeze1, sameVer, backTo, wroteBack, writeBack, markRo, marksOf, outσ, baseOf, ifWr, getD0, hasSl, hasSlL, regRefs, List.range, List.range.loop, List.filter, List.map, slRefs, slRefsL, List.isEmpty, mem, RR, RC, FF, pext, gd, noDef, kindOf, sl1, allocs, isLit, ↓br_i, ↓reduceIte, reduceCtorEq, List.replicate, decide_eq_true_eq, decide_eq_false_iff_not, decide_true, decide_false, beq_self_eq_true, if_true, if_false, ite_not, Nat.le_refl, Int.cast_ofNat_Int, Nat.reduceAdd, Nat.reduceMul, Nat.reduceDiv, Nat.reduceMod, Nat.reduceSub, Nat.reduceEqDiff, Nat.reduceLT, Nat.reduceLeDiff, Nat.reduceBeqDiff, Int.reduceLT, Int.reduceLE, Int.reduceEq, Int.reduceToNat, Int.reduceAdd, Int.reduceSub, Int.reduceMul, Int.reduceNeg]
theorem serveN_e (a b c d m e : Int) (full : Bool) (w : List (Int × Int)) (h : isPurse a b c d = false ∨ isWish m e = false ∨ 64 < (w.length : Int) ∨ ∃ p ∈ w, isWish p.1 p.2 = false) (hh : Heap) :
    callEL PE 5 [.agg [i64 a, i64 b, i64 c, i64 d], .agg [i64 m, i64 e], .sl full (wl w)] hh = some (.val serveErr hh fp0) := by
  refine call_ret rfl rfl rfl ?_ (fun _ => rfl) rfl
  by_cases h1 : isPurse a b c d = false ∨ isWish m e = false ∨ 64 < ((wl w).length : Int)
  · exact serve_n a b c d m e full (wl w) h1
  · rw [wl_len] at h1
    simp only [not_or, Bool.not_eq_false] at h1
    refine serve_x a b c d m e full w h1.1 h1.2.1 (by omega) ?_
    rcases h with h | h | h | h
    · rw [h1.1] at h; cases h
    · rw [h1.2.1] at h; cases h
    · exact absurd h h1.2.2
    · exact h
end Go.AM
