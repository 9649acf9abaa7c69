/- What the second loop of serving comes to in the machine; each under its own hypotheses alone. -/
import Derived.Test.YtlmfdlmbahlojaaPU
set_option autoImplicit false
set_option maxRecDepth 100000
set_option linter.unusedSimpArgs false
namespace Go.AM
open Go Go.RowKit Go.Proofs

def partV (a b s : Int) : Int × Int := if isWish a b = true ∧ 0 ≤ s ∧ s ≤ 65536 then ((IntKind.i64.wrap (a * s)).fdiv (2 ^ min 16 IntKind.i64.bits), (IntKind.i64.wrap (b * s)).fdiv (2 ^ min 16 IntKind.i64.bits)) else (0, 0)
def partE (a b s : Int) : Int := if isWish a b = true ∧ 0 ≤ s ∧ s ≤ 65536 then 0 else 1
theorem partS_eq (a b s : Int) : partS a b s = .tup [.agg [i64 (partV a b s).1, i64 (partV a b s).2], i64 (partE a b s)] := by
  unfold partS partV partE
  split <;> rfl
theorem part_e (a b s : Int) (h : Heap) : callEL PE 11 [.agg [i64 a, i64 b], i64 s] h = some (.val (.tup [.agg [i64 (partV a b s).1, i64 (partV a b s).2], i64 (partE a b s)]) h fp0) := by
  have := part_c a b s
  rw [partS_eq] at this
  exact call_ret (E := PE) (f := 11) rfl rfl rfl this (fun _ => rfl) rfl

theorem room26 (n : Nat) (hn : n ≤ 1000) : roomT PE.P [26, 26] n = true :=
  roomT_of (b := 16) (by kernel_rfl) (by omega) (by omega)

def out2 (n : Nat) : AV := match n with | 0 => .sl true [] | n + 1 => .ref 4 n 0 (n + 1)
def tq2 (full : Bool) (w : List (Int × Int)) (mt en s : Int) (o : AV) (i : Int) : List (Nat × AV) := [(3, .ptr 0 0 0 0), (6, .ptr 2 0 0 0), (14, i64 mt), (15, i64 en), (20, i64 s), (21, o), (82, .sl full (wl w)), (83, i64 w.length), (84, i64 i)]
def gs (w : List (Int × Int)) (s : Int) : List (Int × Int) := w.map fun p => partV p.1 p.2 s

theorem round2e (full : Bool) (w : List (Int × Int)) (a b c d m e x y mt en mt0 en0 s : Int) (o : AV) (r : Heap) (hr : r = [] ∨ ∃ v l, r = [.arr v false 2 [] l]) (ho : o = .sl true [] ∨ ∃ v n, o = .ref 4 v 0 n) (cd : Code) (hb : cd = lp5x1) :
    loopL PE cd 4 (T.of (tq2 full w mt0 en0 s (.sl true []) 0)) ⟨T.of (tq2 full w mt en s o w.length), hq1 a b c d m e x y ++ r, [], PE.keep 5⟩ =
    some (.exit 2, ⟨T.of (tq2 full w mt en s o w.length ++ [(85, bl false)]), hq1 a b c d m e x y ++ r, [], PE.keep 5⟩) := by
  subst hb
  have hlen := wl_len w
  have hi1 : ¬ (w.length : Int) < (w.length : Int) := by omega
  rw [loopL_go]
  conv in lp5x1 => simp only [lp5x1, subC, codeOf, Try.f5]
  rcases hr with rfl | ⟨v, l, rfl⟩ <;> rcases ho with rfl | ⟨v', n, rfl⟩ <;> simp only [tb5, tq2, hq1, hlen, hi1, RR, RC, FF, pext, gd, noDef, kindOf, sl1, allocs, isLit, ↓br_i, ↓reduceIte, reduceCtorEq, List.replicate, decide_eq_true_eq, decide_eq_false_iff_not, decide_true, decide_false, beq_self_eq_true, if_true, if_false, ite_not, Nat.le_refl, Int.cast_ofNat_Int, Nat.reduceAdd, Nat.reduceMul, Nat.reduceDiv, Nat.reduceMod, Nat.reduceSub, Nat.reduceEqDiff, Nat.reduceLT, Nat.reduceLeDiff, Nat.reduceBeqDiff, Int.reduceLT, Int.reduceLE, Int.reduceEq, Int.reduceToNat, Int.reduceAdd, Int.reduceSub, Int.reduceMul, Int.reduceNeg]
theorem round2z (full : Bool) (w : List (Int × Int)) (hl : w.length ≤ 1000) (a b c d m e x y mt en s : Int) (hi : 0 < w.length) (cd : Code) (hb : cd = lp5x1) :
    loopL PE cd 4 (T.of (tq2 full w mt en s (.sl true []) 0)) ⟨T.of (tq2 full w mt en s (.sl true []) 0), hq1 a b c d m e x y, [], PE.keep 5⟩ =
    loopL PE cd 4 (T.of (tq2 full w mt en s (.sl true []) 0)) ⟨T.of (tq2 full w (IntKind.i64.wrap (mt - (partV w[0].1 w[0].2 s).1)) (IntKind.i64.wrap (en - (partV w[0].1 w[0].2 s).2)) s (.ref 4 0 0 1) (0 + 1 : Nat)),
      hq1 a b c d m e x y ++ [.arr 0 false 2 [] [[i64 (partV w[0].1 w[0].2 s).1, i64 (partV w[0].1 w[0].2 s).2]]], [], PE.keep 5⟩ := by
  subst hb
  have hn := wl_nth w 0 hi
  have hlen := wl_len w
  have hi1 : (0 : Int) < (w.length : Int) := by omega
  have r1 := room26 1 (by omega)
  have w1 : IntKind.i64.wrap 1 = 1 := by rfl
  rw [loopL_go]
  conv in lp5x1 => simp only [lp5x1, subC, codeOf, Try.f5]
  simp only [tb5, tq2, hq1, part_e, hn, hlen, hi1, r1, w1, nth_eq, callBy, inOf, meets, allLt, memFor, roReg, back, outOf, outRefs, keeps, freezeOut, freeze1, sameVer, backTo, wroteBack, writeBack, markRo, marksOf, outσ, baseOf, ifWr, getD0, hasSl, hasSlL, regRefs, List.range, List.range.loop, List.filter, List.map, slRefs, slRefsL, List.isEmpty, mem, RR, RC, FF, pext, gd, noDef, kindOf, sl1, allocs, isLit, ↓br_i, ↓reduceIte, reduceCtorEq, List.replicate, decide_eq_true_eq, decide_eq_false_iff_not, decide_true, decide_false, beq_self_eq_true, if_true, if_false, ite_not, Nat.le_refl, Int.cast_ofNat_Int, Nat.reduceAdd, Nat.reduceMul, Nat.reduceDiv, Nat.reduceMod, Nat.reduceSub, Nat.reduceEqDiff, Nat.reduceLT, Nat.reduceLeDiff, Nat.reduceBeqDiff, Int.reduceLT, Int.reduceLE, Int.reduceEq, Int.reduceToNat, Int.reduceAdd, Int.reduceSub, Int.reduceMul, Int.reduceNeg]
  rw [g_dops_nil]
  rotate_left
  · kernel_rfl
  simp only [tb5, tq2, hq1, part_e, hn, hlen, hi1, r1, w1, nth_eq, callBy, inOf, meets, allLt, memFor, roReg, back, outOf, outRefs, keeps, freezeOut, freeze1, sameVer, backTo, wroteBack, writeBack, markRo, marksOf, outσ, baseOf, ifWr, getD0, hasSl, hasSlL, regRefs, List.range, List.range.loop, List.filter, List.map, slRefs, slRefsL, List.isEmpty, mem, RR, RC, FF, pext, gd, noDef, kindOf, sl1, allocs, isLit, ↓br_i, ↓reduceIte, reduceCtorEq, List.replicate, decide_eq_true_eq, decide_eq_false_iff_not, decide_true, decide_false, beq_self_eq_true, if_true, if_false, ite_not, Nat.le_refl, Int.cast_ofNat_Int, Nat.reduceAdd, Nat.reduceMul, Nat.reduceDiv, Nat.reduceMod, Nat.reduceSub, Nat.reduceEqDiff, Nat.reduceLT, Nat.reduceLeDiff, Nat.reduceBeqDiff, Int.reduceLT, Int.reduceLE, Int.reduceEq, Int.reduceToNat, Int.reduceAdd, Int.reduceSub, Int.reduceMul, Int.reduceNeg]
theorem round2s (full : Bool) (w : List (Int × Int)) (hl : w.length ≤ 1000) (a b c d m e x y mt en mt' en' s : Int) (i : Nat) (hi : i + 1 < w.length) (l : List (List AV)) (hll : l.length = i + 1) (cd : Code) (hb : cd = lp5x1) :
    loopL PE cd 4 (T.of (tq2 full w mt en s (.sl true []) 0)) ⟨T.of (tq2 full w mt' en' s (.ref 4 i 0 (i + 1)) (i + 1 : Nat)), hq1 a b c d m e x y ++ [.arr i false 2 [] l], [], PE.keep 5⟩ =
    loopL PE cd 4 (T.of (tq2 full w mt en s (.sl true []) 0)) ⟨T.of (tq2 full w (IntKind.i64.wrap (mt' - (partV w[i + 1].1 w[i + 1].2 s).1)) (IntKind.i64.wrap (en' - (partV w[i + 1].1 w[i + 1].2 s).2)) s (.ref 4 (i + 1) 0 (i + 1 + 1)) (i + 1 + 1 : Nat)),
      hq1 a b c d m e x y ++ [.arr (i + 1) false 2 [] (l ++ [[i64 (partV w[i + 1].1 w[i + 1].2 s).1, i64 (partV w[i + 1].1 w[i + 1].2 s).2]])], [], PE.keep 5⟩ := by
  subst hb
  have hn := wl_nth w (i + 1) hi
  have hlen := wl_len w
  have hi1 : ((i + 1 : Nat) : Int) < (w.length : Int) := by omega
  have hi2 : (0 : Int) ≤ ((i + 1 : Nat) : Int) := by omega
  have hi3 : ((i + 1 : Nat) : Int).toNat = i + 1 := by omega
  have hi4 := wrapN (i + 1) (by omega)
  have r1 := room26 (i + 1 + 1) (by omega)
  have htk := tk_all l (i + 1) hll
  rw [loopL_go]
  conv in lp5x1 => simp only [lp5x1, subC, codeOf, Try.f5]
  simp only [tb5, tq2, hq1, part_e, hn, hlen, hi1, hi2, hi3, hi4, r1, hll, htk, nth_eq, callBy, inOf, meets, allLt, memFor, roReg, back, outOf, outRefs, keeps, freezeOut, freeze1, sameVer, backTo, wroteBack, writeBack, markRo, marksOf, outσ, baseOf, ifWr, getD0, hasSl, hasSlL, regRefs, List.range, List.range.loop, List.filter, List.map, slRefs, slRefsL, List.isEmpty, mem, RR, RC, FF, pext, gd, noDef, kindOf, sl1, allocs, isLit, ↓br_i, ↓reduceIte, reduceCtorEq, List.replicate, decide_eq_true_eq, decide_eq_false_iff_not, decide_true, decide_false, beq_self_eq_true, if_true, if_false, ite_not, Nat.le_refl, Int.cast_ofNat_Int, Nat.reduceAdd, Nat.reduceMul, Nat.reduceDiv, Nat.reduceMod, Nat.reduceSub, Nat.reduceEqDiff, Nat.reduceLT, Nat.reduceLeDiff, Nat.reduceBeqDiff, Int.reduceLT, Int.reduceLE, Int.reduceEq, Int.reduceToNat, Int.reduceAdd, Int.reduceSub, Int.reduceMul, Int.reduceNeg]
  rw [g_dops_nil]
  rotate_left
  · kernel_rfl
  simp only [tb5, tq2, hq1, part_e, hn, hlen, hi1, hi2, hi3, hi4, r1, hll, htk, nth_eq, callBy, inOf, meets, allLt, memFor, roReg, back, outOf, outRefs, keeps, freezeOut, freeze1, sameVer, backTo, wroteBack, writeBack, markRo, marksOf, outσ, baseOf, ifWr, getD0, hasSl, hasSlL, regRefs, List.range, List.range.loop, List.filter, List.map, slRefs, slRefsL, List.isEmpty, mem, RR, RC, FF, pext, gd, noDef, kindOf, sl1, allocs, isLit, ↓br_i, ↓reduceIte, reduceCtorEq, List.replicate, decide_eq_true_eq, decide_eq_false_iff_not, decide_true, decide_false, beq_self_eq_true, if_true, if_false, ite_not, Nat.le_refl, Int.cast_ofNat_Int, Nat.reduceAdd, Nat.reduceMul, Nat.reduceDiv, Nat.reduceMod, Nat.reduceSub, Nat.reduceEqDiff, Nat.reduceLT, Nat.reduceLeDiff, Nat.reduceBeqDiff, Int.reduceLT, Int.reduceLE, Int.reduceEq, Int.reduceToNat, Int.reduceAdd, Int.reduceSub, Int.reduceMul, Int.reduceNeg]

theorem allLen_wl : ∀ w : List (Int × Int), allLen 2 (wl w) = true
  | [] => rfl
  | p :: w => by
    have := allLen_wl w
    simp only [wl, List.map_cons, allLen] at this ⊢
    rw [this]; rfl
theorem wl_app (w : List (Int × Int)) (p : Int × Int) : wl (w ++ [p]) = wl w ++ [[i64 p.1, i64 p.2]] := by simp [wl]
theorem gs_take (w : List (Int × Int)) (s : Int) (i : Nat) (hi : i < w.length) : gs (w.take (i + 1)) s = gs (w.take i) s ++ [partV w[i].1 w[i].2 s] := by
  rw [List.take_succ_eq_append_getElem hi]
  simp only [gs, List.map_append, List.map_cons, List.map_nil]

theorem loop2s (full : Bool) (w : List (Int × Int)) (hl : w.length ≤ 64) (a b c d m e x y mt en s : Int) (cd : Code) (hb : cd = lp5x1) : ∀ (n i : Nat) (mt' en' : Int), i + 1 + n = w.length →
    ∃ mt2 en2, loopL PE cd 4 (T.of (tq2 full w mt en s (.sl true []) 0)) ⟨T.of (tq2 full w mt' en' s (.ref 4 i 0 (i + 1)) (i + 1 : Nat)), hq1 a b c d m e x y ++ [.arr i false 2 [] (wl (gs (w.take (i + 1)) s))], [], PE.keep 5⟩ =
    some (.exit 2, ⟨T.of (tq2 full w mt2 en2 s (.ref 4 (w.length - 1) 0 w.length) w.length ++ [(85, bl false)]), hq1 a b c d m e x y ++ [.arr (w.length - 1) false 2 [] (wl (gs w s))], [], PE.keep 5⟩) := by
  intro n
  induction n with
  | zero =>
    intro i mt' en' hn
    have e1 : w.length = i + 1 := by omega
    have e2 : w.length - 1 = i := by omega
    refine ⟨mt', en', ?_⟩
    have := round2e full w a b c d m e x y mt' en' mt en s (.ref 4 i 0 (i + 1)) [.arr i false 2 [] (wl (gs (w.take (i + 1)) s))] (.inr ⟨_, _, rfl⟩) (.inr ⟨_, _, rfl⟩) cd hb
    rw [show w.take (i + 1) = w by rw [← e1]; exact List.take_length] at this ⊢
    rw [e2, e1]
    rw [e1] at this
    exact this
  | succ n ih =>
    intro i mt' en' hn
    have hi : i + 1 < w.length := by omega
    have hll : (wl (gs (w.take (i + 1)) s)).length = i + 1 := by simp [wl, gs]; omega
    rw [round2s full w (by omega) a b c d m e x y mt en mt' en' s i hi _ hll cd hb, ← wl_app, ← gs_take w s (i + 1) hi]
    exact ih (i + 1) _ _ (by omega)
theorem loop2 (full : Bool) (w : List (Int × Int)) (hl : w.length ≤ 64) (h0 : 0 < w.length) (a b c d m e x y mt en s : Int) (cd : Code) (hb : cd = lp5x1) :
    ∃ mt2 en2, loopL PE cd 4 (T.of (tq2 full w mt en s (.sl true []) 0)) ⟨T.of (tq2 full w mt en s (.sl true []) 0), hq1 a b c d m e x y, [], PE.keep 5⟩ =
    some (.exit 2, ⟨T.of (tq2 full w mt2 en2 s (.ref 4 (w.length - 1) 0 w.length) w.length ++ [(85, bl false)]), hq1 a b c d m e x y ++ [.arr (w.length - 1) false 2 [] (wl (gs w s))], [], PE.keep 5⟩) := by
  rw [round2z full w (by omega) a b c d m e x y mt en s h0 cd hb]
  have h1 : wl (gs (w.take (0 + 1)) s) = [[i64 (partV w[0].1 w[0].2 s).1, i64 (partV w[0].1 w[0].2 s).2]] := by
    rw [gs_take w s 0 h0]; rfl
  rw [← h1]
  exact loop2s full w hl a b c d m e x y mt en s cd hb (w.length - 1) 0 _ _ (by omega)
end Go.AM
