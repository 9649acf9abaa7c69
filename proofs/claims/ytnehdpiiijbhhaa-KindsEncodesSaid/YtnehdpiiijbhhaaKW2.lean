/- A number's bytes, by the reference, in the machine; for any number, and up to a hundred bytes. -/
import Derived.Test.YtnehdpiiijbhhaaKW1
set_option autoImplicit false
set_option maxRecDepth 100000
set_option linter.unusedSimpArgs false
namespace Go.AM
open Go Go.RowKit Go.Proofs

abbrev u8 (n : Int) : AV := .v (.int .u8 n)
def bt (l : List Nat) : List (List AV) := l.map fun n => [u8 (n : Nat)]
theorem bt_app (l : List Nat) (n : Nat) : bt (l ++ [n]) = bt l ++ [[u8 n]] := by simp [bt]
theorem bt_len (l : List Nat) : (bt l).length = l.length := by simp [bt]
/-- A number's bytes, the lowest first. -/
def le : Nat → Nat → List Nat
  | 0, _ => []
  | j + 1, v => v % 256 :: le j (v / 256)
theorem le_len : ∀ (j v : Nat), (le j v).length = j
  | 0, _ => rfl
  | j + 1, v => by simp [le, le_len j]
theorem room34 (n : Nat) (hn : n ≤ 100000) : roomT KE.P [34, 34] n = true := roomT_of (b := 1) (by kernel_rfl) (by omega) (by omega)
theorem wrap8 (n : Nat) : IntKind.u8.wrap (n : Int) = ((n % 256 : Nat) : Int) := by
  simp [IntKind.wrap, IntKind.bits, IntKind.signed]
theorem rem256 (v : Nat) : IntKind.u8.wrap ((v : Int).tmod 256) = ((v % 256 : Nat) : Int) := by
  have : (v : Int).tmod 256 = ((v % 256 : Nat) : Int) := rfl
  rw [this, wrap8, Nat.mod_mod]
theorem quo256 (v : Nat) (hv : v < 18446744073709551616) : IntKind.u64.wrap ((v : Int).tdiv 256) = ((v / 256 : Nat) : Int) := by
  have : (v : Int).tdiv 256 = ((v / 256 : Nat) : Int) := rfl
  rw [this, wrapU _ (by omega) (by omega)]
def tq27 (v sz : Nat) (o : AV) (i : Nat) : List (Nat × AV) := [(0, u64 v), (1, i64 sz), (5, o), (6, i64 i)]
theorem round27z (v sz : Nat) (hv : v < 18446744073709551616) (hs : sz ≤ 100) (h : 0 < sz) (cd : Code) (hb : cd = lp27x0) :
    loopL KE cd 0 (T.of (tq27 v sz (.sl true []) 0)) ⟨T.of (tq27 v sz (.sl true []) 0), [], [], KE.keep 27⟩ =
    loopL KE cd 0 (T.of (tq27 v sz (.sl true []) 0)) ⟨T.of (tq27 (v / 256) sz (.ref 0 0 0 1) 1), [.arr 0 false 1 [] [[u8 (v % 256 : Nat)]]], [], KE.keep 27⟩ := by
  subst hb
  have e1 := rem256 v
  have e2 := quo256 v hv
  have i1 : (0 : Int) < (sz : Int) := by omega
  have i2 : ((0 : Nat) : Int) = 0 := rfl
  have i3 : ((1 : Nat) : Int) = 1 := rfl
  have i4 : IntKind.i64.wrap 1 = 1 := rfl
  have r1 := room34 1 (by omega)
  rw [loopL_go]
  conv in (goX _ _ _ _) => rw [show lp27x0 = _ from by simp only [lp27x0, subC, codeOf, Try.f27]; rfl]
  simp only [tb27, tq27, e1, e2, i1, i2, i3, i4, r1, RR, RC, FF, gd, noDef, kindOf, sl1, allocs, isLit, ↓br_i, ↓reduceIte, reduceCtorEq, List.replicate, decide_eq_true_eq, decide_eq_false_iff_not, decide_true, decide_false, beq_self_eq_true, if_true, if_false, ite_not, Nat.le_refl, Int.cast_ofNat_Int, Nat.reduceAdd, Nat.reduceMul, Nat.reduceDiv, Nat.reduceMod, Nat.reduceSub, Nat.reduceEqDiff, Nat.reduceLT, Nat.reduceLeDiff, Nat.reduceBeqDiff, Int.reduceLT, Int.reduceLE, Int.reduceEq, Int.reduceToNat, Int.reduceAdd, Int.reduceSub, Int.reduceMul, Int.reduceNeg]
theorem round27 (v sz v0 : Nat) (hv : v < 18446744073709551616) (hs : sz ≤ 100) (i : Nat) (h : i + 1 < sz) (l : List (List AV)) (hl : l.length = i + 1) (cd : Code) (hb : cd = lp27x0) :
    loopL KE cd 0 (T.of (tq27 v0 sz (.sl true []) 0)) ⟨T.of (tq27 v sz (.ref 0 i 0 (i + 1)) (i + 1)), [.arr i false 1 [] l], [], KE.keep 27⟩ =
    loopL KE cd 0 (T.of (tq27 v0 sz (.sl true []) 0)) ⟨T.of (tq27 (v / 256) sz (.ref 0 (i + 1) 0 (i + 1 + 1)) (i + 1 + 1)), [.arr (i + 1) false 1 [] (l ++ [[u8 (v % 256 : Nat)]])], [], KE.keep 27⟩ := by
  subst hb
  have e1 := rem256 v
  have e2 := quo256 v hv
  have i1 : ((i + 1 : Nat) : Int) < (sz : Int) := by omega
  have i4 := wrapN (i + 1) (by omega)
  have r1 := room34 (i + 1 + 1) (by omega)
  have htk := tk_all l (i + 1) hl
  rw [loopL_go]
  conv in (goX _ _ _ _) => rw [show lp27x0 = _ from by simp only [lp27x0, subC, codeOf, Try.f27]; rfl]
  simp only [tb27, tq27, e1, e2, i1, i4, r1, hl, htk, RR, RC, FF, gd, noDef, kindOf, sl1, allocs, isLit, ↓br_i, ↓reduceIte, reduceCtorEq, List.replicate, decide_eq_true_eq, decide_eq_false_iff_not, decide_true, decide_false, beq_self_eq_true, if_true, if_false, ite_not, Nat.le_refl, Int.cast_ofNat_Int, Nat.reduceAdd, Nat.reduceMul, Nat.reduceDiv, Nat.reduceMod, Nat.reduceSub, Nat.reduceEqDiff, Nat.reduceLT, Nat.reduceLeDiff, Nat.reduceBeqDiff, Int.reduceLT, Int.reduceLE, Int.reduceEq, Int.reduceToNat, Int.reduceAdd, Int.reduceSub, Int.reduceMul, Int.reduceNeg]
theorem round27e (v sz v0 : Nat) (o : AV) (h : Heap) (ho : (o = .sl true [] ∧ h = []) ∨ ∃ i l, o = .ref 0 i 0 (i + 1) ∧ h = [.arr i false 1 [] l]) (cd : Code) (hb : cd = lp27x0) :
    loopL KE cd 0 (T.of (tq27 v0 sz (.sl true []) 0)) ⟨T.of (tq27 v sz o sz), h, [], KE.keep 27⟩ = some (.exit 0, ⟨T.of (tq27 v sz o sz ++ [(9, bl false)]), h, [], KE.keep 27⟩) := by
  subst hb
  have i1 : ¬ (sz : Int) < (sz : Int) := by omega
  rw [loopL_go]
  conv in (goX _ _ _ _) => rw [show lp27x0 = _ from by simp only [lp27x0, subC, codeOf, Try.f27]; rfl]
  rcases ho with ⟨rfl, rfl⟩ | ⟨i, l, rfl, rfl⟩ <;> simp only [tb27, tq27, i1, RR, RC, FF, gd, noDef, kindOf, sl1, allocs, isLit, ↓br_i, ↓reduceIte, reduceCtorEq, List.replicate, decide_eq_true_eq, decide_eq_false_iff_not, decide_true, decide_false, beq_self_eq_true, if_true, if_false, ite_not, Nat.le_refl, Int.cast_ofNat_Int, Nat.reduceAdd, Nat.reduceMul, Nat.reduceDiv, Nat.reduceMod, Nat.reduceSub, Nat.reduceEqDiff, Nat.reduceLT, Nat.reduceLeDiff, Nat.reduceBeqDiff, Int.reduceLT, Int.reduceLE, Int.reduceEq, Int.reduceToNat, Int.reduceAdd, Int.reduceSub, Int.reduceMul, Int.reduceNeg]
theorem loop27 (v0 sz : Nat) (hs : sz ≤ 100) (cd : Code) (hb : cd = lp27x0) : ∀ (n i v : Nat) (l : List Nat), v < 18446744073709551616 → i + 1 + n = sz → l.length = i + 1 →
    ∃ v', loopL KE cd 0 (T.of (tq27 v0 sz (.sl true []) 0)) ⟨T.of (tq27 v sz (.ref 0 i 0 (i + 1)) (i + 1)), [.arr i false 1 [] (bt l)], [], KE.keep 27⟩ =
    some (.exit 0, ⟨T.of (tq27 v' sz (.ref 0 (sz - 1) 0 sz) sz ++ [(9, bl false)]), [.arr (sz - 1) false 1 [] (bt (l ++ le n v))], [], KE.keep 27⟩) := by
  intro n
  induction n with
  | zero =>
    intro i v l hv hn hl
    obtain rfl : sz = i + 1 := by omega
    exact ⟨v, by rw [le, List.append_nil]; exact round27e v (i + 1) v0 _ _ (.inr ⟨i, bt l, rfl, rfl⟩) cd hb⟩
  | succ n ih =>
    intro i v l hv hn hl
    obtain ⟨v', e⟩ := ih (i + 1) (v / 256) (l ++ [v % 256]) (by omega) (by omega) (by simp [hl])
    refine ⟨v', ?_⟩
    rw [round27 v sz v0 hv hs i (by omega) (bt l) (by rw [bt_len, hl]) cd hb, ← bt_app, e, le]
    simp
theorem put_c (v sz : Nat) (hv : v < 18446744073709551616) (h0 : 0 < sz) (hs : sz ≤ 100) : callL KE 27 [u64 v, i64 sz] [] = some (.ret (.ref 0 (sz - 1) 0 sz), [.arr (sz - 1) false 1 [] (bt (le sz v))]) := by
  obtain ⟨j, rfl⟩ : ∃ j, sz = j + 1 := ⟨sz - 1, by omega⟩
  obtain ⟨v', k⟩ := loop27 v (j + 1) hs lp27x0 rfl j 0 (v / 256) [v % 256] (by omega) (by omega) rfl
  have k0 := round27z v (j + 1) hv hs (by omega) lp27x0 rfl
  have hbt : bt [v % 256] = [[u8 (v % 256 : Nat)]] := rfl
  rw [hbt] at k
  rw [k, show [v % 256] ++ le j (v / 256) = le (j + 1) v from rfl] at k0
  simp only [tq27, RR, RC, FF, gd, noDef, kindOf, sl1, allocs, isLit, ↓br_i, ↓reduceIte, reduceCtorEq, List.replicate, decide_eq_true_eq, decide_eq_false_iff_not, decide_true, decide_false, beq_self_eq_true, if_true, if_false, ite_not, Nat.le_refl, Int.cast_ofNat_Int, Nat.reduceAdd, Nat.reduceMul, Nat.reduceDiv, Nat.reduceMod, Nat.reduceSub, Nat.reduceEqDiff, Nat.reduceLT, Nat.reduceLeDiff, Nat.reduceBeqDiff, Int.reduceLT, Int.reduceLE, Int.reduceEq, Int.reduceToNat, Int.reduceAdd, Int.reduceSub, Int.reduceMul, Int.reduceNeg] at k0
  conv at k0 in lp27x0 => simp only [lp27x0, subC, codeOf, Try.f27]
  rw [cu27]
  conv in codeOf _ => simp only [codeOf, Try.f27]
  simp only [tb27, RR, RC, FF, gd, noDef, kindOf, sl1, allocs, isLit, ↓br_i, ↓reduceIte, reduceCtorEq, List.replicate, decide_eq_true_eq, decide_eq_false_iff_not, decide_true, decide_false, beq_self_eq_true, if_true, if_false, ite_not, Nat.le_refl, Int.cast_ofNat_Int, Nat.reduceAdd, Nat.reduceMul, Nat.reduceDiv, Nat.reduceMod, Nat.reduceSub, Nat.reduceEqDiff, Nat.reduceLT, Nat.reduceLeDiff, Nat.reduceBeqDiff, Int.reduceLT, Int.reduceLE, Int.reduceEq, Int.reduceToNat, Int.reduceAdd, Int.reduceSub, Int.reduceMul, Int.reduceNeg]
  rw [k0]
  simp only [tb27, RR, RC, FF, gd, noDef, kindOf, sl1, allocs, isLit, ↓br_i, ↓reduceIte, reduceCtorEq, List.replicate, decide_eq_true_eq, decide_eq_false_iff_not, decide_true, decide_false, beq_self_eq_true, if_true, if_false, ite_not, Nat.le_refl, Int.cast_ofNat_Int, Nat.reduceAdd, Nat.reduceMul, Nat.reduceDiv, Nat.reduceMod, Nat.reduceSub, Nat.reduceEqDiff, Nat.reduceLT, Nat.reduceLeDiff, Nat.reduceBeqDiff, Int.reduceLT, Int.reduceLE, Int.reduceEq, Int.reduceToNat, Int.reduceAdd, Int.reduceSub, Int.reduceMul, Int.reduceNeg]
theorem refsE_bt (l : List Nat) : refsE (bt l) = [] := by induction l with | nil => rfl | cons n l ih => simpa [bt, refsE, refsL, refs] using ih
theorem put_e (v sz : Nat) (hv : v < 18446744073709551616) (h0 : 0 < sz) (hs : sz ≤ 100) (h : Heap) : ∃ f, callEL KE 27 [u64 v, i64 sz] h = some (.val (.sl f (bt (le sz v))) h fp0) := by
  have hl : (bt (le sz v)).length = sz := by rw [bt_len, le_len]
  obtain ⟨X, hX⟩ : ∃ X, outOf (KE.way 27) [.arr (sz - 1) false 1 [] (bt (le sz v))] [] (.ref 0 (sz - 1) 0 sz) = X := ⟨_, rfl⟩
  have hO := hX
  have pwf : KE.way 27 = ⟨true, false, false⟩ := rfl
  simp only [pwf, hl, nth_eq, callBy, inOf, meets, allLt, memFor, roReg, back, outOf, outRefs, keeps, freezeOut, freeze1, sameVer, backTo, wroteBack, writeBack, markRo, marksOf, outσ, baseOf, ifWr, getD0, hasSl, hasSlL, regRefs, List.range, List.range.loop, List.filter, List.map, slRefs, slRefsL, List.isEmpty, mem, RR, RC, FF, gd, noDef, kindOf, sl1, allocs, isLit, ↓br_i, ↓reduceIte, reduceCtorEq, List.replicate, decide_eq_true_eq, decide_eq_false_iff_not, decide_true, decide_false, beq_self_eq_true, if_true, if_false, ite_not, Nat.le_refl, Int.cast_ofNat_Int, Nat.reduceAdd, Nat.reduceMul, Nat.reduceDiv, Nat.reduceMod, Nat.reduceSub, Nat.reduceEqDiff, Nat.reduceLT, Nat.reduceLeDiff, Nat.reduceBeqDiff, Int.reduceLT, Int.reduceLE, Int.reduceEq, Int.reduceToNat, Int.reduceAdd, Int.reduceSub, Int.reduceMul, Int.reduceNeg] at hX
  rw [if_pos (by omega), tk_all _ _ hl] at hX
  exact ⟨false, call_val (E := KE) (f := 27) rfl rfl rfl (put_c v sz hv h0 hs) (hO.trans hX.symm) rfl⟩
end Go.AM
