/- What the small functions on kinds come to in the machine; each under its own hypotheses alone. -/
import Derived.Test.YtnehdpiiijbhhaaKF
set_option autoImplicit false
set_option maxRecDepth 100000
set_option linter.unusedSimpArgs false
namespace Go.AM
open Go Go.RowKit Go.Proofs

abbrev i64 (n : Int) : AV := .v (.int .i64 n)
abbrev bl (b : Bool) : AV := .v (.bool b)
theorem wrapI (n : Int) (h0 : -9223372036854775808 ≤ n) (h1 : n < 9223372036854775808) : IntKind.i64.wrap n = n := by
  have p1 : (2 : Int) ^ 64 = 18446744073709551616 := rfl
  have p2 : (2 : Int) ^ (64 - 1) = 9223372036854775808 := rfl
  simp only [IntKind.wrap, IntKind.bits, IntKind.signed, p1, p2, Bool.true_and, decide_eq_true_eq]
  by_cases h : n % 18446744073709551616 ≥ 9223372036854775808
  · rw [if_pos h]; omega
  · rw [if_neg h]; omega
theorem wrapU (n : Int) (h0 : 0 ≤ n) (h1 : n < 18446744073709551616) : IntKind.u64.wrap n = n := by
  have : n % 18446744073709551616 = n := Int.emod_eq_of_lt h0 h1
  simp [IntKind.wrap, IntKind.bits, IntKind.signed, this]
theorem wrapN (i : Nat) (hi : i ≤ 100000) : IntKind.i64.wrap ((i : Int) + 1) = ((i + 1 : Nat) : Int) := by rw [wrapI _ (by omega) (by omega)]; omega
theorem pext19 : KE.ext 19 = none := rfl

def rng (a b n : Int) : Bool := decide (a ≤ n) && decide (n ≤ b)
theorem in_c (v a b : Int) : retOf (callL KE 36 [i64 v, i64 a, i64 b] []) = some (.ret (bl (rng a b v))) := by
  rw [cu36]
  conv in codeOf _ => simp only [codeOf, Try.f36]
  simp only [tb36, RR, RC, FF, gd, noDef, kindOf, sl1, allocs, isLit, ↓br_i, ↓reduceIte, reduceCtorEq, List.replicate, decide_eq_true_eq, decide_eq_false_iff_not, decide_true, decide_false, beq_self_eq_true, if_true, if_false, ite_not, Nat.le_refl, Int.cast_ofNat_Int, Nat.reduceAdd, Nat.reduceMul, Nat.reduceDiv, Nat.reduceMod, Nat.reduceSub, Nat.reduceEqDiff, Nat.reduceLT, Nat.reduceLeDiff, Nat.reduceBeqDiff, Int.reduceLT, Int.reduceLE, Int.reduceEq, Int.reduceToNat, Int.reduceAdd, Int.reduceSub, Int.reduceMul, Int.reduceNeg]
  split <;> simp only [*, tb36, rng, RR, RC, FF, gd, noDef, kindOf, sl1, allocs, isLit, ↓br_i, ↓reduceIte, reduceCtorEq, List.replicate, decide_eq_true_eq, decide_eq_false_iff_not, decide_true, decide_false, beq_self_eq_true, if_true, if_false, ite_not, Nat.le_refl, Int.cast_ofNat_Int, Nat.reduceAdd, Nat.reduceMul, Nat.reduceDiv, Nat.reduceMod, Nat.reduceSub, Nat.reduceEqDiff, Nat.reduceLT, Nat.reduceLeDiff, Nat.reduceBeqDiff, Int.reduceLT, Int.reduceLE, Int.reduceEq, Int.reduceToNat, Int.reduceAdd, Int.reduceSub, Int.reduceMul, Int.reduceNeg]
theorem in_e (v a b : Int) (h : Heap) : callEL KE 36 [i64 v, i64 a, i64 b] h = some (.val (bl (rng a b v)) h fp0) :=
  call_ret (E := KE) (f := 36) rfl rfl rfl (in_c v a b) (fun _ => rfl) rfl

def il (ns : List Int) : List (List AV) := ns.map fun n => [i64 n]
theorem il_nth (ns : List Int) (i : Nat) (hi : i < ns.length) : nth (il ns) i = some [i64 ns[i]] := by rw [← nth_eq]; simp [il, hi]
theorem il_len (ns : List Int) : (il ns).length = ns.length := by simp [il]
def betw (a b : Int) (ns : List Int) : Bool := ns.all fun n => rng a b n
def tq19 (a b : Int) (f : Bool) (ns : List Int) (i : Int) : List (Nat × AV) := [(0, i64 a), (1, i64 b), (9, .sl f (il ns)), (10, i64 ns.length), (11, i64 i)]
theorem round19 (a b : Int) (f : Bool) (ns : List Int) (hl : ns.length ≤ 100) (i : Nat) (hi : i < ns.length) (t0 : Int) (hr : rng a b ns[i] = true) (cd : Code) (hb : cd = lp19x0) :
    loopL KE cd 0 (T.of (tq19 a b f ns t0)) ⟨T.of (tq19 a b f ns i), [], [], KE.keep 19⟩ = loopL KE cd 0 (T.of (tq19 a b f ns t0)) ⟨T.of (tq19 a b f ns (i + 1 : Nat)), [], [], KE.keep 19⟩ := by
  subst hb
  have n1 := il_nth ns i hi
  have hlen := il_len ns
  have i1 : (i : Int) < (ns.length : Int) := by omega
  have i2 : (0 : Int) ≤ (i : Int) := by omega
  have i3 : (i : Int).toNat = i := by omega
  have i4 := wrapN i (by omega)
  simp only [rng, Bool.and_eq_true, decide_eq_true_eq] at hr
  have c1 : ¬ ns[i] < a := by omega
  have c2 : ¬ b < ns[i] := by omega
  rw [loopL_go]
  conv in (goX _ _ _ _) => rw [show lp19x0 = _ from by simp only [lp19x0, subC, codeOf, Try.f19]; rfl]
  simp only [tb19, tq19, n1, hlen, i1, i2, i3, i4, c1, c2, RR, RC, FF, gd, noDef, kindOf, sl1, allocs, isLit, ↓br_i, ↓reduceIte, reduceCtorEq, List.replicate, decide_eq_true_eq, decide_eq_false_iff_not, decide_true, decide_false, beq_self_eq_true, if_true, if_false, ite_not, Nat.le_refl, Int.cast_ofNat_Int, Nat.reduceAdd, Nat.reduceMul, Nat.reduceDiv, Nat.reduceMod, Nat.reduceSub, Nat.reduceEqDiff, Nat.reduceLT, Nat.reduceLeDiff, Nat.reduceBeqDiff, Int.reduceLT, Int.reduceLE, Int.reduceEq, Int.reduceToNat, Int.reduceAdd, Int.reduceSub, Int.reduceMul, Int.reduceNeg]
theorem round19x (a b : Int) (f : Bool) (ns : List Int) (hl : ns.length ≤ 100) (i : Nat) (hi : i < ns.length) (t0 : Int) (hr : rng a b ns[i] = false) (cd : Code) (hb : cd = lp19x0) :
    loopL KE cd 0 (T.of (tq19 a b f ns t0)) ⟨T.of (tq19 a b f ns i), [], [], KE.keep 19⟩ = some (.ret, ⟨T.of [(6, bl false)], [], [], KE.keep 19⟩) := by
  subst hb
  have n1 := il_nth ns i hi
  have hlen := il_len ns
  have i1 : (i : Int) < (ns.length : Int) := by omega
  have i2 : (0 : Int) ≤ (i : Int) := by omega
  have i3 : (i : Int).toNat = i := by omega
  have i4 := wrapN i (by omega)
  simp only [rng, Bool.and_eq_false_iff, decide_eq_false_iff_not] at hr
  rw [loopL_go]
  conv in (goX _ _ _ _) => rw [show lp19x0 = _ from by simp only [lp19x0, subC, codeOf, Try.f19]; rfl]
  by_cases c1 : ns[i] < a
  · simp only [tb19, tq19, n1, hlen, i1, i2, i3, i4, c1, RR, RC, FF, gd, noDef, kindOf, sl1, allocs, isLit, ↓br_i, ↓reduceIte, reduceCtorEq, List.replicate, decide_eq_true_eq, decide_eq_false_iff_not, decide_true, decide_false, beq_self_eq_true, if_true, if_false, ite_not, Nat.le_refl, Int.cast_ofNat_Int, Nat.reduceAdd, Nat.reduceMul, Nat.reduceDiv, Nat.reduceMod, Nat.reduceSub, Nat.reduceEqDiff, Nat.reduceLT, Nat.reduceLeDiff, Nat.reduceBeqDiff, Int.reduceLT, Int.reduceLE, Int.reduceEq, Int.reduceToNat, Int.reduceAdd, Int.reduceSub, Int.reduceMul, Int.reduceNeg]
  · have c2 : b < ns[i] := by omega
    simp only [tb19, tq19, n1, hlen, i1, i2, i3, i4, c1, c2, RR, RC, FF, gd, noDef, kindOf, sl1, allocs, isLit, ↓br_i, ↓reduceIte, reduceCtorEq, List.replicate, decide_eq_true_eq, decide_eq_false_iff_not, decide_true, decide_false, beq_self_eq_true, if_true, if_false, ite_not, Nat.le_refl, Int.cast_ofNat_Int, Nat.reduceAdd, Nat.reduceMul, Nat.reduceDiv, Nat.reduceMod, Nat.reduceSub, Nat.reduceEqDiff, Nat.reduceLT, Nat.reduceLeDiff, Nat.reduceBeqDiff, Int.reduceLT, Int.reduceLE, Int.reduceEq, Int.reduceToNat, Int.reduceAdd, Int.reduceSub, Int.reduceMul, Int.reduceNeg]
theorem round19e (a b : Int) (f : Bool) (ns : List Int) (t0 : Int) (cd : Code) (hb : cd = lp19x0) :
    loopL KE cd 0 (T.of (tq19 a b f ns t0)) ⟨T.of (tq19 a b f ns ns.length), [], [], KE.keep 19⟩ = some (.exit 0, ⟨T.of (tq19 a b f ns ns.length ++ [(12, bl false)]), [], [], KE.keep 19⟩) := by
  subst hb
  have hlen := il_len ns
  have i1 : ¬ (ns.length : Int) < (ns.length : Int) := by omega
  rw [loopL_go]
  conv in (goX _ _ _ _) => rw [show lp19x0 = _ from by simp only [lp19x0, subC, codeOf, Try.f19]; rfl]
  simp only [tb19, tq19, hlen, i1, RR, RC, FF, gd, noDef, kindOf, sl1, allocs, isLit, ↓br_i, ↓reduceIte, reduceCtorEq, List.replicate, decide_eq_true_eq, decide_eq_false_iff_not, decide_true, decide_false, beq_self_eq_true, if_true, if_false, ite_not, Nat.le_refl, Int.cast_ofNat_Int, Nat.reduceAdd, Nat.reduceMul, Nat.reduceDiv, Nat.reduceMod, Nat.reduceSub, Nat.reduceEqDiff, Nat.reduceLT, Nat.reduceLeDiff, Nat.reduceBeqDiff, Int.reduceLT, Int.reduceLE, Int.reduceEq, Int.reduceToNat, Int.reduceAdd, Int.reduceSub, Int.reduceMul, Int.reduceNeg]
theorem loop19 (a b : Int) (f : Bool) (ns : List Int) (hl : ns.length ≤ 100) (t0 : Int) (cd : Code) (hb : cd = lp19x0) : ∀ (n i : Nat), i + n = ns.length →
    (betw a b (ns.drop i) = true ∧ loopL KE cd 0 (T.of (tq19 a b f ns t0)) ⟨T.of (tq19 a b f ns i), [], [], KE.keep 19⟩ = some (.exit 0, ⟨T.of (tq19 a b f ns ns.length ++ [(12, bl false)]), [], [], KE.keep 19⟩)) ∨
    (betw a b (ns.drop i) = false ∧ loopL KE cd 0 (T.of (tq19 a b f ns t0)) ⟨T.of (tq19 a b f ns i), [], [], KE.keep 19⟩ = some (.ret, ⟨T.of [(6, bl false)], [], [], KE.keep 19⟩)) := by
  intro n
  induction n with
  | zero =>
    intro i hn
    have : i = ns.length := by omega
    subst this
    exact .inl ⟨by simp [betw], round19e a b f ns t0 cd hb⟩
  | succ n ih =>
    intro i hn
    have hi : i < ns.length := by omega
    have hd : ns.drop i = ns[i] :: ns.drop (i + 1) := List.drop_eq_getElem_cons hi
    cases hr : rng a b ns[i] with
    | false => exact .inr ⟨by rw [hd]; simp only [betw, List.all_cons, hr, Bool.false_and], round19x a b f ns hl i hi t0 hr cd hb⟩
    | true =>
      have e := round19 a b f ns hl i hi t0 hr cd hb
      rcases ih (i + 1) (by omega) with ⟨k1, k2⟩ | ⟨k1, k2⟩
      · exact .inl ⟨by rw [hd]; simp only [betw, List.all_cons, hr, Bool.true_and]; exact k1, by rw [e]; exact k2⟩
      · exact .inr ⟨by rw [hd]; simp only [betw, List.all_cons, hr, Bool.true_and]; exact k1, by rw [e]; exact k2⟩
theorem between_c (a b : Int) (f : Bool) (ns : List Int) (hl : ns.length ≤ 100) : retOf (callL KE 19 [i64 a, i64 b, .sl f (il ns)] []) = some (.ret (bl (betw a b ns))) := by
  have hlen := il_len ns
  rw [cu19]
  conv in codeOf _ => simp only [codeOf, Try.f19]
  simp only [tb19, hlen, RR, RC, FF, gd, noDef, kindOf, sl1, allocs, isLit, ↓br_i, ↓reduceIte, reduceCtorEq, List.replicate, decide_eq_true_eq, decide_eq_false_iff_not, decide_true, decide_false, beq_self_eq_true, if_true, if_false, ite_not, Nat.le_refl, Int.cast_ofNat_Int, Nat.reduceAdd, Nat.reduceMul, Nat.reduceDiv, Nat.reduceMod, Nat.reduceSub, Nat.reduceEqDiff, Nat.reduceLT, Nat.reduceLeDiff, Nat.reduceBeqDiff, Int.reduceLT, Int.reduceLE, Int.reduceEq, Int.reduceToNat, Int.reduceAdd, Int.reduceSub, Int.reduceMul, Int.reduceNeg]
  rcases loop19 a b f ns hl 0 lp19x0 rfl ns.length 0 (by omega) with ⟨k1, k⟩ | ⟨k1, k⟩
  all_goals
    rw [List.drop_zero] at k1
    simp only [tq19, RR, RC, FF, gd, noDef, kindOf, sl1, allocs, isLit, ↓br_i, ↓reduceIte, reduceCtorEq, List.replicate, decide_eq_true_eq, decide_eq_false_iff_not, decide_true, decide_false, beq_self_eq_true, if_true, if_false, ite_not, Nat.le_refl, Int.cast_ofNat_Int, Nat.reduceAdd, Nat.reduceMul, Nat.reduceDiv, Nat.reduceMod, Nat.reduceSub, Nat.reduceEqDiff, Nat.reduceLT, Nat.reduceLeDiff, Nat.reduceBeqDiff, Int.reduceLT, Int.reduceLE, Int.reduceEq, Int.reduceToNat, Int.reduceAdd, Int.reduceSub, Int.reduceMul, Int.reduceNeg] at k
    conv at k in lp19x0 => simp only [lp19x0, subC, codeOf, Try.f19]
    rw [k]
    simp only [tb19, k1, RR, RC, FF, gd, noDef, kindOf, sl1, allocs, isLit, ↓br_i, ↓reduceIte, reduceCtorEq, List.replicate, decide_eq_true_eq, decide_eq_false_iff_not, decide_true, decide_false, beq_self_eq_true, if_true, if_false, ite_not, Nat.le_refl, Int.cast_ofNat_Int, Nat.reduceAdd, Nat.reduceMul, Nat.reduceDiv, Nat.reduceMod, Nat.reduceSub, Nat.reduceEqDiff, Nat.reduceLT, Nat.reduceLeDiff, Nat.reduceBeqDiff, Int.reduceLT, Int.reduceLE, Int.reduceEq, Int.reduceToNat, Int.reduceAdd, Int.reduceSub, Int.reduceMul, Int.reduceNeg]
/-- The ints of a slice's elements. -/
def unI : List (List AV) → Option (List Int)
  | [] => some []
  | [.v (.int .i64 n)] :: l => bx (unI l) fun r => some (n :: r)
  | _ => none
theorem unI_n : unI [] = some [] := rfl
theorem unI_c (n : Int) (l : List (List AV)) : unI ([i64 n] :: l) = bx (unI l) fun r => some (n :: r) := rfl
theorem unI_il : ∀ {l : List (List AV)} {ns : List Int}, unI l = some ns → l = il ns
  | [], ns, h => by cases h; rfl
  | x :: l, ns, h => by
    unfold unI at h
    split at h
    · next h' => cases h'
    · next n l' h' =>
      cases h'
      cases hq : unI l with
      | none => rw [hq] at h; cases h
      | some r => rw [hq] at h; cases h; rw [unI_il hq]; rfl
    · cases h
/-- The numbers that a slice has, in memory. -/
def numsAt (h : Heap) (r ver off len : Nat) : Option (List Int) := match nth h r with
  | some (.arr v _ _ [] l) => if (decide (v = ver) && decide (off + len ≤ l.length)) = true then unI (sl0 l off len) else none
  | _ => none
def nums1 (g : Option Reg) (ver off len : Nat) : Option (List Int) := match g with
  | some (.arr v _ _ [] l) => if (decide (v = ver) && decide (off + len ≤ l.length)) = true then unI (sl0 l off len) else none
  | _ => none
theorem nums1_a (v : Nat) (ro : Bool) (sz : Nat) (l : List (List AV)) (ver off len : Nat) : nums1 (some (.arr v ro sz [] l)) ver off len = if (decide (v = ver) && decide (off + len ≤ l.length)) = true then unI (sl0 l off len) else none := rfl
theorem between_e (a b : Int) (h : Heap) (r ver off len : Nat) (ns : List Int) (hl : len ≤ 100) (hn : nums1 (nth h r) ver off len = some ns) :
    callEL KE 19 [i64 a, i64 b, .ref r ver off len] h = some (.val (bl (betw a b ns)) h ⟨[r], [], false⟩) := by
  unfold nums1 at hn
  split at hn
  · next v ro sz l hg =>
    split at hn
    · next hc =>
      have hq := unI_il hn
      simp only [Bool.and_eq_true, decide_eq_true_eq] at hc
      obtain ⟨rfl, hc2⟩ := hc
      have hsl : slice l off len = il ns := by rw [slice_eq, hq]
      have hlen : ns.length ≤ 100 := by
        have : (slice l off len).length = ns.length := by rw [hsl, il_len]
        simp only [slice, List.length_take, List.length_drop] at this
        omega
      have hr : r < h.length := by
        rw [← nth_eq] at hg
        exact (List.getElem?_eq_some_iff.1 hg).1
      obtain ⟨h', e⟩ := of_retOf (between_c a b false ns hlen)
      refine call_frz (args' := [i64 a, i64 b, .sl false (il ns)]) rfl rfl ?_ rfl ?_ e rfl rfl rfl
      · have pw19 : KE.way 19 = ⟨false, false, false⟩ := rfl
        have hc3 : off + len ≤ l.length := hc2
        simp only [pw19, hg, hc3, nth_eq, callBy, inOf, meets, allLt, memFor, roReg, back, outOf, outRefs, keeps, freezeOut, freeze1, sameVer, backTo, wroteBack, writeBack, markRo, marksOf, outσ, baseOf, ifWr, getD0, hasSl, hasSlL, regRefs, List.range, List.range.loop, List.filter, List.map, slRefs, slRefsL, List.isEmpty, mem, RR, RC, FF, gd, noDef, kindOf, sl1, allocs, isLit, ↓br_i, ↓reduceIte, reduceCtorEq, List.replicate, decide_eq_true_eq, decide_eq_false_iff_not, decide_true, decide_false, beq_self_eq_true, if_true, if_false, ite_not, Nat.le_refl, Int.cast_ofNat_Int, Nat.reduceAdd, Nat.reduceMul, Nat.reduceDiv, Nat.reduceMod, Nat.reduceSub, Nat.reduceEqDiff, Nat.reduceLT, Nat.reduceLeDiff, Nat.reduceBeqDiff, Int.reduceLT, Int.reduceLE, Int.reduceEq, Int.reduceToNat, Int.reduceAdd, Int.reduceSub, Int.reduceMul, Int.reduceNeg]
        rw [← slice_eq, hsl]
      · simp [allLt, hr]
    · cases hn
  · cases hn
end Go.AM
