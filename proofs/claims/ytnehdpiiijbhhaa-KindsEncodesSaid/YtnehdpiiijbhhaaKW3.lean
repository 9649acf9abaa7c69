/- The writer's functions, in the machine; under a bound on what is written. -/
import Derived.Test.YtnehdpiiijbhhaaKW2
set_option autoImplicit false
set_option maxRecDepth 100000
set_option linter.unusedSimpArgs false
set_option linter.unusedVariables false
namespace Go.AM
open Go Go.RowKit Go.Proofs

/-- An int's lowest byte. -/
def b8 (n : Int) : Nat := (n % 256).toNat
theorem wrap8i (n : Int) : IntKind.u8.wrap n = ((b8 n : Nat) : Int) := by
  have : ((b8 n : Nat) : Int) = n % 256 := by unfold b8; omega
  rw [this]
  simp [IntKind.wrap, IntKind.bits, IntKind.signed]
theorem room53 (n : Nat) (hn : n ≤ 100000) : roomT KE.P [53, 53] n = true := roomT_of (b := 1) (by kernel_rfl) (by omega) (by omega)
theorem nck (a b c d : Nat) : nilCheckAV (.ptr a b c d) = some (.ptr a b c d) := rfl
def wH (ver : Nat) (l : List Nat) : Heap := [.arr 0 false 1 [1] [[.ref 1 ver 0 l.length]], .arr ver false 1 [] (bt l)]
def wH0 : Heap := [.arr 0 false 1 [] [[.sl true []]]]
def tq24 (f : Bool) (ns : List Int) (i : Nat) : List (Nat × AV) := [(0, .ptr 0 0 0 0), (6, .sl f (il ns)), (7, i64 ns.length), (8, i64 i)]
theorem round24 (n0 : Nat) (h0 : n0 = 1 ∨ n0 = 2) (f : Bool) (ns : List Int) (ver : Nat) (l : List Nat) (hl : l.length ≤ 90000) (hns : ns.length ≤ 100) (i : Nat) (hi : i < ns.length) (cd : Code) (hb : cd = lp24x0) :
    loopL KE cd n0 (T.of (tq24 f ns 0)) ⟨T.of (tq24 f ns i), wH ver l, [], KE.keep 24⟩ = loopL KE cd n0 (T.of (tq24 f ns 0)) ⟨T.of (tq24 f ns (i + 1)), wH (ver + 1) (l ++ [b8 ns[i]]), [], KE.keep 24⟩ := by
  subst hb
  have n1 := il_nth ns i hi
  have hlen := il_len ns
  have i1 : (i : Int) < (ns.length : Int) := by omega
  have i2 : (0 : Int) ≤ (i : Int) := by omega
  have i3 : (i : Int).toNat = i := by omega
  have i4 := wrapN i (by omega)
  have e1 := wrap8i ns[i]
  have r1 := room53 (l.length + 1) (by omega)
  have htk := tk_all (bt l) l.length (bt_len l)
  have hbl := bt_len l
  have ha : bt (l ++ [b8 ns[i]]) = bt l ++ [[u8 (b8 ns[i])]] := bt_app _ _
  have hb : (l ++ [b8 ns[i]]).length = l.length + 1 := by simp
  simp only [wH, ha, hb]
  rw [loopL_go]
  conv in (goX _ _ _ _) => rw [show lp24x0 = _ from by simp only [lp24x0, subC, codeOf, Try.f24]; rfl]
  rcases h0 with rfl | rfl <;> simp only [tb24, tq24, nck, n1, hlen, i1, i2, i3, i4, e1, r1, htk, hbl, RR, RC, FF, gd, noDef, kindOf, sl1, allocs, isLit, ↓br_i, ↓reduceIte, reduceCtorEq, List.replicate, decide_eq_true_eq, decide_eq_false_iff_not, decide_true, decide_false, beq_self_eq_true, if_true, if_false, ite_not, Nat.le_refl, Int.cast_ofNat_Int, Nat.reduceAdd, Nat.reduceMul, Nat.reduceDiv, Nat.reduceMod, Nat.reduceSub, Nat.reduceEqDiff, Nat.reduceLT, Nat.reduceLeDiff, Nat.reduceBeqDiff, Int.reduceLT, Int.reduceLE, Int.reduceEq, Int.reduceToNat, Int.reduceAdd, Int.reduceSub, Int.reduceMul, Int.reduceNeg]
theorem round24e (n0 : Nat) (f : Bool) (ns : List Int) (ver : Nat) (l : List Nat) (cd : Code) (hb : cd = lp24x0) :
    loopL KE cd n0 (T.of (tq24 f ns 0)) ⟨T.of (tq24 f ns ns.length), wH ver l, [], KE.keep 24⟩ = some (.exit 0, ⟨T.of (tq24 f ns ns.length ++ [(9, bl false)]), wH ver l, [], KE.keep 24⟩) := by
  subst hb
  have hlen := il_len ns
  have i1 : ¬ (ns.length : Int) < (ns.length : Int) := by omega
  simp only [wH]
  rw [loopL_go]
  conv in (goX _ _ _ _) => rw [show lp24x0 = _ from by simp only [lp24x0, subC, codeOf, Try.f24]; rfl]
  simp only [tb24, tq24, hlen, i1, RR, RC, FF, gd, noDef, kindOf, sl1, allocs, isLit, ↓br_i, ↓reduceIte, reduceCtorEq, List.replicate, decide_eq_true_eq, decide_eq_false_iff_not, decide_true, decide_false, beq_self_eq_true, if_true, if_false, ite_not, Nat.le_refl, Int.cast_ofNat_Int, Nat.reduceAdd, Nat.reduceMul, Nat.reduceDiv, Nat.reduceMod, Nat.reduceSub, Nat.reduceEqDiff, Nat.reduceLT, Nat.reduceLeDiff, Nat.reduceBeqDiff, Int.reduceLT, Int.reduceLE, Int.reduceEq, Int.reduceToNat, Int.reduceAdd, Int.reduceSub, Int.reduceMul, Int.reduceNeg]
theorem loop24 (n0 : Nat) (h0 : n0 = 1 ∨ n0 = 2) (f : Bool) (ns : List Int) (hns : ns.length ≤ 100) (cd : Code) (hb : cd = lp24x0) : ∀ (n i ver : Nat) (l : List Nat), l.length + n ≤ 90000 → i + n = ns.length →
    loopL KE cd n0 (T.of (tq24 f ns 0)) ⟨T.of (tq24 f ns i), wH ver l, [], KE.keep 24⟩ = some (.exit 0, ⟨T.of (tq24 f ns ns.length ++ [(9, bl false)]), wH (ver + n) (l ++ (ns.drop i).map b8), [], KE.keep 24⟩) := by
  intro n
  induction n with
  | zero =>
    intro i ver l hl hn
    obtain rfl : i = ns.length := by omega
    rw [round24e n0 f ns ver l cd hb]
    simp
  | succ n ih =>
    intro i ver l hl hn
    have hi : i < ns.length := by omega
    rw [round24 n0 h0 f ns ver l (by omega) hns i hi cd hb, ih (i + 1) (ver + 1) (l ++ [b8 ns[i]]) (by simp; omega) (by omega), List.drop_eq_getElem_cons hi]
    simp only [List.map_cons, List.append_assoc, List.singleton_append, Nat.add_assoc, Nat.add_comm 1 n]
theorem ones_c (f : Bool) (ns : List Int) (hns : ns.length ≤ 100) (ver : Nat) (l : List Nat) (hl : l.length ≤ 80000) :
    callL KE 24 [.ptr 0 0 0 0, .sl f (il ns)] (wH ver l) = some (.ret (.tup []), wH (ver + ns.length) (l ++ ns.map b8)) := by
  have k := loop24 2 (.inr rfl) f ns hns lp24x0 rfl ns.length 0 ver l (by omega) (by omega)
  have hlen := il_len ns
  rw [List.drop_zero] at k
  generalize hw : wH (ver + ns.length) (l ++ ns.map b8) = w' at *
  simp only [wH] at k ⊢
  simp only [tq24, RR, RC, FF, gd, noDef, kindOf, sl1, allocs, isLit, ↓br_i, ↓reduceIte, reduceCtorEq, List.replicate, decide_eq_true_eq, decide_eq_false_iff_not, decide_true, decide_false, beq_self_eq_true, if_true, if_false, ite_not, Nat.le_refl, Int.cast_ofNat_Int, Nat.reduceAdd, Nat.reduceMul, Nat.reduceDiv, Nat.reduceMod, Nat.reduceSub, Nat.reduceEqDiff, Nat.reduceLT, Nat.reduceLeDiff, Nat.reduceBeqDiff, Int.reduceLT, Int.reduceLE, Int.reduceEq, Int.reduceToNat, Int.reduceAdd, Int.reduceSub, Int.reduceMul, Int.reduceNeg] at k
  conv at k in lp24x0 => simp only [lp24x0, subC, codeOf, Try.f24]
  rw [cu24]
  conv in codeOf _ => simp only [codeOf, Try.f24]
  simp only [tb24, hlen, RR, RC, FF, gd, noDef, kindOf, sl1, allocs, isLit, ↓br_i, ↓reduceIte, reduceCtorEq, List.replicate, decide_eq_true_eq, decide_eq_false_iff_not, decide_true, decide_false, beq_self_eq_true, if_true, if_false, ite_not, Nat.le_refl, Int.cast_ofNat_Int, Nat.reduceAdd, Nat.reduceMul, Nat.reduceDiv, Nat.reduceMod, Nat.reduceSub, Nat.reduceEqDiff, Nat.reduceLT, Nat.reduceLeDiff, Nat.reduceBeqDiff, Int.reduceLT, Int.reduceLE, Int.reduceEq, Int.reduceToNat, Int.reduceAdd, Int.reduceSub, Int.reduceMul, Int.reduceNeg]
  rw [k]
  simp only [tb24, RR, RC, FF, gd, noDef, kindOf, sl1, allocs, isLit, ↓br_i, ↓reduceIte, reduceCtorEq, List.replicate, decide_eq_true_eq, decide_eq_false_iff_not, decide_true, decide_false, beq_self_eq_true, if_true, if_false, ite_not, Nat.le_refl, Int.cast_ofNat_Int, Nat.reduceAdd, Nat.reduceMul, Nat.reduceDiv, Nat.reduceMod, Nat.reduceSub, Nat.reduceEqDiff, Nat.reduceLT, Nat.reduceLeDiff, Nat.reduceBeqDiff, Int.reduceLT, Int.reduceLE, Int.reduceEq, Int.reduceToNat, Int.reduceAdd, Int.reduceSub, Int.reduceMul, Int.reduceNeg]
theorem round24z (f : Bool) (ns : List Int) (hns : ns.length ≤ 100) (hi : 0 < ns.length) (cd : Code) (hb : cd = lp24x0) :
    loopL KE cd 1 (T.of (tq24 f ns 0)) ⟨T.of (tq24 f ns 0), wH0, [], KE.keep 24⟩ = loopL KE cd 1 (T.of (tq24 f ns 0)) ⟨T.of (tq24 f ns 1), wH 0 [b8 ns[0]], [], KE.keep 24⟩ := by
  subst hb
  have n1 := il_nth ns 0 hi
  have hlen := il_len ns
  have i1 : (0 : Int) < (ns.length : Int) := by omega
  have i2 : ((0 : Nat) : Int) = 0 := rfl
  have i3 : ((1 : Nat) : Int) = 1 := rfl
  have i4 : IntKind.i64.wrap 1 = 1 := rfl
  have e1 := wrap8i ns[0]
  have r1 := room53 1 (by omega)
  have ha : bt [b8 ns[0]] = [[u8 (b8 ns[0])]] := rfl
  simp only [wH, wH0, ha]
  rw [loopL_go]
  conv in (goX _ _ _ _) => rw [show lp24x0 = _ from by simp only [lp24x0, subC, codeOf, Try.f24]; rfl]
  simp only [tb24, tq24, nck, n1, hlen, i1, i2, i3, i4, e1, r1, RR, RC, FF, gd, noDef, kindOf, sl1, allocs, isLit, ↓br_i, ↓reduceIte, reduceCtorEq, List.replicate, decide_eq_true_eq, decide_eq_false_iff_not, decide_true, decide_false, beq_self_eq_true, if_true, if_false, ite_not, Nat.le_refl, Int.cast_ofNat_Int, Nat.reduceAdd, Nat.reduceMul, Nat.reduceDiv, Nat.reduceMod, Nat.reduceSub, Nat.reduceEqDiff, Nat.reduceLT, Nat.reduceLeDiff, Nat.reduceBeqDiff, Int.reduceLT, Int.reduceLE, Int.reduceEq, Int.reduceToNat, Int.reduceAdd, Int.reduceSub, Int.reduceMul, Int.reduceNeg]
theorem ones_z (f : Bool) (ns : List Int) (hns : ns.length ≤ 100) (hi : 0 < ns.length) :
    callL KE 24 [.ptr 0 0 0 0, .sl f (il ns)] wH0 = some (.ret (.tup []), wH (ns.length - 1) (ns.map b8)) := by
  have k0 := round24z f ns hns hi lp24x0 rfl
  have k := loop24 1 (.inl rfl) f ns hns lp24x0 rfl (ns.length - 1) 1 0 [b8 ns[0]] (by simp; omega) (by omega)
  have hlen := il_len ns
  have hd : [b8 ns[0]] ++ (ns.drop 1).map b8 = ns.map b8 := by
    cases ns with
    | nil => simp at hi
    | cons a l => rfl
  rw [hd, Nat.zero_add] at k
  rw [k] at k0
  generalize hw : wH (ns.length - 1) (ns.map b8) = w' at *
  clear k
  obtain ⟨w, hw'⟩ : ∃ w, w' = w := ⟨_, rfl⟩
  simp only [wH0] at k0 ⊢
  simp only [tq24, RR, RC, FF, gd, noDef, kindOf, sl1, allocs, isLit, ↓br_i, ↓reduceIte, reduceCtorEq, List.replicate, decide_eq_true_eq, decide_eq_false_iff_not, decide_true, decide_false, beq_self_eq_true, if_true, if_false, ite_not, Nat.le_refl, Int.cast_ofNat_Int, Nat.reduceAdd, Nat.reduceMul, Nat.reduceDiv, Nat.reduceMod, Nat.reduceSub, Nat.reduceEqDiff, Nat.reduceLT, Nat.reduceLeDiff, Nat.reduceBeqDiff, Int.reduceLT, Int.reduceLE, Int.reduceEq, Int.reduceToNat, Int.reduceAdd, Int.reduceSub, Int.reduceMul, Int.reduceNeg] at k0
  conv at k0 in lp24x0 => simp only [lp24x0, subC, codeOf, Try.f24]
  rw [cu24]
  conv in codeOf _ => simp only [codeOf, Try.f24]
  simp only [tb24, hlen, RR, RC, FF, gd, noDef, kindOf, sl1, allocs, isLit, ↓br_i, ↓reduceIte, reduceCtorEq, List.replicate, decide_eq_true_eq, decide_eq_false_iff_not, decide_true, decide_false, beq_self_eq_true, if_true, if_false, ite_not, Nat.le_refl, Int.cast_ofNat_Int, Nat.reduceAdd, Nat.reduceMul, Nat.reduceDiv, Nat.reduceMod, Nat.reduceSub, Nat.reduceEqDiff, Nat.reduceLT, Nat.reduceLeDiff, Nat.reduceBeqDiff, Int.reduceLT, Int.reduceLE, Int.reduceEq, Int.reduceToNat, Int.reduceAdd, Int.reduceSub, Int.reduceMul, Int.reduceNeg]
  rw [k0]
  simp only [tb24, RR, RC, FF, gd, noDef, kindOf, sl1, allocs, isLit, ↓br_i, ↓reduceIte, reduceCtorEq, List.replicate, decide_eq_true_eq, decide_eq_false_iff_not, decide_true, decide_false, beq_self_eq_true, if_true, if_false, ite_not, Nat.le_refl, Int.cast_ofNat_Int, Nat.reduceAdd, Nat.reduceMul, Nat.reduceDiv, Nat.reduceMod, Nat.reduceSub, Nat.reduceEqDiff, Nat.reduceLT, Nat.reduceLeDiff, Nat.reduceBeqDiff, Int.reduceLT, Int.reduceLE, Int.reduceEq, Int.reduceToNat, Int.reduceAdd, Int.reduceSub, Int.reduceMul, Int.reduceNeg]

/-- Two bytes of an int. -/
def tw (n : Int) : List Nat := [b8 n, b8 (n.fdiv 256)]
def tq25 (f : Bool) (ns : List Int) (i : Nat) : List (Nat × AV) := [(0, .ptr 0 0 0 0), (6, .sl f (il ns)), (7, i64 ns.length), (8, i64 i)]
theorem round25 (f : Bool) (ns : List Int) (ver : Nat) (l : List Nat) (hl : l.length ≤ 90000) (hns : ns.length ≤ 100) (i : Nat) (hi : i < ns.length) (cd : Code) (hb : cd = lp25x0) :
    loopL KE cd 2 (T.of (tq25 f ns 0)) ⟨T.of (tq25 f ns i), wH ver l, [], KE.keep 25⟩ = loopL KE cd 2 (T.of (tq25 f ns 0)) ⟨T.of (tq25 f ns (i + 1)), wH (ver + 1) (l ++ tw ns[i]), [], KE.keep 25⟩ := by
  subst hb
  have n1 := il_nth ns i hi
  have hlen := il_len ns
  have i1 : (i : Int) < (ns.length : Int) := by omega
  have i2 : (0 : Int) ≤ (i : Int) := by omega
  have i3 : (i : Int).toNat = i := by omega
  have i4 := wrapN i (by omega)
  have e1 := wrap8i ns[i]
  have e2 : IntKind.u8.wrap (ns[i].fdiv (2 ^ min 8 IntKind.i64.bits)) = ((b8 (ns[i].fdiv 256) : Nat) : Int) := wrap8i _
  have r1 := room53 (l.length + 2) (by omega)
  have htk := tk_all (bt l) l.length (bt_len l)
  have hbl := bt_len l
  have ha : bt (l ++ tw ns[i]) = bt l ++ [[u8 (b8 ns[i])], [u8 (b8 (ns[i].fdiv 256))]] := by simp [bt, tw]
  have hb : (l ++ tw ns[i]).length = l.length + 2 := by simp [tw]
  simp only [wH, ha, hb]
  rw [loopL_go]
  conv in (goX _ _ _ _) => rw [show lp25x0 = _ from by simp only [lp25x0, subC, codeOf, Try.f25]; rfl]
  simp only [tb25, tq25, nck, n1, hlen, i1, i2, i3, i4, e1, e2, r1, htk, hbl, RR, RC, FF, gd, noDef, kindOf, sl1, allocs, isLit, ↓br_i, ↓reduceIte, reduceCtorEq, List.replicate, decide_eq_true_eq, decide_eq_false_iff_not, decide_true, decide_false, beq_self_eq_true, if_true, if_false, ite_not, Nat.le_refl, Int.cast_ofNat_Int, Nat.reduceAdd, Nat.reduceMul, Nat.reduceDiv, Nat.reduceMod, Nat.reduceSub, Nat.reduceEqDiff, Nat.reduceLT, Nat.reduceLeDiff, Nat.reduceBeqDiff, Int.reduceLT, Int.reduceLE, Int.reduceEq, Int.reduceToNat, Int.reduceAdd, Int.reduceSub, Int.reduceMul, Int.reduceNeg]
theorem round25e (f : Bool) (ns : List Int) (ver : Nat) (l : List Nat) (cd : Code) (hb : cd = lp25x0) :
    loopL KE cd 2 (T.of (tq25 f ns 0)) ⟨T.of (tq25 f ns ns.length), wH ver l, [], KE.keep 25⟩ = some (.exit 0, ⟨T.of (tq25 f ns ns.length ++ [(9, bl false)]), wH ver l, [], KE.keep 25⟩) := by
  subst hb
  have hlen := il_len ns
  have i1 : ¬ (ns.length : Int) < (ns.length : Int) := by omega
  simp only [wH]
  rw [loopL_go]
  conv in (goX _ _ _ _) => rw [show lp25x0 = _ from by simp only [lp25x0, subC, codeOf, Try.f25]; rfl]
  simp only [tb25, tq25, hlen, i1, RR, RC, FF, gd, noDef, kindOf, sl1, allocs, isLit, ↓br_i, ↓reduceIte, reduceCtorEq, List.replicate, decide_eq_true_eq, decide_eq_false_iff_not, decide_true, decide_false, beq_self_eq_true, if_true, if_false, ite_not, Nat.le_refl, Int.cast_ofNat_Int, Nat.reduceAdd, Nat.reduceMul, Nat.reduceDiv, Nat.reduceMod, Nat.reduceSub, Nat.reduceEqDiff, Nat.reduceLT, Nat.reduceLeDiff, Nat.reduceBeqDiff, Int.reduceLT, Int.reduceLE, Int.reduceEq, Int.reduceToNat, Int.reduceAdd, Int.reduceSub, Int.reduceMul, Int.reduceNeg]
theorem loop25 (f : Bool) (ns : List Int) (hns : ns.length ≤ 100) (cd : Code) (hb : cd = lp25x0) : ∀ (n i ver : Nat) (l : List Nat), l.length + 2 * n ≤ 90000 → i + n = ns.length →
    loopL KE cd 2 (T.of (tq25 f ns 0)) ⟨T.of (tq25 f ns i), wH ver l, [], KE.keep 25⟩ = some (.exit 0, ⟨T.of (tq25 f ns ns.length ++ [(9, bl false)]), wH (ver + n) (l ++ (ns.drop i).flatMap tw), [], KE.keep 25⟩) := by
  intro n
  induction n with
  | zero =>
    intro i ver l hl hn
    obtain rfl : i = ns.length := by omega
    rw [round25e f ns ver l cd hb]
    simp
  | succ n ih =>
    intro i ver l hl hn
    have hi : i < ns.length := by omega
    rw [round25 f ns ver l (by omega) hns i hi cd hb, ih (i + 1) (ver + 1) (l ++ tw ns[i]) (by simp [tw]; omega) (by omega), List.drop_eq_getElem_cons hi]
    simp only [List.flatMap_cons, List.append_assoc, Nat.add_assoc, Nat.add_comm 1 n]
theorem twos_c (f : Bool) (ns : List Int) (hns : ns.length ≤ 100) (ver : Nat) (l : List Nat) (hl : l.length ≤ 80000) :
    callL KE 25 [.ptr 0 0 0 0, .sl f (il ns)] (wH ver l) = some (.ret (.tup []), wH (ver + ns.length) (l ++ ns.flatMap tw)) := by
  have k := loop25 f ns hns lp25x0 rfl ns.length 0 ver l (by omega) (by omega)
  have hlen := il_len ns
  rw [List.drop_zero] at k
  generalize hw : wH (ver + ns.length) (l ++ ns.flatMap tw) = w' at *
  simp only [wH] at k ⊢
  simp only [tq25, RR, RC, FF, gd, noDef, kindOf, sl1, allocs, isLit, ↓br_i, ↓reduceIte, reduceCtorEq, List.replicate, decide_eq_true_eq, decide_eq_false_iff_not, decide_true, decide_false, beq_self_eq_true, if_true, if_false, ite_not, Nat.le_refl, Int.cast_ofNat_Int, Nat.reduceAdd, Nat.reduceMul, Nat.reduceDiv, Nat.reduceMod, Nat.reduceSub, Nat.reduceEqDiff, Nat.reduceLT, Nat.reduceLeDiff, Nat.reduceBeqDiff, Int.reduceLT, Int.reduceLE, Int.reduceEq, Int.reduceToNat, Int.reduceAdd, Int.reduceSub, Int.reduceMul, Int.reduceNeg] at k
  conv at k in lp25x0 => simp only [lp25x0, subC, codeOf, Try.f25]
  rw [cu25]
  conv in codeOf _ => simp only [codeOf, Try.f25]
  simp only [tb25, hlen, RR, RC, FF, gd, noDef, kindOf, sl1, allocs, isLit, ↓br_i, ↓reduceIte, reduceCtorEq, List.replicate, decide_eq_true_eq, decide_eq_false_iff_not, decide_true, decide_false, beq_self_eq_true, if_true, if_false, ite_not, Nat.le_refl, Int.cast_ofNat_Int, Nat.reduceAdd, Nat.reduceMul, Nat.reduceDiv, Nat.reduceMod, Nat.reduceSub, Nat.reduceEqDiff, Nat.reduceLT, Nat.reduceLeDiff, Nat.reduceBeqDiff, Int.reduceLT, Int.reduceLE, Int.reduceEq, Int.reduceToNat, Int.reduceAdd, Int.reduceSub, Int.reduceMul, Int.reduceNeg]
  rw [k]
  simp only [tb25, RR, RC, FF, gd, noDef, kindOf, sl1, allocs, isLit, ↓br_i, ↓reduceIte, reduceCtorEq, List.replicate, decide_eq_true_eq, decide_eq_false_iff_not, decide_true, decide_false, beq_self_eq_true, if_true, if_false, ite_not, Nat.le_refl, Int.cast_ofNat_Int, Nat.reduceAdd, Nat.reduceMul, Nat.reduceDiv, Nat.reduceMod, Nat.reduceSub, Nat.reduceEqDiff, Nat.reduceLT, Nat.reduceLeDiff, Nat.reduceBeqDiff, Int.reduceLT, Int.reduceLE, Int.reduceEq, Int.reduceToNat, Int.reduceAdd, Int.reduceSub, Int.reduceMul, Int.reduceNeg]
end Go.AM
