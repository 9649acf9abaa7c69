/- The checks of a book of kinds in the machine: the program's word and the reference's are the same; no condition. -/
import Derived.Test.YtnehdpiiijbhhaaKT
set_option autoImplicit false
set_option maxRecDepth 100000
set_option linter.unusedSimpArgs false
set_option linter.unusedVariables false
namespace Go.AM
open Go Go.RowKit Go.Proofs

def kl (ks : List Kd) : List (List AV) := ks.map Kd.cells
theorem kl_nth (ks : List Kd) (i : Nat) (hi : i < ks.length) : nth (kl ks) i = some ks[i].cells := by rw [← nth_eq]; simp [kl, hi]
theorem kl_len (ks : List Kd) : (kl ks).length = ks.length := by simp [kl]
def wl (ws : List Wp) : List (List AV) := ws.map Wp.cells
theorem wl_nth (ws : List Wp) (i : Nat) (hi : i < ws.length) : nth (wl ws) i = some ws[i].cells := by rw [← nth_eq]; simp [wl, hi]
theorem wl_len (ws : List Wp) : (wl ws).length = ws.length := by simp [wl]
def bookA (f g : Bool) (ks : List Kd) (ws : List Wp) : List AV := [.sl f (kl ks), .sl g (wl ws)]
def bookH12 (f g : Bool) (ks : List Kd) (ws : List Wp) : Heap := [.arr 0 false 2 [] [bookA f g ks ws]]
def bookH11 (f g : Bool) (ks : List Kd) (ws : List Wp) : Heap := [.arr 0 false 2 [] [bookA f g ks ws], .arr 0 false 1 [] [[i64 ks.length]]]
/-- The first one that may not be. -/
def fb {α : Type} (p : α → Bool) : List α → Nat → Option Nat
  | [], _ => none
  | a :: l, i => if p a = true then fb p l (i + 1) else some i
def tq11a (f g : Bool) (ks : List Kd) (ws : List Wp) (i : Int) : List (Nat × AV) := [(1, .ptr 0 0 0 0), (21, .sl f (kl ks)), (22, i64 ks.length), (23, i64 i)]
theorem round11a (f g : Bool) (ks : List Kd) (ws : List Wp) (hl : ks.length ≤ 100) (i : Nat) (hi : i < ks.length) (t0 : Int) (hk : kindOk ks[i] ws.length = true) (cd : Code) (hb : cd = lp11x0) :
    loopL KE cd 2 (T.of (tq11a f g ks ws t0)) ⟨T.of (tq11a f g ks ws i), bookH11 f g ks ws, [], KE.keep 11⟩ =
    loopL KE cd 2 (T.of (tq11a f g ks ws t0)) ⟨T.of (tq11a f g ks ws (i + 1 : Nat)), bookH11 f g ks ws, [], KE.keep 11⟩ := by
  subst hb
  have kk := kind_e
  simp only [Kd.cells] at kk
  have n1 := kl_nth ks i hi
  have hlen := kl_len ks
  have hlew := wl_len ws
  have i1 : (i : Int) < (ks.length : Int) := by omega
  have i2 : (0 : Int) ≤ (i : Int) := by omega
  have i3 : (i : Int).toNat = i := by omega
  have i4 := wrapN i (by omega)
  rw [loopL_go]
  conv in (goX _ _ _ _) => rw [show lp11x0 = _ from by simp only [lp11x0, subC, codeOf, Try.f11]; rfl]
  simp only [tb11, tq11a, bookH11, bookA, n1, hlen, hlew, i1, i2, i3, i4, Kd.cells, kk, hk, RR, RC, FF, gd, noDef, kindOf, sl1, allocs, isLit, ↓br_i, ↓reduceIte, reduceCtorEq, List.replicate, decide_eq_true_eq, decide_eq_false_iff_not, decide_true, decide_false, beq_self_eq_true, if_true, if_false, ite_not, Nat.le_refl, Int.cast_ofNat_Int, Nat.reduceAdd, Nat.reduceMul, Nat.reduceDiv, Nat.reduceMod, Nat.reduceSub, Nat.reduceEqDiff, Nat.reduceLT, Nat.reduceLeDiff, Nat.reduceBeqDiff, Int.reduceLT, Int.reduceLE, Int.reduceEq, Int.reduceToNat, Int.reduceAdd, Int.reduceSub, Int.reduceMul, Int.reduceNeg]
theorem round11ax (f g : Bool) (ks : List Kd) (ws : List Wp) (hl : ks.length ≤ 100) (i : Nat) (hi : i < ks.length) (t0 : Int) (hk : ¬ kindOk ks[i] ws.length = true) (cd : Code) (hb : cd = lp11x0) :
    ∃ h, loopL KE cd 2 (T.of (tq11a f g ks ws t0)) ⟨T.of (tq11a f g ks ws i), bookH11 f g ks ws, [], KE.keep 11⟩ =
    some (.ret, ⟨T.of [(2, i64 1), (3, i64 (i : Nat))], h, [], KE.keep 11⟩) := by
  obtain ⟨X, hX⟩ : ∃ X, loopL KE cd 2 (T.of (tq11a f g ks ws t0)) ⟨T.of (tq11a f g ks ws i), bookH11 f g ks ws, [], KE.keep 11⟩ = X := ⟨_, rfl⟩
  rw [hX]
  subst hb
  have kk := kind_e
  simp only [Kd.cells] at kk
  have n1 := kl_nth ks i hi
  have hlen := kl_len ks
  have hlew := wl_len ws
  have i1 : (i : Int) < (ks.length : Int) := by omega
  have i2 : (0 : Int) ≤ (i : Int) := by omega
  have i3 : (i : Int).toNat = i := by omega
  have i4 := wrapN i (by omega)
  rw [loopL_go] at hX
  conv at hX in (goX _ _ _ _) => rw [show lp11x0 = _ from by simp only [lp11x0, subC, codeOf, Try.f11]; rfl]
  simp only [tb11, tq11a, bookH11, bookA, n1, hlen, hlew, i1, i2, i3, i4, Kd.cells, kk, hk, RR, RC, FF, gd, noDef, kindOf, sl1, allocs, isLit, ↓br_i, ↓reduceIte, reduceCtorEq, List.replicate, decide_eq_true_eq, decide_eq_false_iff_not, decide_true, decide_false, beq_self_eq_true, if_true, if_false, ite_not, Nat.le_refl, Int.cast_ofNat_Int, Nat.reduceAdd, Nat.reduceMul, Nat.reduceDiv, Nat.reduceMod, Nat.reduceSub, Nat.reduceEqDiff, Nat.reduceLT, Nat.reduceLeDiff, Nat.reduceBeqDiff, Int.reduceLT, Int.reduceLE, Int.reduceEq, Int.reduceToNat, Int.reduceAdd, Int.reduceSub, Int.reduceMul, Int.reduceNeg] at hX
  subst hX
  simp only [RR, RC, FF, gd, noDef, kindOf, sl1, allocs, isLit, ↓br_i, ↓reduceIte, reduceCtorEq, List.replicate, decide_eq_true_eq, decide_eq_false_iff_not, decide_true, decide_false, beq_self_eq_true, if_true, if_false, ite_not, Nat.le_refl, Int.cast_ofNat_Int, Nat.reduceAdd, Nat.reduceMul, Nat.reduceDiv, Nat.reduceMod, Nat.reduceSub, Nat.reduceEqDiff, Nat.reduceLT, Nat.reduceLeDiff, Nat.reduceBeqDiff, Int.reduceLT, Int.reduceLE, Int.reduceEq, Int.reduceToNat, Int.reduceAdd, Int.reduceSub, Int.reduceMul, Int.reduceNeg]
  exact ⟨_, rfl⟩
theorem round11ae (f g : Bool) (ks : List Kd) (ws : List Wp) (t0 : Int) (cd : Code) (hb : cd = lp11x0) :
    loopL KE cd 2 (T.of (tq11a f g ks ws t0)) ⟨T.of (tq11a f g ks ws ks.length), bookH11 f g ks ws, [], KE.keep 11⟩ =
    some (.exit 0, ⟨(T.of (tq11a f g ks ws ks.length ++ [(24, bl false)])), bookH11 f g ks ws, [], KE.keep 11⟩) := by
  subst hb
  have hlen := kl_len ks
  have hlew := wl_len ws
  have i1 : ¬ (ks.length : Int) < (ks.length : Int) := by omega
  rw [loopL_go]
  conv in (goX _ _ _ _) => rw [show lp11x0 = _ from by simp only [lp11x0, subC, codeOf, Try.f11]; rfl]
  simp only [tb11, tq11a, bookH11, bookA, hlen, hlew, i1, RR, RC, FF, gd, noDef, kindOf, sl1, allocs, isLit, ↓br_i, ↓reduceIte, reduceCtorEq, List.replicate, decide_eq_true_eq, decide_eq_false_iff_not, decide_true, decide_false, beq_self_eq_true, if_true, if_false, ite_not, Nat.le_refl, Int.cast_ofNat_Int, Nat.reduceAdd, Nat.reduceMul, Nat.reduceDiv, Nat.reduceMod, Nat.reduceSub, Nat.reduceEqDiff, Nat.reduceLT, Nat.reduceLeDiff, Nat.reduceBeqDiff, Int.reduceLT, Int.reduceLE, Int.reduceEq, Int.reduceToNat, Int.reduceAdd, Int.reduceSub, Int.reduceMul, Int.reduceNeg]
theorem loop11a (f g : Bool) (ks : List Kd) (ws : List Wp) (hl : ks.length ≤ 100) (t0 : Int) (cd : Code) (hb : cd = lp11x0) : ∀ (n i : Nat), i + n = ks.length →
    (fb (fun k => kindOk k ws.length) (ks.drop i) i = none ∧ loopL KE cd 2 (T.of (tq11a f g ks ws t0)) ⟨T.of (tq11a f g ks ws i), bookH11 f g ks ws, [], KE.keep 11⟩ = some (.exit 0, ⟨(T.of (tq11a f g ks ws ks.length ++ [(24, bl false)])), bookH11 f g ks ws, [], KE.keep 11⟩)) ∨
    (∃ b h, fb (fun k => kindOk k ws.length) (ks.drop i) i = some b ∧ loopL KE cd 2 (T.of (tq11a f g ks ws t0)) ⟨T.of (tq11a f g ks ws i), bookH11 f g ks ws, [], KE.keep 11⟩ = some (.ret, ⟨T.of [(2, i64 1), (3, i64 (b : Nat))], h, [], KE.keep 11⟩)) := by
  intro n
  induction n with
  | zero =>
    intro i hn
    have : i = ks.length := by omega
    subst this
    exact .inl ⟨by rw [List.drop_length]; rfl, round11ae f g ks ws t0 cd hb⟩
  | succ n ih =>
    intro i hn
    have hi : i < ks.length := by omega
    rw [List.drop_eq_getElem_cons hi]
    by_cases hk : kindOk ks[i] ws.length = true
    · rw [round11a f g ks ws hl i hi t0 hk cd hb]
      simp only [fb, if_pos hk]
      exact ih (i + 1) (by omega)
    · obtain ⟨h, e⟩ := round11ax f g ks ws hl i hi t0 hk cd hb
      exact .inr ⟨i, h, by simp only [fb, if_neg hk], e⟩
def tq11b (f g : Bool) (ks : List Kd) (ws : List Wp) (i : Int) : List (Nat × AV) := [(1, .ptr 0 0 0 0), (37, .sl g (wl ws)), (38, i64 ws.length), (39, i64 i)]
theorem round11b (f g : Bool) (ks : List Kd) (ws : List Wp) (hl : ws.length ≤ 100) (i : Nat) (hi : i < ws.length) (t0 : Int) (hk : weaponOk ws[i] = true) (cd : Code) (hb : cd = lp11x1) :
    loopL KE cd 2 (T.of (tq11b f g ks ws t0)) ⟨T.of (tq11b f g ks ws i), bookH11 f g ks ws, [], KE.keep 11⟩ =
    loopL KE cd 2 (T.of (tq11b f g ks ws t0)) ⟨T.of (tq11b f g ks ws (i + 1 : Nat)), bookH11 f g ks ws, [], KE.keep 11⟩ := by
  subst hb
  have kk := weapon_e
  simp only [Wp.cells] at kk
  have n1 := wl_nth ws i hi
  have hlen := kl_len ks
  have hlew := wl_len ws
  have i1 : (i : Int) < (ws.length : Int) := by omega
  have i2 : (0 : Int) ≤ (i : Int) := by omega
  have i3 : (i : Int).toNat = i := by omega
  have i4 := wrapN i (by omega)
  rw [loopL_go]
  conv in (goX _ _ _ _) => rw [show lp11x1 = _ from by simp only [lp11x1, subC, codeOf, Try.f11]; rfl]
  simp only [tb11, tq11b, bookH11, bookA, n1, hlen, hlew, i1, i2, i3, i4, Wp.cells, kk, hk, RR, RC, FF, gd, noDef, kindOf, sl1, allocs, isLit, ↓br_i, ↓reduceIte, reduceCtorEq, List.replicate, decide_eq_true_eq, decide_eq_false_iff_not, decide_true, decide_false, beq_self_eq_true, if_true, if_false, ite_not, Nat.le_refl, Int.cast_ofNat_Int, Nat.reduceAdd, Nat.reduceMul, Nat.reduceDiv, Nat.reduceMod, Nat.reduceSub, Nat.reduceEqDiff, Nat.reduceLT, Nat.reduceLeDiff, Nat.reduceBeqDiff, Int.reduceLT, Int.reduceLE, Int.reduceEq, Int.reduceToNat, Int.reduceAdd, Int.reduceSub, Int.reduceMul, Int.reduceNeg]
theorem round11bx (f g : Bool) (ks : List Kd) (ws : List Wp) (hl : ws.length ≤ 100) (i : Nat) (hi : i < ws.length) (t0 : Int) (hk : ¬ weaponOk ws[i] = true) (cd : Code) (hb : cd = lp11x1) :
    ∃ h, loopL KE cd 2 (T.of (tq11b f g ks ws t0)) ⟨T.of (tq11b f g ks ws i), bookH11 f g ks ws, [], KE.keep 11⟩ =
    some (.ret, ⟨T.of [(2, i64 1), (3, i64 (IntKind.i64.wrap (ks.length + (i : Nat))))], h, [], KE.keep 11⟩) := by
  obtain ⟨X, hX⟩ : ∃ X, loopL KE cd 2 (T.of (tq11b f g ks ws t0)) ⟨T.of (tq11b f g ks ws i), bookH11 f g ks ws, [], KE.keep 11⟩ = X := ⟨_, rfl⟩
  rw [hX]
  subst hb
  have kk := weapon_e
  simp only [Wp.cells] at kk
  have n1 := wl_nth ws i hi
  have hlen := kl_len ks
  have hlew := wl_len ws
  have i1 : (i : Int) < (ws.length : Int) := by omega
  have i2 : (0 : Int) ≤ (i : Int) := by omega
  have i3 : (i : Int).toNat = i := by omega
  have i4 := wrapN i (by omega)
  rw [loopL_go] at hX
  conv at hX in (goX _ _ _ _) => rw [show lp11x1 = _ from by simp only [lp11x1, subC, codeOf, Try.f11]; rfl]
  simp only [tb11, tq11b, bookH11, bookA, n1, hlen, hlew, i1, i2, i3, i4, Wp.cells, kk, hk, RR, RC, FF, gd, noDef, kindOf, sl1, allocs, isLit, ↓br_i, ↓reduceIte, reduceCtorEq, List.replicate, decide_eq_true_eq, decide_eq_false_iff_not, decide_true, decide_false, beq_self_eq_true, if_true, if_false, ite_not, Nat.le_refl, Int.cast_ofNat_Int, Nat.reduceAdd, Nat.reduceMul, Nat.reduceDiv, Nat.reduceMod, Nat.reduceSub, Nat.reduceEqDiff, Nat.reduceLT, Nat.reduceLeDiff, Nat.reduceBeqDiff, Int.reduceLT, Int.reduceLE, Int.reduceEq, Int.reduceToNat, Int.reduceAdd, Int.reduceSub, Int.reduceMul, Int.reduceNeg] at hX
  rw [g_dops_nil] at hX
  rotate_left
  · kernel_rfl
  simp only [tb11, tq11b, bookH11, bookA, n1, hlen, hlew, i1, i2, i3, i4, Wp.cells, kk, hk, RR, RC, FF, gd, noDef, kindOf, sl1, allocs, isLit, ↓br_i, ↓reduceIte, reduceCtorEq, List.replicate, decide_eq_true_eq, decide_eq_false_iff_not, decide_true, decide_false, beq_self_eq_true, if_true, if_false, ite_not, Nat.le_refl, Int.cast_ofNat_Int, Nat.reduceAdd, Nat.reduceMul, Nat.reduceDiv, Nat.reduceMod, Nat.reduceSub, Nat.reduceEqDiff, Nat.reduceLT, Nat.reduceLeDiff, Nat.reduceBeqDiff, Int.reduceLT, Int.reduceLE, Int.reduceEq, Int.reduceToNat, Int.reduceAdd, Int.reduceSub, Int.reduceMul, Int.reduceNeg] at hX
  subst hX
  simp only [RR, RC, FF, gd, noDef, kindOf, sl1, allocs, isLit, ↓br_i, ↓reduceIte, reduceCtorEq, List.replicate, decide_eq_true_eq, decide_eq_false_iff_not, decide_true, decide_false, beq_self_eq_true, if_true, if_false, ite_not, Nat.le_refl, Int.cast_ofNat_Int, Nat.reduceAdd, Nat.reduceMul, Nat.reduceDiv, Nat.reduceMod, Nat.reduceSub, Nat.reduceEqDiff, Nat.reduceLT, Nat.reduceLeDiff, Nat.reduceBeqDiff, Int.reduceLT, Int.reduceLE, Int.reduceEq, Int.reduceToNat, Int.reduceAdd, Int.reduceSub, Int.reduceMul, Int.reduceNeg]
  exact ⟨_, rfl⟩
theorem round11be (f g : Bool) (ks : List Kd) (ws : List Wp) (t0 : Int) (cd : Code) (hb : cd = lp11x1) :
    loopL KE cd 2 (T.of (tq11b f g ks ws t0)) ⟨T.of (tq11b f g ks ws ws.length), bookH11 f g ks ws, [], KE.keep 11⟩ =
    some (.exit 2, ⟨(T.of (tq11b f g ks ws ws.length ++ [(40, bl false)])), bookH11 f g ks ws, [], KE.keep 11⟩) := by
  subst hb
  have hlen := kl_len ks
  have hlew := wl_len ws
  have i1 : ¬ (ws.length : Int) < (ws.length : Int) := by omega
  rw [loopL_go]
  conv in (goX _ _ _ _) => rw [show lp11x1 = _ from by simp only [lp11x1, subC, codeOf, Try.f11]; rfl]
  simp only [tb11, tq11b, bookH11, bookA, hlen, hlew, i1, RR, RC, FF, gd, noDef, kindOf, sl1, allocs, isLit, ↓br_i, ↓reduceIte, reduceCtorEq, List.replicate, decide_eq_true_eq, decide_eq_false_iff_not, decide_true, decide_false, beq_self_eq_true, if_true, if_false, ite_not, Nat.le_refl, Int.cast_ofNat_Int, Nat.reduceAdd, Nat.reduceMul, Nat.reduceDiv, Nat.reduceMod, Nat.reduceSub, Nat.reduceEqDiff, Nat.reduceLT, Nat.reduceLeDiff, Nat.reduceBeqDiff, Int.reduceLT, Int.reduceLE, Int.reduceEq, Int.reduceToNat, Int.reduceAdd, Int.reduceSub, Int.reduceMul, Int.reduceNeg]
theorem loop11b (f g : Bool) (ks : List Kd) (ws : List Wp) (hl : ws.length ≤ 100) (t0 : Int) (cd : Code) (hb : cd = lp11x1) : ∀ (n i : Nat), i + n = ws.length →
    (fb weaponOk (ws.drop i) i = none ∧ loopL KE cd 2 (T.of (tq11b f g ks ws t0)) ⟨T.of (tq11b f g ks ws i), bookH11 f g ks ws, [], KE.keep 11⟩ = some (.exit 2, ⟨(T.of (tq11b f g ks ws ws.length ++ [(40, bl false)])), bookH11 f g ks ws, [], KE.keep 11⟩)) ∨
    (∃ b h, fb weaponOk (ws.drop i) i = some b ∧ loopL KE cd 2 (T.of (tq11b f g ks ws t0)) ⟨T.of (tq11b f g ks ws i), bookH11 f g ks ws, [], KE.keep 11⟩ = some (.ret, ⟨T.of [(2, i64 1), (3, i64 (IntKind.i64.wrap (ks.length + (b : Nat))))], h, [], KE.keep 11⟩)) := by
  intro n
  induction n with
  | zero =>
    intro i hn
    have : i = ws.length := by omega
    subst this
    exact .inl ⟨by rw [List.drop_length]; rfl, round11be f g ks ws t0 cd hb⟩
  | succ n ih =>
    intro i hn
    have hi : i < ws.length := by omega
    rw [List.drop_eq_getElem_cons hi]
    by_cases hk : weaponOk ws[i] = true
    · rw [round11b f g ks ws hl i hi t0 hk cd hb]
      simp only [fb, if_pos hk]
      exact ih (i + 1) (by omega)
    · obtain ⟨h, e⟩ := round11bx f g ks ws hl i hi t0 hk cd hb
      exact .inr ⟨i, h, by simp only [fb, if_neg hk], e⟩
def tq12a (f g : Bool) (ks : List Kd) (ws : List Wp) (i : Int) : List (Nat × AV) := [(1, .ptr 0 0 0 0), (4, i64 i)]
theorem round12a (f g : Bool) (ks : List Kd) (ws : List Wp) (hl : ks.length ≤ 100) (i : Nat) (hi : i < ks.length) (t0 : Int) (hk : kindOk ks[i] ws.length = true) (cd : Code) (hb : cd = lp12x0) :
    loopL KE cd 1 (T.of (tq12a f g ks ws t0)) ⟨T.of (tq12a f g ks ws i), bookH12 f g ks ws, [], KE.keep 12⟩ =
    loopL KE cd 1 (T.of (tq12a f g ks ws t0)) ⟨T.of (tq12a f g ks ws (i + 1 : Nat)), bookH12 f g ks ws, [], KE.keep 12⟩ := by
  subst hb
  have kk := refKind_e
  simp only [Kd.cells] at kk
  have n1 := kl_nth ks i hi
  have hlen := kl_len ks
  have hlew := wl_len ws
  have i1 : (i : Int) < (ks.length : Int) := by omega
  have i2 : (0 : Int) ≤ (i : Int) := by omega
  have i3 : (i : Int).toNat = i := by omega
  have i4 := wrapN i (by omega)
  rw [loopL_go]
  conv in (goX _ _ _ _) => rw [show lp12x0 = _ from by simp only [lp12x0, subC, codeOf, Try.f12]; rfl]
  simp only [tb12, tq12a, bookH12, bookA, n1, hlen, hlew, i1, i2, i3, i4, Kd.cells, kk, hk, RR, RC, FF, gd, noDef, kindOf, sl1, allocs, isLit, ↓br_i, ↓reduceIte, reduceCtorEq, List.replicate, decide_eq_true_eq, decide_eq_false_iff_not, decide_true, decide_false, beq_self_eq_true, if_true, if_false, ite_not, Nat.le_refl, Int.cast_ofNat_Int, Nat.reduceAdd, Nat.reduceMul, Nat.reduceDiv, Nat.reduceMod, Nat.reduceSub, Nat.reduceEqDiff, Nat.reduceLT, Nat.reduceLeDiff, Nat.reduceBeqDiff, Int.reduceLT, Int.reduceLE, Int.reduceEq, Int.reduceToNat, Int.reduceAdd, Int.reduceSub, Int.reduceMul, Int.reduceNeg]
  rw [g_dops_nil]
  rotate_left
  · kernel_rfl
  simp only [tb12, tq12a, bookH12, bookA, n1, hlen, hlew, i1, i2, i3, i4, Kd.cells, kk, hk, RR, RC, FF, gd, noDef, kindOf, sl1, allocs, isLit, ↓br_i, ↓reduceIte, reduceCtorEq, List.replicate, decide_eq_true_eq, decide_eq_false_iff_not, decide_true, decide_false, beq_self_eq_true, if_true, if_false, ite_not, Nat.le_refl, Int.cast_ofNat_Int, Nat.reduceAdd, Nat.reduceMul, Nat.reduceDiv, Nat.reduceMod, Nat.reduceSub, Nat.reduceEqDiff, Nat.reduceLT, Nat.reduceLeDiff, Nat.reduceBeqDiff, Int.reduceLT, Int.reduceLE, Int.reduceEq, Int.reduceToNat, Int.reduceAdd, Int.reduceSub, Int.reduceMul, Int.reduceNeg]
theorem round12ax (f g : Bool) (ks : List Kd) (ws : List Wp) (hl : ks.length ≤ 100) (i : Nat) (hi : i < ks.length) (t0 : Int) (hk : ¬ kindOk ks[i] ws.length = true) (cd : Code) (hb : cd = lp12x0) :
    ∃ h, loopL KE cd 1 (T.of (tq12a f g ks ws t0)) ⟨T.of (tq12a f g ks ws i), bookH12 f g ks ws, [], KE.keep 12⟩ =
    some (.ret, ⟨T.of [(2, i64 1), (3, i64 (i : Nat))], h, [], KE.keep 12⟩) := by
  obtain ⟨X, hX⟩ : ∃ X, loopL KE cd 1 (T.of (tq12a f g ks ws t0)) ⟨T.of (tq12a f g ks ws i), bookH12 f g ks ws, [], KE.keep 12⟩ = X := ⟨_, rfl⟩
  rw [hX]
  subst hb
  have kk := refKind_e
  simp only [Kd.cells] at kk
  have n1 := kl_nth ks i hi
  have hlen := kl_len ks
  have hlew := wl_len ws
  have i1 : (i : Int) < (ks.length : Int) := by omega
  have i2 : (0 : Int) ≤ (i : Int) := by omega
  have i3 : (i : Int).toNat = i := by omega
  have i4 := wrapN i (by omega)
  rw [loopL_go] at hX
  conv at hX in (goX _ _ _ _) => rw [show lp12x0 = _ from by simp only [lp12x0, subC, codeOf, Try.f12]; rfl]
  simp only [tb12, tq12a, bookH12, bookA, n1, hlen, hlew, i1, i2, i3, i4, Kd.cells, kk, hk, RR, RC, FF, gd, noDef, kindOf, sl1, allocs, isLit, ↓br_i, ↓reduceIte, reduceCtorEq, List.replicate, decide_eq_true_eq, decide_eq_false_iff_not, decide_true, decide_false, beq_self_eq_true, if_true, if_false, ite_not, Nat.le_refl, Int.cast_ofNat_Int, Nat.reduceAdd, Nat.reduceMul, Nat.reduceDiv, Nat.reduceMod, Nat.reduceSub, Nat.reduceEqDiff, Nat.reduceLT, Nat.reduceLeDiff, Nat.reduceBeqDiff, Int.reduceLT, Int.reduceLE, Int.reduceEq, Int.reduceToNat, Int.reduceAdd, Int.reduceSub, Int.reduceMul, Int.reduceNeg] at hX
  rw [g_dops_nil] at hX
  rotate_left
  · kernel_rfl
  simp only [tb12, tq12a, bookH12, bookA, n1, hlen, hlew, i1, i2, i3, i4, Kd.cells, kk, hk, RR, RC, FF, gd, noDef, kindOf, sl1, allocs, isLit, ↓br_i, ↓reduceIte, reduceCtorEq, List.replicate, decide_eq_true_eq, decide_eq_false_iff_not, decide_true, decide_false, beq_self_eq_true, if_true, if_false, ite_not, Nat.le_refl, Int.cast_ofNat_Int, Nat.reduceAdd, Nat.reduceMul, Nat.reduceDiv, Nat.reduceMod, Nat.reduceSub, Nat.reduceEqDiff, Nat.reduceLT, Nat.reduceLeDiff, Nat.reduceBeqDiff, Int.reduceLT, Int.reduceLE, Int.reduceEq, Int.reduceToNat, Int.reduceAdd, Int.reduceSub, Int.reduceMul, Int.reduceNeg] at hX
  subst hX
  simp only [RR, RC, FF, gd, noDef, kindOf, sl1, allocs, isLit, ↓br_i, ↓reduceIte, reduceCtorEq, List.replicate, decide_eq_true_eq, decide_eq_false_iff_not, decide_true, decide_false, beq_self_eq_true, if_true, if_false, ite_not, Nat.le_refl, Int.cast_ofNat_Int, Nat.reduceAdd, Nat.reduceMul, Nat.reduceDiv, Nat.reduceMod, Nat.reduceSub, Nat.reduceEqDiff, Nat.reduceLT, Nat.reduceLeDiff, Nat.reduceBeqDiff, Int.reduceLT, Int.reduceLE, Int.reduceEq, Int.reduceToNat, Int.reduceAdd, Int.reduceSub, Int.reduceMul, Int.reduceNeg]
  exact ⟨_, rfl⟩
theorem round12ae (f g : Bool) (ks : List Kd) (ws : List Wp) (t0 : Int) (cd : Code) (hb : cd = lp12x0) :
    loopL KE cd 1 (T.of (tq12a f g ks ws t0)) ⟨T.of (tq12a f g ks ws ks.length), bookH12 f g ks ws, [], KE.keep 12⟩ =
    some (.exit 0, ⟨(T.of (tq12a f g ks ws ks.length ++ [(26, bl false)])), bookH12 f g ks ws, [], KE.keep 12⟩) := by
  subst hb
  have hlen := kl_len ks
  have hlew := wl_len ws
  have i1 : ¬ (ks.length : Int) < (ks.length : Int) := by omega
  rw [loopL_go]
  conv in (goX _ _ _ _) => rw [show lp12x0 = _ from by simp only [lp12x0, subC, codeOf, Try.f12]; rfl]
  simp only [tb12, tq12a, bookH12, bookA, hlen, hlew, i1, RR, RC, FF, gd, noDef, kindOf, sl1, allocs, isLit, ↓br_i, ↓reduceIte, reduceCtorEq, List.replicate, decide_eq_true_eq, decide_eq_false_iff_not, decide_true, decide_false, beq_self_eq_true, if_true, if_false, ite_not, Nat.le_refl, Int.cast_ofNat_Int, Nat.reduceAdd, Nat.reduceMul, Nat.reduceDiv, Nat.reduceMod, Nat.reduceSub, Nat.reduceEqDiff, Nat.reduceLT, Nat.reduceLeDiff, Nat.reduceBeqDiff, Int.reduceLT, Int.reduceLE, Int.reduceEq, Int.reduceToNat, Int.reduceAdd, Int.reduceSub, Int.reduceMul, Int.reduceNeg]
theorem loop12a (f g : Bool) (ks : List Kd) (ws : List Wp) (hl : ks.length ≤ 100) (t0 : Int) (cd : Code) (hb : cd = lp12x0) : ∀ (n i : Nat), i + n = ks.length →
    (fb (fun k => kindOk k ws.length) (ks.drop i) i = none ∧ loopL KE cd 1 (T.of (tq12a f g ks ws t0)) ⟨T.of (tq12a f g ks ws i), bookH12 f g ks ws, [], KE.keep 12⟩ = some (.exit 0, ⟨(T.of (tq12a f g ks ws ks.length ++ [(26, bl false)])), bookH12 f g ks ws, [], KE.keep 12⟩)) ∨
    (∃ b h, fb (fun k => kindOk k ws.length) (ks.drop i) i = some b ∧ loopL KE cd 1 (T.of (tq12a f g ks ws t0)) ⟨T.of (tq12a f g ks ws i), bookH12 f g ks ws, [], KE.keep 12⟩ = some (.ret, ⟨T.of [(2, i64 1), (3, i64 (b : Nat))], h, [], KE.keep 12⟩)) := by
  intro n
  induction n with
  | zero =>
    intro i hn
    have : i = ks.length := by omega
    subst this
    exact .inl ⟨by rw [List.drop_length]; rfl, round12ae f g ks ws t0 cd hb⟩
  | succ n ih =>
    intro i hn
    have hi : i < ks.length := by omega
    rw [List.drop_eq_getElem_cons hi]
    by_cases hk : kindOk ks[i] ws.length = true
    · rw [round12a f g ks ws hl i hi t0 hk cd hb]
      simp only [fb, if_pos hk]
      exact ih (i + 1) (by omega)
    · obtain ⟨h, e⟩ := round12ax f g ks ws hl i hi t0 hk cd hb
      exact .inr ⟨i, h, by simp only [fb, if_neg hk], e⟩
def tq12b (f g : Bool) (ks : List Kd) (ws : List Wp) (i : Int) : List (Nat × AV) := [(1, .ptr 0 0 0 0), (5, i64 i)]
theorem round12b (f g : Bool) (ks : List Kd) (ws : List Wp) (hl : ws.length ≤ 100) (i : Nat) (hi : i < ws.length) (t0 : Int) (hk : weaponOk ws[i] = true) (cd : Code) (hb : cd = lp12x1) :
    loopL KE cd 1 (T.of (tq12b f g ks ws t0)) ⟨T.of (tq12b f g ks ws i), bookH12 f g ks ws, [], KE.keep 12⟩ =
    loopL KE cd 1 (T.of (tq12b f g ks ws t0)) ⟨T.of (tq12b f g ks ws (i + 1 : Nat)), bookH12 f g ks ws, [], KE.keep 12⟩ := by
  subst hb
  have kk := refWeapon_e
  simp only [Wp.cells] at kk
  have n1 := wl_nth ws i hi
  have hlen := kl_len ks
  have hlew := wl_len ws
  have i1 : (i : Int) < (ws.length : Int) := by omega
  have i2 : (0 : Int) ≤ (i : Int) := by omega
  have i3 : (i : Int).toNat = i := by omega
  have i4 := wrapN i (by omega)
  rw [loopL_go]
  conv in (goX _ _ _ _) => rw [show lp12x1 = _ from by simp only [lp12x1, subC, codeOf, Try.f12]; rfl]
  simp only [tb12, tq12b, bookH12, bookA, n1, hlen, hlew, i1, i2, i3, i4, Wp.cells, kk, hk, RR, RC, FF, gd, noDef, kindOf, sl1, allocs, isLit, ↓br_i, ↓reduceIte, reduceCtorEq, List.replicate, decide_eq_true_eq, decide_eq_false_iff_not, decide_true, decide_false, beq_self_eq_true, if_true, if_false, ite_not, Nat.le_refl, Int.cast_ofNat_Int, Nat.reduceAdd, Nat.reduceMul, Nat.reduceDiv, Nat.reduceMod, Nat.reduceSub, Nat.reduceEqDiff, Nat.reduceLT, Nat.reduceLeDiff, Nat.reduceBeqDiff, Int.reduceLT, Int.reduceLE, Int.reduceEq, Int.reduceToNat, Int.reduceAdd, Int.reduceSub, Int.reduceMul, Int.reduceNeg]
theorem round12bx (f g : Bool) (ks : List Kd) (ws : List Wp) (hl : ws.length ≤ 100) (i : Nat) (hi : i < ws.length) (t0 : Int) (hk : ¬ weaponOk ws[i] = true) (cd : Code) (hb : cd = lp12x1) :
    ∃ h, loopL KE cd 1 (T.of (tq12b f g ks ws t0)) ⟨T.of (tq12b f g ks ws i), bookH12 f g ks ws, [], KE.keep 12⟩ =
    some (.ret, ⟨T.of [(2, i64 1), (3, i64 (IntKind.i64.wrap (ks.length + (i : Nat))))], h, [], KE.keep 12⟩) := by
  obtain ⟨X, hX⟩ : ∃ X, loopL KE cd 1 (T.of (tq12b f g ks ws t0)) ⟨T.of (tq12b f g ks ws i), bookH12 f g ks ws, [], KE.keep 12⟩ = X := ⟨_, rfl⟩
  rw [hX]
  subst hb
  have kk := refWeapon_e
  simp only [Wp.cells] at kk
  have n1 := wl_nth ws i hi
  have hlen := kl_len ks
  have hlew := wl_len ws
  have i1 : (i : Int) < (ws.length : Int) := by omega
  have i2 : (0 : Int) ≤ (i : Int) := by omega
  have i3 : (i : Int).toNat = i := by omega
  have i4 := wrapN i (by omega)
  rw [loopL_go] at hX
  conv at hX in (goX _ _ _ _) => rw [show lp12x1 = _ from by simp only [lp12x1, subC, codeOf, Try.f12]; rfl]
  simp only [tb12, tq12b, bookH12, bookA, n1, hlen, hlew, i1, i2, i3, i4, Wp.cells, kk, hk, RR, RC, FF, gd, noDef, kindOf, sl1, allocs, isLit, ↓br_i, ↓reduceIte, reduceCtorEq, List.replicate, decide_eq_true_eq, decide_eq_false_iff_not, decide_true, decide_false, beq_self_eq_true, if_true, if_false, ite_not, Nat.le_refl, Int.cast_ofNat_Int, Nat.reduceAdd, Nat.reduceMul, Nat.reduceDiv, Nat.reduceMod, Nat.reduceSub, Nat.reduceEqDiff, Nat.reduceLT, Nat.reduceLeDiff, Nat.reduceBeqDiff, Int.reduceLT, Int.reduceLE, Int.reduceEq, Int.reduceToNat, Int.reduceAdd, Int.reduceSub, Int.reduceMul, Int.reduceNeg] at hX
  rw [g_dops_nil] at hX
  rotate_left
  · kernel_rfl
  simp only [tb12, tq12b, bookH12, bookA, n1, hlen, hlew, i1, i2, i3, i4, Wp.cells, kk, hk, RR, RC, FF, gd, noDef, kindOf, sl1, allocs, isLit, ↓br_i, ↓reduceIte, reduceCtorEq, List.replicate, decide_eq_true_eq, decide_eq_false_iff_not, decide_true, decide_false, beq_self_eq_true, if_true, if_false, ite_not, Nat.le_refl, Int.cast_ofNat_Int, Nat.reduceAdd, Nat.reduceMul, Nat.reduceDiv, Nat.reduceMod, Nat.reduceSub, Nat.reduceEqDiff, Nat.reduceLT, Nat.reduceLeDiff, Nat.reduceBeqDiff, Int.reduceLT, Int.reduceLE, Int.reduceEq, Int.reduceToNat, Int.reduceAdd, Int.reduceSub, Int.reduceMul, Int.reduceNeg] at hX
  subst hX
  simp only [RR, RC, FF, gd, noDef, kindOf, sl1, allocs, isLit, ↓br_i, ↓reduceIte, reduceCtorEq, List.replicate, decide_eq_true_eq, decide_eq_false_iff_not, decide_true, decide_false, beq_self_eq_true, if_true, if_false, ite_not, Nat.le_refl, Int.cast_ofNat_Int, Nat.reduceAdd, Nat.reduceMul, Nat.reduceDiv, Nat.reduceMod, Nat.reduceSub, Nat.reduceEqDiff, Nat.reduceLT, Nat.reduceLeDiff, Nat.reduceBeqDiff, Int.reduceLT, Int.reduceLE, Int.reduceEq, Int.reduceToNat, Int.reduceAdd, Int.reduceSub, Int.reduceMul, Int.reduceNeg]
  exact ⟨_, rfl⟩
theorem round12be (f g : Bool) (ks : List Kd) (ws : List Wp) (t0 : Int) (cd : Code) (hb : cd = lp12x1) :
    loopL KE cd 1 (T.of (tq12b f g ks ws t0)) ⟨T.of (tq12b f g ks ws ws.length), bookH12 f g ks ws, [], KE.keep 12⟩ =
    some (.exit 2, ⟨(T.of (tq12b f g ks ws ws.length ++ [(44, bl false)])), bookH12 f g ks ws, [], KE.keep 12⟩) := by
  subst hb
  have hlen := kl_len ks
  have hlew := wl_len ws
  have i1 : ¬ (ws.length : Int) < (ws.length : Int) := by omega
  rw [loopL_go]
  conv in (goX _ _ _ _) => rw [show lp12x1 = _ from by simp only [lp12x1, subC, codeOf, Try.f12]; rfl]
  simp only [tb12, tq12b, bookH12, bookA, hlen, hlew, i1, RR, RC, FF, gd, noDef, kindOf, sl1, allocs, isLit, ↓br_i, ↓reduceIte, reduceCtorEq, List.replicate, decide_eq_true_eq, decide_eq_false_iff_not, decide_true, decide_false, beq_self_eq_true, if_true, if_false, ite_not, Nat.le_refl, Int.cast_ofNat_Int, Nat.reduceAdd, Nat.reduceMul, Nat.reduceDiv, Nat.reduceMod, Nat.reduceSub, Nat.reduceEqDiff, Nat.reduceLT, Nat.reduceLeDiff, Nat.reduceBeqDiff, Int.reduceLT, Int.reduceLE, Int.reduceEq, Int.reduceToNat, Int.reduceAdd, Int.reduceSub, Int.reduceMul, Int.reduceNeg]
theorem loop12b (f g : Bool) (ks : List Kd) (ws : List Wp) (hl : ws.length ≤ 100) (t0 : Int) (cd : Code) (hb : cd = lp12x1) : ∀ (n i : Nat), i + n = ws.length →
    (fb weaponOk (ws.drop i) i = none ∧ loopL KE cd 1 (T.of (tq12b f g ks ws t0)) ⟨T.of (tq12b f g ks ws i), bookH12 f g ks ws, [], KE.keep 12⟩ = some (.exit 2, ⟨(T.of (tq12b f g ks ws ws.length ++ [(44, bl false)])), bookH12 f g ks ws, [], KE.keep 12⟩)) ∨
    (∃ b h, fb weaponOk (ws.drop i) i = some b ∧ loopL KE cd 1 (T.of (tq12b f g ks ws t0)) ⟨T.of (tq12b f g ks ws i), bookH12 f g ks ws, [], KE.keep 12⟩ = some (.ret, ⟨T.of [(2, i64 1), (3, i64 (IntKind.i64.wrap (ks.length + (b : Nat))))], h, [], KE.keep 12⟩)) := by
  intro n
  induction n with
  | zero =>
    intro i hn
    have : i = ws.length := by omega
    subst this
    exact .inl ⟨by rw [List.drop_length]; rfl, round12be f g ks ws t0 cd hb⟩
  | succ n ih =>
    intro i hn
    have hi : i < ws.length := by omega
    rw [List.drop_eq_getElem_cons hi]
    by_cases hk : weaponOk ws[i] = true
    · rw [round12b f g ks ws hl i hi t0 hk cd hb]
      simp only [fb, if_pos hk]
      exact ih (i + 1) (by omega)
    · obtain ⟨h, e⟩ := round12bx f g ks ws hl i hi t0 hk cd hb
      exact .inr ⟨i, h, by simp only [fb, if_neg hk], e⟩

/-- What the check says. -/
def chk (ks : List Kd) (ws : List Wp) : Int × Int :=
  if (decide (1 ≤ ks.length) && decide (ks.length ≤ 16) && decide (ws.length ≤ 16)) = true then
    match fb (fun k => kindOk k ws.length) ks 0 with
    | some b => (1, (b : Int))
    | none => match fb weaponOk ws 0 with
      | some b => (1, IntKind.i64.wrap (ks.length + (b : Nat)))
      | none => (0, 0)
  else (1, -1)
end Go.AM
