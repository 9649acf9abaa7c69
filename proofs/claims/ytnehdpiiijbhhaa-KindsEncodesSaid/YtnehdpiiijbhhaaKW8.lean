/- The reference's encoder's loops over kinds and weapons, in the machine. -/
import Derived.Test.YtnehdpiiijbhhaaKW7
set_option autoImplicit false
set_option maxRecDepth 100000
set_option linter.unusedSimpArgs false
set_option linter.unusedVariables false
namespace Go.AM
open Go Go.RowKit Go.Proofs

theorem put_all (v sz : Nat) (hv : v < 18446744073709551616) (h0 : 0 < sz) (hs : sz ≤ 100) : ∃ f, ∀ h : Heap, callEL KE 27 [u64 v, i64 sz] h = some (.val (.sl f (bt (le sz v))) h fp0) := by
  have hl : (bt (le sz v)).length = sz := by rw [bt_len, le_len]
  obtain ⟨X, hX⟩ : ∃ X, outOf (KE.way 27) [.arr (sz - 1) false 1 [] (bt (le sz v))] [] (.ref 0 (sz - 1) 0 sz) = X := ⟨_, rfl⟩
  have hO := hX
  have pwf : KE.way 27 = ⟨true, false, false⟩ := rfl
  simp only [pwf, hl, nth_eq, callBy, inOf, meets, allLt, memFor, roReg, back, outOf, outRefs, keeps, freezeOut, freeze1, sameVer, backTo, wroteBack, writeBack, markRo, marksOf, outσ, baseOf, ifWr, getD0, hasSl, hasSlL, regRefs, List.range, List.range.loop, List.filter, List.map, slRefs, slRefsL, List.isEmpty, mem, RR, RC, FF, gd, noDef, kindOf, sl1, allocs, isLit, ↓br_i, ↓reduceIte, reduceCtorEq, List.replicate, decide_eq_true_eq, decide_eq_false_iff_not, decide_true, decide_false, beq_self_eq_true, if_true, if_false, ite_not, Nat.le_refl, Int.cast_ofNat_Int, Nat.reduceAdd, Nat.reduceMul, Nat.reduceDiv, Nat.reduceMod, Nat.reduceSub, Nat.reduceEqDiff, Nat.reduceLT, Nat.reduceLeDiff, Nat.reduceBeqDiff, Int.reduceLT, Int.reduceLE, Int.reduceEq, Int.reduceToNat, Int.reduceAdd, Int.reduceSub, Int.reduceMul, Int.reduceNeg] at hX
  rw [if_pos (by omega), tk_all _ _ hl] at hX
  exact ⟨false, fun h => call_val (E := KE) (f := 27) rfl rfl rfl (put_c v sz hv h0 hs) (hO.trans hX.symm) rfl⟩
theorem flB_lt (v : Int) (h0 : 0 ≤ v) (h1 : v ≤ 262144) : flB v < 18446744073709551616 := by
  unfold flB
  split
  · omega
  · next hz =>
    have hn : v.toNat ≠ 0 := by omega
    have l2 : v.toNat < 2 ^ (v.toNat.log2 + 1) := Nat.lt_log2_self
    have l3 : v.toNat.log2 < 20 := (Nat.log2_lt hn).2 (by omega)
    generalize v.toNat.log2 = k at *
    have hp' : 2 ^ (k + 1) * 2 ^ (52 - k) = 9007199254740992 := by rw [← Nat.pow_add, show k + 1 + (52 - k) = 53 by omega]
    have V1 : v.toNat * 2 ^ (52 - k) < 9007199254740992 := by rw [← hp']; exact Nat.mul_lt_mul_of_pos_right l2 (Nat.two_pow_pos _)
    omega
theorem le8 (n : Nat) : ∃ y0 y1 y2 y3 y4 y5 y6 y7, le 8 n = [y0, y1, y2, y3, y4, y5, y6, y7] := ⟨_, _, _, _, _, _, _, _, rfl⟩
def tq14a (o : AV) (i : Nat) : List (Nat × AV) := [(1, .ptr 0 0 0 0), (3, o), (4, i64 i)]
theorem round14a (f g : Bool) (ks : List Kd) (ws : List Wp) (hk : ks.length ≤ 16) (ver ver0 n0 : Nat) (l : List Nat) (hl : l.length ≤ 60000) (i : Nat) (hi : i < ks.length) (hok : kindOk ks[i] ws.length = true) (cd : Code) (hb : cd = lp14x0) :
    loopL KE cd 2 (T.of (tq14a (.ref 1 ver0 0 n0) 0)) ⟨T.of (tq14a (.ref 1 ver 0 l.length) i), hR f g ks ws ver l, [], KE.keep 14⟩ =
    loopL KE cd 2 (T.of (tq14a (.ref 1 ver0 0 n0) 0)) ⟨T.of (tq14a (.ref 1 (ver + 20) 0 (l ++ kb ks[i]).length) (i + 1)), hR f g ks ws (ver + 20) (l ++ kb ks[i]), [], KE.keep 14⟩ := by
  subst hb
  have hlen := kl_len ks
  have n1 := kl_nth ks i hi
  have i1 : (i : Int) < (ks.length : Int) := by omega
  have i2 : (0 : Int) ≤ (i : Int) := by omega
  have i3 : (i : Int).toNat = i := by omega
  have i4 := wrapN i (by omega)
  generalize ks[i] = k at *
  have hsp := kind_speed hok
  have hn : ∀ n ∈ [k.health, k.turn, k.metal, k.energy, k.work, k.storeM, k.storeE, k.wreck], 0 ≤ n ∧ n ≤ 65535 := by
    simp only [kindOk, Bool.and_eq_true, rng, decide_eq_true_eq] at hok
    intro n hn
    simp only [List.mem_cons, List.not_mem_nil, or_false] at hn
    rcases hn with rfl | rfl | rfl | rfl | rfl | rfl | rfl | rfl <;> omega
  obtain ⟨l1, e1⟩ : ∃ l1, l ++ [b8 k.cls] = l1 := ⟨_, rfl⟩
  obtain ⟨l2, e2⟩ : ∃ l2, l1 ++ [k.health, k.turn, k.metal, k.energy, k.work, k.storeM, k.storeE, k.wreck].flatMap tw = l2 := ⟨_, rfl⟩
  obtain ⟨l3, e3⟩ : ∃ l3, l2 ++ [k.sight, k.radar, k.sonar, k.jam, k.giveM, k.giveE, k.eatE, k.build, k.carry, k.weapon].map b8 = l3 := ⟨_, rfl⟩
  obtain ⟨l4, e4⟩ : ∃ l4, l3 ++ le 8 (flB k.speed) = l4 := ⟨_, rfl⟩
  have z1 : l1.length = l.length + 1 := by rw [← e1]; simp
  have z2 : l2.length = l1.length + 16 := by rw [← e2]; simp [tw]
  have z3 : l3.length = l2.length + 10 := by rw [← e3]; simp
  have z4 : l4.length = l3.length + 8 := by rw [← e4]; simp [le_len]
  have hb1 : bt l1 = bt l ++ [[u8 (b8 k.cls)]] := by rw [← e1]; exact bt_app _ _
  have e : l ++ kb k = l4 := by rw [← e4, ← e3, ← e2, ← e1]; simp [kb]
  have k1 := loop14b f g ks ws (ver + 1) l1.length k _ (by simp) hn i lp14x1 rfl 8 0 (ver + 1) l1 (by omega) rfl
  rw [List.drop_zero, e2, hRk, hRk, hR, hR, hb1, z1] at k1
  have k2 := loop14c f g ks ws (ver + 1 + 8) l2.length k [k.health, k.turn, k.metal, k.energy, k.work, k.storeM, k.storeE, k.wreck] [k.sight, k.radar, k.sonar, k.jam, k.giveM, k.giveE, k.eatE, k.build, k.carry, k.weapon] (by simp) i lp14x2 rfl 10 0 (ver + 1 + 8) l2 (by omega) rfl
  rw [List.drop_zero, e3, hRm, hRm, hRk, hRk, hR, hR] at k2
  have hv : ver + 1 + 8 + 10 + 1 = ver + 20 := rfl
  have r1 := room34 (l.length + 1) (by omega)
  have r2 := room34 (l3.length + 8) (by omega)
  have t1 := tk_all (bt l) l.length (bt_len l)
  have t3 := tk_all (bt l3) l3.length (bt_len l3)
  have b1 := bt_len l
  have b3 := bt_len l3
  have w1 := wrap8i k.cls
  have fe := float_e k.speed hsp.1 (by omega)
  obtain ⟨fp, pe⟩ := put_all (flB k.speed) 8 (flB_lt _ hsp.1 (by omega)) (by omega) (by omega)
  obtain ⟨y0, y1, y2, y3, y4, y5, y6, y7, hy⟩ := le8 (flB k.speed)
  have hb4 : bt l4 = bt l3 ++ [[u8 y0], [u8 y1], [u8 y2], [u8 y3], [u8 y4], [u8 y5], [u8 y6], [u8 y7]] := by rw [← e4, hy]; simp [bt]
  rw [hy] at pe
  have c8 : ((8 : Nat) : Int) = 8 := rfl
  rw [c8] at pe
  rw [e, ← hv]
  simp only [hR, hb4, z4]
  simp only [il, List.map_cons, List.map_nil] at k1 k2
  simp only [bt, List.map_cons, List.map_nil] at pe
  generalize hv8 : ver + 1 + 8 = v8 at *
  generalize hv10 : v8 + 10 = v10 at *
  simp only [tq14b, RR, RC, FF, gd, noDef, kindOf, sl1, allocs, isLit, ↓br_i, ↓reduceIte, reduceCtorEq, List.replicate, decide_eq_true_eq, decide_eq_false_iff_not, decide_true, decide_false, beq_self_eq_true, if_true, if_false, ite_not, Nat.le_refl, Int.cast_ofNat_Int, Nat.reduceAdd, Nat.reduceMul, Nat.reduceDiv, Nat.reduceMod, Nat.reduceSub, Nat.reduceEqDiff, Nat.reduceLT, Nat.reduceLeDiff, Nat.reduceBeqDiff, Int.reduceLT, Int.reduceLE, Int.reduceEq, Int.reduceToNat, Int.reduceAdd, Int.reduceSub, Int.reduceMul, Int.reduceNeg] at k1
  simp only [tq14c, RR, RC, FF, gd, noDef, kindOf, sl1, allocs, isLit, ↓br_i, ↓reduceIte, reduceCtorEq, List.replicate, decide_eq_true_eq, decide_eq_false_iff_not, decide_true, decide_false, beq_self_eq_true, if_true, if_false, ite_not, Nat.le_refl, Int.cast_ofNat_Int, Nat.reduceAdd, Nat.reduceMul, Nat.reduceDiv, Nat.reduceMod, Nat.reduceSub, Nat.reduceEqDiff, Nat.reduceLT, Nat.reduceLeDiff, Nat.reduceBeqDiff, Int.reduceLT, Int.reduceLE, Int.reduceEq, Int.reduceToNat, Int.reduceAdd, Int.reduceSub, Int.reduceMul, Int.reduceNeg] at k2
  conv at k1 in lp14x1 => simp only [lp14x1, subC, codeOf, Try.f14]
  conv at k2 in lp14x2 => simp only [lp14x2, subC, codeOf, Try.f14]
  rw [loopL_go]
  conv in (goX _ _ _ _) => rw [show lp14x0 = _ from by simp only [lp14x0, subC, codeOf, Try.f14]; rfl]
  simp only [tb14, tq14a, Kd.cells, hlen, n1, i1, i2, i3, i4, w1, r1, t1, b1, RR, RC, FF, gd, noDef, kindOf, sl1, allocs, isLit, ↓br_i, ↓reduceIte, reduceCtorEq, List.replicate, decide_eq_true_eq, decide_eq_false_iff_not, decide_true, decide_false, beq_self_eq_true, if_true, if_false, ite_not, Nat.le_refl, Int.cast_ofNat_Int, Nat.reduceAdd, Nat.reduceMul, Nat.reduceDiv, Nat.reduceMod, Nat.reduceSub, Nat.reduceEqDiff, Nat.reduceLT, Nat.reduceLeDiff, Nat.reduceBeqDiff, Int.reduceLT, Int.reduceLE, Int.reduceEq, Int.reduceToNat, Int.reduceAdd, Int.reduceSub, Int.reduceMul, Int.reduceNeg]
  rw [k1]
  simp only [tb14, hlen, RR, RC, FF, gd, noDef, kindOf, sl1, allocs, isLit, ↓br_i, ↓reduceIte, reduceCtorEq, List.replicate, decide_eq_true_eq, decide_eq_false_iff_not, decide_true, decide_false, beq_self_eq_true, if_true, if_false, ite_not, Nat.le_refl, Int.cast_ofNat_Int, Nat.reduceAdd, Nat.reduceMul, Nat.reduceDiv, Nat.reduceMod, Nat.reduceSub, Nat.reduceEqDiff, Nat.reduceLT, Nat.reduceLeDiff, Nat.reduceBeqDiff, Int.reduceLT, Int.reduceLE, Int.reduceEq, Int.reduceToNat, Int.reduceAdd, Int.reduceSub, Int.reduceMul, Int.reduceNeg]
  rw [k2]
  simp only [tb14, fe, pe, r2, t3, b3, i4, RR, RC, FF, gd, noDef, kindOf, sl1, allocs, isLit, ↓br_i, ↓reduceIte, reduceCtorEq, List.replicate, decide_eq_true_eq, decide_eq_false_iff_not, decide_true, decide_false, beq_self_eq_true, if_true, if_false, ite_not, Nat.le_refl, Int.cast_ofNat_Int, Nat.reduceAdd, Nat.reduceMul, Nat.reduceDiv, Nat.reduceMod, Nat.reduceSub, Nat.reduceEqDiff, Nat.reduceLT, Nat.reduceLeDiff, Nat.reduceBeqDiff, Int.reduceLT, Int.reduceLE, Int.reduceEq, Int.reduceToNat, Int.reduceAdd, Int.reduceSub, Int.reduceMul, Int.reduceNeg]
theorem round14ae (f g : Bool) (ks : List Kd) (ws : List Wp) (ver ver0 n0 : Nat) (l : List Nat) (cd : Code) (hb : cd = lp14x0) :
    loopL KE cd 2 (T.of (tq14a (.ref 1 ver0 0 n0) 0)) ⟨T.of (tq14a (.ref 1 ver 0 l.length) ks.length), hR f g ks ws ver l, [], KE.keep 14⟩ =
    some (.exit 0, ⟨T.of (tq14a (.ref 1 ver 0 l.length) ks.length ++ [(26, bl false)]), hR f g ks ws ver l, [], KE.keep 14⟩) := by
  subst hb
  have hlen := kl_len ks
  have i1 : ¬ (ks.length : Int) < (ks.length : Int) := by omega
  simp only [hR]
  rw [loopL_go]
  conv in (goX _ _ _ _) => rw [show lp14x0 = _ from by simp only [lp14x0, subC, codeOf, Try.f14]; rfl]
  simp only [tb14, tq14a, hlen, i1, RR, RC, FF, gd, noDef, kindOf, sl1, allocs, isLit, ↓br_i, ↓reduceIte, reduceCtorEq, List.replicate, decide_eq_true_eq, decide_eq_false_iff_not, decide_true, decide_false, beq_self_eq_true, if_true, if_false, ite_not, Nat.le_refl, Int.cast_ofNat_Int, Nat.reduceAdd, Nat.reduceMul, Nat.reduceDiv, Nat.reduceMod, Nat.reduceSub, Nat.reduceEqDiff, Nat.reduceLT, Nat.reduceLeDiff, Nat.reduceBeqDiff, Int.reduceLT, Int.reduceLE, Int.reduceEq, Int.reduceToNat, Int.reduceAdd, Int.reduceSub, Int.reduceMul, Int.reduceNeg]
theorem loop14a (f g : Bool) (ks : List Kd) (ws : List Wp) (hk : ks.length ≤ 16) (hs : ∀ k ∈ ks, kindOk k ws.length = true) (ver0 n0 : Nat) (cd : Code) (hb : cd = lp14x0) : ∀ (n i ver : Nat) (l : List Nat), l.length + 35 * n ≤ 60000 → i + n = ks.length →
    loopL KE cd 2 (T.of (tq14a (.ref 1 ver0 0 n0) 0)) ⟨T.of (tq14a (.ref 1 ver 0 l.length) i), hR f g ks ws ver l, [], KE.keep 14⟩ =
    some (.exit 0, ⟨T.of (tq14a (.ref 1 (ver + 20 * n) 0 (l ++ (ks.drop i).flatMap kb).length) ks.length ++ [(26, bl false)]), hR f g ks ws (ver + 20 * n) (l ++ (ks.drop i).flatMap kb), [], KE.keep 14⟩) := by
  intro n
  induction n with
  | zero =>
    intro i ver l hl hn
    obtain rfl : i = ks.length := by omega
    rw [round14ae f g ks ws ver ver0 n0 l cd hb]
    simp
  | succ n ih =>
    intro i ver l hl hn
    have hi : i < ks.length := by omega
    rw [round14a f g ks ws hk ver ver0 n0 l (by omega) i hi (hs ks[i] (List.getElem_mem _)) cd hb, ih (i + 1) (ver + 20) (l ++ kb ks[i]) (by rw [List.length_append, kb_len]; omega) (by omega), List.drop_eq_getElem_cons hi]
    rw [List.flatMap_cons, List.append_assoc, show ver + 20 + 20 * n = ver + 20 * (n + 1) by omega]
def tq14d (o : AV) (i : Nat) : List (Nat × AV) := [(1, .ptr 0 0 0 0), (3, o), (10, i64 i)]
theorem round14d (f g : Bool) (ks : List Kd) (ws : List Wp) (hk : ws.length ≤ 16) (ver ver0 n0 : Nat) (l : List Nat) (hl : l.length ≤ 60000) (i : Nat) (hi : i < ws.length) (hok : weaponOk ws[i] = true) (cd : Code) (hb : cd = lp14x3) :
    loopL KE cd 2 (T.of (tq14d (.ref 1 ver0 0 n0) 0)) ⟨T.of (tq14d (.ref 1 ver 0 l.length) i), hR f g ks ws ver l, [], KE.keep 14⟩ =
    loopL KE cd 2 (T.of (tq14d (.ref 1 ver0 0 n0) 0)) ⟨T.of (tq14d (.ref 1 (ver + 3) 0 (l ++ wb ws[i]).length) (i + 1)), hR f g ks ws (ver + 3) (l ++ wb ws[i]), [], KE.keep 14⟩ := by
  subst hb
  have hlen := wl_len ws
  have n1 := wl_nth ws i hi
  have i1 : (i : Int) < (ws.length : Int) := by omega
  have i2 : (0 : Int) ≤ (i : Int) := by omega
  have i3 : (i : Int).toNat = i := by omega
  have i4 := wrapN i (by omega)
  generalize ws[i] = w at *
  have hsp := weapon_speed hok
  have hd : 0 ≤ w.damage ∧ w.damage ≤ 65535 := by
    simp only [weaponOk, Bool.and_eq_true, rng, decide_eq_true_eq] at hok
    omega
  obtain ⟨u, hu⟩ : ∃ u : Int, (if w.under = true then 1 else 0) = u := ⟨_, rfl⟩
  have w0 : IntKind.u64.wrap w.damage = ((w.damage.toNat : Nat) : Int) := by rw [wrapU _ hd.1 (by omega)]; omega
  obtain ⟨fq, pq⟩ := put_all w.damage.toNat 2 (by omega) (by omega) (by omega)
  have htw := tw_le w.damage hd.1
  generalize w.damage.toNat = m at *
  obtain ⟨x0, x1, hx⟩ : ∃ x0 x1, le 2 m = [x0, x1] := ⟨_, _, rfl⟩
  obtain ⟨y0, y1, y2, y3, y4, y5, y6, y7, hy⟩ := le8 (flB w.speed)
  have e : l ++ wb w = l ++ [x0, x1] ++ [b8 w.reach, b8 w.reload, b8 w.splash, b8 u] ++ [y0, y1, y2, y3, y4, y5, y6, y7] := by simp [wb, hu, htw, hx, hy]
  have hb4 : bt (l ++ wb w) = bt l ++ [[u8 x0], [u8 x1]] ++ [[u8 (b8 w.reach)], [u8 (b8 w.reload)], [u8 (b8 w.splash)], [u8 (b8 u)]] ++ [[u8 y0], [u8 y1], [u8 y2], [u8 y3], [u8 y4], [u8 y5], [u8 y6], [u8 y7]] := by rw [e]; simp [bt]
  have z4 : (l ++ wb w).length = l.length + 2 + 4 + 8 := by rw [e]; simp
  have r1 := room34 (l.length + 2) (by omega)
  have r2 := room34 (l.length + 2 + 4) (by omega)
  have r3 := room34 (l.length + 2 + 4 + 8) (by omega)
  have b1 := bt_len l
  have t1 := tk_all (bt l) l.length b1
  have q2 : (bt l ++ [[u8 x0], [u8 x1]]).length = l.length + 2 := by simp [bt]
  have t2 := tk_all (bt l ++ [[u8 x0], [u8 x1]]) (l.length + 2) q2
  have q3 : (bt l ++ [[u8 x0], [u8 x1]] ++ [[u8 (b8 w.reach)], [u8 (b8 w.reload)], [u8 (b8 w.splash)], [u8 (b8 u)]]).length = l.length + 2 + 4 := by simp [bt]
  have t3 := tk_all (bt l ++ [[u8 x0], [u8 x1]] ++ [[u8 (b8 w.reach)], [u8 (b8 w.reload)], [u8 (b8 w.splash)], [u8 (b8 u)]]) (l.length + 2 + 4) q3
  have wa := wrap8i w.reach
  have wb' := wrap8i w.reload
  have wc := wrap8i w.splash
  have wd := wrap8i u
  have fe := float_e w.speed hsp.1 (by omega)
  obtain ⟨fp, pe⟩ := put_all (flB w.speed) 8 (flB_lt _ hsp.1 (by omega)) (by omega) (by omega)
  rw [hy] at pe
  rw [hx] at pq
  have c8 : ((8 : Nat) : Int) = 8 := rfl
  have c2 : ((2 : Nat) : Int) = 2 := rfl
  rw [c8] at pe
  rw [c2] at pq
  have be : bt [y0, y1, y2, y3, y4, y5, y6, y7] = [[u8 y0], [u8 y1], [u8 y2], [u8 y3], [u8 y4], [u8 y5], [u8 y6], [u8 y7]] := rfl
  have bq : bt [x0, x1] = [[u8 x0], [u8 x1]] := rfl
  rw [be] at pe
  rw [bq] at pq
  have hv : ver + 3 = ver + 1 + 1 + 1 := rfl
  rw [hv]
  simp only [hR, hb4, z4]
  rw [loopL_go]
  conv in (goX _ _ _ _) => rw [show lp14x3 = _ from by simp only [lp14x3, subC, codeOf, Try.f14]; rfl]
  cases hun : w.under
  · obtain rfl : u = 0 := by rw [← hu, hun]; rfl
    simp only [tb14, tq14d, Wp.cells, hlen, n1, i1, i2, i3, i4, hun, w0, pq, wa, wb', wc, wd, fe, pe, r1, r2, r3, t1, t2, t3, b1, q2, q3, RR, RC, FF, gd, noDef, kindOf, sl1, allocs, isLit, ↓br_i, ↓reduceIte, reduceCtorEq, List.replicate, decide_eq_true_eq, decide_eq_false_iff_not, decide_true, decide_false, beq_self_eq_true, if_true, if_false, ite_not, Nat.le_refl, Int.cast_ofNat_Int, Nat.reduceAdd, Nat.reduceMul, Nat.reduceDiv, Nat.reduceMod, Nat.reduceSub, Nat.reduceEqDiff, Nat.reduceLT, Nat.reduceLeDiff, Nat.reduceBeqDiff, Int.reduceLT, Int.reduceLE, Int.reduceEq, Int.reduceToNat, Int.reduceAdd, Int.reduceSub, Int.reduceMul, Int.reduceNeg]
  · obtain rfl : u = 1 := by rw [← hu, hun]; rfl
    simp only [tb14, tq14d, Wp.cells, hlen, n1, i1, i2, i3, i4, hun, w0, pq, wa, wb', wc, wd, fe, pe, r1, r2, r3, t1, t2, t3, b1, q2, q3, RR, RC, FF, gd, noDef, kindOf, sl1, allocs, isLit, ↓br_i, ↓reduceIte, reduceCtorEq, List.replicate, decide_eq_true_eq, decide_eq_false_iff_not, decide_true, decide_false, beq_self_eq_true, if_true, if_false, ite_not, Nat.le_refl, Int.cast_ofNat_Int, Nat.reduceAdd, Nat.reduceMul, Nat.reduceDiv, Nat.reduceMod, Nat.reduceSub, Nat.reduceEqDiff, Nat.reduceLT, Nat.reduceLeDiff, Nat.reduceBeqDiff, Int.reduceLT, Int.reduceLE, Int.reduceEq, Int.reduceToNat, Int.reduceAdd, Int.reduceSub, Int.reduceMul, Int.reduceNeg]
theorem round14de (f g : Bool) (ks : List Kd) (ws : List Wp) (ver ver0 n0 : Nat) (l : List Nat) (cd : Code) (hb : cd = lp14x3) :
    loopL KE cd 2 (T.of (tq14d (.ref 1 ver0 0 n0) 0)) ⟨T.of (tq14d (.ref 1 ver 0 l.length) ws.length), hR f g ks ws ver l, [], KE.keep 14⟩ =
    some (.exit 6, ⟨T.of (tq14d (.ref 1 ver 0 l.length) ws.length ++ [(110, bl false)]), hR f g ks ws ver l, [], KE.keep 14⟩) := by
  subst hb
  have hlen := wl_len ws
  have i1 : ¬ (ws.length : Int) < (ws.length : Int) := by omega
  simp only [hR]
  rw [loopL_go]
  conv in (goX _ _ _ _) => rw [show lp14x3 = _ from by simp only [lp14x3, subC, codeOf, Try.f14]; rfl]
  simp only [tb14, tq14d, hlen, i1, RR, RC, FF, gd, noDef, kindOf, sl1, allocs, isLit, ↓br_i, ↓reduceIte, reduceCtorEq, List.replicate, decide_eq_true_eq, decide_eq_false_iff_not, decide_true, decide_false, beq_self_eq_true, if_true, if_false, ite_not, Nat.le_refl, Int.cast_ofNat_Int, Nat.reduceAdd, Nat.reduceMul, Nat.reduceDiv, Nat.reduceMod, Nat.reduceSub, Nat.reduceEqDiff, Nat.reduceLT, Nat.reduceLeDiff, Nat.reduceBeqDiff, Int.reduceLT, Int.reduceLE, Int.reduceEq, Int.reduceToNat, Int.reduceAdd, Int.reduceSub, Int.reduceMul, Int.reduceNeg]
theorem loop14d (f g : Bool) (ks : List Kd) (ws : List Wp) (hk : ws.length ≤ 16) (hs : ∀ k ∈ ws, weaponOk k = true) (ver0 n0 : Nat) (cd : Code) (hb : cd = lp14x3) : ∀ (n i ver : Nat) (l : List Nat), l.length + 14 * n ≤ 60000 → i + n = ws.length →
    loopL KE cd 2 (T.of (tq14d (.ref 1 ver0 0 n0) 0)) ⟨T.of (tq14d (.ref 1 ver 0 l.length) i), hR f g ks ws ver l, [], KE.keep 14⟩ =
    some (.exit 6, ⟨T.of (tq14d (.ref 1 (ver + 3 * n) 0 (l ++ (ws.drop i).flatMap wb).length) ws.length ++ [(110, bl false)]), hR f g ks ws (ver + 3 * n) (l ++ (ws.drop i).flatMap wb), [], KE.keep 14⟩) := by
  intro n
  induction n with
  | zero =>
    intro i ver l hl hn
    obtain rfl : i = ws.length := by omega
    rw [round14de f g ks ws ver ver0 n0 l cd hb]
    simp
  | succ n ih =>
    intro i ver l hl hn
    have hi : i < ws.length := by omega
    rw [round14d f g ks ws hk ver ver0 n0 l (by omega) i hi (hs ws[i] (List.getElem_mem _)) cd hb, ih (i + 1) (ver + 3) (l ++ wb ws[i]) (by rw [List.length_append, wb_len]; omega) (by omega), List.drop_eq_getElem_cons hi]
    rw [List.flatMap_cons, List.append_assoc, show ver + 3 + 3 * n = ver + 3 * (n + 1) by omega]
theorem refEncode_c (f g : Bool) (ks : List Kd) (ws : List Wp) (hc : (chk ks ws).1 = 0) :
    callL KE 14 [.agg (bookA f g ks ws)] [] = some (.ret (.ref 1 (20 * ks.length + 3 * ws.length) 0 (bb ks ws).length), hR f g ks ws (20 * ks.length + 3 * ws.length) (bb ks ws)) := by
  obtain ⟨hc, hk0, hk, hw, sk, sw⟩ := chk_zero hc
  have hlen := kl_len ks
  have hlew := wl_len ws
  have k1 := loop14a f g ks ws hk sk 0 2 lp14x0 rfl ks.length 0 0 [b8 ks.length, b8 ws.length] (by simp; omega) (by omega)
  have k2 := loop14d f g ks ws hw sw (20 * ks.length) ([b8 ks.length, b8 ws.length] ++ ks.flatMap kb).length lp14x3 rfl ws.length 0 (20 * ks.length) ([b8 ks.length, b8 ws.length] ++ ks.flatMap kb) (by rw [List.length_append, flat_len kb 35 kb_len]; simp; omega) (by omega)
  rw [List.drop_zero] at k1 k2
  rw [Nat.zero_add] at k1
  rw [show [b8 ks.length, b8 ws.length] ++ ks.flatMap kb ++ ws.flatMap wb = bb ks ws from List.append_assoc _ _ _] at k2
  generalize [b8 ks.length, b8 ws.length] ++ ks.flatMap kb = l1 at k1 k2
  generalize bb ks ws = l2 at k2 ⊢
  generalize 20 * ks.length = v1 at k1 k2 ⊢
  generalize v1 + 3 * ws.length = v2 at k2 ⊢
  have h0 : bt [b8 ks.length, b8 ws.length] = [[u8 (b8 ks.length)], [u8 (b8 ws.length)]] := rfl
  have w1 := wrap8i ks.length
  have w2 := wrap8i ws.length
  simp only [hR, h0] at k1
  simp only [hR] at k2
  simp only [tq14a, RR, RC, FF, gd, noDef, kindOf, sl1, allocs, isLit, ↓br_i, ↓reduceIte, reduceCtorEq, List.replicate, decide_eq_true_eq, decide_eq_false_iff_not, decide_true, decide_false, beq_self_eq_true, if_true, if_false, ite_not, Nat.le_refl, Int.cast_ofNat_Int, Nat.reduceAdd, Nat.reduceMul, Nat.reduceDiv, Nat.reduceMod, Nat.reduceSub, Nat.reduceEqDiff, Nat.reduceLT, Nat.reduceLeDiff, Nat.reduceBeqDiff, Int.reduceLT, Int.reduceLE, Int.reduceEq, Int.reduceToNat, Int.reduceAdd, Int.reduceSub, Int.reduceMul, Int.reduceNeg] at k1
  simp only [tq14d, RR, RC, FF, gd, noDef, kindOf, sl1, allocs, isLit, ↓br_i, ↓reduceIte, reduceCtorEq, List.replicate, decide_eq_true_eq, decide_eq_false_iff_not, decide_true, decide_false, beq_self_eq_true, if_true, if_false, ite_not, Nat.le_refl, Int.cast_ofNat_Int, Nat.reduceAdd, Nat.reduceMul, Nat.reduceDiv, Nat.reduceMod, Nat.reduceSub, Nat.reduceEqDiff, Nat.reduceLT, Nat.reduceLeDiff, Nat.reduceBeqDiff, Int.reduceLT, Int.reduceLE, Int.reduceEq, Int.reduceToNat, Int.reduceAdd, Int.reduceSub, Int.reduceMul, Int.reduceNeg] at k2
  conv at k1 in lp14x0 => simp only [lp14x0, subC, codeOf, Try.f14]
  conv at k2 in lp14x3 => simp only [lp14x3, subC, codeOf, Try.f14]
  rw [cu14]
  conv in codeOf _ => simp only [codeOf, Try.f14]
  simp only [tb14, bookA, hlen, hlew, w1, w2, RR, RC, FF, gd, noDef, kindOf, sl1, allocs, isLit, ↓br_i, ↓reduceIte, reduceCtorEq, List.replicate, decide_eq_true_eq, decide_eq_false_iff_not, decide_true, decide_false, beq_self_eq_true, if_true, if_false, ite_not, Nat.le_refl, Int.cast_ofNat_Int, Nat.reduceAdd, Nat.reduceMul, Nat.reduceDiv, Nat.reduceMod, Nat.reduceSub, Nat.reduceEqDiff, Nat.reduceLT, Nat.reduceLeDiff, Nat.reduceBeqDiff, Int.reduceLT, Int.reduceLE, Int.reduceEq, Int.reduceToNat, Int.reduceAdd, Int.reduceSub, Int.reduceMul, Int.reduceNeg]
  rw [k1]
  simp only [tb14, hlen, hlew, RR, RC, FF, gd, noDef, kindOf, sl1, allocs, isLit, ↓br_i, ↓reduceIte, reduceCtorEq, List.replicate, decide_eq_true_eq, decide_eq_false_iff_not, decide_true, decide_false, beq_self_eq_true, if_true, if_false, ite_not, Nat.le_refl, Int.cast_ofNat_Int, Nat.reduceAdd, Nat.reduceMul, Nat.reduceDiv, Nat.reduceMod, Nat.reduceSub, Nat.reduceEqDiff, Nat.reduceLT, Nat.reduceLeDiff, Nat.reduceBeqDiff, Int.reduceLT, Int.reduceLE, Int.reduceEq, Int.reduceToNat, Int.reduceAdd, Int.reduceSub, Int.reduceMul, Int.reduceNeg]
  rw [k2]
  simp only [tb14, hR, RR, RC, FF, gd, noDef, kindOf, sl1, allocs, isLit, ↓br_i, ↓reduceIte, reduceCtorEq, List.replicate, decide_eq_true_eq, decide_eq_false_iff_not, decide_true, decide_false, beq_self_eq_true, if_true, if_false, ite_not, Nat.le_refl, Int.cast_ofNat_Int, Nat.reduceAdd, Nat.reduceMul, Nat.reduceDiv, Nat.reduceMod, Nat.reduceSub, Nat.reduceEqDiff, Nat.reduceLT, Nat.reduceLeDiff, Nat.reduceBeqDiff, Int.reduceLT, Int.reduceLE, Int.reduceEq, Int.reduceToNat, Int.reduceAdd, Int.reduceSub, Int.reduceMul, Int.reduceNeg]
theorem refEncode_e (f g : Bool) (ks : List Kd) (ws : List Wp) (hc : (chk ks ws).1 = 0) : ∃ f', ∀ h : Heap, callEL KE 14 [.agg (bookA f g ks ws)] h = some (.val (.sl f' (bt (bb ks ws))) h fp0) := by
  have hl := bt_len (bb ks ws)
  have hlen := kl_len ks
  have hc := refEncode_c f g ks ws hc
  generalize bb ks ws = l at *
  generalize 20 * ks.length + 3 * ws.length = v at *
  obtain ⟨X, hX⟩ : ∃ X, outOf (KE.way 14) (hR f g ks ws v l) [] (.ref 1 v 0 l.length) = X := ⟨_, rfl⟩
  have hO := hX
  have pwf : KE.way 14 = ⟨false, false, false⟩ := rfl
  simp only [pwf, hl, hR, nth_eq, callBy, inOf, meets, allLt, memFor, roReg, back, outOf, outRefs, keeps, freezeOut, freeze1, sameVer, backTo, wroteBack, writeBack, markRo, marksOf, outσ, baseOf, ifWr, getD0, hasSl, hasSlL, regRefs, List.range, List.range.loop, List.filter, List.map, slRefs, slRefsL, List.isEmpty, mem, RR, RC, FF, gd, noDef, kindOf, sl1, allocs, isLit, ↓br_i, ↓reduceIte, reduceCtorEq, List.replicate, decide_eq_true_eq, decide_eq_false_iff_not, decide_true, decide_false, beq_self_eq_true, if_true, if_false, ite_not, Nat.le_refl, Int.cast_ofNat_Int, Nat.reduceAdd, Nat.reduceMul, Nat.reduceDiv, Nat.reduceMod, Nat.reduceSub, Nat.reduceEqDiff, Nat.reduceLT, Nat.reduceLeDiff, Nat.reduceBeqDiff, Int.reduceLT, Int.reduceLE, Int.reduceEq, Int.reduceToNat, Int.reduceAdd, Int.reduceSub, Int.reduceMul, Int.reduceNeg] at hX
  rw [if_pos (by omega), tk_all _ _ hl] at hX
  exact ⟨false, fun h => call_val (E := KE) (f := 14) rfl rfl rfl hc (hO.trans hX.symm) rfl⟩
end Go.AM
