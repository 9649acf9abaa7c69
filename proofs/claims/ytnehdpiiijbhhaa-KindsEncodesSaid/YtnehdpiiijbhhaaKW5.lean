/- The program's encoder's loop over the kinds, in the machine. -/
import Derived.Test.YtnehdpiiijbhhaaKW4
set_option autoImplicit false
set_option maxRecDepth 100000
set_option linter.unusedSimpArgs false
set_option linter.unusedVariables false
namespace Go.AM
open Go Go.RowKit Go.Proofs

/-- A kind's bytes. -/
def kb (k : Kd) : List Nat := [b8 k.cls] ++ ([k.health, k.turn, k.metal, k.energy, k.work, k.storeM, k.storeE, k.wreck].flatMap tw ++ ([k.sight, k.radar, k.sonar, k.jam, k.giveM, k.giveE, k.eatE, k.build, k.carry, k.weapon].map b8 ++ le 8 (flB k.speed)))
theorem kb_len (k : Kd) : (kb k).length = 35 := by simp [kb, tw, le_len]
def hE (f g : Bool) (ks : List Kd) (ws : List Wp) (ver : Nat) (l : List Nat) : Heap :=
  [.arr 0 false 2 [] [[.sl f (kl ks), .sl g (wl ws)]], .arr 0 false 1 [3] [[.ref 3 ver 0 l.length]], .arr 0 true 1 [] [[i64 ks.length], [i64 ws.length]], .arr ver false 1 [] (bt l)]
def tq13 (f : Bool) (ks : List Kd) (i : Nat) : List (Nat × AV) := [(1, .ptr 0 0 0 0), (5, .ptr 1 0 0 0), (27, .sl f (kl ks)), (28, i64 ks.length), (29, i64 i)]
theorem ones_w (ns : List Int) (hns : ns.length ≤ 100) (ver ver' : Nat) (l l' : List Nat) (hl : l.length ≤ 80000) (hv : ver' = ver + ns.length) (e : l ++ ns.map b8 = l') (f : Bool) :
    callL KE 24 [.ptr 0 0 0 0, .sl f (il ns)] (wH ver l) = some (.ret (.tup []), wH ver' l') := by rw [hv, ← e]; exact ones_c f ns hns ver l hl
theorem twos_w (ns : List Int) (hns : ns.length ≤ 100) (ver ver' : Nat) (l l' : List Nat) (hl : l.length ≤ 80000) (hv : ver' = ver + ns.length) (e : l ++ ns.flatMap tw = l') (f : Bool) :
    callL KE 25 [.ptr 0 0 0 0, .sl f (il ns)] (wH ver l) = some (.ret (.tup []), wH ver' l') := by rw [hv, ← e]; exact twos_c f ns hns ver l hl
theorem speed_w (v : Int) (h0 : 0 ≤ v) (h1 : v ≤ 262144) (ver ver' : Nat) (l l' : List Nat) (hl : l.length ≤ 80000) (hv : ver' = ver + 8) (e : l ++ le 8 (flB v) = l') :
    callL KE 26 [.ptr 0 0 0 0, i64 v] (wH ver l) = some (.ret (.tup []), wH ver' l') := by rw [hv, ← e]; exact speed_c v h0 h1 ver l hl
theorem round13 (f g : Bool) (ks : List Kd) (ws : List Wp) (hk : ks.length ≤ 16) (ver : Nat) (l : List Nat) (hl : l.length ≤ 70000) (i : Nat) (hi : i < ks.length) (h0 : 0 ≤ ks[i].speed) (h1 : ks[i].speed ≤ 65536) (cd : Code) (hb : cd = lp13x0) :
    loopL KE cd 4 (T.of (tq13 f ks 0)) ⟨T.of (tq13 f ks i), hE f g ks ws ver l, [], KE.keep 13⟩ =
    loopL KE cd 4 (T.of (tq13 f ks 0)) ⟨T.of (tq13 f ks (i + 1)), hE f g ks ws (ver + 27) (l ++ kb ks[i]), [], KE.keep 13⟩ := by
  subst hb
  have hlen := kl_len ks
  have n1 := kl_nth ks i hi
  have i1 : (i : Int) < (ks.length : Int) := by omega
  have i2 : (0 : Int) ≤ (i : Int) := by omega
  have i3 : (i : Int).toNat = i := by omega
  have i4 := wrapN i (by omega)
  generalize ks[i] = k at *
  obtain ⟨l1, e1⟩ : ∃ l1, l ++ [k.cls].map b8 = l1 := ⟨_, rfl⟩
  obtain ⟨l2, e2⟩ : ∃ l2, l1 ++ [k.health, k.turn, k.metal, k.energy, k.work, k.storeM, k.storeE, k.wreck].flatMap tw = l2 := ⟨_, rfl⟩
  obtain ⟨l3, e3⟩ : ∃ l3, l2 ++ [k.sight, k.radar, k.sonar, k.jam, k.giveM, k.giveE, k.eatE, k.build, k.carry, k.weapon].map b8 = l3 := ⟨_, rfl⟩
  obtain ⟨l4, e4⟩ : ∃ l4, l3 ++ le 8 (flB k.speed) = l4 := ⟨_, rfl⟩
  have z1 : l1.length = l.length + 1 := by rw [← e1]; simp
  have z2 : l2.length = l1.length + 16 := by rw [← e2]; simp [tw]
  have z3 : l3.length = l2.length + 10 := by rw [← e3]; simp
  have e : l ++ kb k = l4 := by rw [← e4, ← e3, ← e2, ← e1]; simp [kb]
  have o1 := ones_w [k.cls] (by simp) ver (ver + 1) l l1 (by omega) rfl e1
  have o2 := twos_w [k.health, k.turn, k.metal, k.energy, k.work, k.storeM, k.storeE, k.wreck] (by simp) (ver + 1) (ver + 9) l1 l2 (by omega) rfl e2
  have o3 := ones_w [k.sight, k.radar, k.sonar, k.jam, k.giveM, k.giveE, k.eatE, k.build, k.carry, k.weapon] (by simp) (ver + 9) (ver + 19) l2 l3 (by omega) rfl e3
  have o4 := speed_w k.speed h0 (by omega) (ver + 19) (ver + 27) l3 l4 (by omega) rfl e4
  rw [e]
  simp only [il, wH, List.map_cons, List.map_nil] at o1 o2 o3 o4
  have cq24 := callEL_eq KE 24
  have pw24 : KE.way 24 = ⟨true, false, false⟩ := rfl
  have px24 : KE.ext 24 = none := rfl
  have cq25 := callEL_eq KE 25
  have pw25 : KE.way 25 = ⟨true, false, false⟩ := rfl
  have px25 : KE.ext 25 = none := rfl
  have cq26 := callEL_eq KE 26
  have pw26 : KE.way 26 = ⟨true, false, false⟩ := rfl
  have px26 : KE.ext 26 = none := rfl
  rw [loopL_go]
  conv in (goX _ _ _ _) => rw [show lp13x0 = _ from by simp only [lp13x0, subC, codeOf, Try.f13]; rfl]
  simp only [tb13, tq13, hE, Kd.cells, hlen, n1, i1, i2, i3, i4, o1, o2, o3, o4, cq24, pw24, px24, cq25, pw25, px25, cq26, pw26, px26, nth_eq, callBy, inOf, meets, allLt, memFor, roReg, back, outOf, outRefs, keeps, freezeOut, freeze1, sameVer, backTo, wroteBack, writeBack, markRo, marksOf, outσ, baseOf, ifWr, getD0, hasSl, hasSlL, regRefs, List.range, List.range.loop, List.filter, List.map, slRefs, slRefsL, List.isEmpty, mem, RR, RC, FF, gd, noDef, kindOf, sl1, allocs, isLit, ↓br_i, ↓reduceIte, reduceCtorEq, List.replicate, decide_eq_true_eq, decide_eq_false_iff_not, decide_true, decide_false, beq_self_eq_true, if_true, if_false, ite_not, Nat.le_refl, Int.cast_ofNat_Int, Nat.reduceAdd, Nat.reduceMul, Nat.reduceDiv, Nat.reduceMod, Nat.reduceSub, Nat.reduceEqDiff, Nat.reduceLT, Nat.reduceLeDiff, Nat.reduceBeqDiff, Int.reduceLT, Int.reduceLE, Int.reduceEq, Int.reduceToNat, Int.reduceAdd, Int.reduceSub, Int.reduceMul, Int.reduceNeg]
theorem round13e (f g : Bool) (ks : List Kd) (ws : List Wp) (ver : Nat) (l : List Nat) (cd : Code) (hb : cd = lp13x0) :
    loopL KE cd 4 (T.of (tq13 f ks 0)) ⟨T.of (tq13 f ks ks.length), hE f g ks ws ver l, [], KE.keep 13⟩ = some (.exit 0, ⟨T.of (tq13 f ks ks.length ++ [(30, bl false)]), hE f g ks ws ver l, [], KE.keep 13⟩) := by
  subst hb
  have hlen := kl_len ks
  have i1 : ¬ (ks.length : Int) < (ks.length : Int) := by omega
  simp only [hE]
  rw [loopL_go]
  conv in (goX _ _ _ _) => rw [show lp13x0 = _ from by simp only [lp13x0, subC, codeOf, Try.f13]; rfl]
  simp only [tb13, tq13, hlen, i1, RR, RC, FF, gd, noDef, kindOf, sl1, allocs, isLit, ↓br_i, ↓reduceIte, reduceCtorEq, List.replicate, decide_eq_true_eq, decide_eq_false_iff_not, decide_true, decide_false, beq_self_eq_true, if_true, if_false, ite_not, Nat.le_refl, Int.cast_ofNat_Int, Nat.reduceAdd, Nat.reduceMul, Nat.reduceDiv, Nat.reduceMod, Nat.reduceSub, Nat.reduceEqDiff, Nat.reduceLT, Nat.reduceLeDiff, Nat.reduceBeqDiff, Int.reduceLT, Int.reduceLE, Int.reduceEq, Int.reduceToNat, Int.reduceAdd, Int.reduceSub, Int.reduceMul, Int.reduceNeg]
theorem loop13 (f g : Bool) (ks : List Kd) (ws : List Wp) (hk : ks.length ≤ 16) (hs : ∀ k ∈ ks, 0 ≤ k.speed ∧ k.speed ≤ 65536) (cd : Code) (hb : cd = lp13x0) : ∀ (n i ver : Nat) (l : List Nat), l.length + 35 * n ≤ 70000 → i + n = ks.length →
    loopL KE cd 4 (T.of (tq13 f ks 0)) ⟨T.of (tq13 f ks i), hE f g ks ws ver l, [], KE.keep 13⟩ = some (.exit 0, ⟨T.of (tq13 f ks ks.length ++ [(30, bl false)]), hE f g ks ws (ver + 27 * n) (l ++ (ks.drop i).flatMap kb), [], KE.keep 13⟩) := by
  intro n
  induction n with
  | zero =>
    intro i ver l hl hn
    obtain rfl : i = ks.length := by omega
    rw [round13e f g ks ws ver l cd hb]
    simp
  | succ n ih =>
    intro i ver l hl hn
    have hi : i < ks.length := by omega
    have hsp := hs ks[i] (List.getElem_mem _)
    rw [round13 f g ks ws hk ver l (by omega) i hi hsp.1 hsp.2 cd hb, ih (i + 1) (ver + 27) (l ++ kb ks[i]) (by rw [List.length_append, kb_len]; omega) (by omega), List.drop_eq_getElem_cons hi]
    rw [List.flatMap_cons, List.append_assoc, show ver + 27 + 27 * n = ver + 27 * (n + 1) by omega]
/-- A weapon's bytes. -/
def wb (w : Wp) : List Nat := tw w.damage ++ ([w.reach, w.reload, w.splash, if w.under = true then 1 else 0].map b8 ++ le 8 (flB w.speed))
theorem wb_len (w : Wp) : (wb w).length = 14 := by simp [wb, tw, le_len]
def tw13 (g : Bool) (ws : List Wp) (i : Nat) : List (Nat × AV) := [(5, .ptr 1 0 0 0), (82, .sl g (wl ws)), (83, i64 ws.length), (84, i64 i)]
theorem roundw (f g : Bool) (ks : List Kd) (ws : List Wp) (hk : ws.length ≤ 16) (ver : Nat) (l : List Nat) (hl : l.length ≤ 70000) (i : Nat) (hi : i < ws.length) (h0 : 0 ≤ ws[i].speed) (h1 : ws[i].speed ≤ 262144) (cd : Code) (hb : cd = lp13x1) :
    loopL KE cd 4 (T.of (tw13 g ws 0)) ⟨T.of (tw13 g ws i), hE f g ks ws ver l, [], KE.keep 13⟩ =
    loopL KE cd 4 (T.of (tw13 g ws 0)) ⟨T.of (tw13 g ws (i + 1)), hE f g ks ws (ver + 13) (l ++ wb ws[i]), [], KE.keep 13⟩ := by
  subst hb
  have hlen := wl_len ws
  have n1 := wl_nth ws i hi
  have i1 : (i : Int) < (ws.length : Int) := by omega
  have i2 : (0 : Int) ≤ (i : Int) := by omega
  have i3 : (i : Int).toNat = i := by omega
  have i4 := wrapN i (by omega)
  generalize ws[i] = w at *
  obtain ⟨u, hu⟩ : ∃ u : Int, (if w.under = true then 1 else 0) = u := ⟨_, rfl⟩
  obtain ⟨l2, e2⟩ : ∃ l2, l ++ [w.damage].flatMap tw = l2 := ⟨_, rfl⟩
  obtain ⟨l3, e3⟩ : ∃ l3, l2 ++ [w.reach, w.reload, w.splash, u].map b8 = l3 := ⟨_, rfl⟩
  obtain ⟨l4, e4⟩ : ∃ l4, l3 ++ le 8 (flB w.speed) = l4 := ⟨_, rfl⟩
  have z2 : l2.length = l.length + 2 := by rw [← e2]; simp [tw]
  have z3 : l3.length = l2.length + 4 := by rw [← e3]; simp
  have e : l ++ wb w = l4 := by rw [← e4, ← e3, ← e2]; simp [wb, hu]
  have o2 := twos_w [w.damage] (by simp) ver (ver + 1) l l2 (by omega) rfl e2
  have o3 := ones_w [w.reach, w.reload, w.splash, u] (by simp) (ver + 1) (ver + 5) l2 l3 (by omega) rfl e3
  have o4 := speed_w w.speed h0 h1 (ver + 5) (ver + 13) l3 l4 (by omega) rfl e4
  rw [e]
  simp only [il, wH, List.map_cons, List.map_nil] at o2 o3 o4
  have cq24 := callEL_eq KE 24
  have pw24 : KE.way 24 = ⟨true, false, false⟩ := rfl
  have px24 : KE.ext 24 = none := rfl
  have cq25 := callEL_eq KE 25
  have pw25 : KE.way 25 = ⟨true, false, false⟩ := rfl
  have px25 : KE.ext 25 = none := rfl
  have cq26 := callEL_eq KE 26
  have pw26 : KE.way 26 = ⟨true, false, false⟩ := rfl
  have px26 : KE.ext 26 = none := rfl
  rw [loopL_go]
  conv in (goX _ _ _ _) => rw [show lp13x1 = _ from by simp only [lp13x1, subC, codeOf, Try.f13]; rfl]
  cases hun : w.under
  · obtain rfl : u = 0 := by rw [← hu, hun]; rfl
    simp only [tb13, tw13, hE, Wp.cells, hlen, n1, i1, i2, i3, i4, hun, o2, o3, o4, cq24, pw24, px24, cq25, pw25, px25, cq26, pw26, px26, nth_eq, callBy, inOf, meets, allLt, memFor, roReg, back, outOf, outRefs, keeps, freezeOut, freeze1, sameVer, backTo, wroteBack, writeBack, markRo, marksOf, outσ, baseOf, ifWr, getD0, hasSl, hasSlL, regRefs, List.range, List.range.loop, List.filter, List.map, slRefs, slRefsL, List.isEmpty, mem, RR, RC, FF, gd, noDef, kindOf, sl1, allocs, isLit, ↓br_i, ↓reduceIte, reduceCtorEq, List.replicate, decide_eq_true_eq, decide_eq_false_iff_not, decide_true, decide_false, beq_self_eq_true, if_true, if_false, ite_not, Nat.le_refl, Int.cast_ofNat_Int, Nat.reduceAdd, Nat.reduceMul, Nat.reduceDiv, Nat.reduceMod, Nat.reduceSub, Nat.reduceEqDiff, Nat.reduceLT, Nat.reduceLeDiff, Nat.reduceBeqDiff, Int.reduceLT, Int.reduceLE, Int.reduceEq, Int.reduceToNat, Int.reduceAdd, Int.reduceSub, Int.reduceMul, Int.reduceNeg]
  · obtain rfl : u = 1 := by rw [← hu, hun]; rfl
    simp only [tb13, tw13, hE, Wp.cells, hlen, n1, i1, i2, i3, i4, hun, o2, o3, o4, cq24, pw24, px24, cq25, pw25, px25, cq26, pw26, px26, nth_eq, callBy, inOf, meets, allLt, memFor, roReg, back, outOf, outRefs, keeps, freezeOut, freeze1, sameVer, backTo, wroteBack, writeBack, markRo, marksOf, outσ, baseOf, ifWr, getD0, hasSl, hasSlL, regRefs, List.range, List.range.loop, List.filter, List.map, slRefs, slRefsL, List.isEmpty, mem, RR, RC, FF, gd, noDef, kindOf, sl1, allocs, isLit, ↓br_i, ↓reduceIte, reduceCtorEq, List.replicate, decide_eq_true_eq, decide_eq_false_iff_not, decide_true, decide_false, beq_self_eq_true, if_true, if_false, ite_not, Nat.le_refl, Int.cast_ofNat_Int, Nat.reduceAdd, Nat.reduceMul, Nat.reduceDiv, Nat.reduceMod, Nat.reduceSub, Nat.reduceEqDiff, Nat.reduceLT, Nat.reduceLeDiff, Nat.reduceBeqDiff, Int.reduceLT, Int.reduceLE, Int.reduceEq, Int.reduceToNat, Int.reduceAdd, Int.reduceSub, Int.reduceMul, Int.reduceNeg]
theorem roundwe (f g : Bool) (ks : List Kd) (ws : List Wp) (ver : Nat) (l : List Nat) (cd : Code) (hb : cd = lp13x1) :
    loopL KE cd 4 (T.of (tw13 g ws 0)) ⟨T.of (tw13 g ws ws.length), hE f g ks ws ver l, [], KE.keep 13⟩ = some (.exit 2, ⟨T.of (tw13 g ws ws.length ++ [(85, bl false)]), hE f g ks ws ver l, [], KE.keep 13⟩) := by
  subst hb
  have hlen := wl_len ws
  have i1 : ¬ (ws.length : Int) < (ws.length : Int) := by omega
  simp only [hE]
  rw [loopL_go]
  conv in (goX _ _ _ _) => rw [show lp13x1 = _ from by simp only [lp13x1, subC, codeOf, Try.f13]; rfl]
  simp only [tb13, tw13, hlen, i1, RR, RC, FF, gd, noDef, kindOf, sl1, allocs, isLit, ↓br_i, ↓reduceIte, reduceCtorEq, List.replicate, decide_eq_true_eq, decide_eq_false_iff_not, decide_true, decide_false, beq_self_eq_true, if_true, if_false, ite_not, Nat.le_refl, Int.cast_ofNat_Int, Nat.reduceAdd, Nat.reduceMul, Nat.reduceDiv, Nat.reduceMod, Nat.reduceSub, Nat.reduceEqDiff, Nat.reduceLT, Nat.reduceLeDiff, Nat.reduceBeqDiff, Int.reduceLT, Int.reduceLE, Int.reduceEq, Int.reduceToNat, Int.reduceAdd, Int.reduceSub, Int.reduceMul, Int.reduceNeg]
theorem loopw (f g : Bool) (ks : List Kd) (ws : List Wp) (hk : ws.length ≤ 16) (hs : ∀ k ∈ ws, 0 ≤ k.speed ∧ k.speed ≤ 262144) (cd : Code) (hb : cd = lp13x1) : ∀ (n i ver : Nat) (l : List Nat), l.length + 14 * n ≤ 70000 → i + n = ws.length →
    loopL KE cd 4 (T.of (tw13 g ws 0)) ⟨T.of (tw13 g ws i), hE f g ks ws ver l, [], KE.keep 13⟩ = some (.exit 2, ⟨T.of (tw13 g ws ws.length ++ [(85, bl false)]), hE f g ks ws (ver + 13 * n) (l ++ (ws.drop i).flatMap wb), [], KE.keep 13⟩) := by
  intro n
  induction n with
  | zero =>
    intro i ver l hl hn
    obtain rfl : i = ws.length := by omega
    rw [roundwe f g ks ws ver l cd hb]
    simp
  | succ n ih =>
    intro i ver l hl hn
    have hi : i < ws.length := by omega
    have hsp := hs ws[i] (List.getElem_mem _)
    rw [roundw f g ks ws hk ver l (by omega) i hi hsp.1 hsp.2 cd hb, ih (i + 1) (ver + 13) (l ++ wb ws[i]) (by rw [List.length_append, wb_len]; omega) (by omega), List.drop_eq_getElem_cons hi]
    rw [List.flatMap_cons, List.append_assoc, show ver + 13 + 13 * n = ver + 13 * (n + 1) by omega]
end Go.AM
