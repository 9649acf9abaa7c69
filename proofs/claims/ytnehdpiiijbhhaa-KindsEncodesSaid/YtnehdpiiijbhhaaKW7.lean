/- The reference's encoder's inner loops, in the machine. -/
import Derived.Test.YtnehdpiiijbhhaaKW6
set_option autoImplicit false
set_option maxRecDepth 100000
set_option linter.unusedSimpArgs false
set_option linter.unusedVariables false
namespace Go.AM
open Go Go.RowKit Go.Proofs

theorem tw_le (n : Int) (h : 0 ≤ n) : tw n = le 2 n.toNat := by
  have e : n = (n.toNat : Int) := by omega
  generalize n.toNat = m at e
  subst e
  have h1 : b8 (m : Int) = m % 256 := by unfold b8; omega
  have h2 : ((m : Int).fdiv 256) = ((m / 256 : Nat) : Int) := by rw [Int.fdiv_eq_ediv_of_nonneg _ (by omega)]; rfl
  have h3 : b8 ((m / 256 : Nat) : Int) = m / 256 % 256 := by unfold b8; omega
  simp only [tw, le, h1, h2, h3]
def hR (f g : Bool) (ks : List Kd) (ws : List Wp) (ver : Nat) (l : List Nat) : Heap := [.arr 0 false 2 [] [[.sl f (kl ks), .sl g (wl ws)]], .arr ver false 1 [] (bt l)]
def hRk (f g : Bool) (ks : List Kd) (ws : List Wp) (ver : Nat) (l : List Nat) (k : Kd) (ns : List Int) : Heap :=
  hR f g ks ws ver l ++ [.arr 0 false 20 [] [[i64 k.cls, i64 k.health, i64 k.speed, i64 k.turn, i64 k.sight, i64 k.radar, i64 k.sonar, i64 k.jam, i64 k.metal, i64 k.energy, i64 k.work, i64 k.giveM, i64 k.giveE, i64 k.eatE, i64 k.storeM, i64 k.storeE, i64 k.build, i64 k.carry, i64 k.weapon, i64 k.wreck]], .arr 0 false 1 [] [[u8 (b8 k.cls)]], .dead, .arr 0 false 1 [] (il ns)]
def tq14b (o : AV) (i : Nat) (ns : List Int) (j : Nat) : List (Nat × AV) := [(1, .ptr 0 0 0 0), (3, o), (4, i64 i), (5, .ptr 2 0 0 0), (56, .ref 5 0 0 ns.length), (57, i64 ns.length), (58, i64 j)]
theorem round14b (f g : Bool) (ks : List Kd) (ws : List Wp) (ver ver0 n0 : Nat) (l : List Nat) (hl : l.length ≤ 70000) (k : Kd) (ns : List Int) (hns : ns.length ≤ 100) (i j : Nat) (hj : j < ns.length) (h0 : 0 ≤ ns[j]) (h1 : ns[j] ≤ 65535) (cd : Code) (hb : cd = lp14x1) :
    loopL KE cd 6 (T.of (tq14b (.ref 1 ver0 0 n0) i ns 0)) ⟨T.of (tq14b (.ref 1 ver 0 l.length) i ns j), hRk f g ks ws ver l k ns, [], KE.keep 14⟩ =
    loopL KE cd 6 (T.of (tq14b (.ref 1 ver0 0 n0) i ns 0)) ⟨T.of (tq14b (.ref 1 (ver + 1) 0 (l ++ tw ns[j]).length) i ns (j + 1)), hRk f g ks ws (ver + 1) (l ++ tw ns[j]) k ns, [], KE.keep 14⟩ := by
  subst hb
  have n1 := il_nth ns j hj
  have hlen := il_len ns
  have i1 : (j : Int) < (ns.length : Int) := by omega
  have i2 : (0 : Int) ≤ (j : Int) := by omega
  have i3 : (j : Int).toNat = j := by omega
  have i4 := wrapN j (by omega)
  have w1 : IntKind.u64.wrap ns[j] = ((ns[j].toNat : Nat) : Int) := by rw [wrapU _ h0 (by omega)]; omega
  have pe : ∃ fp, ∀ h, callEL KE 27 [u64 (ns[j].toNat : Nat), i64 2] h = some (.val (.sl fp (bt (le 2 ns[j].toNat))) h fp0) := by
    have hl : (bt (le 2 ns[j].toNat)).length = 2 := by rw [bt_len, le_len]
    have : outOf (KE.way 27) [.arr 1 false 1 [] (bt (le 2 ns[j].toNat))] [] (.ref 0 1 0 2) = some ([0], .sl false (bt (le 2 ns[j].toNat))) := rfl
    exact ⟨false, fun h => call_val (E := KE) (f := 27) rfl rfl rfl (put_c ns[j].toNat 2 (by omega) (by omega) (by omega)) this rfl⟩
  obtain ⟨fp, pe⟩ := pe
  have hle : tw ns[j] = le 2 ns[j].toNat := tw_le _ h0
  rw [hle]
  generalize ns[j].toNat = m at *
  have hbt : bt (le 2 m) = [[u8 (m % 256 : Nat)], [u8 (m / 256 % 256 : Nat)]] := rfl
  rw [hbt] at pe
  have r1 := room34 (l.length + 2) (by omega)
  have htk := tk_all (bt l) l.length (bt_len l)
  have hbl := bt_len l
  have ha : bt (l ++ le 2 m) = bt l ++ [[u8 (m % 256 : Nat)], [u8 (m / 256 % 256 : Nat)]] := by rw [← hbt]; simp [bt]
  have hb : (l ++ le 2 m).length = l.length + 2 := by simp [le]
  simp only [hRk, hR, ha, hb]
  rw [loopL_go]
  conv in (goX _ _ _ _) => rw [show lp14x1 = _ from by simp only [lp14x1, subC, codeOf, Try.f14]; rfl]
  simp only [tb14, tq14b, n1, hlen, i1, i2, i3, i4, w1, pe, r1, htk, hbl, Nat.zero_add, RR, RC, FF, gd, noDef, kindOf, sl1, allocs, isLit, ↓br_i, ↓reduceIte, reduceCtorEq, List.replicate, decide_eq_true_eq, decide_eq_false_iff_not, decide_true, decide_false, beq_self_eq_true, if_true, if_false, ite_not, Nat.le_refl, Int.cast_ofNat_Int, Nat.reduceAdd, Nat.reduceMul, Nat.reduceDiv, Nat.reduceMod, Nat.reduceSub, Nat.reduceEqDiff, Nat.reduceLT, Nat.reduceLeDiff, Nat.reduceBeqDiff, Int.reduceLT, Int.reduceLE, Int.reduceEq, Int.reduceToNat, Int.reduceAdd, Int.reduceSub, Int.reduceMul, Int.reduceNeg]
theorem round14be (f g : Bool) (ks : List Kd) (ws : List Wp) (ver ver0 n0 : Nat) (l : List Nat) (k : Kd) (ns : List Int) (i : Nat) (cd : Code) (hb : cd = lp14x1) :
    loopL KE cd 6 (T.of (tq14b (.ref 1 ver0 0 n0) i ns 0)) ⟨T.of (tq14b (.ref 1 ver 0 l.length) i ns ns.length), hRk f g ks ws ver l k ns, [], KE.keep 14⟩ =
    some (.exit 2, ⟨T.of (tq14b (.ref 1 ver 0 l.length) i ns ns.length ++ [(59, bl false)]), hRk f g ks ws ver l k ns, [], KE.keep 14⟩) := by
  subst hb
  have i1 : ¬ (ns.length : Int) < (ns.length : Int) := by omega
  simp only [hRk, hR]
  rw [loopL_go]
  conv in (goX _ _ _ _) => rw [show lp14x1 = _ from by simp only [lp14x1, subC, codeOf, Try.f14]; rfl]
  simp only [tb14, tq14b, i1, RR, RC, FF, gd, noDef, kindOf, sl1, allocs, isLit, ↓br_i, ↓reduceIte, reduceCtorEq, List.replicate, decide_eq_true_eq, decide_eq_false_iff_not, decide_true, decide_false, beq_self_eq_true, if_true, if_false, ite_not, Nat.le_refl, Int.cast_ofNat_Int, Nat.reduceAdd, Nat.reduceMul, Nat.reduceDiv, Nat.reduceMod, Nat.reduceSub, Nat.reduceEqDiff, Nat.reduceLT, Nat.reduceLeDiff, Nat.reduceBeqDiff, Int.reduceLT, Int.reduceLE, Int.reduceEq, Int.reduceToNat, Int.reduceAdd, Int.reduceSub, Int.reduceMul, Int.reduceNeg]
theorem loop14b (f g : Bool) (ks : List Kd) (ws : List Wp) (ver0 n0 : Nat) (k : Kd) (ns : List Int) (hns : ns.length ≤ 100) (hn0 : ∀ n ∈ ns, 0 ≤ n ∧ n ≤ 65535) (i : Nat) (cd : Code) (hb : cd = lp14x1) : ∀ (n j ver : Nat) (l : List Nat), l.length + 2 * n ≤ 70000 → j + n = ns.length →
    loopL KE cd 6 (T.of (tq14b (.ref 1 ver0 0 n0) i ns 0)) ⟨T.of (tq14b (.ref 1 ver 0 l.length) i ns j), hRk f g ks ws ver l k ns, [], KE.keep 14⟩ =
    some (.exit 2, ⟨T.of (tq14b (.ref 1 (ver + n) 0 (l ++ (ns.drop j).flatMap tw).length) i ns ns.length ++ [(59, bl false)]), hRk f g ks ws (ver + n) (l ++ (ns.drop j).flatMap tw) k ns, [], KE.keep 14⟩) := by
  intro n
  induction n with
  | zero =>
    intro j ver l hl hn
    obtain rfl : j = ns.length := by omega
    rw [round14be f g ks ws ver ver0 n0 l k ns i cd hb]
    simp
  | succ n ih =>
    intro j ver l hl hn
    have hj : j < ns.length := by omega
    have hx := hn0 ns[j] (List.getElem_mem _)
    rw [round14b f g ks ws ver ver0 n0 l (by omega) k ns hns i j hj hx.1 hx.2 cd hb, ih (j + 1) (ver + 1) (l ++ tw ns[j]) (by simp [tw]; omega) (by omega), List.drop_eq_getElem_cons hj]
    rw [List.flatMap_cons, List.append_assoc, show ver + 1 + n = ver + (n + 1) by omega]
def hRm (f g : Bool) (ks : List Kd) (ws : List Wp) (ver : Nat) (l : List Nat) (k : Kd) (ns ms : List Int) : Heap := hRk f g ks ws ver l k ns ++ [.arr 0 false 1 [] (il ms)]
def tq14c (o : AV) (i : Nat) (ns : List Int) (j : Nat) : List (Nat × AV) := [(1, .ptr 0 0 0 0), (3, o), (4, i64 i), (5, .ptr 2 0 0 0), (88, .ref 6 0 0 ns.length), (89, i64 ns.length), (90, i64 j)]
theorem round14c (f g : Bool) (ks : List Kd) (ws : List Wp) (ver ver0 n0 : Nat) (l : List Nat) (hl : l.length ≤ 70000) (k : Kd) (ns ms : List Int) (hns : ms.length ≤ 100) (i j : Nat) (hj : j < ms.length) (cd : Code) (hb : cd = lp14x2) :
    loopL KE cd 7 (T.of (tq14c (.ref 1 ver0 0 n0) i ms 0)) ⟨T.of (tq14c (.ref 1 ver 0 l.length) i ms j), hRm f g ks ws ver l k ns ms, [], KE.keep 14⟩ =
    loopL KE cd 7 (T.of (tq14c (.ref 1 ver0 0 n0) i ms 0)) ⟨T.of (tq14c (.ref 1 (ver + 1) 0 (l ++ [b8 ms[j]]).length) i ms (j + 1)), hRm f g ks ws (ver + 1) (l ++ [b8 ms[j]]) k ns ms, [], KE.keep 14⟩ := by
  subst hb
  have n1 := il_nth ms j hj
  have hlen := il_len ms
  have i1 : (j : Int) < (ms.length : Int) := by omega
  have i2 : (0 : Int) ≤ (j : Int) := by omega
  have i3 : (j : Int).toNat = j := by omega
  have i4 := wrapN j (by omega)
  have e1 := wrap8i ms[j]
  have r1 := room34 (l.length + 1) (by omega)
  have htk := tk_all (bt l) l.length (bt_len l)
  have hbl := bt_len l
  have ha : bt (l ++ [b8 ms[j]]) = bt l ++ [[u8 (b8 ms[j])]] := bt_app _ _
  have hb : (l ++ [b8 ms[j]]).length = l.length + 1 := by simp
  simp only [hRm, hRk, hR, ha, hb]
  rw [loopL_go]
  conv in (goX _ _ _ _) => rw [show lp14x2 = _ from by simp only [lp14x2, subC, codeOf, Try.f14]; rfl]
  simp only [tb14, tq14c, n1, hlen, i1, i2, i3, i4, e1, r1, htk, hbl, Nat.zero_add, RR, RC, FF, gd, noDef, kindOf, sl1, allocs, isLit, ↓br_i, ↓reduceIte, reduceCtorEq, List.replicate, decide_eq_true_eq, decide_eq_false_iff_not, decide_true, decide_false, beq_self_eq_true, if_true, if_false, ite_not, Nat.le_refl, Int.cast_ofNat_Int, Nat.reduceAdd, Nat.reduceMul, Nat.reduceDiv, Nat.reduceMod, Nat.reduceSub, Nat.reduceEqDiff, Nat.reduceLT, Nat.reduceLeDiff, Nat.reduceBeqDiff, Int.reduceLT, Int.reduceLE, Int.reduceEq, Int.reduceToNat, Int.reduceAdd, Int.reduceSub, Int.reduceMul, Int.reduceNeg]
theorem round14ce (f g : Bool) (ks : List Kd) (ws : List Wp) (ver ver0 n0 : Nat) (l : List Nat) (k : Kd) (ns ms : List Int) (i : Nat) (cd : Code) (hb : cd = lp14x2) :
    loopL KE cd 7 (T.of (tq14c (.ref 1 ver0 0 n0) i ms 0)) ⟨T.of (tq14c (.ref 1 ver 0 l.length) i ms ms.length), hRm f g ks ws ver l k ns ms, [], KE.keep 14⟩ =
    some (.exit 4, ⟨T.of (tq14c (.ref 1 ver 0 l.length) i ms ms.length ++ [(91, bl false)]), hRm f g ks ws ver l k ns ms, [], KE.keep 14⟩) := by
  subst hb
  have i1 : ¬ (ms.length : Int) < (ms.length : Int) := by omega
  simp only [hRm, hRk, hR]
  rw [loopL_go]
  conv in (goX _ _ _ _) => rw [show lp14x2 = _ from by simp only [lp14x2, subC, codeOf, Try.f14]; rfl]
  simp only [tb14, tq14c, i1, RR, RC, FF, gd, noDef, kindOf, sl1, allocs, isLit, ↓br_i, ↓reduceIte, reduceCtorEq, List.replicate, decide_eq_true_eq, decide_eq_false_iff_not, decide_true, decide_false, beq_self_eq_true, if_true, if_false, ite_not, Nat.le_refl, Int.cast_ofNat_Int, Nat.reduceAdd, Nat.reduceMul, Nat.reduceDiv, Nat.reduceMod, Nat.reduceSub, Nat.reduceEqDiff, Nat.reduceLT, Nat.reduceLeDiff, Nat.reduceBeqDiff, Int.reduceLT, Int.reduceLE, Int.reduceEq, Int.reduceToNat, Int.reduceAdd, Int.reduceSub, Int.reduceMul, Int.reduceNeg]
theorem loop14c (f g : Bool) (ks : List Kd) (ws : List Wp) (ver0 n0 : Nat) (k : Kd) (ns ms : List Int) (hns : ms.length ≤ 100) (i : Nat) (cd : Code) (hb : cd = lp14x2) : ∀ (n j ver : Nat) (l : List Nat), l.length + n ≤ 70000 → j + n = ms.length →
    loopL KE cd 7 (T.of (tq14c (.ref 1 ver0 0 n0) i ms 0)) ⟨T.of (tq14c (.ref 1 ver 0 l.length) i ms j), hRm f g ks ws ver l k ns ms, [], KE.keep 14⟩ =
    some (.exit 4, ⟨T.of (tq14c (.ref 1 (ver + n) 0 (l ++ (ms.drop j).map b8).length) i ms ms.length ++ [(91, bl false)]), hRm f g ks ws (ver + n) (l ++ (ms.drop j).map b8) k ns ms, [], KE.keep 14⟩) := by
  intro n
  induction n with
  | zero =>
    intro j ver l hl hn
    obtain rfl : j = ms.length := by omega
    rw [round14ce f g ks ws ver ver0 n0 l k ns ms i cd hb]
    simp
  | succ n ih =>
    intro j ver l hl hn
    have hj : j < ms.length := by omega
    rw [round14c f g ks ws ver ver0 n0 l (by omega) k ns ms hns i j hj cd hb, ih (j + 1) (ver + 1) (l ++ [b8 ms[j]]) (by simp; omega) (by omega), List.drop_eq_getElem_cons hj]
    rw [List.map_cons, List.append_assoc, List.singleton_append, show ver + 1 + n = ver + (n + 1) by omega]
end Go.AM
