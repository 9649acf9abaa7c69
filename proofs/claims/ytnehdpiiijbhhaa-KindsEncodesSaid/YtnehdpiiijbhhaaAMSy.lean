/- The machine as a row of frames, by which it is run on symbols: each rule is an equation under its own hypotheses alone. -/
import Derived.Test.YtnehdpiiijbhhaaAMLim
set_option autoImplicit false
set_option linter.unusedVariables false
set_option linter.unusedSimpArgs false
namespace Go.AM
open Go

def bx {α β : Type} (x : Option α) (k : α → Option β) : Option β := match x with | some a => k a | none => none
theorem bx_s {α β : Type} (a : α) (k : α → Option β) : bx (some a) k = k a := rfl
theorem bx_n {α β : Type} (k : α → Option β) : bx none k = none := rfl
theorem beq_t (p : Bool) : (p == true) = p := by cases p <;> rfl
theorem beq_f (p : Bool) : (p == false) = !p := by cases p <;> rfl
theorem nbeq (x y : Nat) : Nat.beq x y = decide (x = y) := by
  by_cases h : x = y
  · subst h; simp
  · rw [decide_eq_false h]; exact Bool.eq_false_iff.2 fun hb => h (Nat.eq_of_beq_eq_true hb)

abbrev Dfs' := List (FuncId × List AV)
abbrev Kp := Nat → Option (List Nat)

/-- A test: a Bool that may not be decided yet. -/
def asB : AV → Option Bool
  | .v (.bool b) => some b
  | _ => none
theorem asB_b (b : Bool) : asB (.v (.bool b)) = some b := rfl
/-- The function that is called. -/
def asF : AV → Option (FuncId × List AV)
  | .fn f l => some (f, l)
  | _ => none
theorem asF_f (f : FuncId) (l : List AV) : asF (.fn f l) = some (f, l) := rfl

def nth {α : Type} : List α → Nat → Option α
  | [], _ => none
  | x :: _, 0 => some x
  | _ :: l, n + 1 => nth l n
theorem nth_eq {α : Type} : ∀ (l : List α) (n : Nat), l[n]? = nth l n
  | [], n => by simp [nth]
  | x :: l, 0 => by simp [nth]
  | x :: l, n + 1 => by simp [nth, nth_eq l n]
theorem nth_z {α : Type} (x : α) (l : List α) : nth (x :: l) 0 = some x := rfl
theorem nth_s {α : Type} (x : α) (l : List α) (n : Nat) : nth (x :: l) (n + 1) = nth l n := rfl
theorem nth_n {α : Type} (n : Nat) : nth ([] : List α) n = none := by cases n <;> rfl

/-! One operation, without its guard -/
noncomputable def opQ (E : Cfg) (slot : Nat) (op : Op) (t : T) (h : Heap) (d : Dfs') : Option (R × Dfs') := opL E slot ⟨none, op, 0, "", #[], none⟩ ⟨t, h, d, fun _ => none⟩
theorem opL_Q (E : Cfg) (slot : Nat) (o : Oper) (t : T) (h : Heap) (d : Dfs') (k : Kp) : opL E slot o ⟨t, h, d, k⟩ = opQ E slot o.op t h d := by
  unfold opQ
  rw [opL_eq, opL_eq]
  rfl

/-- What a guard says. -/
def gq (x : AV) (w : Bool) : Option Bool := match x with
  | .v (.bool b) => some (b == w)
  | .undef => none
  | .v _ => some false
  | .tup _ => some false
  | _ => none
theorem gq_b (b w : Bool) : gq (.v (.bool b)) w = some (b == w) := rfl
theorem gq_bt (b : Bool) : gq (.v (.bool b)) true = some b := by cases b <;> rfl
theorem gq_bf (b : Bool) : gq (.v (.bool b)) false = some (!b) := by cases b <;> rfl
theorem gq_t (l : List AV) (w : Bool) : gq (.tup l) w = some false := rfl
def dstOf (o : Option Oper) : Option Tmp := match o with | some o => o.dst | none => none
theorem dstOf_s (dst : Option Tmp) (op : Op) (ty : TypeId) (pos : String) (af : Array Edge) (g : Option (Nat × Bool)) : dstOf (some ⟨dst, op, ty, pos, af, g⟩) = dst := rfl
def gd (all : List Oper) (t : T) (j : Nat) (w : Bool) : Option Bool := match dstOf (nth all j) with | some i => gq (t.get i) w | none => some false
theorem wanted_gd (all : List Oper) (t : T) (dst : Option Tmp) (op : Op) (ty : TypeId) (pos : String) (af : Array Edge) (j : Nat) (w : Bool) : wantedAV all t ⟨dst, op, ty, pos, af, some (j, w)⟩ = gd all t j w := by
  unfold wantedAV gd
  simp only [nth_eq]
  cases nth all j with
  | none => rfl
  | some p =>
    obtain ⟨pd, po, pt, pp, pa, pg⟩ := p
    cases pd <;> rfl

/-! Frames -/
inductive Fr where
  | code (c : Code)
  | blk (id : Nat)
  /-- A region without a draw. -/
  | ops (all : List Oper) (slot : Nat) (rest : List Oper) (id : Nat)
  /-- A region with a draw: 'tr' is what was touched, the last first. -/
  | dops (arr : Array Oper) (n0 : Nat) (t0 : T) (slot i : Nat) (rest : List Oper) (tr : List (Nat × FP)) (id : Nat)

def sl1 (slot : Nat) (op : Op) : Nat := if allocs op = true then slot + 1 else slot
theorem sl1_eq (slot : Nat) (o : Oper) : nextSlot slot o = sl1 slot o.op := rfl

/-- A region without a draw: no footprints are kept. -/
noncomputable def runN (E : Cfg) (all : List Oper) : Nat → List Oper → St → Option (Ex × St)
  | _, [], st => some (.normal, st)
  | slot, o :: rest, st =>
    match wantedAV all st.t o with
    | none => none
    | some false => runN E all (nextSlot slot o) rest { st with t := putT st.t o.dst (.tup []) }
    | some true =>
      match opL E slot o st with
      | some (.val x h _, d) => runN E all (nextSlot slot o) rest { st with t := putT st.t o.dst x, h := h, d := d }
      | some (.pan x h, d) => some (.pan x, { st with h := h })
      | none => none

theorem runN_eq (E : Cfg) (all : List Oper) : ∀ (ops : List Oper) (slot i : Nat) (st : St),
    (match runOps (opL E) all slot ops i st with | some (ex, st, _) => some (ex, st) | none => none) = runN E all slot ops st
  | [], slot, i, st => rfl
  | o :: rest, slot, i, st => by
    rw [runOps, runN]
    cases wantedAV all st.t o with
    | none => rfl
    | some b => cases b with
      | false =>
        simp only
        rw [← runN_eq E all rest _ (i + 1)]
        cases runOps (opL E) all (nextSlot slot o) rest (i + 1) { st with t := putT st.t o.dst (.tup []) } with
        | none => rfl
        | some r => rfl
      | true =>
        simp only
        cases opL E slot o st with
        | none => rfl
        | some r =>
          obtain ⟨r, d⟩ := r
          cases r with
          | val x h f =>
            simp only
            rw [← runN_eq E all rest _ (i + 1)]
            cases runOps (opL E) all (nextSlot slot o) rest (i + 1) { st with t := putT st.t o.dst x, h := h, d := d } with
            | none => rfl
            | some r => rfl
          | pan x h => rfl

/-- The end of a region with a draw. -/
def endD (arr : Array Oper) (n0 : Nat) (t0 : T) (tr : List (Nat × FP)) (r : Ex × St) : Option (Ex × St) := match r with
  | (.normal, st) => if apart n0 (Region.before arr) tr = true then some (.normal, st) else none
  | (.pan x, st) => if (apart n0 (Region.before arr) tr && alone (Region.before arr) arr.toList.length (lastOf tr) tr) = true then some (.pan x, { st with t := killDst t0 arr.toList }) else none
  | _ => none

noncomputable def runD (E : Cfg) (arr : Array Oper) (n0 : Nat) (t0 : T) (slot i : Nat) (rest : List Oper) (tr : List (Nat × FP)) (st : St) : Option (Ex × St) :=
  match runOps (noDefer (opL E)) arr.toList slot rest i st with
  | some (ex, st, tr') => endD arr n0 t0 (tr.reverse ++ tr') (ex, st)
  | none => none

noncomputable def goX (E : Cfg) : List Fr → Ex → St → Option (Ex × St)
  | [], ex, st => some (ex, st)
  | .code c :: fs, .normal, st => (match execL E c st with | some (ex, st) => goX E fs ex st | none => none)
  | .code _ :: fs, ex, st => goX E fs ex st
  | .blk id :: fs, .exit i, st => goX E fs (if i = id then .normal else .exit i) st
  | .blk _ :: fs, ex, st => goX E fs ex st
  | .ops all slot rest id :: fs, .normal, st => (match runN E all slot rest st with
    | some (.normal, st) => goX E fs .normal (prune id st)
    | some (ex, st) => goX E fs ex st
    | none => none)
  | .ops _ _ _ _ :: fs, ex, st => goX E fs ex st
  | .dops arr n0 t0 slot i rest tr id :: fs, .normal, st => (match runD E arr n0 t0 slot i rest tr st with
    | some (.normal, st) => goX E fs .normal (prune id st)
    | some (ex, st) => goX E fs ex st
    | none => none)
  | .dops _ _ _ _ _ _ _ _ :: fs, ex, st => goX E fs ex st

section
variable (E : Cfg) (fs : List Fr)
theorem g_nil (ex : Ex) (st : St) : goX E [] ex st = some (ex, st) := by rw [goX]
theorem g_skip (st : St) : goX E (.code .skip :: fs) .normal st = goX E fs .normal st := by rw [goX, execL_skip]
theorem g_label (l) (st : St) : goX E (.code (.label l) :: fs) .normal st = goX E fs .normal st := by rw [goX, execL_label]
theorem g_exit (id) (st : St) : goX E (.code (.exit id) :: fs) .normal st = goX E fs (.exit id) st := by rw [goX, execL_exit]
theorem g_ret (st : St) : goX E (.code .ret :: fs) .normal st = goX E fs .ret st := by rw [goX, execL_ret]
theorem g_scope (b) (st : St) : goX E (.code (.scope b) :: fs) .normal st = goX E (.code b :: fs) .normal st := by rw [goX, goX, execL_scope]
theorem g_code_e (c) (i : Nat) (st : St) : goX E (.code c :: fs) (.exit i) st = goX E fs (.exit i) st := by rw [goX]; simp
theorem g_code_r (c) (st : St) : goX E (.code c :: fs) .ret st = goX E fs .ret st := by rw [goX]; simp
theorem g_code_p (c) (x : AV) (st : St) : goX E (.code c :: fs) (.pan x) st = goX E fs (.pan x) st := by rw [goX]; simp
theorem g_seq (a b) (st : St) : goX E (.code (.seq a b) :: fs) .normal st = goX E (.code a :: .code b :: fs) .normal st := by
  rw [goX, goX, execL_seq]
  cases execL E a st with
  | none => rfl
  | some r =>
    obtain ⟨ex, st⟩ := r
    cases ex with
    | normal => simp only; rw [goX]
    | exit i => simp only; rw [g_code_e]
    | ret => simp only; rw [g_code_r]
    | pan x => simp only; rw [g_code_p]
theorem g_blk_n (id : Nat) (st : St) : goX E (.blk id :: fs) .normal st = goX E fs .normal st := by rw [goX]; simp
theorem g_blk_e (id i : Nat) (st : St) : goX E (.blk id :: fs) (.exit i) st = goX E fs (if i = id then .normal else .exit i) st := by rw [goX]
theorem g_blk_r (id : Nat) (st : St) : goX E (.blk id :: fs) .ret st = goX E fs .ret st := by rw [goX]; simp
theorem g_blk_p (id : Nat) (x : AV) (st : St) : goX E (.blk id :: fs) (.pan x) st = goX E fs (.pan x) st := by rw [goX]; simp
theorem g_block (id : Nat) (b : Code) (st : St) : goX E (.code (.block id b) :: fs) .normal st = goX E (.code b :: .blk id :: fs) .normal st := by
  rw [goX, goX, execL_block]
  cases execL E b st with
  | none => rfl
  | some r =>
    obtain ⟨ex, st⟩ := r
    cases ex with
    | normal => simp only; rw [g_blk_n]
    | exit i =>
      simp only; rw [g_blk_e]
      by_cases h : i = id
      · simp [h]
      · simp [h]
    | ret => simp only; rw [g_blk_r]
    | pan x => simp only; rw [g_blk_p]

/-- A choice of frames. -/
noncomputable def goB (p : Option Bool) (f1 f2 : List Fr) (st : St) : Option (Ex × St) := match p with
  | some p => goX E (if p = true then f1 else f2) .normal st
  | none => none
theorem goB_s (p : Bool) (f1 f2 : List Fr) (st : St) : goB E (some p) f1 f2 st = goX E (if p = true then f1 else f2) .normal st := rfl
theorem goB_not (p : Bool) (f1 f2 : List Fr) (st : St) : goB E (some (!p)) f1 f2 st = goX E (if p = true then f2 else f1) .normal st := by cases p <;> rfl
theorem g_cond (c : Operand) (a b : Code) (t : T) (h : Heap) (d : Dfs') (k : Kp) : goX E (.code (.cond c a b) :: fs) .normal ⟨t, h, d, k⟩ = goB E (asB (ev E.G t c)) (.code a :: fs) (.code b :: fs) ⟨t, h, d, k⟩ := by
  rw [goX, execL_cond]
  simp only
  cases ev E.G t c with
  | v x => cases x with
    | bool b => cases b <;> simp [asB, goB, goX]
    | _ => rfl
  | _ => rfl
/-- A piece of code whose end is known. -/
theorem g_of {c : Code} {st st' : St} {ex : Ex} (h : execL E c st = some (ex, st')) : goX E (.code c :: fs) .normal st = goX E fs ex st' := by rw [goX, h]
theorem of_g (c : Code) (st : St) : goX E [.code c] .normal st = execL E c st := by
  rw [goX]
  cases execL E c st with
  | none => rfl
  | some r => obtain ⟨ex, st⟩ := r; simp only; rw [g_nil]

def pk (k : Option (List Nat)) (t : T) : T := match k with | some l => t.picks l | none => t
theorem pk_n (t : T) : pk none t = t := rfl
theorem pk_s (l : List Nat) (t : T) : pk (some l) t = t.picks l := rfl
theorem picks_n (t : T) : t.picks [] = .e := rfl
theorem picks_c (t : T) (i : Nat) (l : List Nat) : t.picks (i :: l) = (t.picks l).set i (t.get i) := rfl
theorem prune_pk (id : Nat) (t : T) (h : Heap) (d : Dfs') (k : Kp) : prune id ⟨t, h, d, k⟩ = ⟨pk (k id) t, h, d, k⟩ := by
  unfold prune pk
  simp only
  cases k id <;> rfl

/-- Room for what is made. -/
def deads : List Oper → Heap
  | [] => []
  | o :: l => if allocs o.op = true then .dead :: deads l else deads l
theorem de_n : deads [] = [] := rfl
theorem de_c (dst : Option Tmp) (op : Op) (ty : TypeId) (pos : String) (af : Array Edge) (g : Option (Nat × Bool)) (l : List Oper) : deads (⟨dst, op, ty, pos, af, g⟩ :: l) = if allocs op = true then .dead :: deads l else deads l := rfl
theorem deads_eq : ∀ l : List Oper, deads l = List.replicate (countAllocs l) .dead
  | [] => rfl
  | o :: l => by
    rw [deads, countAllocs, deads_eq l]
    cases allocs o.op with
    | true => rfl
    | false => rfl
theorem grow_deads (h : Heap) (l : List Oper) : grow h (countAllocs l) = h ++ deads l := by
  rw [deads_eq]
  cases countAllocs l with
  | zero => simp [grow]
  | succ n => rfl

theorem g_region (id : Nat) (ops : Array Oper) (t : T) (h : Heap) (d : Dfs') (k : Kp) :
    goX E (.code (.region id ops false) :: fs) .normal ⟨t, h, d, k⟩ = goX E (.ops ops.toList h.length ops.toList id :: fs) .normal ⟨t, h ++ deads ops.toList, d, k⟩ := by
  rw [← grow_deads, goX, goX, execL_region, ← runN_eq E ops.toList ops.toList h.length 0]
  unfold regionE
  simp only [stepOf]
  cases runOps (opL E) ops.toList h.length ops.toList 0 ⟨t, grow h (countAllocs ops.toList), d, k⟩ with
  | none => rfl
  | some r =>
    obtain ⟨ex, st, tr⟩ := r
    cases ex <;> rfl
theorem g_regionD (id : Nat) (ops : Array Oper) (t : T) (h : Heap) (d : Dfs') (k : Kp) :
    goX E (.code (.region id ops true) :: fs) .normal ⟨t, h, d, k⟩ = goX E (.dops ops (h ++ deads ops.toList).length t h.length 0 ops.toList [] id :: fs) .normal ⟨t, h ++ deads ops.toList, d, k⟩ := by
  have hl : (h ++ deads ops.toList).length = h.length + countAllocs ops.toList := by rw [deads_eq]; simp
  rw [hl, ← grow_deads, goX, goX, execL_region]
  unfold regionE runD
  simp only [stepOf, List.reverse_nil, List.nil_append]
  cases runOps (noDefer (opL E)) ops.toList h.length ops.toList 0 ⟨t, grow h (countAllocs ops.toList), d, k⟩ with
  | none => rfl
  | some r =>
    obtain ⟨ex, st, tr⟩ := r
    cases ex with
    | normal =>
      simp only [endD]
      by_cases hc : apart (h.length + countAllocs ops.toList) (Region.before ops) tr = true
      · simp only [hc, if_true]; rfl
      · simp only [hc]; rfl
    | pan x =>
      simp only [endD]
      by_cases hc : (apart (h.length + countAllocs ops.toList) (Region.before ops) tr && alone (Region.before ops) ops.toList.length (lastOf tr) tr) = true
      · simp only [hc, if_true]; rfl
      · simp only [hc]; rfl
    | _ => rfl

theorem g_ops_nil (all : List Oper) (slot id : Nat) (t : T) (h : Heap) (d : Dfs') (k : Kp) : goX E (.ops all slot [] id :: fs) .normal ⟨t, h, d, k⟩ = goX E fs .normal ⟨pk (k id) t, h, d, k⟩ := by
  rw [goX, runN]
  simp only [prune_pk]
theorem g_dops_nil (arr : Array Oper) (n0 : Nat) (t0 : T) (slot i : Nat) (tr : List (Nat × FP)) (id : Nat) (t : T) (h : Heap) (d : Dfs') (k : Kp) (ha : apart n0 (Region.before arr) tr.reverse = true) :
    goX E (.dops arr n0 t0 slot i [] tr id :: fs) .normal ⟨t, h, d, k⟩ = goX E fs .normal ⟨pk (k id) t, h, d, k⟩ := by
  rw [goX, runD, runOps]
  simp only [List.append_nil, endD, ha, if_true, prune_pk]

/-- On, behind an operation. -/
noncomputable def goR (r : Option (R × Dfs')) (dst : Option Tmp) (f : FP → List Fr) (t : T) (k : Kp) : Option (Ex × St) := match r with
  | some (.val x h fp, d) => goX E (f fp) .normal ⟨putT t dst x, h, d, k⟩
  | _ => none
theorem putT_s (t : T) (d : Nat) (x : AV) : putT t (some d) x = t.set d x := rfl
theorem putT_n (t : T) (x : AV) : putT t none x = t := rfl

/-- On, behind an operation of a region without a draw. -/
noncomputable def goN (r : Option (R × Dfs')) (dst : Option Tmp) (all : List Oper) (slot : Nat) (rest : List Oper) (id : Nat) (t : T) (d0 : Dfs') (k : Kp) : Option (Ex × St) := match r with
  | some (.val x h _, d) => goX E (.ops all slot rest id :: fs) .normal ⟨putT t dst x, h, d, k⟩
  | some (.pan x h, _) => goX E fs (.pan x) ⟨t, h, d0, k⟩
  | none => none
theorem goN_v (x : AV) (h : Heap) (f : FP) (d : Dfs') (dst : Option Tmp) (all : List Oper) (slot : Nat) (rest : List Oper) (id : Nat) (t : T) (d0 : Dfs') (k : Kp) :
    goN E fs (some (.val x h f, d)) dst all slot rest id t d0 k = goX E (.ops all slot rest id :: fs) .normal ⟨putT t dst x, h, d, k⟩ := rfl
theorem goN_p (x : AV) (h : Heap) (d : Dfs') (dst : Option Tmp) (all : List Oper) (slot : Nat) (rest : List Oper) (id : Nat) (t : T) (d0 : Dfs') (k : Kp) :
    goN E fs (some (.pan x h, d)) dst all slot rest id t d0 k = goX E fs (.pan x) ⟨t, h, d0, k⟩ := rfl
theorem goN_n (dst : Option Tmp) (all : List Oper) (slot : Nat) (rest : List Oper) (id : Nat) (t : T) (d0 : Dfs') (k : Kp) : goN E fs none dst all slot rest id t d0 k = none := rfl
theorem g_op (all : List Oper) (slot id : Nat) (dst : Option Tmp) (op : Op) (ty : TypeId) (pos : String) (af : Array Edge) (rest : List Oper) (t : T) (h : Heap) (d : Dfs') (k : Kp) :
    goX E (.ops all slot (⟨dst, op, ty, pos, af, none⟩ :: rest) id :: fs) .normal ⟨t, h, d, k⟩ = goN E fs (opQ E slot op t h d) dst all (sl1 slot op) rest id t d k := by
  rw [goX, runN]
  simp only [wantedAV, opL_Q, sl1_eq]
  cases opQ E slot op t h d with
  | none => rfl
  | some r =>
    obtain ⟨r, d'⟩ := r
    cases r with
    | val x h' f => simp only [goN]; rw [goX]
    | pan x h' => simp only [goN]
/-- On, behind a guard. -/
noncomputable def goG (w : Option Bool) (f1 f2 : List Fr) (t1 t2 : T) (h : Heap) (d : Dfs') (k : Kp) : Option (Ex × St) := match w with
  | some w => goX E (if w = true then f1 else f2) .normal ⟨if w = true then t1 else t2, h, d, k⟩
  | none => none
theorem goG_s (w : Bool) (f1 f2 : List Fr) (t1 t2 : T) (h : Heap) (d : Dfs') (k : Kp) : goG E (some w) f1 f2 t1 t2 h d k = goX E (if w = true then f1 else f2) .normal ⟨if w = true then t1 else t2, h, d, k⟩ := rfl
theorem goG_not (w : Bool) (f1 f2 : List Fr) (t1 t2 : T) (h : Heap) (d : Dfs') (k : Kp) : goG E (some (!w)) f1 f2 t1 t2 h d k = goX E (if w = true then f2 else f1) .normal ⟨if w = true then t2 else t1, h, d, k⟩ := by cases w <;> rfl
theorem g_guard (all : List Oper) (slot id : Nat) (dst : Option Tmp) (op : Op) (ty : TypeId) (pos : String) (af : Array Edge) (j : Nat) (w : Bool) (rest : List Oper) (t : T) (h : Heap) (d : Dfs') (k : Kp) :
    goX E (.ops all slot (⟨dst, op, ty, pos, af, some (j, w)⟩ :: rest) id :: fs) .normal ⟨t, h, d, k⟩ =
      goG E (gd all t j w) (.ops all slot (⟨dst, op, ty, pos, af, none⟩ :: rest) id :: fs) (.ops all (sl1 slot op) rest id :: fs) t (putT t dst (.tup [])) h d k := by
  rw [goX, runN]
  simp only [wanted_gd]
  cases gd all t j w with
  | none => rfl
  | some b =>
    cases b with
    | false => simp only [goG, sl1_eq]; simp [goX]
    | true =>
      simp only [goG, if_true]
      rw [goX, runN]
      simp only [wantedAV, opL_Q, sl1_eq]
theorem gd_eq (all : List Oper) (t : T) (j : Nat) (w : Bool) (i : Nat) (hj : dstOf (nth all j) = some i) : gd all t j w = gq (t.get i) w := by rw [gd, hj]

theorem runOps_cons (step : Nat → Oper → St → Option (R × Dfs')) (all : List Oper) (slot : Nat) (o : Oper) (rest : List Oper) (i : Nat) (st : St) : runOps step all slot (o :: rest) i st = (
    match wantedAV all st.t o with
    | none => none
    | some false => match runOps step all (nextSlot slot o) rest (i + 1) { st with t := putT st.t o.dst (.tup []) } with
      | some (ex, st, tr) => some (ex, st, (i, fp0) :: tr)
      | none => none
    | some true =>
      match step slot o st with
      | some (.val x h f, d) => match runOps step all (nextSlot slot o) rest (i + 1) { st with t := putT st.t o.dst x, h := h, d := d } with
        | some (ex, st, tr) => some (ex, st, (i, f) :: tr)
        | none => none
      | some (.pan x h, d) => some (.pan x, { st with h := h }, [(i, fp0)])
      | none => none) := by rw [runOps]; rfl

/-- On, behind an operation of a region with a draw. -/
noncomputable def goD (r : Option (R × Dfs')) (dst : Option Tmp) (arr : Array Oper) (n0 : Nat) (t0 : T) (slot i : Nat) (rest : List Oper) (tr : List (Nat × FP)) (id : Nat) (t : T) (d0 : Dfs') (k : Kp) : Option (Ex × St) := match r with
  | some (.val x h f, d) => goX E (.dops arr n0 t0 slot (i + 1) rest ((i, f) :: tr) id :: fs) .normal ⟨putT t dst x, h, d, k⟩
  | some (.pan x h, _) => if (apart n0 (Region.before arr) (((i, fp0) :: tr).reverse) && alone (Region.before arr) arr.toList.length i (((i, fp0) :: tr).reverse)) = true then goX E fs (.pan x) ⟨killDst t0 arr.toList, h, d0, k⟩ else none
  | none => none
theorem goD_v (x : AV) (h : Heap) (f : FP) (d : Dfs') (dst : Option Tmp) (arr : Array Oper) (n0 : Nat) (t0 : T) (slot i : Nat) (rest : List Oper) (tr : List (Nat × FP)) (id : Nat) (t : T) (d0 : Dfs') (k : Kp) :
    goD E fs (some (.val x h f, d)) dst arr n0 t0 slot i rest tr id t d0 k = goX E (.dops arr n0 t0 slot (i + 1) rest ((i, f) :: tr) id :: fs) .normal ⟨putT t dst x, h, d, k⟩ := rfl
theorem goD_p (x : AV) (h : Heap) (d : Dfs') (dst : Option Tmp) (arr : Array Oper) (n0 : Nat) (t0 : T) (slot i : Nat) (rest : List Oper) (tr : List (Nat × FP)) (id : Nat) (t : T) (d0 : Dfs') (k : Kp) :
    goD E fs (some (.pan x h, d)) dst arr n0 t0 slot i rest tr id t d0 k = if (apart n0 (Region.before arr) (((i, fp0) :: tr).reverse) && alone (Region.before arr) arr.toList.length i (((i, fp0) :: tr).reverse)) = true then goX E fs (.pan x) ⟨killDst t0 arr.toList, h, d0, k⟩ else none := rfl
theorem lastOf_app : ∀ (l : List (Nat × FP)) (i : Nat) (f : FP), lastOf (l ++ [(i, f)]) = i
  | [], i, f => rfl
  | [_], i, f => rfl
  | _ :: y :: l, i, f => by
    have := lastOf_app (y :: l) i f
    simp only [List.cons_append] at this ⊢
    rw [lastOf]
    · exact this
    · simp
/-- Is it no deferred call? -/
def noDef (op : Op) : Bool := match kindOf op with | .defer _ _ => false | _ => true
theorem g_dop (arr : Array Oper) (n0 : Nat) (t0 : T) (slot i : Nat) (tr : List (Nat × FP)) (id : Nat) (dst : Option Tmp) (op : Op) (ty : TypeId) (pos : String) (af : Array Edge) (rest : List Oper) (t : T) (h : Heap) (d : Dfs') (k : Kp) :
    goX E (.dops arr n0 t0 slot i (⟨dst, op, ty, pos, af, none⟩ :: rest) tr id :: fs) .normal ⟨t, h, d, k⟩ = if noDef op = true then goD E fs (opQ E slot op t h d) dst arr n0 t0 (sl1 slot op) i rest tr id t d k else none := by
  rw [goX, runD, runOps_cons]
  simp only [wantedAV, sl1_eq]
  by_cases hd : noDef op = true
  · rw [if_pos hd]
    have hn : noDefer (opL E) slot ⟨dst, op, ty, pos, af, none⟩ ⟨t, h, d, k⟩ = opQ E slot op t h d := by
      unfold noDefer noDef at *
      simp only
      cases hk : kindOf op with
      | defer f a => rw [hk] at hd; cases hd
      | _ => simp only [opL_Q]
    rw [hn]
    cases opQ E slot op t h d with
    | none => rfl
    | some r =>
      obtain ⟨r, d'⟩ := r
      cases r with
      | val x h' f =>
        simp only [goD]
        rw [goX, runD]
        cases runOps (noDefer (opL E)) arr.toList (sl1 slot op) rest (i + 1) ⟨putT t dst x, h', d', k⟩ with
        | none => rfl
        | some q => obtain ⟨ex, st, tr'⟩ := q; simp
      | pan x h' =>
        simp only [goD, endD, List.reverse_cons, lastOf_app]
        by_cases hc : (apart n0 (Region.before arr) (tr.reverse ++ [(i, fp0)]) && alone (Region.before arr) arr.toList.length i (tr.reverse ++ [(i, fp0)])) = true
        · simp only [hc, if_true]
        · simp only [hc]; rfl
  · rw [if_neg hd]
    have hn : noDefer (opL E) slot ⟨dst, op, ty, pos, af, none⟩ ⟨t, h, d, k⟩ = none := by
      unfold noDefer noDef at *
      simp only
      cases hk : kindOf op with
      | defer f a => rfl
      | _ => rw [hk] at hd; exact absurd rfl hd
    rw [hn]
theorem g_dguard (arr : Array Oper) (n0 : Nat) (t0 : T) (slot i : Nat) (tr : List (Nat × FP)) (id : Nat) (dst : Option Tmp) (op : Op) (ty : TypeId) (pos : String) (af : Array Edge) (j : Nat) (w : Bool) (rest : List Oper) (t : T) (h : Heap) (d : Dfs') (k : Kp) :
    goX E (.dops arr n0 t0 slot i (⟨dst, op, ty, pos, af, some (j, w)⟩ :: rest) tr id :: fs) .normal ⟨t, h, d, k⟩ =
      goG E (gd arr.toList t j w) (.dops arr n0 t0 slot i (⟨dst, op, ty, pos, af, none⟩ :: rest) tr id :: fs) (.dops arr n0 t0 (sl1 slot op) (i + 1) rest ((i, fp0) :: tr) id :: fs) t (putT t dst (.tup [])) h d k := by
  rw [goX, runD, runOps_cons]
  simp only [wanted_gd]
  cases gd arr.toList t j w with
  | none => rfl
  | some b =>
    cases b with
    | false =>
      simp only [goG, sl1_eq]
      simp only [Bool.false_eq_true, if_false]
      rw [goX, runD]
      cases runOps (noDefer (opL E)) arr.toList (sl1 slot op) rest (i + 1) ⟨putT t dst (.tup []), h, d, k⟩ with
      | none => rfl
      | some q => obtain ⟨ex, st, tr'⟩ := q; simp
    | true =>
      simp only [goG, if_true]
      rw [goX, runD, runOps_cons]
      simp only [wantedAV, sl1_eq]
      have hn : noDefer (opL E) slot ⟨dst, op, ty, pos, af, some (j, w)⟩ ⟨t, h, d, k⟩ = noDefer (opL E) slot ⟨dst, op, ty, pos, af, none⟩ ⟨t, h, d, k⟩ := by
        unfold noDefer
        simp only [opL_Q]
      rw [hn]
end

/-! The operations -/
section
variable (E : Cfg) (slot : Nat) (t : T) (h : Heap) (d : Dfs')
/-- A value, and on. -/
def vQ (h : Heap) (d : Dfs') (x : Option AV) : Option (R × Dfs') := match x with | some x => some (.val x h fp0, d) | none => none
theorem vQ_s (x : AV) : vQ h d (some x) = some (.val x h fp0, d) := rfl
theorem vQ_n : vQ h d none = none := rfl
/-- A result, and on. -/
def rQ (d : Dfs') (r : Option R) : Option (R × Dfs') := match r with | some r => some (r, d) | none => none
theorem rQ_s (r : R) : rQ d (some r) = some (r, d) := rfl
theorem rQ_n : rQ d none = none := rfl
/-- Is it free? -/
def isDead (g : Option Reg) : Bool := match g with | some .dead => true | _ => false
theorem isDead_d : isDead (some .dead) = true := rfl
/-- What is made, if there is room. -/
def aQ (slot : Nat) (h : Heap) (d : Dfs') (r : Option R) : Option (R × Dfs') := if isDead (nth h slot) = true then (match r with
    | some (.val x h f) => some (.val x h ⟨slot :: f.rd, f.wr, f.app⟩, d)
    | some r => some (r, d)
    | none => none) else none
theorem aQ_s (x : AV) (h' : Heap) (a b : List Nat) (c : Bool) : aQ slot h d (some (.val x h' ⟨a, b, c⟩)) = if isDead (nth h slot) = true then some (.val x h' ⟨slot :: a, b, c⟩, d) else none := rfl

theorem q_plain {op : Op} (hk : kindOf op = .plain) (ha : allocs op = false) : opQ E slot op t h d = rQ d (opV E.P E.G E.eqT slot op t h) := by
  rw [opQ, opL_eq]
  simp only [hk, opP, ha]
  cases opV E.P E.G E.eqT slot op t h <;> rfl
theorem q_alloc {op : Op} (hk : kindOf op = .plain) (ha : allocs op = true) : opQ E slot op t h d = aQ slot h d (opV E.P E.G E.eqT slot op t h) := by
  rw [opQ, opL_eq]
  simp only [hk, opP, ha, nth_eq, aQ]
  cases nth h slot with
  | none => rfl
  | some g =>
    cases g with
    | dead =>
      simp only [isDead, if_true]
      cases opV E.P E.G E.eqT slot op t h with
      | none => rfl
      | some r => cases r <;> rfl
    | _ => rfl
theorem vR_Q (x : Option AV) : rQ d (vR h x) = vQ h d x := by cases x <;> rfl

theorem q_move (x : Operand) : opQ E slot (.move x) t h d = some (.val (ev E.G t x) h fp0, d) := by rw [q_plain _ _ _ _ _ rfl rfl]; rfl
theorem q_assign (x : Operand) : opQ E slot (.assign x) t h d = some (.val (ev E.G t x) h fp0, d) := by rw [q_plain _ _ _ _ _ rfl rfl]; rfl
theorem q_pick (c a b : Operand) : opQ E slot (.pick c a b) t h d = bx (asB (ev E.G t c)) fun p => some (.val (if p = true then ev E.G t a else ev E.G t b) h fp0, d) := by
  rw [q_plain _ _ _ _ _ rfl rfl]
  simp only [opV]
  cases ev E.G t c with
  | v x => cases x with
    | bool c => cases c <;> rfl
    | _ => rfl
  | _ => rfl
theorem q_build (ty' : TypeId) (parts : Array (Nat × Operand)) : opQ E slot (.build ty' parts) t h d = vQ h d (buildAV E.P ty' (evP E.G t parts.toList)) := by rw [q_plain _ _ _ _ _ rfl rfl, ← vR_Q]; rfl
theorem q_nilCheck (x : Operand) : opQ E slot (.nilCheck x) t h d = vQ h d (nilCheckAV (ev E.G t x)) := by rw [q_plain _ _ _ _ _ rfl rfl, ← vR_Q]; rfl
theorem q_binOp (op : BinOp) (ty' : TypeId) (x y : Operand) (ty2 : TypeId) : opQ E slot (.binOp op ty' x y ty2) t h d = vQ h d (binAV E.P E.eqT (isLit x || isLit y) op ty' (ev E.G t x) (ev E.G t y)) := by
  rw [q_plain _ _ _ _ _ rfl rfl, ← vR_Q]; rfl
theorem q_unOp (op : UnOp) (ty' : TypeId) (x : Operand) : opQ E slot (.unOp op ty' x) t h d = vQ h d (unAV E.P op (ev E.G t x)) := by rw [q_plain _ _ _ _ _ rfl rfl, ← vR_Q]; rfl
theorem q_makeInterface (ty' : TypeId) (x : Operand) : opQ E slot (.makeInterface ty' x) t h d = vQ h d (ifaceAV E.P ty' (ev E.G t x)) := by rw [q_plain _ _ _ _ _ rfl rfl, ← vR_Q]; rfl
theorem q_fieldAddr (ty' : TypeId) (x : Operand) (f : Nat) : opQ E slot (.fieldAddr ty' x f) t h d = vQ h d (fieldAddrAV E.P ty' f (ev E.G t x)) := by rw [q_plain _ _ _ _ _ rfl rfl, ← vR_Q]; rfl
theorem q_field (ty' : TypeId) (x : Operand) (f : Nat) : opQ E slot (.field ty' x f) t h d = vQ h d (fieldAV E.P ty' f (ev E.G t x)) := by rw [q_plain _ _ _ _ _ rfl rfl, ← vR_Q]; rfl
theorem q_index (ty' : TypeId) (x i : Operand) : opQ E slot (.index ty' x i) t h d = vQ h d (indexAV' E.P ty' (ev E.G t x) (ev E.G t i)) := by rw [q_plain _ _ _ _ _ rfl rfl, ← vR_Q]; rfl
theorem q_typeAssert (x : Operand) (a ty' : TypeId) (ok : Bool) : opQ E slot (.typeAssert x a ty' ok) t h d = vQ h d (assertAV E.P ty' ok (ev E.G t x)) := by rw [q_plain _ _ _ _ _ rfl rfl, ← vR_Q]; rfl
theorem q_extract (x : Operand) (i : Nat) : opQ E slot (.extract x i) t h d = vQ h d (extractAV i (ev E.G t x)) := by rw [q_plain _ _ _ _ _ rfl rfl, ← vR_Q]; rfl
theorem q_makeFunc (f : FuncId) (caps : Array Operand) : opQ E slot (.makeFunc (.func f) #[] caps) t h d = some (.val (.fn f (evL E.G t caps.toList)) h fp0, d) := by rw [q_plain _ _ _ _ _ rfl rfl]; rfl
/-- What is loaded, and on. -/
def lQ (h : Heap) (d : Dfs') (x : Option (AV × FP)) : Option (R × Dfs') := match x with | some (x, f) => some (.val x h f, d) | none => none
theorem lQ_s (x : AV) (f : FP) : lQ h d (some (x, f)) = some (.val x h f, d) := rfl
theorem q_load (ty' : TypeId) (a : Operand) : opQ E slot (.load ty' a) t h d = lQ h d (loadAV E.P h ty' (ev E.G t a)) := by
  rw [q_plain _ _ _ _ _ rfl rfl]
  simp only [opV, opLoad]
  cases loadAV E.P h ty' (ev E.G t a) <;> rfl
/-- What is stored, and on. -/
def sQ (d : Dfs') (x : Option (Heap × FP)) : Option (R × Dfs') := match x with | some (h, f) => some (.val (.tup []) h f, d) | none => none
theorem sQ_s (f : FP) : sQ d (some (h, f)) = some (.val (.tup []) h f, d) := rfl
theorem q_store (ty' : TypeId) (a x : Operand) (hu : (E.P.underlying ty').isSome = true) : opQ E slot (.store ty' a x) t h d = sQ d (storeAV E.P h ty' (ev E.G t a) (ev E.G t x)) := by
  rw [q_plain _ _ _ _ _ rfl rfl]
  simp only [opV, opStore]
  cases hq : E.P.underlying ty' with
  | none => rw [hq] at hu; cases hu
  | some u => cases storeAV E.P h ty' (ev E.G t a) (ev E.G t x) <;> rfl
/-- What is turned into another type, and on. -/
def cQ (h : Heap) (d : Dfs') (x : AV) (y : Option AV) : Option (R × Dfs') := match y with | some y => some (.val y h ⟨rdOf x, [], false⟩, d) | none => none
theorem cQ_s (x y : AV) : cQ h d x (some y) = some (.val y h ⟨rdOf x, [], false⟩, d) := rfl
theorem q_convert (s d' : TypeId) (x : Operand) : opQ E slot (.convert s d' x) t h d = cQ h d (ev E.G t x) (convAV E.P h s d' (ev E.G t x)) := by
  rw [q_plain _ _ _ _ _ rfl rfl]
  simp only [opV, opConv]
  cases convAV E.P h s d' (ev E.G t x) <;> rfl
/-- What is sliced, and on. -/
def zQ (d : Dfs') (x : Option (AV × Heap × FP)) : Option (R × Dfs') := match x with | some (x, h, f) => some (.val x h f, d) | none => none
theorem zQ_s (x : AV) (f : FP) : zQ d (some (x, h, f)) = some (.val x h f, d) := rfl
theorem q_slice (ty' : TypeId) (x : Operand) (lo hi mx : Option Operand) : opQ E slot (.slice ty' x lo hi mx) t h d = zQ d (sliceAV E.P h ty' (ev E.G t x) (evO E.G t lo) (evO E.G t hi) (evO E.G t mx)) := by
  rw [q_plain _ _ _ _ _ rfl rfl]
  simp only [opV, opSlice]
  cases sliceAV E.P h ty' (ev E.G t x) (evO E.G t lo) (evO E.G t hi) (evO E.G t mx) <;> rfl
/-- The address of an element. -/
def ixQ (P : Program) (h : Heap) (ty : TypeId) (x i : AV) : Option AV := match i with | .v (.int _ i) => indexAddrAV P h ty x i | _ => none
theorem ixQ_i (P : Program) (ty : TypeId) (x : AV) (k : IntKind) (i : Int) : ixQ P h ty x (.v (.int k i)) = indexAddrAV P h ty x i := rfl
theorem q_indexAddr (ty' : TypeId) (x i : Operand) : opQ E slot (.indexAddr ty' x i) t h d = cQ h d (ev E.G t x) (ixQ E.P h ty' (ev E.G t x) (ev E.G t i)) := by
  rw [q_plain _ _ _ _ _ rfl rfl]
  simp only [opV, opIndexAddr, ixQ]
  cases ev E.G t i with
  | v y => cases y with
    | int kk n =>
      simp only
      cases indexAddrAV E.P h ty' (ev E.G t x) n <;> rfl
    | _ => rfl
  | _ => rfl
def pQ (h : Heap) (d : Dfs') (x : AV) : Option (R × Dfs') := match x with | .iface ty x => some (.pan (.iface ty x) h, d) | _ => none
theorem pQ_i (ty : TypeId) (x : AV) : pQ h d (.iface ty x) = some (.pan (.iface ty x) h, d) := rfl
theorem q_panic (x : Operand) : opQ E slot (.panic x) t h d = pQ h d (ev E.G t x) := by
  rw [q_plain _ _ _ _ _ rfl rfl]
  simp only [opV]
  cases ev E.G t x <;> rfl
theorem q_allocOp (e : TypeId) : opQ E slot (.alloc e) t h d = aQ slot h d (bx (zeroCells E.P e) fun z => some (.val (.ptr slot 0 0 0) (h.set slot (.arr 0 false z.length (addNew [] (refsL z)) [z])) ⟨[], [slot], false⟩)) := by
  rw [q_alloc _ _ _ _ _ rfl rfl]
  simp only [opV, opAlloc]
  cases zeroCells E.P e <;> rfl
theorem q_box (e : TypeId) (x : Operand) : opQ E slot (.box e x) t h d = aQ slot h d (bx (cells (ev E.G t x)) fun z => some (.val (.ptr slot 0 0 0) (h.set slot (.arr 0 false z.length (addNew [] (refsL z)) [z])) ⟨[], [slot], false⟩)) := by
  rw [q_alloc _ _ _ _ _ rfl rfl]
  simp only [opV, opBox]
  cases cells (ev E.G t x) <;> rfl
theorem q_buildSlice (ty' : TypeId) (len : Nat) (ps : Array (Nat × Operand)) : opQ E slot (.buildSlice ty' len ps) t h d = aQ slot h d (opBuildSlice E.P slot h ty' len (evP E.G t ps.toList)) := by
  rw [q_alloc _ _ _ _ _ rfl rfl]; rfl
theorem q_makeSlice (ty' : TypeId) (l c : Operand) : opQ E slot (.makeSlice ty' l c) t h d = aQ slot h d (makeAV E.P h slot ty' (ev E.G t l) (ev E.G t c)) := by
  rw [q_alloc _ _ _ _ _ rfl rfl]; rfl
theorem q_append (args : Array Operand) (tys : Array TypeId) : opQ E slot (.call ⟨.builtin .append, args, tys⟩) t h d = aQ slot h d (opBuiltin E.P slot h .append tys.toList (evL E.G t args.toList)) := by
  rw [q_alloc _ _ _ _ _ rfl rfl]; rfl
theorem q_len (args : Array Operand) (tys : Array TypeId) : opQ E slot (.call ⟨.builtin .len, args, tys⟩) t h d = rQ d (opBuiltin E.P slot h .len tys.toList (evL E.G t args.toList)) := by
  rw [q_plain _ _ _ _ _ rfl rfl]; rfl
theorem q_min (args : Array Operand) (tys : Array TypeId) : opQ E slot (.call ⟨.builtin .min, args, tys⟩) t h d = vQ h d (minAV (evL E.G t args.toList)) := by
  rw [q_plain _ _ _ _ _ rfl rfl]
  simp only [opV, opCallee, opBuiltin, vR_Q]
theorem q_max (args : Array Operand) (tys : Array TypeId) : opQ E slot (.call ⟨.builtin .max, args, tys⟩) t h d = vQ h d (maxAV (evL E.G t args.toList)) := by
  rw [q_plain _ _ _ _ _ rfl rfl]
  simp only [opV, opCallee, opBuiltin, vR_Q]
theorem q_call (f : Operand) (args : Array Operand) (tys : Array TypeId) : opQ E slot (.call ⟨.value f, args, tys⟩) t h d = bx (asF (ev E.G t f)) fun q => rQ d (callEL E q.1 (evL E.G t args.toList ++ q.2) h) := by
  rw [opQ, opL_eq]
  simp only [kindOf]
  cases ev E.G t f with
  | fn f l => rfl
  | _ => rfl
theorem q_defer (f : Operand) (args : Array Operand) (tys : Array TypeId) : opQ E slot (.defer ⟨.value f, args, tys⟩) t h d = bx (asF (ev E.G t f)) fun q => some (.val (.tup []) h fp0, (q.1, evL E.G t args.toList ++ q.2) :: d) := by
  rw [opQ, opL_eq]
  simp only [kindOf]
  cases ev E.G t f with
  | fn f l => rfl
  | _ => rfl
end
end Go.AM
