/- Rules for values and memory by which the machine is run on symbols: each is an equation under its own hypotheses alone. -/
import Derived.Test.YtnehdpiiijbhhaaAMSy
import Derived.Test.YtnehdpiiijbhhaaAMRel
set_option autoImplicit false
set_option linter.unusedVariables false
set_option linter.unusedSimpArgs false
namespace Go.AM
open Go

def br {α : Type} (p : Bool) (a b : α) : α := match p with | true => a | false => b
theorem br_i {α : Type} (p : Bool) (a b : α) : br p a b = if p = true then a else b := by cases p <;> rfl

/-! Slots -/
theorem ev_t (G : Nat → AV) (t : T) (i : Nat) : ev G t (.tmp i) = t.get i := rfl
theorem ev_c (G : Nat → AV) (t : T) (x : Value) : ev G t (.const x) = ofConst x := rfl
theorem ev_f (G : Nat → AV) (t : T) (f : FuncId) : ev G t (.func f) = .fn f [] := rfl
theorem ev_g (G : Nat → AV) (t : T) (g) : ev G t (.global g) = G g := rfl
theorem oc_i (k : IntKind) (n : Int) : ofConst (.int k n) = .v (.int k n) := rfl
theorem oc_b (b : Bool) : ofConst (.bool b) = .v (.bool b) := rfl
theorem oc_s (s : ByteArray) : ofConst (.string s) = .v (.string s) := rfl
theorem oc_f (k : FloatKind) (n : Nat) : ofConst (.float k n) = .v (.float k n) := rfl
theorem oc_sl : ofConst (.slice none 0 0) = .sl true [] := rfl
theorem oc_ni : ofConst .nilIface = .v .nilIface := rfl
theorem oc_nf : ofConst .nilFunc = .v .nilFunc := rfl
theorem oc_np : ofConst (.pointer none) = .v (.pointer none) := rfl
theorem evL_n (G : Nat → AV) (t : T) : evL G t [] = [] := rfl
theorem evL_c (G : Nat → AV) (t : T) (x : Operand) (l : List Operand) : evL G t (x :: l) = ev G t x :: evL G t l := rfl
theorem evP_n (G : Nat → AV) (t : T) : evP G t [] = [] := rfl
theorem evP_c (G : Nat → AV) (t : T) (i : Nat) (x : Operand) (l : List (Nat × Operand)) : evP G t ((i, x) :: l) = (i, ev G t x) :: evP G t l := rfl
theorem evO_n (G : Nat → AV) (t : T) : evO G t none = none := rfl
theorem evO_s (G : Nat → AV) (t : T) (x : Operand) : evO G t (some x) = some (ev G t x) := rfl
theorem get_e (i : Nat) : T.e.get i = .undef := by rw [T.get]
theorem get_n (l : T) (x : AV) (r : T) (i : Nat) : (T.n l x r).get i = br (decide (i = 0)) x (br (decide (i % 2 = 1)) (l.get (i / 2)) (r.get (i / 2 - 1))) := by
  rw [T.get]
  simp only [nbeq]
  rfl
theorem set_e (i : Nat) (x : AV) : T.e.set i x = br (decide (i = 0)) (.n .e x .e) (br (decide (i % 2 = 1)) (.n (T.e.set (i / 2) x) .undef .e) (.n .e .undef (T.e.set (i / 2 - 1) x))) := by
  have h : ∀ f g i x, i < f → i < g → T.one f i x = T.one g i x := by
    intro f
    induction f with
    | zero => intro g i x h; omega
    | succ f ih =>
      intro g i x h1 h2
      cases g with
      | zero => omega
      | succ g =>
        rw [T.one, T.one]
        simp only [nbeq]
        by_cases h0 : i = 0
        · simp [h0]
        · simp only [h0, decide_false]
          by_cases hm : i % 2 = 1
          · simp only [hm, decide_true]; rw [ih g (i / 2) x (by omega) (by omega)]
          · simp only [hm, decide_false]; rw [ih g (i / 2 - 1) x (by omega) (by omega)]
  rw [T.set, T.one]
  simp only [nbeq, br]
  by_cases h0 : i = 0
  · simp [h0]
  · simp only [h0, decide_false]
    by_cases hm : i % 2 = 1
    · simp only [hm, decide_true]; rw [T.set, h i (i / 2 + 1) (i / 2) x (by omega) (by omega)]
    · simp only [hm, decide_false]; rw [T.set, h i (i / 2 - 1 + 1) (i / 2 - 1) x (by omega) (by omega)]
theorem set_n (l : T) (y : AV) (r : T) (i : Nat) (x : AV) : (T.n l y r).set i x = br (decide (i = 0)) (.n l x r) (br (decide (i % 2 = 1)) (.n (l.set (i / 2) x) y r) (.n l y (r.set (i / 2 - 1) x))) := by
  rw [T.set]
  simp only [nbeq]
  rfl
theorem ofL_n (t : T) (i : Nat) : t.ofList i [] = t := rfl
theorem ofL_c (t : T) (i : Nat) (x : AV) (l : List AV) : t.ofList i (x :: l) = (t.set i x).ofList (i + 1) l := rfl
/-- Slots, by pairs. -/
def T.of : List (Nat × AV) → T
  | [] => .e
  | (i, x) :: l => (T.of l).set i x
theorem of_n : T.of [] = .e := rfl
theorem of_c (i : Nat) (x : AV) (l : List (Nat × AV)) : T.of ((i, x) :: l) = (T.of l).set i x := rfl

/-! Numbers -/
theorem b_add (P) (q) (l : Bool) (t : TypeId) (k : IntKind) (a b : Int) : binAV P q l .add t (.v (.int k a)) (.v (.int k b)) = some (.v (.int k (k.wrap (a + b)))) := by simp [binAV, binInt]
theorem b_sub (P) (q) (l : Bool) (t : TypeId) (k : IntKind) (a b : Int) : binAV P q l .sub t (.v (.int k a)) (.v (.int k b)) = some (.v (.int k (k.wrap (a - b)))) := by simp [binAV, binInt]
theorem b_mul (P) (q) (l : Bool) (t : TypeId) (k : IntKind) (a b : Int) : binAV P q l .mul t (.v (.int k a)) (.v (.int k b)) = some (.v (.int k (k.wrap (a * b)))) := by simp [binAV, binInt]
theorem b_quo (P) (q) (l : Bool) (t : TypeId) (k : IntKind) (a b : Int) : binAV P q l .quo t (.v (.int k a)) (.v (.int k b)) = br (decide (b = 0)) none (some (.v (.int k (k.wrap (a.tdiv b))))) := by
  by_cases h : b = 0 <;> simp [binAV, binInt, h, br]
theorem b_rem (P) (q) (l : Bool) (t : TypeId) (k : IntKind) (a b : Int) : binAV P q l .rem t (.v (.int k a)) (.v (.int k b)) = br (decide (b = 0)) none (some (.v (.int k (a.tmod b)))) := by
  by_cases h : b = 0 <;> simp [binAV, binInt, h, br]
theorem b_eql (P) (q) (l : Bool) (t : TypeId) (k : IntKind) (a b : Int) : binAV P q l .eql t (.v (.int k a)) (.v (.int k b)) = some (.v (.bool (decide (a = b)))) := by simp [binAV, binInt]; rfl
theorem b_neq (P) (q) (l : Bool) (t : TypeId) (k : IntKind) (a b : Int) : binAV P q l .neq t (.v (.int k a)) (.v (.int k b)) = some (.v (.bool (!decide (a = b)))) := by simp [binAV, binInt]; rfl
theorem b_lss (P) (q) (l : Bool) (t : TypeId) (k : IntKind) (a b : Int) : binAV P q l .lss t (.v (.int k a)) (.v (.int k b)) = some (.v (.bool (decide (a < b)))) := by simp [binAV, binInt]
theorem b_leq (P) (q) (l : Bool) (t : TypeId) (k : IntKind) (a b : Int) : binAV P q l .leq t (.v (.int k a)) (.v (.int k b)) = some (.v (.bool (decide (a ≤ b)))) := by simp [binAV, binInt]
theorem b_gtr (P) (q) (l : Bool) (t : TypeId) (k : IntKind) (a b : Int) : binAV P q l .gtr t (.v (.int k a)) (.v (.int k b)) = some (.v (.bool (decide (b < a)))) := by simp [binAV, binInt]
theorem b_geq (P) (q) (l : Bool) (t : TypeId) (k : IntKind) (a b : Int) : binAV P q l .geq t (.v (.int k a)) (.v (.int k b)) = some (.v (.bool (decide (b ≤ a)))) := by simp [binAV, binInt]
theorem b_shl (P) (q) (l : Bool) (t : TypeId) (k k' : IntKind) (a b : Int) : binAV P q l .shl t (.v (.int k a)) (.v (.int k' b)) = br (decide (b < 0)) none (some (.v (.int k (k.wrap (a * 2 ^ (min b.toNat k.bits)))))) := by
  by_cases h : b < 0 <;> simp [binAV, h, br]
theorem b_shr (P) (q) (l : Bool) (t : TypeId) (k k' : IntKind) (a b : Int) : binAV P q l .shr t (.v (.int k a)) (.v (.int k' b)) = br (decide (b < 0)) none (some (.v (.int k (a.fdiv (2 ^ (min b.toNat k.bits)))))) := by
  by_cases h : b < 0 <;> simp [binAV, h, br]
def iand (k : IntKind) (a b : Int) : Int := k.wrap (BitVec.ofInt k.bits a &&& BitVec.ofInt k.bits b).toNat
def ior (k : IntKind) (a b : Int) : Int := k.wrap (BitVec.ofInt k.bits a ||| BitVec.ofInt k.bits b).toNat
def ixor (k : IntKind) (a b : Int) : Int := k.wrap (BitVec.ofInt k.bits a ^^^ BitVec.ofInt k.bits b).toNat
def iandNot (k : IntKind) (a b : Int) : Int := k.wrap (BitVec.ofInt k.bits a &&& ~~~(BitVec.ofInt k.bits b)).toNat
theorem b_and (P) (q) (l : Bool) (t : TypeId) (k : IntKind) (a b : Int) : binAV P q l .and t (.v (.int k a)) (.v (.int k b)) = some (.v (.int k (iand k a b))) := by simp only [binAV, if_true]; rfl
theorem b_or (P) (q) (l : Bool) (t : TypeId) (k : IntKind) (a b : Int) : binAV P q l .or t (.v (.int k a)) (.v (.int k b)) = some (.v (.int k (ior k a b))) := by simp only [binAV, if_true]; rfl
theorem b_xor (P) (q) (l : Bool) (t : TypeId) (k : IntKind) (a b : Int) : binAV P q l .xor t (.v (.int k a)) (.v (.int k b)) = some (.v (.int k (ixor k a b))) := by simp only [binAV, if_true]; rfl
theorem b_andNot (P) (q) (l : Bool) (t : TypeId) (k : IntKind) (a b : Int) : binAV P q l .andNot t (.v (.int k a)) (.v (.int k b)) = some (.v (.int k (iandNot k a b))) := by simp only [binAV, if_true]; rfl
theorem u_not (P) (b : Bool) : unAV P .not (.v (.bool b)) = some (.v (.bool !b)) := rfl
theorem u_neg (P) (k : IntKind) (n : Int) : unAV P .neg (.v (.int k n)) = some (.v (.int k (k.wrap (0 - n)))) := rfl
theorem u_xor (P) (k : IntKind) (n : Int) : unAV P .xor (.v (.int k n)) = some (.v (.int k (ixor k (if k.signed then -1 else k.max) n))) := rfl
def boolT (P : Program) (t : TypeId) : Bool := match P.underlying t with | some .bool => true | _ => false
theorem b_eqB (P) (q) (l : Bool) (t : TypeId) (a b : Bool) : binAV P q l .eql t (.v (.bool a)) (.v (.bool b)) = br (boolT P t) (some (.v (.bool (a == b)))) none := by
  unfold binAV boolT
  cases P.underlying t with
  | none => rfl
  | some u => cases u <;> rfl
theorem b_neB (P) (q) (l : Bool) (t : TypeId) (a b : Bool) : binAV P q l .neq t (.v (.bool a)) (.v (.bool b)) = br (boolT P t) (some (.v (.bool (a != b)))) none := by
  unfold binAV boolT
  cases P.underlying t with
  | none => rfl
  | some u => cases u <;> rfl
/-- Two structs are compared. -/
def eqS (sh : List Bool) (l m : List AV) : Option Bool := match sh with | [] => none | sh => eqShape sh l m
theorem b_eqA (P) (q : TypeId → List Bool) (l : Bool) (t : TypeId) (a b : List AV) : binAV P q l .eql t (.agg a) (.agg b) = bx (eqS (q t) a b) fun c => some (.v (.bool c)) := by
  unfold binAV eqS
  cases hq : q t with
  | nil => rfl
  | cons x sh => simp only; cases eqShape (x :: sh) a b <;> rfl
theorem b_neA (P) (q : TypeId → List Bool) (l : Bool) (t : TypeId) (a b : List AV) : binAV P q l .neq t (.agg a) (.agg b) = bx (eqS (q t) a b) fun c => some (.v (.bool (!c))) := by
  unfold binAV eqS
  cases hq : q t with
  | nil => rfl
  | cons x sh => simp only; cases eqShape (x :: sh) a b <;> rfl
theorem eqS_c (s : Bool) (sh : List Bool) (l m : List AV) : eqS (s :: sh) l m = eqShape (s :: sh) l m := rfl
theorem es_n (l m : List AV) : eqShape [] l m = some true := by rw [eqShape]
theorem es_i (sh : List Bool) (k : IntKind) (a b : Int) (l m : List AV) : eqShape (true :: sh) (.v (.int k a) :: l) (.v (.int k b) :: m) = br (decide (a = b)) (eqShape sh l m) (some false) := by
  rw [eqShape]
  by_cases h : a = b
  · subst h; simp [eqOne, br]
  · have : (a == b) = false := by simpa using h
    simp [eqOne, h, br, this]
theorem es_b (sh : List Bool) (a b : Bool) (l m : List AV) : eqShape (false :: sh) (.v (.bool a) :: l) (.v (.bool b) :: m) = br (a == b) (eqShape sh l m) (some false) := by
  rw [eqShape]
  cases a <;> cases b <;> rfl
/-- Of which kind an int becomes. -/
def cvI (P : Program) (s d : TypeId) : Option IntKind := match P.underlying s, P.underlying d with | some _, some (.int k) => some k | _, _ => none
theorem c_int (P) (h : Heap) (s d : TypeId) (k0 : IntKind) (n : Int) (k : IntKind) (hk : cvI P s d = some k) : convAV P h s d (.v (.int k0 n)) = some (.v (.int k (k.wrap n))) := by
  unfold cvI at hk
  unfold convAV
  split at hk
  · next h1 h2 => cases hk; rw [h1, h2]
  · cases hk

/-! Cells -/
theorem cells_a (l : List AV) : cells (.agg l) = some l := rfl
theorem cells_v (x : Value) : cells (.v x) = some [.v x] := rfl
theorem cells_s (f : Bool) (l : List (List AV)) : cells (.sl f l) = some [.sl f l] := rfl
theorem cells_r (a b c d : Nat) : cells (.ref a b c d) = some [.ref a b c d] := rfl
theorem cells_p (a b c d : Nat) : cells (.ptr a b c d) = some [.ptr a b c d] := rfl
theorem cells_m (l : List AV) : cells (.imm l) = some [.imm l] := rfl
theorem cells_f (f : FuncId) (l : List AV) : cells (.fn f l) = some [.fn f l] := rfl
theorem cells_i (t : TypeId) (x : AV) : cells (.iface t x) = some [.iface t x] := rfl

def tk {α : Type} : List α → Nat → List α
  | [], _ => []
  | _, 0 => []
  | x :: l, n + 1 => x :: tk l n
def sl0 {α : Type} : List α → Nat → Nat → List α
  | [], _, _ => []
  | l, 0, n => tk l n
  | _ :: l, m + 1, n => sl0 l m n
theorem tk_eq {α : Type} : ∀ (l : List α) (n : Nat), l.take n = tk l n
  | [], n => by simp [tk]
  | x :: l, 0 => by simp [tk]
  | x :: l, n + 1 => by simp [tk, tk_eq l n]
theorem slice_eq {α : Type} : ∀ (l : List α) (m n : Nat), slice l m n = sl0 l m n
  | [], m, n => by simp [sl0, slice]
  | x :: l, 0, n => by simp [sl0, slice, tk_eq]
  | x :: l, m + 1, n => by
    have := slice_eq l m n
    simp only [slice] at this
    simp [sl0, slice, this]
theorem tk_n {α : Type} (n : Nat) : tk ([] : List α) n = [] := by cases n <;> rfl
theorem tk_z {α : Type} (l : List α) : tk l 0 = [] := by cases l <;> rfl
theorem tk_s {α : Type} (x : α) (l : List α) (n : Nat) : tk (x :: l) (n + 1) = x :: tk l n := rfl
theorem sl_n {α : Type} (m n : Nat) : sl0 ([] : List α) m n = [] := by cases m <;> rfl
theorem sl_z {α : Type} (l : List α) (n : Nat) : sl0 l 0 n = tk l n := by cases l <;> simp [sl0, tk_n]
theorem sl_s {α : Type} (x : α) (l : List α) (m n : Nat) : sl0 (x :: l) (m + 1) n = sl0 l m n := rfl

def over {α : Type} : List α → List α → List α
  | e, [] => e
  | [], c => c
  | _ :: e, y :: c => y :: over e c
def seg {α : Type} : List α → Nat → List α → List α
  | [], _, c => c
  | e, 0, c => over e c
  | x :: e, n + 1, c => x :: seg e n c
theorem over_eq {α : Type} : ∀ (e c : List α), c ++ e.drop c.length = over e c
  | [], [] => rfl
  | [], y :: c => by simp [over]
  | x :: e, [] => by simp [over]
  | x :: e, y :: c => by simp [over, over_eq e c]
theorem seg_eq : ∀ (e : List AV) (n : Nat) (c : List AV), setSeg e n c = seg e n c
  | [], n, c => by simp [setSeg, seg]
  | x :: e, 0, c => by simp [setSeg, seg, over_eq]
  | x :: e, n + 1, c => by
    have := seg_eq e n c
    simp only [setSeg] at this
    have h2 : n + 1 + c.length = n + c.length + 1 := by omega
    simp [setSeg, seg, this, h2]
theorem seg_n {α : Type} (n : Nat) (c : List α) : seg [] n c = c := by cases n <;> rfl
theorem seg_z {α : Type} (x : α) (e c : List α) : seg (x :: e) 0 c = over (x :: e) c := rfl
theorem seg_s {α : Type} (x : α) (e c : List α) (n : Nat) : seg (x :: e) (n + 1) c = x :: seg e n c := rfl
theorem over_n {α : Type} (e : List α) : over e [] = e := by cases e <;> rfl
theorem over_e {α : Type} (y : α) (c : List α) : over [] (y :: c) = y :: c := rfl
theorem over_c {α : Type} (x : α) (e : List α) (y : α) (c : List α) : over (x :: e) (y :: c) = y :: over e c := rfl

/-- How many cells what is of a type has; 'none': it is one value. -/
def aggC (P : Program) (t : TypeId) : Option (Option Nat) := match aggT P t with | some true => some (some (P.cellsOf t)) | some false => some none | none => none
def partQ (q : Option Nat) (e : List AV) (off : Nat) : Option AV := match q with
  | some n => br (decide (off + n ≤ e.length)) (some (.agg (sl0 e off n))) none
  | none => nth e off
theorem part_eq (P : Program) (t : TypeId) (e : List AV) (off : Nat) : part P t e off = bx (aggC P t) fun q => partQ q e off := by
  unfold part aggC partQ
  cases aggT P t with
  | none => rfl
  | some b => cases b with
    | false => simp only [bx, nth_eq]
    | true =>
      simp only [bx, slice_eq]
      by_cases h : off + P.cellsOf t ≤ e.length <;> simp [h, br]
theorem partQ_s (n : Nat) (e : List AV) (off : Nat) : partQ (some n) e off = br (decide (off + n ≤ e.length)) (some (.agg (sl0 e off n))) none := rfl
theorem partQ_n (e : List AV) (off : Nat) : partQ none e off = nth e off := rfl

/-- A region's elements at a version. -/
def arrOf (g : Option Reg) (ver : Nat) : Option (List (List AV)) := match g with
  | some (.arr ver' _ _ _ l) => br (decide (ver' = ver)) (some l) none
  | _ => none
theorem arrOf_a (v : Nat) (ro : Bool) (sz : Nat) (rf : List Nat) (l : List (List AV)) (ver : Nat) : arrOf (some (.arr v ro sz rf l)) ver = br (decide (v = ver)) (some l) none := rfl
theorem ld_p (P : Program) (h : Heap) (t : TypeId) (r ver i off : Nat) : loadAV P h t (.ptr r ver i off) =
    bx (arrOf (nth h r) ver) fun l => bx (nth l i) fun e => bx (part P t e off) fun x => some (x, ⟨[r], [], false⟩) := by
  unfold loadAV arrOf
  simp only [nth_eq]
  cases nth h r with
  | none => rfl
  | some g => cases g with
    | arr v ro sz rf l =>
      simp only
      by_cases hv : v = ver
      · simp only [hv, if_true, decide_true, br, bx]
        cases nth l i with
        | none => rfl
        | some e => simp only; cases part P t e off <;> rfl
      · simp [hv, br, bx]
    | _ => rfl
theorem ld_i (P : Program) (h : Heap) (t : TypeId) (e : List AV) : loadAV P h t (.imm e) = bx (part P t e 0) fun x => some (x, fp0) := by
  unfold loadAV
  simp only
  cases part P t e 0 <;> rfl
/-- A region that may be written, at a version. -/
def wrOf (g : Option Reg) (ver : Nat) : Option (Nat × List Nat × List (List AV)) := match g with
  | some (.arr ver' false sz rf l) => br (decide (ver' = ver)) (some (sz, rf, l)) none
  | _ => none
theorem wrOf_a (v : Nat) (sz : Nat) (rf : List Nat) (l : List (List AV)) (ver : Nat) : wrOf (some (.arr v false sz rf l)) ver = br (decide (v = ver)) (some (sz, rf, l)) none := rfl
/-- How many cells are stored. -/
def stC (P : Program) (t : TypeId) : Option Nat := match P.underlying t with | some _ => some (P.cellsOf t) | none => none
theorem st_p (P : Program) (h : Heap) (t : TypeId) (r ver i off : Nat) (x : AV) : storeAV P h t (.ptr r ver i off) x =
    bx (cells x) fun c => bx (wrOf (nth h r) ver) fun g => bx (nth g.2.2 i) fun e => br (decide (c.length = P.cellsOf t) && decide (off + c.length ≤ e.length))
      (some (h.set r (.arr ver false g.1 (addNew g.2.1 (refsL c)) (g.2.2.set i (seg e off c))), ⟨[], [r], false⟩)) none := by
  unfold storeAV wrOf
  simp only [nth_eq, seg_eq]
  cases cells x with
  | none => rfl
  | some c =>
    simp only [bx]
    cases nth h r with
    | none => rfl
    | some g => cases g with
      | arr v ro sz rf l =>
        cases ro with
        | true => rfl
        | false =>
          simp only
          by_cases hv : v = ver
          · subst hv
            simp only [if_true, decide_true, br]
            cases nth l i with
            | none => rfl
            | some e =>
              simp only
              by_cases h1 : c.length = P.cellsOf t
              · by_cases h2 : off + c.length ≤ e.length
                · rw [if_pos ⟨h1, h2⟩, decide_eq_true h1, decide_eq_true h2]; rfl
                · rw [if_neg (by intro h; exact h2 h.2), decide_eq_true h1, decide_eq_false h2]; rfl
              · rw [if_neg (by intro h; exact h1 h.1), decide_eq_false h1]; rfl
          · simp [hv, br]
      | _ => rfl

/-! Addresses -/
def foA (P : Program) (s : TypeId) (f : Nat) : Option Nat := match fieldOff P s f with | some (off, ty) => if P.cellsOf ty = 0 then none else some off | none => none
theorem fa_eq (P : Program) (s : TypeId) (f : Nat) (x : AV) : fieldAddrAV P s f x = bx (foA P s f) fun off => moveBy off x := by
  unfold fieldAddrAV foA
  cases fieldOff P s f with
  | none => rfl
  | some q =>
    obtain ⟨off, ty⟩ := q
    simp only
    by_cases h : P.cellsOf ty = 0 <;> simp [h, bx]
theorem mv_p (n r ver i off : Nat) : moveBy n (.ptr r ver i off) = some (.ptr r ver i (off + n)) := rfl
theorem mv_i (n : Nat) (l : List AV) : moveBy n (.imm l) = some (.imm (l.drop n)) := rfl
theorem fv_eq (P : Program) (s : TypeId) (f : Nat) (l : List AV) : fieldAV P s f (.agg l) = bx (fieldOff P s f) fun q => part P q.2 l q.1 := by
  unfold fieldAV
  cases fieldOff P s f <;> rfl
def idx' (i : Int) (len : Nat) : Option Nat := br (decide (0 ≤ i) && decide (i < len)) (some i.toNat) none
theorem idx_eq (i : Int) (len : Nat) : idx i len = idx' i len := by
  unfold idx idx' br
  by_cases h1 : 0 ≤ i <;> by_cases h2 : i < len <;> simp [h1, h2]
theorem idx'_eq (i : Int) (len : Nat) : idx' i len = br (decide (0 ≤ i) && decide (i < len)) (some i.toNat) none := rfl
/-- What is indexed: an array's length, or a slice; the cells of an element. -/
def ixT (P : Program) (t : TypeId) : Option (Option Nat × Nat) := match P.underlying t with
  | some (.array len e) => if (P.info? e).isSome then some (some len, P.cellsOf e) else none
  | some (.slice e) => if (P.info? e).isSome then some (none, P.cellsOf e) else none
  | _ => none
theorem ix_a (P : Program) (h : Heap) (t : TypeId) (x : AV) (i : Int) (len c : Nat) (ht : ixT P t = some (some len, c)) : indexAddrAV P h t x i = bx (idx' i len) fun n => moveBy (n * c) x := by
  unfold ixT at ht
  unfold indexAddrAV
  split at ht
  · next len' e hu =>
    split at ht
    · next hi =>
      cases ht
      rw [hu]
      simp only [idx_eq, hi, if_true]
      cases idx' i len <;> rfl
    · cases ht
  · split at ht <;> cases ht
  · cases ht
theorem ix_s (P : Program) (h : Heap) (t : TypeId) (f : Bool) (l : List (List AV)) (i : Int) (c : Nat) (ht : ixT P t = some (none, c)) : indexAddrAV P h t (.sl f l) i =
    bx (idx' i l.length) fun n => bx (nth l n) fun e => br (decide (e.length = c)) (some (.imm e)) none := by
  unfold ixT at ht
  unfold indexAddrAV
  split at ht
  · split at ht <;> cases ht
  · next e hu =>
    split at ht
    · next hi =>
      cases ht
      rw [hu]
      simp only [idx_eq, nth_eq, hi, and_true]
      cases idx' i l.length with
      | none => rfl
      | some n =>
        simp only [bx]
        cases nth l n with
        | none => rfl
        | some e' => simp only; by_cases hl : e'.length = P.cellsOf e <;> simp [hl, br]
    · cases ht
  · cases ht
theorem ix_r (P : Program) (h : Heap) (t : TypeId) (r ver off len : Nat) (i : Int) (c : Nat) (ht : ixT P t = some (none, c)) : indexAddrAV P h t (.ref r ver off len) i =
    bx (idx' i len) fun n => match nth h r with
      | some (.arr ver' _ sz _ _) => br (decide (ver' = ver) && decide (sz = c)) (some (.ptr r ver (off + n) 0)) none
      | _ => none := by
  unfold ixT at ht
  unfold indexAddrAV
  split at ht
  · split at ht <;> cases ht
  · next e hu =>
    split at ht
    · next hi =>
      cases ht
      rw [hu]
      simp only [idx_eq, nth_eq, hi, and_true]
      cases idx' i len with
      | none => rfl
      | some n =>
        simp only [bx]
        cases nth h r with
        | none => rfl
        | some g => cases g with
          | arr v ro sz rf l => simp only; by_cases h1 : v = ver <;> by_cases h2 : sz = P.cellsOf e <;> simp [h1, h2, br]
          | _ => rfl
    · cases ht
  · cases ht
theorem xv_a (P : Program) (t : TypeId) (l : List AV) (k : IntKind) (i : Int) : indexAV' P t (.agg l) (.v (.int k i)) = match P.underlying t with
    | some (.array len elem) => bx (idx' i len) fun n => br (P.info? elem).isSome (part P elem l (n * P.cellsOf elem)) none
    | _ => none := by
  unfold indexAV' indexAV
  simp only [idx_eq]
  cases P.underlying t with
  | none => rfl
  | some u =>
    cases u with
    | array len e =>
      simp only
      cases idx' i len with
      | none => rfl
      | some n => simp only [bx]; cases (P.info? e).isSome <;> rfl
    | _ => rfl

/-! Structs and arrays that are built -/
def bldS (P : Program) (t : TypeId) : Option (List (Nat × Nat) × List AV) := match zeroCells P t with
  | none => none
  | some z => match P.underlying t with
    | some (.struct fs) => if fieldsOk P fs then some (fs.toList.map fun f => (f.offset, P.cellsOf f.type), z) else none
    | _ => none
def bldA (P : Program) (t : TypeId) : Option (Nat × List AV) := match zeroCells P t with
  | none => none
  | some z => match P.underlying t with
    | some (.array n elem) => if (P.info? elem).isSome then some (P.cellsOf elem, z) else none
    | _ => none
def fillB (pl : List (Nat × Nat)) (cs : List AV) : List (Nat × AV) → Option (List AV)
  | [] => some cs
  | (i, x) :: rest => bx (nth pl i) fun p => bx (cells x) fun c => br (decide (c.length = p.2) && decide (p.1 + c.length ≤ cs.length)) (fillB pl (seg cs p.1 c) rest) none
theorem fillB_n (pl : List (Nat × Nat)) (cs : List AV) : fillB pl cs [] = some cs := rfl
theorem fillB_c (pl : List (Nat × Nat)) (cs : List AV) (i : Nat) (x : AV) (rest : List (Nat × AV)) : fillB pl cs ((i, x) :: rest) =
    bx (nth pl i) fun p => bx (cells x) fun c => br (decide (c.length = p.2) && decide (p.1 + c.length ≤ cs.length)) (fillB pl (seg cs p.1 c) rest) none := rfl
theorem fill_eq (place : Nat → Option (Nat × Nat)) (pl : List (Nat × Nat)) (hp : ∀ i, nth pl i = place i) : ∀ (ps : List (Nat × AV)) (cs : List AV), fillAV place cs ps = fillB pl cs ps
  | [], cs => by rw [fillAV, fillB]
  | (i, x) :: rest, cs => by
    rw [fillAV, fillB, hp]
    cases place i with
    | none => rfl
    | some p =>
      obtain ⟨off, size⟩ := p
      cases cells x with
      | none => rfl
      | some c =>
        simp only [bx, seg_eq]
        by_cases h1 : c.length = size <;> by_cases h2 : off + c.length ≤ cs.length
        · rw [if_neg (by omega)]
          simp [h1, br]
          rw [← h1]
          simp [h2]
          exact fill_eq place pl hp rest _
        · rw [if_pos (by omega)]; simp [h2, br]
        · rw [if_pos (by omega)]; simp [h1, br]
        · rw [if_pos (by omega)]; simp [h1, br]
theorem nth_map {α β : Type} (f : α → β) : ∀ (l : List α) (i : Nat), nth (l.map f) i = (nth l i).map f
  | [], i => by simp [nth]
  | x :: l, 0 => rfl
  | x :: l, i + 1 => nth_map f l i
theorem bld_s (P : Program) (t : TypeId) (ps : List (Nat × AV)) (pl : List (Nat × Nat)) (z : List AV) (ht : bldS P t = some (pl, z)) : buildAV P t ps = bx (fillB pl z ps) fun r => some (.agg r) := by
  unfold bldS at ht
  unfold buildAV
  split at ht
  · cases ht
  · next z' hz =>
    rw [hz]
    try simp only
    split at ht
    · next fs hu =>
      split at ht
      · next hf =>
        cases ht
        rw [hu]
        simp only [hf, if_true]
        rw [fill_eq _ (fs.toList.map fun f => (f.offset, P.cellsOf f.type)) (fun i => ?_)]
        · cases fillB (fs.toList.map fun f => (f.offset, P.cellsOf f.type)) z ps <;> rfl
        · rw [nth_map, ← nth_eq]
          simp only [Array.getElem?_toList]
          cases fs[i]? <;> rfl
      · cases ht
    · cases ht
/-- Filling by places of one size. -/
def fillA (n : Nat) (cs : List AV) : List (Nat × AV) → Option (List AV)
  | [] => some cs
  | (i, x) :: rest => bx (cells x) fun c => br (decide (c.length = n) && decide (i * n + c.length ≤ cs.length)) (fillA n (seg cs (i * n) c) rest) none
theorem fillA_n (n : Nat) (cs : List AV) : fillA n cs [] = some cs := rfl
theorem fillA_c (n : Nat) (cs : List AV) (i : Nat) (x : AV) (rest : List (Nat × AV)) : fillA n cs ((i, x) :: rest) =
    bx (cells x) fun c => br (decide (c.length = n) && decide (i * n + c.length ≤ cs.length)) (fillA n (seg cs (i * n) c) rest) none := rfl
theorem fillA_eq (n : Nat) : ∀ (ps : List (Nat × AV)) (cs : List AV), fillAV (fun i => some (i * n, n)) cs ps = fillA n cs ps
  | [], cs => by rw [fillAV, fillA]
  | (i, x) :: rest, cs => by
    rw [fillAV, fillA]
    cases cells x with
    | none => rfl
    | some c =>
      simp only [bx, seg_eq]
      by_cases h1 : c.length = n <;> by_cases h2 : i * n + c.length ≤ cs.length
      · rw [if_neg (by omega), fillA_eq n rest, decide_eq_true h1, decide_eq_true h2]; rfl
      · rw [if_pos (by omega), decide_eq_true h1, decide_eq_false h2]; rfl
      · rw [if_pos (by omega), decide_eq_false h1]; rfl
      · rw [if_pos (by omega), decide_eq_false h1]; rfl
theorem bld_a (P : Program) (t : TypeId) (ps : List (Nat × AV)) (n : Nat) (z : List AV) (ht : bldA P t = some (n, z)) : buildAV P t ps = bx (fillA n z ps) fun r => some (.agg r) := by
  unfold bldA at ht
  unfold buildAV
  split at ht
  · cases ht
  · next z' hz =>
    rw [hz]
    try simp only
    split at ht
    · next m e hu =>
      split at ht
      · next hf =>
        cases ht
        rw [hu]
        simp only [hf, if_true, fillA_eq]
        cases fillA (P.cellsOf e) z ps <;> rfl
      · cases ht
    · cases ht
/-- A slice's element: its cells, when it is zero. -/
def slZ (P : Program) (t : TypeId) : Option (List AV) := match P.underlying t with
  | some (.slice e) => (match zeroCells P e with | some z => if z.length = P.cellsOf e ∧ z.length ≠ 0 then some z else none | none => none)
  | _ => none
theorem bsl_eq (P : Program) (slot : Nat) (h : Heap) (t : TypeId) (len : Nat) (ps : List (Nat × AV)) (z : List AV) (ht : slZ P t = some z) (hl : len * z.length ≤ 16777216) :
    opBuildSlice P slot h t len ps = bx (fillA z.length (List.replicate len z).flatten ps) fun l => some (.val (.ref slot 0 0 len) (h.set slot (.arr 0 false z.length (addNew [] (refsL l)) (chunks z.length len l))) ⟨[], [slot], false⟩) := by
  unfold slZ at ht
  unfold opBuildSlice
  split at ht
  · next e hu =>
    rw [hu]
    simp only
    split at ht
    · next z' hz =>
      split at ht
      · next hq =>
        cases ht
        rw [hz]
        simp only [← hq.1, fillA_eq]
        cases fillA z.length (List.replicate len z).flatten ps with
        | none => rfl
        | some l => simp only [bx]; rw [if_pos ⟨⟨trivial, hq.2⟩, hl⟩]
      · cases ht
    · cases ht
  · cases ht
theorem chunks_z (s : Nat) (l : List AV) : chunks s 0 l = [] := rfl
theorem chunks_s (s n : Nat) (l : List AV) : chunks s (n + 1) l = l.take s :: chunks s n (l.drop s) := rfl

/-! Slices -/
def bound' (x : Option AV) (dflt most : Nat) : Option Nat := match x with
  | none => br (decide (dflt ≤ most)) (some dflt) none
  | some (.v (.int _ i)) => br (decide (0 ≤ i) && decide (i ≤ most)) (some i.toNat) none
  | _ => none
theorem bound_eq (x : Option AV) (dflt most : Nat) : bound x dflt most = bound' x dflt most := by
  unfold bound bound'
  split
  · by_cases h : dflt ≤ most <;> simp [h, br]
  · next k i => by_cases h1 : 0 ≤ i <;> by_cases h2 : i ≤ most <;> simp [h1, h2, br]
  · split <;> first | rfl | simp_all
theorem bd_n (d m : Nat) : bound' none d m = br (decide (d ≤ m)) (some d) none := rfl
theorem bd_s (k : IntKind) (i : Int) (d m : Nat) : bound' (some (.v (.int k i))) d m = br (decide (0 ≤ i) && decide (i ≤ m)) (some i.toNat) none := rfl
/-- A slice's element: its cells. -/
def slE (P : Program) (t : TypeId) : Option Nat := match P.underlying t with
  | some (.slice e) => if (P.info? e).isSome then some (P.cellsOf e) else none
  | _ => none
theorem sl_v (P : Program) (h : Heap) (t : TypeId) (full : Bool) (l : List (List AV)) (lo hi : Option AV) (c : Nat) (ht : slE P t = some c) : sliceAV P h t (.sl full l) lo hi none =
    bx (bound' hi l.length l.length) fun b => bx (bound' lo 0 b) fun a => br (allLen c l) (some (.sl (full && b == l.length) (slice l a (b - a)), h, fp0)) none := by
  unfold slE at ht
  split at ht
  · next e hu =>
    split at ht
    · next hi' =>
      cases ht
      unfold sliceAV
      rw [hu]
      simp only [bound_eq, hi', Bool.and_true, Option.isSome_none, Bool.false_and, Bool.false_eq_true, if_false, bd_n, Nat.le_refl, decide_true, br]
      cases bound' hi l.length l.length with
      | none => rfl
      | some b =>
        simp only [bx]
        cases bound' lo 0 b with
        | none => rfl
        | some a => simp only; cases allLen (P.cellsOf e) l <;> rfl
    · cases ht
  · cases ht
theorem sl_r (P : Program) (h : Heap) (t : TypeId) (r ver off len : Nat) (lo hi : Option AV) (c : Nat) (ht : slE P t = some c) : sliceAV P h t (.ref r ver off len) lo hi none =
    bx (bound' hi len len) fun b => bx (bound' lo 0 b) fun a => match nth h r with
      | some (.arr ver' _ sz _ _) => br (decide (ver' = ver) && decide (sz = c)) (some (.ref r ver (off + a) (b - a), h, ⟨[r], [], false⟩)) none
      | _ => none := by
  unfold slE at ht
  split at ht
  · next e hu =>
    split at ht
    · next hi' =>
      cases ht
      unfold sliceAV
      rw [hu]
      simp only [bound_eq, hi', and_true, nth_eq]
      cases bound' hi len len with
      | none => rfl
      | some b =>
        simp only [bx]
        cases bound' lo 0 b with
        | none => rfl
        | some a =>
          simp only
          cases nth h r with
          | none => rfl
          | some g => cases g with
            | arr v ro sz rf l => simp only; by_cases h1 : v = ver <;> by_cases h2 : sz = P.cellsOf e <;> simp [h1, h2, br]
            | _ => rfl
    · cases ht
  · cases ht
/-- Of what a length is asked. -/
inductive LenK where
  | arr (n : Nat)
  | sl
  | str
def lenT (P : Program) (t : TypeId) : Option LenK := match P.underlying t with
  | some (.array n _) => some (.arr n)
  | some (.slice _) => some .sl
  | some .string => some .str
  | _ => none
theorem len_a (P : Program) (slot : Nat) (h : Heap) (t : TypeId) (x : AV) (n : Nat) (ht : lenT P t = some (.arr n)) : opBuiltin P slot h .len [t] [x] = some (.val (.v (.int .i64 n)) h fp0) := by
  unfold lenT at ht
  simp only [opBuiltin, List.head?]
  unfold opLen
  split at ht <;> first | (next hu => cases ht; rw [hu]) | cases ht
theorem len_v (P : Program) (slot : Nat) (h : Heap) (t : TypeId) (f : Bool) (l : List (List AV)) (ht : lenT P t = some .sl) : opBuiltin P slot h .len [t] [.sl f l] = some (.val (.v (.int .i64 l.length)) h fp0) := by
  unfold lenT at ht
  simp only [opBuiltin, List.head?]
  unfold opLen
  split at ht <;> first | (next hu => cases ht; rw [hu]; rfl) | cases ht
theorem len_r (P : Program) (slot : Nat) (h : Heap) (t : TypeId) (a b c d : Nat) (ht : lenT P t = some .sl) : opBuiltin P slot h .len [t] [.ref a b c d] = some (.val (.v (.int .i64 d)) h fp0) := by
  unfold lenT at ht
  simp only [opBuiltin, List.head?]
  unfold opLen
  split at ht <;> first | (next hu => cases ht; rw [hu]; rfl) | cases ht
theorem len_s (P : Program) (slot : Nat) (h : Heap) (t : TypeId) (s : ByteArray) (ht : lenT P t = some .str) : opBuiltin P slot h .len [t] [.v (.string s)] = some (.val (.v (.int .i64 s.size)) h fp0) := by
  unfold lenT at ht
  simp only [opBuiltin, List.head?]
  unfold opLen
  split at ht <;> first | (next hu => cases ht; rw [hu]) | cases ht
theorem min_2 (k k' : IntKind) (a b : Int) : minAV [.v (.int k a), .v (.int k' b)] = some (.v (.int k (min b a))) := by
  simp only [minAV, toInts, ints, List.foldl]
  congr 3
  omega
theorem max_2 (k k' : IntKind) (a b : Int) : maxAV [.v (.int k a), .v (.int k' b)] = some (.v (.int k (max b a))) := by
  simp only [maxAV, toInts, ints, List.foldl]
  congr 3
  omega
theorem ex_t (i : Nat) (l : List AV) : extractAV i (.tup l) = nth l i := by rw [← nth_eq]; rfl

/-! References -/
theorem refs_v (x : Value) : refs (.v x) = [] := rfl
theorem refs_a (l : List AV) : refs (.agg l) = refsL l := by rw [refs]
theorem refs_t (l : List AV) : refs (.tup l) = refsL l := by rw [refs]
theorem refs_r (a b c d : Nat) : refs (.ref a b c d) = [a] := by rw [refs]
theorem refs_p (a b c d : Nat) : refs (.ptr a b c d) = [a] := by rw [refs]
theorem refs_s (f : Bool) (l : List (List AV)) : refs (.sl f l) = [] := rfl
theorem refs_m (l : List AV) : refs (.imm l) = [] := rfl
theorem refs_f (f : FuncId) (l : List AV) : refs (.fn f l) = refsL l := by rw [refs]
theorem refs_i (t : TypeId) (x : AV) : refs (.iface t x) = refs x := by rw [refs]
theorem refs_u : refs .undef = [] := rfl
theorem refsL_n : refsL [] = [] := by rw [refsL]
theorem refsL_c (x : AV) (l : List AV) : refsL (x :: l) = refs x ++ refsL l := by rw [refsL]
theorem addNew_n (acc : List Nat) : addNew acc [] = acc := rfl
theorem addNew_c (acc : List Nat) (r : Nat) (l : List Nat) : addNew acc (r :: l) = br (mem r acc) (addNew acc l) (addNew (acc ++ [r]) l) := by
  rw [addNew]
  cases h : mem r acc <;> simp [br]
theorem mem_n (r : Nat) : mem r [] = false := rfl
theorem mem_c (r x : Nat) (l : List Nat) : mem r (x :: l) = br (decide (r = x)) true (mem r l) := by
  rw [mem, nbeq]
  by_cases h : r = x <;> simp [h, br]

/-! Functions -/
/-- Behind a function's code. -/
noncomputable def atF (E : Cfg) (fn : Func) (r : Ex × St) : Option (Out × Heap) := match r with
  | (.normal, st) => finL E fn st none
  | (.ret, st) => finL E fn st none
  | (.pan x, st) => finL E fn st (some x)
  | _ => none
theorem y_call {E : Cfg} {f : FuncId} {fn : Func} {c : Code} (hn : E.nat f = none) (hf : E.P.funcs.toList[f]? = some fn) (hb : fn.body = some c) (args : List AV) (h : Heap) :
    callL E f args h = bx (goX E [.code c] .normal ⟨T.e.ofList 0 args, h, [], E.keep f⟩) (atF E fn) := by
  rw [callL_eq, hn, of_g]
  simp only [hf, hb]
  cases execL E c ⟨T.e.ofList 0 args, h, [], E.keep f⟩ with
  | none => rfl
  | some r => obtain ⟨ex, st⟩ := r; cases ex <;> rfl
/-- The results. -/
def resQ (P : Program) (t : T) (h : Heap) : List ResultVar → Option (List AV)
  | [] => some []
  | .tmp i :: l => bx (resQ P t h l) fun l => some (t.get i :: l)
  | .cell a ty :: l => bx (loadAV P h ty (t.get a)) fun r => bx (resQ P t h l) fun l => some (r.1 :: l)
theorem resQ_eq (P : Program) (t : T) (h : Heap) : ∀ l, resE P t h l = resQ P t h l
  | [] => by rw [resE, resQ]
  | .tmp i :: l => by
    rw [resE, resQ, resQ_eq P t h l]
    cases resQ P t h l <;> rfl
  | .cell a ty :: l => by
    rw [resE, resQ, resQ_eq P t h l]
    cases loadAV P h ty (t.get a) with
    | none => rfl
    | some r => obtain ⟨x, f⟩ := r; simp only [bx]; cases resQ P t h l <;> rfl
theorem rq_n (P : Program) (t : T) (h : Heap) : resQ P t h [] = some [] := rfl
theorem rq_t (P : Program) (t : T) (h : Heap) (i : Nat) (l : List ResultVar) : resQ P t h (.tmp i :: l) = bx (resQ P t h l) fun l => some (t.get i :: l) := rfl
theorem rq_c (P : Program) (t : T) (h : Heap) (a : Tmp) (ty : TypeId) (l : List ResultVar) : resQ P t h (.cell a ty :: l) = bx (loadAV P h ty (t.get a)) fun r => bx (resQ P t h l) fun l => some (r.1 :: l) := rfl
theorem atF_n (E : Cfg) (fn : Func) (t : T) (h : Heap) (k : Kp) : atF E fn (.normal, ⟨t, h, [], k⟩) = bx (resQ E.P t h fn.results.toList) fun l => some (.ret (tupOf l), h) := by
  unfold atF
  simp only
  rw [finL_nil]
  simp only [finR, resQ_eq]
  cases resQ E.P t h fn.results.toList <;> rfl
theorem atF_r (E : Cfg) (fn : Func) (t : T) (h : Heap) (k : Kp) : atF E fn (.ret, ⟨t, h, [], k⟩) = bx (resQ E.P t h fn.results.toList) fun l => some (.ret (tupOf l), h) := atF_n E fn t h k
theorem atF_p (E : Cfg) (fn : Func) (t : T) (h : Heap) (k : Kp) (x : AV) : atF E fn (.pan x, ⟨t, h, [], k⟩) = some (.pan x, h) := by
  unfold atF
  simp only
  rw [finL_nil]
theorem tup_0 : tupOf [] = .tup [] := rfl
theorem tup_1 (x : AV) : tupOf [x] = x := rfl
theorem tup_2 (x y : AV) (l : List AV) : tupOf (x :: y :: l) = .tup (x :: y :: l) := rfl

theorem meets_n : ∀ a : List Nat, meets a [] = false
  | [] => rfl
  | x :: l => by rw [meets, meets_n l]; rfl
theorem reach_n (h : Heap) (acc : List Nat) : reach h much acc [] = some acc := rfl
theorem marks_n (wr sl : Bool) : marksOf wr sl [] [] [] = [] := by cases wr <;> cases sl <;> rfl

theorem back_val {way : Way} {h hc h' : Heap} {x' x : AV} {S : List Nat} (hc0 : hc = []) (ho : outOf way h' [] x' = some (S, x)) (hx : refs x = []) : back way [] [] h hc h' x' = some (x, h, fp0) := by
  subst hc0
  obtain ⟨wr, rf, ad⟩ := way
  have hb : Nat.ble 0 h'.length = true := by simp
  cases wr with
  | false =>
    simp only [back, List.length_nil, List.range_zero, ho, hx, reach_n, meets_n, hb, sameVer, List.filter_nil, backTo, ren_closed _ x hx, marks_n, Bool.not_false, Bool.and_self, Bool.or_true]
    simp [wroteBack, markRo, restrict, fp0, ifWr]
  | true =>
    simp only [back, List.length_nil, List.range_zero, ho, hx, reach_n, meets_n, hb, sameVer, List.filter_nil, backTo, ren_closed _ x hx, marks_n, Bool.not_false, Bool.and_self, Bool.or_true]
    cases h' <;> simp [wroteBack, markRo, restrict, fp0, ifWr, writeBack]

/-- A call of values alone. -/
theorem call_val {E : Cfg} {f : FuncId} {args : List AV} {h h' : Heap} {x' x : AV} {S : List Nat} (he : E.ext f = none) (hi : inOf (E.way f) args h = some ([], args)) (ha : refsL args = [])
    (hr : callL E f args [] = some (.ret x', h')) (ho : outOf (E.way f) h' [] x' = some (S, x)) (hx : refs x = []) : callEL E f args h = some (.val x h fp0) := by
  rw [callEL_eq, he]
  simp only [callBy, hi, ha, reach_n, meets, allLt]
  have h1 : memFor (E.way f).wr [] h = [] := by cases (E.way f).wr <;> rfl
  simp only [Bool.and_self, Bool.not_true, Bool.or_self, renL_closed _ args ha, h1, hr]
  rw [back_val rfl ho hx]
theorem call_pan {E : Cfg} {f : FuncId} {args : List AV} {h h' : Heap} {x' x : AV} {S : List Nat} (he : E.ext f = none) (hi : inOf (E.way f) args h = some ([], args)) (ha : refsL args = [])
    (hr : callL E f args [] = some (.pan x', h')) (ho : outOf (E.way f) h' [] x' = some (S, x)) (hx : refs x = []) : callEL E f args h = some (.pan x h) := by
  rw [callEL_eq, he]
  simp only [callBy, hi, ha, reach_n, meets, allLt]
  have h1 : memFor (E.way f).wr [] h = [] := by cases (E.way f).wr <;> rfl
  simp only [Bool.and_self, Bool.not_true, Bool.or_self, renL_closed _ args ha, h1, hr]
  rw [back_val rfl ho hx]
/-! Appending -/
/-- What may be appended: how many cells an element has. -/
def apT (P : Program) (tys : List TypeId) : Option Nat := if appOk P tys = true then (match tys.head? with
  | some t => (match P.underlying t with
    | some (.slice e) => (match zeroCells P e with | some z => if z.length = P.cellsOf e ∧ z.length ≠ 0 then some (P.cellsOf e) else none | none => none)
    | _ => none)
  | none => none) else none
/-- Is there room for so many? -/
def roomT (P : Program) (tys : List TypeId) (n : Nat) : Bool := match tys.head? with
  | some t => (match P.underlying t with
    | some (.slice e) => room P e n
    | _ => false)
  | none => false
/-- A slice's elements. -/
def rdE (h : Heap) (x : AV) : Option (List (List AV)) := readElems h x
theorem rd_s (h : Heap) (f : Bool) (l : List (List AV)) : rdE h (.sl f l) = some l := rfl
theorem rd_r (h : Heap) (r ver off len : Nat) : rdE h (.ref r ver off len) = bx (arrOf (nth h r) ver) fun l => if off + len ≤ l.length then some (sl0 l off len) else none := by
  unfold rdE readElems arrOf
  simp only [nth_eq, slice_eq]
  cases nth h r with
  | none => rfl
  | some g => cases g with
    | arr v ro sz rf l =>
      simp only
      by_cases h1 : v = ver
      · by_cases h2 : off + len ≤ l.length <;> simp [h1, h2, br, bx]
      · simp [h1, br, bx]
    | _ => rfl
def apS (P : Program) (tys : List TypeId) (h : Heap) (slot c : Nat) (s x : AV) (new : List (List AV)) : Option R := match new with
  | [] => (match s with
      | .sl a b => some (.val (.sl a b) h ⟨rdOf x, [], false⟩)
      | .ref a b c d => some (.val (.ref a b c d) h ⟨rdOf x, [], false⟩)
      | _ => none)
  | new => if allLen c new = true then (match s with
      | .sl full l => if (full && (roomT P tys (l.length + new.length) && allLen c l)) = true then
          some (.val (.ref slot 0 0 (l.length + new.length)) (h.set slot (.arr 0 false c (addNew [] (refsE new)) (l ++ new))) ⟨rdOf x, [slot], false⟩) else none
      | .ref r ver off len => (match wrOf (nth h r) ver with
        | some (sz, rf, l) => if (decide (off = 0) && (decide (len ≤ l.length) && (decide (sz = c) && roomT P tys (len + new.length)))) = true then
            some (.val (.ref r (ver + 1) 0 (len + new.length)) (h.set r (.arr (ver + 1) false sz (addNew rf (refsE new)) (tk l len ++ new))) ⟨rdOf x, [r], false⟩) else none
        | none => none)
      | _ => none) else none
theorem apS_s (P : Program) (tys : List TypeId) (h : Heap) (slot c : Nat) (full : Bool) (l : List (List AV)) (x : AV) (e : List AV) (new : List (List AV)) : apS P tys h slot c (.sl full l) x (e :: new) =
    if allLen c (e :: new) = true then (if (full && (roomT P tys (l.length + (e :: new).length) && allLen c l)) = true then
          some (.val (.ref slot 0 0 (l.length + (e :: new).length)) (h.set slot (.arr 0 false c (addNew [] (refsE (e :: new))) (l ++ e :: new))) ⟨rdOf x, [slot], false⟩) else none) else none := rfl
theorem apS_r (P : Program) (tys : List TypeId) (h : Heap) (slot c r ver off len : Nat) (x : AV) (e : List AV) (new : List (List AV)) : apS P tys h slot c (.ref r ver off len) x (e :: new) =
    if allLen c (e :: new) = true then (bx (wrOf (nth h r) ver) fun g => if (decide (off = 0) && (decide (len ≤ g.2.2.length) && (decide (g.1 = c) && roomT P tys (len + (e :: new).length)))) = true then
            some (.val (.ref r (ver + 1) 0 (len + (e :: new).length)) (h.set r (.arr (ver + 1) false g.1 (addNew g.2.1 (refsE (e :: new))) (tk g.2.2 len ++ e :: new))) ⟨rdOf x, [r], false⟩) else none) else none := by
  rw [apS]
  · cases wrOf (nth h r) ver <;> rfl
  · intro h; cases h
theorem apS_n (P : Program) (tys : List TypeId) (h : Heap) (slot c : Nat) (full : Bool) (l : List (List AV)) (x : AV) : apS P tys h slot c (.sl full l) x [] = some (.val (.sl full l) h ⟨rdOf x, [], false⟩) := rfl
theorem apS_m (P : Program) (tys : List TypeId) (h : Heap) (slot c r ver off len : Nat) (x : AV) : apS P tys h slot c (.ref r ver off len) x [] = some (.val (.ref r ver off len) h ⟨rdOf x, [], false⟩) := rfl
theorem ap_eq (P : Program) (slot : Nat) (h : Heap) (t u : TypeId) (s x : AV) (c : Nat) (ht : apT P [t, u] = some c) : opBuiltin P slot h .append [t, u] [s, x] = bx (rdE h x) fun new => apS P [t, u] h slot c s x new := by
  unfold apT at ht
  split at ht
  · next ha =>
    simp only [List.head?] at ht
    split at ht
    · next e hu =>
      split at ht
      · next z hz =>
        split at ht
        · next hc =>
          cases ht
          simp only [opBuiltin, List.head?, ha, if_true, appendAV, hu, hz, elemsOf, rdE]
          cases readElems h x with
          | none => rfl
          | some new =>
            simp only [bx]
            cases new with
            | nil => cases s <;> rfl
            | cons y new =>
              have hb : (Nat.beq z.length (P.cellsOf e) && !(Nat.beq z.length 0)) = true := by
                rw [hc.1, nbeq, nbeq]
                have : P.cellsOf e ≠ 0 := by rw [← hc.1]; exact hc.2
                simp [this]
              rw [hb]
              simp only [Bool.and_true]
              by_cases hl : allLen (P.cellsOf e) (y :: new) = true
              · rw [if_pos hl]
                cases s with
                | sl full l =>
                  rw [apS_s, if_pos hl]
                  simp only [roomT, List.head?, hu]
                | ref r ver off len =>
                  rw [apS_r, if_pos hl]
                  simp only [roomT, List.head?, hu, nth_eq, wrOf, tk_eq]
                  cases nth h r with
                  | none => rfl
                  | some g => cases g with
                    | arr v ro sz rf l =>
                      cases ro with
                      | true => rfl
                      | false =>
                        simp only
                        by_cases hv : v = ver
                        · subst hv
                          simp only [decide_true, br, bx]
                          by_cases h1 : off = 0 <;> by_cases h2 : len ≤ l.length <;> by_cases h3 : sz = P.cellsOf e <;> by_cases h4 : room P e (len + (y :: new).length) = true <;> simp [h1, h2, h3, h4]
                        · rw [if_neg (by intro h; exact hv h.1.1)]
                          simp [hv, br, bx]
                    | _ => rfl
                | _ => simp only [apS, hl, if_true]
              · rw [if_neg hl]
                cases s <;> simp only [apS, hl] <;> rfl
        · cases ht
      · cases ht
    · cases ht
  · cases ht

/-! Code -/
def codeOf (fn : Func) : Code := match fn.body with | some c => c | none => .skip
def subC : Code → List Nat → Code
  | c, [] => c
  | .seq a b, p :: ps => (match p with | 0 => subC a ps | _ => subC b ps)
  | .cond _ a b, p :: ps => (match p with | 0 => subC a ps | _ => subC b ps)
  | .block _ b, _ :: ps => subC b ps
  | .loop b, _ :: ps => subC b ps
  | .scope b, _ :: ps => subC b ps
  | c, _ => c
/-- Which slots are kept, by a table. -/
def kt (l : List (Nat × List Nat)) (id : Nat) : Option (List Nat) := match l with
  | [] => none
  | (i, k) :: l => if id = i then some k else kt l id
theorem kt_n (id : Nat) : kt [] id = none := rfl
theorem kt_c (i : Nat) (k : List Nat) (l : List (Nat × List Nat)) (id : Nat) : kt ((i, k) :: l) id = if id = i then some k else kt l id := rfl
def keepBy (tabs : List (Nat × List (Nat × List Nat))) (f : Nat) : Nat → Option (List Nat) := match tabs with
  | [] => fun _ => none
  | (i, l) :: r => if f = i then kt l else keepBy r f

/-! Loops -/
/-- Behind a round. -/
noncomputable def atL (E : Cfg) (b : Code) (n0 : Nat) (t0 : T) (r : Ex × St) : Option (Ex × St) := match r with
  | (.normal, st) => (match gc n0 { st with t := t0.like st.t } with | some st => loopL E b n0 t0 st | none => none)
  | r => some r
theorem loopL_go (E : Cfg) (b : Code) (n0 : Nat) (t0 : T) (st : St) : loopL E b n0 t0 st = bx (goX E [.code b] .normal st) (atL E b n0 t0) := by
  rw [loopL_eq, of_g]
  cases execL E b st with
  | none => rfl
  | some r => obtain ⟨ex, st⟩ := r; cases ex <;> rfl
def gcQ (n0 : Nat) (t : T) (h : Heap) (d : Dfs') (k : Kp) : Option St := gc n0 ⟨t, h, d, k⟩
theorem atL_n (E : Cfg) (b : Code) (n0 : Nat) (t0 t : T) (h : Heap) (d : Dfs') (k : Kp) : atL E b n0 t0 (.normal, ⟨t, h, d, k⟩) = bx (gcQ n0 (t0.like t) h d k) fun st => loopL E b n0 t0 st := by
  unfold atL gcQ
  simp only
  cases gc n0 ⟨t0.like t, h, d, k⟩ <;> rfl
theorem atL_e (E : Cfg) (b : Code) (n0 : Nat) (t0 : T) (i : Nat) (st : St) : atL E b n0 t0 (.exit i, st) = some (.exit i, st) := rfl
theorem atL_r (E : Cfg) (b : Code) (n0 : Nat) (t0 : T) (st : St) : atL E b n0 t0 (.ret, st) = some (.ret, st) := rfl
theorem atL_p (E : Cfg) (b : Code) (n0 : Nat) (t0 : T) (x : AV) (st : St) : atL E b n0 t0 (.pan x, st) = some (.pan x, st) := rfl
/-- A loop, from the frames. -/
noncomputable def goL (E : Cfg) (r : Option (Ex × St)) (fs : List Fr) : Option (Ex × St) := match r with | some (ex, st) => goX E fs ex st | none => none
theorem goL_s (E : Cfg) (ex : Ex) (st : St) (fs : List Fr) : goL E (some (ex, st)) fs = goX E fs ex st := rfl
theorem g_loop (E : Cfg) (fs : List Fr) (b : Code) (t : T) (h : Heap) (d : Dfs') (k : Kp) : goX E (.code (.loop b) :: fs) .normal ⟨t, h, d, k⟩ = goL E (loopL E b h.length t ⟨t, h, d, k⟩) fs := by
  rw [goX, execL_loop]
  cases loopL E b h.length t ⟨t, h, d, k⟩ <;> rfl
/-- The slots of one that held something in the other. -/
def live1 (x y : AV) : AV := match x with | .undef => .undef | _ => y
theorem like_e (t : T) : T.e.like t = .e := by rw [T.like]
theorem like_n (l : T) (x : AV) (r l' : T) (x' : AV) (r' : T) : (T.n l x r).like (.n l' x' r') = .n (l.like l') (live1 x x') (r.like r') := by cases x <;> rfl
theorem like_x (l : T) (x : AV) (r : T) : (T.n l x r).like .e = .e := by rw [T.like]
theorem live_u (y : AV) : live1 .undef y = .undef := rfl
theorem live_v (x : Value) (y : AV) : live1 (.v x) y = y := rfl
theorem live_a (l : List AV) (y : AV) : live1 (.agg l) y = y := rfl
theorem live_t (l : List AV) (y : AV) : live1 (.tup l) y = y := rfl
theorem live_s (f : Bool) (l : List (List AV)) (y : AV) : live1 (.sl f l) y = y := rfl
theorem live_r (a b c d : Nat) (y : AV) : live1 (.ref a b c d) y = y := rfl
theorem live_p (a b c d : Nat) (y : AV) : live1 (.ptr a b c d) y = y := rfl
theorem live_m (l : List AV) (y : AV) : live1 (.imm l) y = y := rfl
theorem live_f (f : FuncId) (l : List AV) (y : AV) : live1 (.fn f l) y = y := rfl
theorem live_i (f : TypeId) (x y : AV) : live1 (.iface f x) y = y := rfl
/-- Nothing came into being. -/
theorem gcQ_same (n0 : Nat) (t : T) (h : Heap) (d : Dfs') (k : Kp) (hl : h.length ≤ n0) : gcQ n0 t h d k = some ⟨t, h, d, k⟩ := by
  unfold gcQ gc
  have : Nat.ble h.length n0 = true := by simpa using hl
  simp only [this]
/-- What came into being is not reached. -/
theorem gcQ_drop (n0 : Nat) (t : T) (h : Heap) (d : Dfs') (k : Kp) (hl : n0 < h.length)
    (hr : (t.refs ++ (refsL (d.map (·.2)).flatten ++ ((h.take n0).map regRefs).flatten)).filter (fun r => Nat.ble n0 r) = []) : gcQ n0 t h d k = some ⟨t, h.take n0, d, k⟩ := by
  unfold gcQ gc
  have : Nat.ble h.length n0 = false := by
    cases hb : Nat.ble h.length n0 with
    | false => rfl
    | true => have := Nat.le_of_ble_eq_true hb; omega
  simp only [this, hr]

/-! The rules that hang on a type, so that the type's fact is found by rewriting alone -/
theorem c_int' (P) (h : Heap) (s d : TypeId) (k0 : IntKind) (n : Int) (hk : cvI P s d = some ((cvI P s d).getD .i64)) : convAV P h s d (.v (.int k0 n)) = some (.v (.int ((cvI P s d).getD .i64) (((cvI P s d).getD .i64).wrap n))) := c_int P h s d k0 n _ hk
theorem ix_a' (P : Program) (h : Heap) (t : TypeId) (x : AV) (i : Int) (ht : ixT P t = some (some (((ixT P t).getD (none, 0)).1.getD 0), ((ixT P t).getD (none, 0)).2)) :
    indexAddrAV P h t x i = bx (idx' i (((ixT P t).getD (none, 0)).1.getD 0)) fun n => moveBy (n * ((ixT P t).getD (none, 0)).2) x := ix_a P h t x i _ _ ht
theorem ix_s' (P : Program) (h : Heap) (t : TypeId) (f : Bool) (l : List (List AV)) (i : Int) (ht : ixT P t = some (none, ((ixT P t).getD (none, 0)).2)) : indexAddrAV P h t (.sl f l) i =
    bx (idx' i l.length) fun n => bx (nth l n) fun e => if e.length = ((ixT P t).getD (none, 0)).2 then some (.imm e) else none := by
  rw [ix_s P h t f l i _ ht]
  cases idx' i l.length with
  | none => rfl
  | some n =>
    simp only [bx]
    cases nth l n with
    | none => rfl
    | some e => simp only [br_i, decide_eq_true_eq]
/-- The address of an element of a region. -/
def adr (g : Option Reg) (r ver c : Nat) (x : Nat) : Option AV := match g with
  | some (.arr ver' _ sz _ _) => if (decide (ver' = ver) && decide (sz = c)) = true then some (.ptr r ver x 0) else none
  | _ => none
theorem adr_a (v : Nat) (ro : Bool) (sz : Nat) (rf : List Nat) (l : List (List AV)) (r ver c x : Nat) : adr (some (.arr v ro sz rf l)) r ver c x = if (decide (v = ver) && decide (sz = c)) = true then some (.ptr r ver x 0) else none := rfl
theorem ix_r' (P : Program) (h : Heap) (t : TypeId) (r ver off len : Nat) (i : Int) (ht : ixT P t = some (none, ((ixT P t).getD (none, 0)).2)) : indexAddrAV P h t (.ref r ver off len) i =
    bx (idx' i len) fun n => adr (nth h r) r ver ((ixT P t).getD (none, 0)).2 (off + n) := by
  rw [ix_r P h t r ver off len i _ ht]
  cases idx' i len with
  | none => rfl
  | some n =>
    simp only [bx, adr]
    cases nth h r with
    | none => rfl
    | some g => cases g <;> simp only [br_i]
theorem sl_v' (P : Program) (h : Heap) (t : TypeId) (full : Bool) (l : List (List AV)) (lo hi : Option AV) (ht : slE P t = some ((slE P t).getD 0)) : sliceAV P h t (.sl full l) lo hi none =
    bx (bound' hi l.length l.length) fun b => bx (bound' lo 0 b) fun a => if allLen ((slE P t).getD 0) l = true then some (.sl (full && b == l.length) (slice l a (b - a)), h, fp0) else none := by
  rw [sl_v P h t full l lo hi _ ht]
  simp only [br_i]
/-- A part of a region. -/
def prt (g : Option Reg) (h : Heap) (r ver c x n : Nat) : Option (AV × Heap × FP) := match g with
  | some (.arr ver' _ sz _ _) => if (decide (ver' = ver) && decide (sz = c)) = true then some (.ref r ver x n, h, ⟨[r], [], false⟩) else none
  | _ => none
theorem prt_a (v : Nat) (ro : Bool) (sz : Nat) (rf : List Nat) (l : List (List AV)) (h : Heap) (r ver c x n : Nat) : prt (some (.arr v ro sz rf l)) h r ver c x n = if (decide (v = ver) && decide (sz = c)) = true then some (.ref r ver x n, h, ⟨[r], [], false⟩) else none := rfl
theorem sl_r' (P : Program) (h : Heap) (t : TypeId) (r ver off len : Nat) (lo hi : Option AV) (ht : slE P t = some ((slE P t).getD 0)) : sliceAV P h t (.ref r ver off len) lo hi none =
    bx (bound' hi len len) fun b => bx (bound' lo 0 b) fun a => prt (nth h r) h r ver ((slE P t).getD 0) (off + a) (b - a) := by
  rw [sl_r P h t r ver off len lo hi _ ht]
  cases bound' hi len len with
  | none => rfl
  | some b =>
    simp only [bx]
    cases bound' lo 0 b with
    | none => rfl
    | some a =>
      simp only [prt]
      cases nth h r with
      | none => rfl
      | some g => cases g <;> simp only [br_i]
def lenArr (k : Option LenK) : Nat := match k with | some (.arr n) => n | _ => 0
theorem lenArr_a (n : Nat) : lenArr (some (.arr n)) = n := rfl
theorem len_a' (P : Program) (slot : Nat) (h : Heap) (t : TypeId) (x : AV) (ht : lenT P t = some (.arr (lenArr (lenT P t)))) : opBuiltin P slot h .len [t] [x] = some (.val (.v (.int .i64 (lenArr (lenT P t)))) h fp0) := len_a P slot h t x _ ht
theorem bsl_eq' (P : Program) (slot : Nat) (h : Heap) (t : TypeId) (len : Nat) (ps : List (Nat × AV)) (ht : slZ P t = some ((slZ P t).getD [])) (hl : len * ((slZ P t).getD []).length ≤ 16777216) :
    opBuildSlice P slot h t len ps = bx (fillA ((slZ P t).getD []).length (List.replicate len ((slZ P t).getD [])).flatten ps) fun l => some (.val (.ref slot 0 0 len) (h.set slot (.arr 0 false ((slZ P t).getD []).length (addNew [] (refsL l)) (chunks ((slZ P t).getD []).length len l))) ⟨[], [slot], false⟩) :=
  bsl_eq P slot h t len ps _ ht hl
theorem ap_eq' (P : Program) (slot : Nat) (h : Heap) (t u : TypeId) (s x : AV) (ht : apT P [t, u] = some ((apT P [t, u]).getD 0)) : opBuiltin P slot h .append [t, u] [s, x] = bx (rdE h x) fun new => apS P [t, u] h slot ((apT P [t, u]).getD 0) s x new :=
  ap_eq P slot h t u s x _ ht
theorem refsE_n : refsE [] = [] := rfl
theorem refsE_c (x : List AV) (l : List (List AV)) : refsE (x :: l) = refsL x ++ refsE l := rfl
theorem allLen_n (n : Nat) : allLen n [] = true := rfl
theorem allLen_c (n : Nat) (e : List AV) (l : List (List AV)) : allLen n (e :: l) = (decide (e.length = n) && allLen n l) := by rw [allLen, nbeq]

/-! What a call hands back -/
theorem hasSl_v (x : Value) : hasSl (.v x) = false := rfl
theorem slRefs_v (x : Value) : slRefs (.v x) = [] := rfl
theorem slRefs_a (l : List AV) : slRefs (.agg l) = slRefsL l := by rw [slRefs]
theorem slRefs_t (l : List AV) : slRefs (.tup l) = slRefsL l := by rw [slRefs]
theorem slRefs_r (a b c d : Nat) : slRefs (.ref a b c d) = [a] := by rw [slRefs]
theorem slRefs_s (f : Bool) (l : List (List AV)) : slRefs (.sl f l) = [] := rfl
theorem slRefs_p (a b c d : Nat) : slRefs (.ptr a b c d) = [] := rfl
theorem slRefsL_n : slRefsL [] = [] := by rw [slRefsL]
theorem slRefsL_c (x : AV) (l : List AV) : slRefsL (x :: l) = slRefs x ++ slRefsL l := by rw [slRefsL]
/-- By value, with regions of plain elements alone. -/
def frz (h : Heap) : AV → Option AV
  | .ref r ver off len => (match nth h r with
    | some (.arr ver' _ _ [] l) => if ver' = ver ∧ off + len ≤ l.length then some (.sl false (slice l off len)) else none
    | _ => none)
  | .v x => some (.v x)
  | .sl f l => some (.sl f l)
  | .imm l => some (.imm l)
  | _ => none
def frzL (h : Heap) : List AV → Option (List AV)
  | [] => some []
  | x :: l => match frz h x, frzL h l with
    | some x, some l => some (x :: l)
    | _, _ => none
/-- What is returned, whatever the memory is then. -/
def retOf (x : Option (Out × Heap)) : Option Out := match x with | some (o, _) => some o | none => none
theorem retOf_s (o : Out) (h : Heap) : retOf (some (o, h)) = some o := rfl
theorem of_retOf {x : Option (Out × Heap)} {o : Out} (h : retOf x = some o) : ∃ h', x = some (o, h') := by
  cases x with
  | none => cases h
  | some r => obtain ⟨o', h'⟩ := r; cases h; exact ⟨h', rfl⟩
theorem call_ret {E : Cfg} {f : FuncId} {args : List AV} {h : Heap} {x : AV} (he : E.ext f = none) (hi : inOf (E.way f) args h = some ([], args)) (ha : refsL args = [])
    (hr : retOf (callL E f args []) = some (.ret x)) (ho : ∀ h', outOf (E.way f) h' [] x = some ([], x)) (hx : refs x = []) : callEL E f args h = some (.val x h fp0) := by
  obtain ⟨h', e⟩ := of_retOf hr
  exact call_val he hi ha e (ho h') hx
theorem if_eqf {α : Type} (b : Bool) (x y : α) : (if b = false then x else y) = if b = true then y else x := by cases b <;> rfl

/-! Calls, piece by piece -/
/-- What is looked at next. -/
def rfs (g : Option Reg) (rest : List Nat) : List Nat := match g with | some g => (match regRefs g with | [] => rest | l => rest ++ l) | none => rest
theorem rfs_a (v : Nat) (ro : Bool) (sz : Nat) (l : List (List AV)) (rest : List Nat) : rfs (some (.arr v ro sz [] l)) rest = rest := rfl
theorem rfs_b (v : Nat) (ro : Bool) (sz r : Nat) (rf : List Nat) (l : List (List AV)) (rest : List Nat) : rfs (some (.arr v ro sz (r :: rf) l)) rest = rest ++ (r :: rf) := rfl
theorem rfs_n (rest : List Nat) : rfs none rest = rest := rfl
theorem rfs_d (rest : List Nat) : rfs (some .dead) rest = rest := rfl
theorem reach_z (H : Heap) (n : Nat) (acc : List Nat) : reach H (n + 1) acc [] = some acc := rfl
theorem reach_c (H : Heap) (n : Nat) (acc : List Nat) (r : Nat) (rest : List Nat) : reach H (n + 1) acc (r :: rest) = if mem r acc = true then reach H n acc rest else reach H n (acc ++ [r]) (rfs (nth H r) rest) := by
  rw [reach]
  simp only [nth_eq]
  cases h : mem r acc with
  | true => rfl
  | false => rfl
theorem much_eq : much = 1000000 := rfl
theorem fC_z (H : Heap) (S : List Nat) (n : Nat) : freezeC H S (n + 1) [] = some [] := by rw [freezeC]
theorem fC_c (H : Heap) (S : List Nat) (n : Nat) (x : AV) (l : List AV) : freezeC H S (n + 1) (x :: l) = bx (freezeN H S n x) fun x => bx (freezeC H S n l) fun l => some (x :: l) := by
  rw [freezeC]
  cases freezeN H S n x with
  | none => rfl
  | some y => simp only [bx]; cases freezeC H S n l <;> rfl
theorem fE_z (H : Heap) (S : List Nat) (n : Nat) : freezeE H S (n + 1) [] = some [] := by rw [freezeE]
theorem fE_c (H : Heap) (S : List Nat) (n : Nat) (x : List AV) (l : List (List AV)) : freezeE H S (n + 1) (x :: l) = bx (freezeC H S n x) fun x => bx (freezeE H S n l) fun l => some (x :: l) := by
  rw [freezeE]
  cases freezeC H S n x with
  | none => rfl
  | some y => simp only [bx]; cases freezeE H S n l <;> rfl
theorem fN_v (H : Heap) (S : List Nat) (n : Nat) (x : Value) : freezeN H S (n + 1) (.v x) = some (.v x) := by unfold freezeN; rfl
theorem fN_s (H : Heap) (S : List Nat) (n : Nat) (f : Bool) (l : List (List AV)) : freezeN H S (n + 1) (.sl f l) = some (.sl f l) := by unfold freezeN; rfl
theorem fN_p (H : Heap) (S : List Nat) (n : Nat) (a b c d : Nat) : freezeN H S (n + 1) (.ptr a b c d) = some (.ptr a b c d) := by unfold freezeN; rfl
theorem fN_m (H : Heap) (S : List Nat) (n : Nat) (l : List AV) : freezeN H S (n + 1) (.imm l) = some (.imm l) := by unfold freezeN; rfl
theorem fN_f (H : Heap) (S : List Nat) (n : Nat) (f : FuncId) (l : List AV) : freezeN H S (n + 1) (.fn f l) = some (.fn f l) := by unfold freezeN; rfl
theorem fN_i (H : Heap) (S : List Nat) (n : Nat) (f : TypeId) (l : AV) : freezeN H S (n + 1) (.iface f l) = some (.iface f l) := by unfold freezeN; rfl
theorem fN_a (H : Heap) (S : List Nat) (n : Nat) (l : List AV) : freezeN H S (n + 1) (.agg l) = bx (freezeC H S n l) fun l => some (.agg l) := by
  rw [freezeN]
  cases freezeC H S n l <;> rfl
theorem fN_t (H : Heap) (S : List Nat) (n : Nat) (l : List AV) : freezeN H S (n + 1) (.tup l) = bx (freezeC H S n l) fun l => some (.tup l) := by
  rw [freezeN]
  cases freezeC H S n l <;> rfl
/-- A slice's elements by value, in a region of plain elements. -/
def frR (g : Option Reg) (ver off len : Nat) (k : List (List AV) → Option (List (List AV))) : Option AV := match g with
  | some (.arr ver' _ _ rf l) => if (decide (ver' = ver) && decide (off + len ≤ l.length)) = true then
      (match rf with
      | [] => some (.sl false (sl0 l off len))
      | _ => bx (k (sl0 l off len)) fun l => if (refsE l).isEmpty = true then some (.sl false l) else none) else none
  | _ => none
theorem frR_a (v : Nat) (ro : Bool) (sz : Nat) (l : List (List AV)) (ver off len : Nat) (k : List (List AV) → Option (List (List AV))) : frR (some (.arr v ro sz [] l)) ver off len k = if (decide (v = ver) && decide (off + len ≤ l.length)) = true then some (.sl false (sl0 l off len)) else none := rfl
theorem frR_b (v : Nat) (ro : Bool) (sz r : Nat) (rf : List Nat) (l : List (List AV)) (ver off len : Nat) (k : List (List AV) → Option (List (List AV))) : frR (some (.arr v ro sz (r :: rf) l)) ver off len k = if (decide (v = ver) && decide (off + len ≤ l.length)) = true then bx (k (sl0 l off len)) fun l => if (refsE l).isEmpty = true then some (.sl false l) else none else none := rfl
theorem fN_r (H : Heap) (S : List Nat) (n : Nat) (r ver off len : Nat) : freezeN H S (n + 1) (.ref r ver off len) = if mem r S = true then frR (nth H r) ver off len (freezeE H S n) else none := by
  rw [freezeN]
  simp only [nth_eq, slice_eq]
  cases mem r S with
  | false => rfl
  | true =>
    simp only [if_true]
    cases nth H r with
    | none => rfl
    | some g => cases g with
      | arr v ro sz rf l =>
        simp only [frR]
        by_cases h1 : v = ver
        · by_cases h2 : off + len ≤ l.length
          · simp only [h1, h2, and_self, if_true, decide_true, Bool.and_self]
            cases rf with
            | nil => rfl
            | cons r rf =>
              simp only
              cases freezeE H S n (sl0 l off len) <;> rfl
          · simp [h1, h2]
        · simp [h1]
      | _ => rfl
theorem nble (x y : Nat) : Nat.ble x y = decide (x ≤ y) := by
  by_cases h : x ≤ y
  · rw [decide_eq_true h]; exact Nat.ble_eq_true_of_le h
  · rw [decide_eq_false h]; exact Bool.eq_false_iff.2 fun hb => h (Nat.le_of_ble_eq_true hb)
theorem nblt (x y : Nat) : Nat.blt x y = decide (x < y) := nble (x + 1) y

/-! What goes behind a round -/
def fil (n0 : Nat) : List Nat → List Nat
  | [] => []
  | r :: l => if n0 ≤ r then r :: fil n0 l else fil n0 l
theorem fil_n (n0 : Nat) : fil n0 [] = [] := rfl
theorem fil_c (n0 r : Nat) (l : List Nat) : fil n0 (r :: l) = if n0 ≤ r then r :: fil n0 l else fil n0 l := rfl
theorem fil_eq (n0 : Nat) : ∀ l : List Nat, l.filter (fun r => Nat.ble n0 r) = fil n0 l
  | [] => rfl
  | r :: l => by
    rw [fil, List.filter_cons, fil_eq n0 l, nble]
    by_cases h : n0 ≤ r <;> simp [h]
def rrs : Heap → List Nat
  | [] => []
  | g :: h => regRefs g ++ rrs h
theorem rrs_n : rrs [] = [] := rfl
theorem rrs_c (g : Reg) (h : Heap) : rrs (g :: h) = regRefs g ++ rrs h := rfl
theorem rrs_eq : ∀ h : Heap, (h.map regRefs).flatten = rrs h
  | [] => rfl
  | g :: h => by simp [rrs, rrs_eq h]
theorem rr_a (v : Nat) (ro : Bool) (sz : Nat) (rf : List Nat) (l : List (List AV)) : regRefs (.arr v ro sz rf l) = rf := rfl
theorem rr_d : regRefs .dead = [] := rfl
def dfRefs (d : Dfs') : List Nat := refsL (d.map (·.2)).flatten
theorem dfRefs_n : dfRefs [] = [] := rfl
theorem tr_e : T.e.refs = [] := rfl
theorem tr_n (l : T) (x : AV) (r : T) : (T.n l x r).refs = refs x ++ (l.refs ++ r.refs) := rfl
/-- The regions that came into being and are reached. -/
def gcR (n0 : Nat) (t : T) (h : Heap) (d : Dfs') : List Nat := fil n0 (t.refs ++ (dfRefs d ++ rrs (h.take n0)))
def nil' (l : List Nat) : Bool := match l with | [] => true | _ => false
theorem nil_n : nil' [] = true := rfl
theorem nil_c (r : Nat) (l : List Nat) : nil' (r :: l) = false := rfl
def gcT (n0 : Nat) (t : T) (h : Heap) (d : Dfs') (k : Kp) (all : List Nat) : Option St := some (gcTo n0 ⟨t, h, d, k⟩ (fil n0 all))
theorem gcQ_eq (n0 : Nat) (t : T) (h : Heap) (d : Dfs') (k : Kp) : gcQ n0 t h d k = if h.length ≤ n0 then some ⟨t, h, d, k⟩ else
    if nil' (gcR n0 t h d) = true then some ⟨t, h.take n0, d, k⟩ else bx (reach h much [] (gcR n0 t h d)) (gcT n0 t h d k) := by
  unfold gcQ gc
  rw [nble]
  by_cases hl : h.length ≤ n0
  · simp [hl]
  · simp only [hl, decide_false, if_false]
    have hr : (t.refs ++ (refsL (d.map (·.2)).flatten ++ ((h.take n0).map regRefs).flatten)).filter (fun r => Nat.ble n0 r) = gcR n0 t h d := by rw [fil_eq, rrs_eq]; rfl
    simp only [hr]
    cases hg : gcR n0 t h d with
    | nil => rfl
    | cons r l =>
      simp only [nil', Bool.false_eq_true, if_false]
      cases reach h much [] (r :: l) with
      | none => rfl
      | some all => simp only [bx, gcT, fil_eq]
theorem gcR_eq (n0 : Nat) (t : T) (h : Heap) (d : Dfs') : gcR n0 t h d = fil n0 (t.refs ++ (dfRefs d ++ rrs (h.take n0))) := rfl
/-- The regions that stay, renamed. -/
def mvR (σ : Nat → Nat) : Heap → Heap
  | [] => []
  | g :: h => renReg σ g :: mvR σ h
theorem mvR_n (σ : Nat → Nat) : mvR σ [] = [] := rfl
theorem mvR_c (σ : Nat → Nat) (g : Reg) (h : Heap) : mvR σ (g :: h) = renReg σ g :: mvR σ h := rfl
theorem mvR_eq (σ : Nat → Nat) : ∀ h : Heap, h.map (renReg σ) = mvR σ h
  | [] => rfl
  | g :: h => by rw [List.map_cons, mvR, mvR_eq σ h]
def rs1 (σ : Nat → Nat) (g : Option Reg) : Reg := match g with | some g => renReg σ g | none => .dead
theorem rs1_s (σ : Nat → Nat) (g : Reg) : rs1 σ (some g) = renReg σ g := rfl
theorem rs1_n (σ : Nat → Nat) : rs1 σ none = .dead := rfl
theorem rs_n (H : Heap) (σ : Nat → Nat) : restrict H [] σ = [] := rfl
theorem rs_c (H : Heap) (r : Nat) (l : List Nat) (σ : Nat → Nat) : restrict H (r :: l) σ = rs1 σ (nth H r) :: restrict H l σ := by
  unfold restrict rs1
  rw [List.map_cons, nth_eq]
  rfl
theorem rg_a (σ : Nat → Nat) (v : Nat) (ro : Bool) (sz : Nat) (l : List (List AV)) : renReg σ (.arr v ro sz [] l) = .arr v ro sz [] l := rfl
theorem rg_b (σ : Nat → Nat) (v : Nat) (ro : Bool) (sz r : Nat) (rf : List Nat) (l : List (List AV)) : renReg σ (.arr v ro sz (r :: rf) l) = .arr v ro sz ((r :: rf).map σ) (l.map (renL σ)) := rfl
theorem rg_d (σ : Nat → Nat) : renReg σ .dead = .dead := rfl
theorem gcT_eq (n0 : Nat) (t : T) (h : Heap) (d : Dfs') (k : Kp) (all : List Nat) : gcT n0 t h d k all =
    some ⟨t.ren (gcσ n0 (fil n0 all)), mvR (gcσ n0 (fil n0 all)) (h.take n0) ++ restrict h (fil n0 all) (gcσ n0 (fil n0 all)), d.map fun (f, l) => (f, renL (gcσ n0 (fil n0 all)) l), k⟩ := by
  unfold gcT gcTo
  rw [mvR_eq]
theorem gs_eq (n0 : Nat) (live : List Nat) (r : Nat) : gcσ n0 live r = if r < n0 then r else n0 + idxOf r live := by
  unfold gcσ
  rw [nblt]
  by_cases h : r < n0 <;> simp [h]
theorem io_n (r : Nat) : idxOf r [] = 0 := rfl
theorem io_c (r x : Nat) (l : List Nat) : idxOf r (x :: l) = if r = x then 0 else idxOf r l + 1 := by
  rw [idxOf, nbeq]
  by_cases h : r = x <;> simp [h]
theorem tn_e (σ : Nat → Nat) : T.e.ren σ = .e := rfl
theorem tn_n (σ : Nat → Nat) (l : T) (x : AV) (r : T) : (T.n l x r).ren σ = .n (l.ren σ) (ren σ x) (r.ren σ) := rfl
theorem rn_u (σ : Nat → Nat) : ren σ .undef = .undef := rfl
theorem rn_v (σ : Nat → Nat) (x : Value) : ren σ (.v x) = .v x := rfl
theorem rn_s (σ : Nat → Nat) (f : Bool) (l : List (List AV)) : ren σ (.sl f l) = .sl f l := rfl
theorem rn_m (σ : Nat → Nat) (l : List AV) : ren σ (.imm l) = .imm l := rfl
theorem rn_a (σ : Nat → Nat) (l : List AV) : ren σ (.agg l) = .agg (renL σ l) := by rw [ren]
theorem rn_t (σ : Nat → Nat) (l : List AV) : ren σ (.tup l) = .tup (renL σ l) := by rw [ren]
theorem rn_r (σ : Nat → Nat) (a b c d : Nat) : ren σ (.ref a b c d) = .ref (σ a) b c d := by rw [ren]
theorem rn_p (σ : Nat → Nat) (a b c d : Nat) : ren σ (.ptr a b c d) = .ptr (σ a) b c d := by rw [ren]
theorem rn_f (σ : Nat → Nat) (f : FuncId) (l : List AV) : ren σ (.fn f l) = .fn f (renL σ l) := by rw [ren]
theorem rn_i (σ : Nat → Nat) (f : TypeId) (x : AV) : ren σ (.iface f x) = .iface f (ren σ x) := by rw [ren]
theorem rL_n (σ : Nat → Nat) : renL σ [] = [] := by rw [renL]
theorem rL_c (σ : Nat → Nat) (x : AV) (l : List AV) : renL σ (x :: l) = ren σ x :: renL σ l := by rw [renL]
/-- How many bytes an element has. -/
def elB (P : Program) (tys : List TypeId) : Option Nat := match tys.head? with
  | some t => (match P.underlying t with
    | some (.slice e) => some (P.bytesOf e)
    | _ => none)
  | none => none
theorem roomT_of {P : Program} {tys : List TypeId} {b n : Nat} (h : elB P tys = some b) (hn : n * b ≤ 140737488355328) (hm : n ≤ 140737488355328) : roomT P tys n = true := by
  unfold elB at h
  unfold roomT
  cases ht : tys.head? with
  | none => rw [ht] at h; cases h
  | some t =>
    rw [ht] at h
    simp only at h ⊢
    cases hu : P.underlying t with
    | none => rw [hu] at h; cases h
    | some u =>
      rw [hu] at h
      cases u with
      | slice e =>
        simp only [Option.some.injEq] at h ⊢
        unfold room
        rw [h, decide_eq_true hn, decide_eq_true hm]; rfl
      | _ => cases h
theorem tk_all {α : Type} : ∀ (l : List α) (n : Nat), l.length = n → tk l n = l
  | [], n, _ => tk_n n
  | x :: l, 0, h => by simp at h
  | x :: l, n + 1, h => by rw [tk, tk_all l n (by simpa using h)]
theorem lap_n {α : Type} (l : List α) : List.append [] l = l := rfl
theorem lap_c {α : Type} (x : α) (l m : List α) : List.append (x :: l) m = x :: List.append l m := rfl

/-- A call with slices that are handed on by value, of which a plain value comes back. -/
theorem call_frz {E : Cfg} {f : FuncId} {args args' : List AV} {h h' : Heap} {x : AV} {S : List Nat} (he : E.ext f = none) (hw : (E.way f).wr = false) (hi : inOf (E.way f) args h = some (S, args')) (ha : refsL args' = [])
    (hS : allLt h.length S = true) (hr : callL E f args' [] = some (.ret x, h')) (ho : outOf (E.way f) h' [] x = some ([], x)) (hx : refs x = []) (hs : hasSl x = false) : callEL E f args h = some (.val x h ⟨S, [], false⟩) := by
  rw [callEL_eq, he]
  have hm : meets S [] = false := meets_n S
  simp only [callBy, hi, ha, reach_n, hm, hS, allLt]
  cases hway : E.way f with
  | mk wr rf ad =>
  rw [hway] at hw ho
  simp only at hw
  subst hw
  have hb : Nat.ble 0 h'.length = true := by simp
  simp only [Bool.and_self, Bool.not_true, Bool.or_self, renL_closed _ args' ha, memFor, restrict, List.map_nil, hr, back, List.length_nil, List.range_zero, ho, hx, reach_n, meets, hb, sameVer, List.filter_nil, backTo, ren_closed _ x hx, hs, Bool.not_false, Bool.or_true]
  simp [wroteBack, markRo, restrict, ifWr, marksOf]
end Go.AM
