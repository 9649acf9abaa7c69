/- A book of kinds, as a law's argument, in the machine; no condition. -/
import Derived.Test.YtnehdpiiijbhhaaKV
import Derived.Test.YtnehdpiiijbhhaaAMArg
import Derived.WalkKit
set_option autoImplicit false
set_option linter.unusedVariables false
namespace Go.AM
open Go Go.RowKit Go.Proofs

theorem u2 : Try.prog.underlying 2 = some (.int .i64) := by kernel_rfl
theorem u3 : Try.prog.underlying 3 = some (.int .i64) := by kernel_rfl
theorem u4 : Try.prog.underlying 4 = some .bool := by kernel_rfl
theorem u23 : Try.prog.underlying 23 = some (.slice 46) := by kernel_rfl
theorem u24 : Try.prog.underlying 24 = some (.slice 51) := by kernel_rfl
def fieldsOf (P : Program) (t : TypeId) : Option (List (Nat × TypeId)) := match P.underlying t with | some (.struct fs) => some (fs.toList.map fun f => (f.offset, f.type)) | _ => none
theorem fieldsOf_spec {P : Program} {t : TypeId} {l : List (Nat × TypeId)} (h : fieldsOf P t = some l) : ∃ fs, P.underlying t = some (.struct fs) ∧ fs.toList.map (fun f => (f.offset, f.type)) = l := by
  unfold fieldsOf at h
  split at h
  · next fs e => cases h; exact ⟨fs, e, rfl⟩
  · cases h
theorem f26 : fieldsOf Try.prog 26 = some [(0, 23), (1, 24)] := by kernel_rfl
theorem f46 : fieldsOf Try.prog 46 = some [(0, 3), (1, 3), (2, 2), (3, 3), (4, 3), (5, 3), (6, 3), (7, 3), (8, 3), (9, 3), (10, 3), (11, 3), (12, 3), (13, 3), (14, 3), (15, 3), (16, 3), (17, 3), (18, 3), (19, 3)] := by kernel_rfl
theorem f51 : fieldsOf Try.prog 51 = some [(0, 3), (1, 3), (2, 2), (3, 3), (4, 3), (5, 4)] := by kernel_rfl
theorem c2 : Try.prog.cellsOf 2 = 1 := by kernel_rfl
theorem c3 : Try.prog.cellsOf 3 = 1 := by kernel_rfl
theorem c4 : Try.prog.cellsOf 4 = 1 := by kernel_rfl
theorem c23 : Try.prog.cellsOf 23 = 1 := by kernel_rfl
theorem c24 : Try.prog.cellsOf 24 = 1 := by kernel_rfl
theorem c26 : Try.prog.cellsOf 26 = 2 := by kernel_rfl
theorem c46 : Try.prog.cellsOf 46 = 20 := by kernel_rfl
theorem c51 : Try.prog.cellsOf 51 = 6 := by kernel_rfl
theorem int3 {k : Nat} {x : List AV} (h : Tyd Try.prog k 3 x) : ∃ n, x = [i64 n] := by
  obtain ⟨m, h, _⟩ := h.int u3
  exact ⟨m, h⟩
theorem int2 {k : Nat} {x : List AV} (h : Tyd Try.prog k 2 x) : ∃ n, x = [i64 n] := by
  obtain ⟨m, h, _⟩ := h.int u2
  exact ⟨m, h⟩
/-- A struct's field. -/
theorem Tyd.field {P : Program} {k : Nat} {t : TypeId} {x : List AV} {l : List (Nat × TypeId)} (hf : fieldsOf P t = some l) (h : Tyd P (k + 1) t x) {i : Nat} {u : TypeId} (hm : (i, u) ∈ l) : Tyd P k u ((x.drop i).take (P.cellsOf u)) := by
  obtain ⟨fs, hu, he⟩ := fieldsOf_spec hf
  obtain ⟨_, h⟩ := h.struct hu
  rw [← he] at hm
  obtain ⟨f, hf1, hf2⟩ := List.mem_map.1 hm
  have := h f hf1
  simp only [Prod.mk.injEq] at hf2
  rwa [hf2.1, hf2.2] at this
theorem Tyd.len {P : Program} {k : Nat} {t : TypeId} {x : List AV} {l : List (Nat × TypeId)} (hf : fieldsOf P t = some l) (h : Tyd P (k + 1) t x) : x.length = P.cellsOf t := by
  obtain ⟨fs, hu, he⟩ := fieldsOf_spec hf
  exact (h.struct hu).1
theorem kd_of {k : Nat} {x : List AV} (h : Tyd Try.prog k 46 x) : ∃ d : Kd, x = d.cells := by
  cases k with
  | zero => exact h.elim
  | succ k =>
    have hl := h.len f46
    rw [c46] at hl
    have g : ∀ (i : Nat), (i, 3) ∈ [(0, 3), (1, 3), (2, 2), (3, 3), (4, 3), (5, 3), (6, 3), (7, 3), (8, 3), (9, 3), (10, 3), (11, 3), (12, 3), (13, 3), (14, 3), (15, 3), (16, 3), (17, 3), (18, 3), (19, 3)] → ∃ n, (x.drop i).take 1 = [i64 n] := by
      intro i hi
      have := h.field f46 hi
      rw [c3] at this
      exact int3 this
    have g2 : ∃ n, (x.drop 2).take 1 = [i64 n] := by
      have := h.field f46 (i := 2) (u := 2) (by simp)
      rw [c2] at this
      exact int2 this
    match x, hl with
    | [x0, x1, x2, x3, x4, x5, x6, x7, x8, x9, x10, x11, x12, x13, x14, x15, x16, x17, x18, x19], _ =>
      obtain ⟨a0, h0⟩ := g 0 (by simp)
      obtain ⟨a1, h1⟩ := g 1 (by simp)
      obtain ⟨a2, h2⟩ := g2
      obtain ⟨a3, h3⟩ := g 3 (by simp)
      obtain ⟨a4, h4⟩ := g 4 (by simp)
      obtain ⟨a5, h5⟩ := g 5 (by simp)
      obtain ⟨a6, h6⟩ := g 6 (by simp)
      obtain ⟨a7, h7⟩ := g 7 (by simp)
      obtain ⟨a8, h8⟩ := g 8 (by simp)
      obtain ⟨a9, h9⟩ := g 9 (by simp)
      obtain ⟨a10, h10⟩ := g 10 (by simp)
      obtain ⟨a11, h11⟩ := g 11 (by simp)
      obtain ⟨a12, h12⟩ := g 12 (by simp)
      obtain ⟨a13, h13⟩ := g 13 (by simp)
      obtain ⟨a14, h14⟩ := g 14 (by simp)
      obtain ⟨a15, h15⟩ := g 15 (by simp)
      obtain ⟨a16, h16⟩ := g 16 (by simp)
      obtain ⟨a17, h17⟩ := g 17 (by simp)
      obtain ⟨a18, h18⟩ := g 18 (by simp)
      obtain ⟨a19, h19⟩ := g 19 (by simp)
      simp only [List.drop_succ_cons, List.drop_zero, List.take_succ_cons, List.take_zero, List.cons.injEq, and_true] at h0 h1 h2 h3 h4 h5 h6 h7 h8 h9 h10 h11 h12 h13 h14 h15 h16 h17 h18 h19
      subst h0 h1 h2 h3 h4 h5 h6 h7 h8 h9 h10 h11 h12 h13 h14 h15 h16 h17 h18 h19
      exact ⟨⟨a0, a1, a2, a3, a4, a5, a6, a7, a8, a9, a10, a11, a12, a13, a14, a15, a16, a17, a18, a19⟩, rfl⟩
theorem wp_of {k : Nat} {x : List AV} (h : Tyd Try.prog k 51 x) : ∃ d : Wp, x = d.cells := by
  cases k with
  | zero => exact h.elim
  | succ k =>
    have hl := h.len f51
    rw [c51] at hl
    have g : ∀ (i : Nat), (i, 3) ∈ [(0, 3), (1, 3), (2, 2), (3, 3), (4, 3), (5, 4)] → ∃ n, (x.drop i).take 1 = [i64 n] := by
      intro i hi
      have := h.field f51 hi
      rw [c3] at this
      exact int3 this
    have g2 : ∃ n, (x.drop 2).take 1 = [i64 n] := by
      have := h.field f51 (i := 2) (u := 2) (by simp)
      rw [c2] at this
      exact int2 this
    have g5 : ∃ n, (x.drop 5).take 1 = [bl n] := by
      have := h.field f51 (i := 5) (u := 4) (by simp)
      rw [c4] at this
      exact this.bool u4
    match x, hl with
    | [x0, x1, x2, x3, x4, x5], _ =>
      obtain ⟨a0, h0⟩ := g 0 (by simp)
      obtain ⟨a1, h1⟩ := g 1 (by simp)
      obtain ⟨a2, h2⟩ := g2
      obtain ⟨a3, h3⟩ := g 3 (by simp)
      obtain ⟨a4, h4⟩ := g 4 (by simp)
      obtain ⟨a5, h5⟩ := g5
      simp only [List.drop_succ_cons, List.drop_zero, List.take_succ_cons, List.take_zero, List.cons.injEq, and_true] at h0 h1 h2 h3 h4 h5
      subst h0 h1 h2 h3 h4 h5
      exact ⟨⟨a0, a1, a2, a3, a4, a5⟩, rfl⟩
theorem kds_of {k : Nat} : ∀ {l : List (List AV)}, (∀ x ∈ l, Tyd Try.prog k 46 x) → ∃ ks, l = kl ks
  | [], _ => ⟨[], rfl⟩
  | x :: l, h => by
    obtain ⟨a, rfl⟩ := kd_of (h x List.mem_cons_self)
    obtain ⟨w, rfl⟩ := kds_of (fun y hy => h y (List.mem_cons_of_mem _ hy))
    exact ⟨a :: w, rfl⟩
theorem wps_of {k : Nat} : ∀ {l : List (List AV)}, (∀ x ∈ l, Tyd Try.prog k 51 x) → ∃ ks, l = wl ks
  | [], _ => ⟨[], rfl⟩
  | x :: l, h => by
    obtain ⟨a, rfl⟩ := wp_of (h x List.mem_cons_self)
    obtain ⟨w, rfl⟩ := wps_of (fun y hy => h y (List.mem_cons_of_mem _ hy))
    exact ⟨a :: w, rfl⟩
theorem book_of {k : Nat} {x : List AV} (h : Tyd Try.prog (k + 2) 26 x) : ∃ f g ks ws, x = bookA f g ks ws := by
  have hl := h.len f26
  rw [c26] at hl
  have g0 := h.field f26 (i := 0) (u := 23) (by simp)
  have g1 := h.field f26 (i := 1) (u := 24) (by simp)
  rw [c23] at g0
  rw [c24] at g1
  obtain ⟨f, l, e0, _, q0⟩ := g0.slice u23
  obtain ⟨g, m, e1, _, q1⟩ := g1.slice u24
  obtain ⟨ks, rfl⟩ := kds_of q0
  obtain ⟨ws, rfl⟩ := wps_of q1
  match x, hl with
  | [x0, x1], _ =>
    simp only [List.drop_succ_cons, List.drop_zero, List.take_succ_cons, List.take_zero, List.cons.injEq, and_true] at e0 e1
    subst e0 e1
    exact ⟨f, g, ks, ws, rfl⟩
end Go.AM
