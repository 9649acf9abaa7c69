/- What the machine asks of the program of the six laws on kinds holds: no condition. -/
import Derived.Test.YtnehdpiiijbhhaaKE
import Derived.Laws.Externs
set_option autoImplicit false
namespace Go.AM
open Go Go.RowKit Go.Proofs

theorem keq : EqOk KE.P KE.eqT := by
  apply eqOk_of
  intro t ht
  by_cases h1 : t = 46
  · subst h1; kernel_rfl
  · by_cases h2 : t = 51
    · subst h2; kernel_rfl
    · exfalso; apply ht
      simp only [KE, keEq, beq_ne h1, beq_ne h2]

def named (P : Program) : Bool := P.funcs.toList.all fun fn => !(fn.name == "runtime.NumGoroutine")

theorem name_of {P : Program} (h : named P = true) (f : FuncId) (fn : Func) (hf : P.funcs[f]? = some fn) : (fn.name == "runtime.NumGoroutine") = false := by
  simp only [named, List.all_eq_true] at h
  have hm : fn ∈ P.funcs.toList := by
    have : P.funcs.toList[f]? = some fn := by simpa using hf
    exact List.mem_of_getElem? this
  simpa using h fn hm

theorem knamed : named KE.P = true := by kernel_rfl

theorem ext_of {f : FuncId} {fn : Func} {e : Array Value → Sem Value} (hf : KE.P.funcs[f]? = some fn) (hb : fn.body.isNone = true) (hn : Extern.findNext fn = none) (he : Extern.find fn = some e)
    {ys : Array Value} {v : Value} {w : World} (hr : (e ys).run KE.P w = .ok v w) (o : Oper) (a : Act) (next : Act → World → Prop) (Q : Exit → Act → World → Prop) (h : next (a.put o.dst v) w) :
    o.upon KE.P a next Q ((callFunc f ys).run KE.P w) := by
  rw [run_callFunc_extern hf (name_of knamed f fn hf) hb hn he ys w, hr]
  exact h

theorem kext38 : ∃ fn, KE.P.funcs[38]? = some fn ∧ fn.body.isNone = true ∧ Extern.findNext fn = none ∧ Extern.find fn = some Extern.MathFloatBits.float64bits := by
  refine ⟨(KE.P.funcs[38]?).getD default, by kernel_rfl, by kernel_rfl, by kernel_rfl, by kernel_rfl⟩
theorem kext47 : ∃ fn, KE.P.funcs[47]? = some fn ∧ fn.body.isNone = true ∧ Extern.findNext fn = none ∧ Extern.find fn = some Extern.MathFloatBits.float64frombits := by
  refine ⟨(KE.P.funcs[47]?).getD default, by kernel_rfl, by kernel_rfl, by kernel_rfl, by kernel_rfl⟩

theorem kext : ExtOk KE := by
  intro f g hg args x hx c ys hr
  by_cases h1 : f = 38
  · subst h1
    have hg' : g = fun l => match l with | [.v (.float .f64 b)] => some (.v (.int .u64 b)) | _ => none := by cases hg; rfl
    subst hg'
    simp only at hx
    split at hx
    · next b =>
      cases hx
      obtain ⟨y, ys', hy, ⟨_, rfl⟩, hn⟩ := hr
      simp only [RelL] at hn
      subst hn
      have : ys = #[.float .f64 b] := Array.ext' (by simpa using hy)
      subst this
      obtain ⟨fn, k1, k2, k3, k4⟩ := kext38
      exact ⟨.int .u64 b, ⟨rfl, rfl⟩, fun o a next Q h => ext_of k1 k2 k3 k4 (by rfl) o a next Q h⟩
    · cases hx
  · by_cases h2 : f = 47
    · subst h2
      have hg' : g = fun l => match l with | [.v (.int .u64 b)] => some (.v (.float .f64 b.toNat)) | _ => none := by cases hg; rfl
      subst hg'
      simp only at hx
      split at hx
      · next b =>
        cases hx
        obtain ⟨y, ys', hy, ⟨_, rfl⟩, hn⟩ := hr
        simp only [RelL] at hn
        subst hn
        have : ys = #[.int .u64 b] := Array.ext' (by simpa using hy)
        subst this
        obtain ⟨fn, k1, k2, k3, k4⟩ := kext47
        exact ⟨.float .f64 b.toNat, ⟨rfl, rfl⟩, fun o a next Q h => ext_of k1 k2 k3 k4 (by rfl) o a next Q h⟩
      · cases hx
    · exfalso
      have : keExt f = none := by simp only [keExt, beq_ne h1, beq_ne h2]
      simp only [KE, this] at hg
      cases hg

theorem kok : CfgOk KE where
  eqT := keq
  closed := fun _ => rfl
  follows := by kernel_rfl
  name := name_of knamed
  ext := kext
  nat := fun f g h => by cases h
end Go.AM
