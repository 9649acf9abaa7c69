/- A part of the proof that the machine of AM is sound: each lemma is under its own hypotheses alone. -/
import Derived.Test.YtnehdpiiijbhhaaAMVal
import Derived.Laws.Build
import Derived.Laws.BytesString
import Derived.Laws.BytesArg
set_option autoImplicit false
set_option linter.unusedVariables false
set_option linter.unusedSimpArgs false
namespace Go.AM
open Go Go.RowKit
variable {P : Program}

theorem un_sound {c : Ctx} {op : UnOp} {x z : AV} {u : Value} (h : unAV P op x = some z) (hx : Rel c x u) : ∃ r, (Op.unary op u).run P c.w = .ok r c.w ∧ Rel c z r := by
  unfold unAV at h
  split at h
  · obtain ⟨_, rfl⟩ := hx
    exact mkV_sound h c
  · cases h

theorem bytesOf_sound {c : Ctx} {b sz : Nat} : ∀ {l : List (List AV)} {o : Nat} {bs : List UInt8}, bytesOf l = some bs → RelE c b sz o l → l ≠ [] →
    ∃ ns : List Int, ns.length = l.length ∧ sz = 1 ∧ (ns.map fun n => UInt8.ofNat n.toNat) = bs ∧ ∀ (j : Nat) (n : Int), ns[j]? = some n → c.w.cell? ⟨b, o + j, none⟩ = some (.int .u8 n)
  | [], _, _, _, _, h => absurd rfl h
  | e :: l, o, bs, h, hE, _ => by
    unfold bytesOf at h
    split at h
    · next he => cases he
    · next n l' he =>
      cases he
      split at h
      case h_2 => cases h
      case h_1 bs' hb =>
      cases h
      obtain ⟨h1, h2, h3⟩ := hE
      have hsz : sz = 1 := by simpa using h1.symm
      subst hsz
      obtain ⟨⟨y, hy, ⟨_, rfl⟩, _⟩, _⟩ := h2
      by_cases hl : l = []
      · subst hl
        simp [bytesOf] at hb
        subst hb
        refine ⟨[n], rfl, rfl, rfl, fun j m hm => ?_⟩
        cases j with
        | zero => simp at hm; subst hm; simpa using hy
        | succ j => simp at hm
      · obtain ⟨ns, k1, _, k2, k3⟩ := bytesOf_sound hb h3 hl
        refine ⟨n :: ns, by simp [k1], rfl, by simp [k2], fun j m hm => ?_⟩
        cases j with
        | zero => simp at hm; subst hm; simpa using hy
        | succ j =>
          simp at hm
          have := k3 j m hm
          rwa [show o + 1 + j = o + (j + 1) by omega] at this
    · cases h
end Go.AM
namespace Go.AM
open Go Go.RowKit
variable {P : Program}

theorem readElems_row {c : Ctx} {h : Heap} {x : AV} {u : Value} {l : List (List AV)} (hx : Rel c x u) (hh : HR c h) (he : readElems h x = some l) :
    ∃ a cap, u = .slice a l.length cap ∧ (l = [] ∨ ∃ b o sz, a = some ⟨b, o, none⟩ ∧ RelE c b sz o l) := by
  cases x <;> simp [readElems] at he
  case sl full l' =>
    subst he
    obtain ⟨a, cap, rfl, _, _, _, h4⟩ := hx
    refine ⟨a, cap, rfl, ?_⟩
    rcases h4 with h4 | ⟨b, o, sz, rfl, _, hE⟩
    · exact .inl h4
    · exact .inr ⟨b, o, sz, rfl, hE⟩
  case ref r ver off len =>
    split at he
    case h_2 => cases he
    case h_1 ver' ro sz rf l0 hr =>
    split at he
    case isFalse => cases he
    case isTrue hc =>
    obtain ⟨rfl, hc2⟩ := hc
    cases he
    obtain ⟨hv, hcap, a, cap', rfl, h2, h3⟩ := hx
    have hk := hh.arr _ _ _ _ _ _ hr
    have hll := length_slice l0 off len hc2
    refine ⟨a, cap', by rw [hll], ?_⟩
    by_cases h0 : len = 0
    · left; subst h0; simp [slice]
    · right
      rcases h3 with h3 | rfl
      · omega
      · exact ⟨_, _, sz, rfl, by rw [hk.hsz]; exact hk.mem.slice off len⟩

theorem conv_sound {c : Ctx} {h : Heap} {s d : TypeId} {x z : AV} {u : Value} (hz : convAV P h s d x = some z) (hx : Rel c x u) (hh : HR c h) :
    ∃ r, (convert s d u).run P c.w = .ok r c.w ∧ Rel c z r := by
  unfold convAV at hz
  split at hz
  · next d1 k k1 n hd hs =>
    obtain ⟨_, rfl⟩ := hx
    cases hz
    refine ⟨_, ?_, rfl, rfl⟩
    simp only [convert, Sem.run_bind, run_underlying hs, run_underlying hd, Result.andThen_ok]
    simp [Conv.intToInt]
  · next d1 k k1 n hd hs =>
    obtain ⟨_, rfl⟩ := hx
    cases hz
    refine ⟨_, ?_, rfl, rfl⟩
    simp only [convert, Sem.run_bind, run_underlying hs, run_underlying hd, Result.andThen_ok]
    simp [Conv.intToFloat]
  · next d1 k k1 n hd hs =>
    obtain ⟨_, rfl⟩ := hx
    obtain ⟨r, h1, h2⟩ := mkV_sound hz c
    refine ⟨r, ?_, h2⟩
    simp only [convert, Sem.run_bind, run_underlying hs, run_underlying hd, Result.andThen_ok]
    exact h1
  · next e x hs hd _ _ _ =>
    split at hz
    · next l he hl =>
      split at hz
      · next bs hb =>
        cases hz
        obtain ⟨a, cap, rfl, hrow⟩ := readElems_row hx hh hl
        rw [run_convert_bytes_string c.w s d _ _ _ _ (by assumption) he (by assumption)]
        rcases hrow with rfl | ⟨b, o, sz, rfl, hE⟩
        · simp [bytesOf] at hb
          subst hb
          refine ⟨.string .empty, ?_, rfl, rfl⟩
          cases a <;> simp [Conv.bytesToString, loadCells, loadCellsFrom]
        · by_cases hl0 : l = []
          · subst hl0
            simp [bytesOf] at hb
            subst hb
            exact ⟨.string .empty, by simp [Conv.bytesToString, loadCells, loadCellsFrom], rfl, rfl⟩
          · obtain ⟨ns, k1, _, k2, k3⟩ := bytesOf_sound hb hE hl0
            have hload := run_loadCells_list (P := P) c.w ⟨b, o, none⟩ (ns.map (Value.int .u8)) (fun j v hv => by
              rw [List.getElem?_map] at hv
              cases hn : ns[j]? with
              | none => rw [hn] at hv; cases hv
              | some n =>
                rw [hn] at hv; cases hv
                rw [addr_add]; exact k3 j n hn)
            rw [List.length_map, k1] at hload
            refine ⟨_, run_bytesToString c.w _ _ _ ns hload, rfl, ?_⟩
            rw [foldl_push_bytes, k2]
            simp
      · cases hz
    · cases hz
  · cases hz

theorem index_sound {c : Ctx} {t : TypeId} {x y : AV} {k : IntKind} {i : Int} {u : Value} (hf : indexAV P t x i = some y) (hx : Rel c x u) :
    ∃ v, (Instr.index t u (.int k i)).run P c.w = .ok v c.w ∧ Rel c y v := by
  unfold indexAV at hf
  split at hf
  · next len elem l hu =>
    split at hf
    case h_2 => cases hf
    case h_1 n hn =>
    obtain ⟨h1, h2, rfl, h3⟩ := idx_some hn
    obtain ⟨hs, hf⟩ := ite_some hf
    obtain ⟨ys, rfl, hl, hone⟩ := hx
    obtain ⟨v, k1, k2⟩ := run_part (P := P) hf hl hone c.w
    refine ⟨v, ?_, k2⟩
    simp only [Instr.index, asIntOf, Sem.run_bind, run_underlying hu, Result.andThen_ok, Sem.run_pure]
    simp [h1, h2, run_sizeOf' hs, k1]
  · next s hu =>
    split at hf
    case h_2 => cases hf
    case h_1 n hn =>
    obtain ⟨h1, h2, rfl, h3⟩ := idx_some hn
    split at hf
    case h_2 => cases hf
    case h_1 b hb =>
    cases hf
    obtain ⟨_, rfl⟩ := hx
    refine ⟨_, ?_, rfl, rfl⟩
    simp only [Instr.index, asIntOf, Sem.run_bind, run_underlying hu, Result.andThen_ok, Sem.run_pure]
    have : s[i.toNat]? = some b := by
      obtain ⟨hlt, hv⟩ := Array.getElem?_eq_some_iff.1 hb
      have hlt' : i.toNat < s.size := hlt
      rw [getElem?_pos s i.toNat hlt']
      exact congrArg some hv
    simp [h1, this]
  · cases hf
end Go.AM
namespace Go.AM
open Go Go.RowKit
variable {P : Program}

theorem pick_sound {c : Ctx} {x a b z : AV} {u ua ub : Value} (h : pickAV x a b = some z) (hx : Rel c x u) (ha : Rel c a ua) (hb : Rel c b ub) :
    ∃ r, ((do pure (if ← asBool u then ua else ub) : Sem Value)).run P c.w = .ok r c.w ∧ Rel c z r := by
  unfold pickAV at h
  split at h
  · obtain ⟨_, rfl⟩ := hx; cases h; exact ⟨ua, by simp [asBool], ha⟩
  · obtain ⟨_, rfl⟩ := hx; cases h; exact ⟨ub, by simp [asBool], hb⟩
  · cases h

theorem iface_sound {c : Ctx} {ty : TypeId} {x z : AV} {u : Value} (h : ifaceAV P ty x = some z) (hx : Rel c x u) :
    ∃ r, (Instr.makeInterface ty u).run P c.w = .ok r c.w ∧ Rel c z r := by
  have hc : P.concrete ty = true := by
    unfold Program.concrete
    unfold ifaceAV at h
    cases hu : P.underlying ty with
    | none => rw [hu] at h; cases x <;> simp at h
    | some d => rw [hu] at h; cases d <;> first | (cases x <;> simp at h; done) | rfl
  have hz : z = .iface ty x := by
    unfold ifaceAV at h
    split at h <;> first | cases h; done | (cases h; rfl)
  subst hz
  exact ⟨_, run_makeInterface c.w ty u hc, u, rfl, hx⟩

theorem assert_sound {c : Ctx} {ty xty : TypeId} {ok : Bool} {x z : AV} {u : Value} (h : assertAV P ty ok x = some z) (hx : Rel c x u) :
    ∃ r, (Instr.typeAssert u xty ty ok).run P c.w = .ok r c.w ∧ Rel c z r := by
  unfold assertAV at h
  split at h
  · cases h
  · cases h
  · next d hd ty' x hni _ =>
    obtain ⟨u', rfl, hx⟩ := hx
    obtain ⟨hty, h⟩ := ite_some h
    subst hty
    cases hu : P.underlying ty' with
    | none => simp_all
    | some d' =>
      have hrun : (Instr.typeAssert (.iface ty' u') xty ty' ok).run P c.w = .ok (if ok then .tuple #[u', .bool true] else u') c.w := by
        cases d' <;> first | (exfalso; simp_all; done) | simp [Instr.typeAssert, run_underlying hu]
      refine ⟨_, hrun, ?_⟩
      cases ok
      · simp at h; subst h; exact hx
      · simp at h; subst h
        exact ⟨[u', .bool true], rfl, u', _, rfl, hx, _, _, rfl, ⟨rfl, rfl⟩, rfl⟩
  · cases h

theorem extract_sound {c : Ctx} {i : Nat} {x z : AV} {u : Value} (h : extractAV i x = some z) (hx : Rel c x u) :
    ∃ r, (Instr.extract u i).run P c.w = .ok r c.w ∧ Rel c z r := by
  cases x <;> simp [extractAV] at h
  obtain ⟨ys, rfl, hl⟩ := hx
  obtain ⟨y, hy, hr⟩ := hl.get h
  exact ⟨y, by simp [Instr.extract, hy], hr⟩

theorem len_sound {c : Ctx} {H H' : Heap} {ty : TypeId} {tys : Array TypeId} {x z : AV} {u : Value} {f : FP} (h : opLen P H ty x = some (.val z H' f)) (hx : Rel c x u) (ht : tys.toList.head? = some ty) (rty : TypeId) :
    ∃ r, (Builtin.len_ tys rty #[u]).run P c.w = .ok r c.w ∧ Rel c z r ∧ H' = H := by
  have h0 : tys[0]? = some ty := by
    obtain ⟨l⟩ := tys
    cases l with
    | nil => simp at ht
    | cons a l => simp at ht; subst ht; rfl
  unfold opLen at h
  split at h
  · next n e hu =>
    cases h
    refine ⟨_, ?_, ⟨rfl, rfl⟩, rfl⟩
    simp [Builtin.len_, h0, run_underlying hu, goInt]
  · next e hu =>
    split at h
    case h_2 => cases h
    case h_1 n hn =>
    cases h
    cases x <;> simp [lenAV] at hn
    · subst hn
      obtain ⟨a, cap, rfl, _⟩ := hx
      refine ⟨_, ?_, ⟨rfl, rfl⟩, rfl⟩
      simp [Builtin.len_, h0, run_underlying hu, goInt]
    · subst hn
      obtain ⟨_, _, a, cap, rfl, _⟩ := hx
      refine ⟨_, ?_, ⟨rfl, rfl⟩, rfl⟩
      simp [Builtin.len_, h0, run_underlying hu, goInt]
  · next hu =>
    split at h
    · obtain ⟨_, rfl⟩ := hx
      cases h
      refine ⟨_, ?_, ⟨rfl, rfl⟩, rfl⟩
      simp [Builtin.len_, h0, run_underlying hu, goInt]
    · cases h
  · cases h

theorem ints_sound {c : Ctx} : ∀ {l : List AV} {ys : List Value} {r : List Int}, ints l = some r → RelL c l ys → ∃ ks : List IntKind, ks.length = r.length ∧ ys = (ks.zip r).map fun p => .int p.1 p.2
  | [], ys, r, h, hl => by simp [ints] at h; subst h; simp only [RelL] at hl; subst hl; exact ⟨[], rfl, rfl⟩
  | x :: l, ys, r, h, hl => by
    obtain ⟨y, ys', rfl, hx, hl⟩ := hl
    unfold ints at h
    split at h
    · next e => cases e
    · next k b l' e =>
      cases e
      split at h
      · next r' hr' =>
        cases h
        obtain ⟨_, rfl⟩ := hx
        obtain ⟨ks, h1, rfl⟩ := ints_sound hr' hl
        exact ⟨k :: ks, by simp [h1], rfl⟩
      · cases h
    · cases h

theorem run_fold_min {w : World} (k : IntKind) : ∀ (ks : List IntKind) (r : List Int) (a : Int), ks.length = r.length →
    (((ks.zip r).map fun p => Value.int p.1 p.2).foldlM Builtin.min2 (.int k a)).run P w = .ok (.int k (r.foldl (fun a b => if b < a then b else a) a)) w
  | [], [], a, _ => by simp
  | [], _ :: _, _, h => by simp at h
  | _ :: _, [], _, h => by simp at h
  | k' :: ks, b :: r, a, h => by
    simp only [List.zip_cons_cons, List.map_cons, List.foldlM_cons, Sem.run_bind, List.foldl_cons]
    have := run_fold_min (w := w) k ks r (if b < a then b else a) (by simpa using h)
    simpa [Builtin.min2] using this

theorem run_fold_max {w : World} (k : IntKind) : ∀ (ks : List IntKind) (r : List Int) (a : Int), ks.length = r.length →
    (((ks.zip r).map fun p => Value.int p.1 p.2).foldlM Builtin.max2 (.int k a)).run P w = .ok (.int k (r.foldl (fun a b => if b > a then b else a) a)) w
  | [], [], a, _ => by simp
  | [], _ :: _, _, h => by simp at h
  | _ :: _, [], _, h => by simp at h
  | k' :: ks, b :: r, a, h => by
    simp only [List.zip_cons_cons, List.map_cons, List.foldlM_cons, Sem.run_bind, List.foldl_cons]
    have := run_fold_max (w := w) k ks r (if b > a then b else a) (by simpa using h)
    simpa [Builtin.max2] using this

theorem toInts_sound {c : Ctx} {l : List AV} {ys : List Value} {k : IntKind} {a : Int} {r : List Int} (h : toInts l = some (k, a, r)) (hl : RelL c l ys) :
    ∃ ks : List IntKind, ks.length = r.length ∧ ys = .int k a :: ((ks.zip r).map fun p => .int p.1 p.2) := by
  unfold toInts at h
  split at h
  · split at h
    · next r' hr' =>
      cases h
      obtain ⟨y, ys', rfl, ⟨_, rfl⟩, hl⟩ := hl
      obtain ⟨ks, h1, rfl⟩ := ints_sound hr' hl
      exact ⟨ks, h1, rfl⟩
    · cases h
  · cases h

theorem min_sound {c : Ctx} {l : List AV} {ys : Array Value} {z : AV} (h : minAV l = some z) (hl : RelL c l ys.toList) (tys : Array TypeId) (ty : TypeId) :
    ∃ r, (Builtin.min_ tys ty ys).run P c.w = .ok r c.w ∧ Rel c z r := by
  unfold minAV at h
  split at h
  · next k a r hr =>
    cases h
    obtain ⟨ks, h1, h2⟩ := toInts_sound hr hl
    refine ⟨_, ?_, rfl, rfl⟩
    simp only [Builtin.min_, h2]
    exact run_fold_min k ks r a h1
  · cases h

theorem max_sound {c : Ctx} {l : List AV} {ys : Array Value} {z : AV} (h : maxAV l = some z) (hl : RelL c l ys.toList) (tys : Array TypeId) (ty : TypeId) :
    ∃ r, (Builtin.max_ tys ty ys).run P c.w = .ok r c.w ∧ Rel c z r := by
  unfold maxAV at h
  split at h
  · next k a r hr =>
    cases h
    obtain ⟨ks, h1, h2⟩ := toInts_sound hr hl
    refine ⟨_, ?_, rfl, rfl⟩
    simp only [Builtin.max_, h2]
    exact run_fold_max k ks r a h1
  · cases h
end Go.AM
