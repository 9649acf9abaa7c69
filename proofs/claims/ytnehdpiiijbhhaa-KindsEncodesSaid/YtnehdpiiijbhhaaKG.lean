/- A small whole number by 65536, as a float's bits: it is exact; under the number's bounds. -/
import Derived.Test.YtnehdpiiijbhhaaKE
set_option autoImplicit false
set_option maxRecDepth 100000
namespace Go.AM
open Go Go.RowKit Go.Proofs

theorem log2_of {n k : Nat} (h0 : 2 ^ k ≤ n) (h1 : n < 2 ^ (k + 1)) : n.log2 = k := by
  have hn : n ≠ 0 := by have := Nat.two_pow_pos k; omega
  exact (Nat.log2_eq_iff hn).2 ⟨h0, h1⟩
theorem cut_exact (n q d : Nat) (hd : d ≤ n.log2 + 2) (h : n = q * 2 ^ d) : Ieee.Toward.even.cut false n d = q := by
  have hp := Nat.two_pow_pos d
  simp only [Ieee.Toward.cut, Nat.min_eq_left hd, Nat.one_shiftLeft]
  have e1 : n / 2 ^ d = q := by rw [h]; exact Nat.mul_div_cancel _ hp
  have e2 : n % 2 ^ d = 0 := by rw [h]; exact Nat.mul_mod_left _ _
  rw [e1, e2]
  have f1 : decide (2 ^ d < 2 * 0) = false := by simp
  have f2 : (2 ^ d == 2 * 0) = false := by simp
  simp only [f1, f2, Bool.false_and, Bool.or_self]
  rfl
/-- A number of at most 53 digits is kept. -/
theorem near_exact (mag V l a b : Nat) (place : Int) (h0 : mag ≠ 0) (hl : mag.log2 = l) (hV : V < 9007199254740992) (hp : -1000 ≤ place) (hp' : place + l ≤ 900) (hab : (a : Int) = (l : Int) - 52 ∧ b = 0 ∨ a = 0 ∧ (b : Int) = 52 - (l : Int)) (hm : mag * 2 ^ b = V * 2 ^ a) (ha : a ≤ l) :
    Ieee.double.nearest false mag place = (place + l + 1022).toNat * 4503599627370496 + V := by
  have hf : Ieee.double.fractionBits = 52 := rfl
  have hlp : Ieee.double.leastPlace = -1074 := by decide
  have hb : Ieee.double.binade = 4503599627370496 := by decide
  have hi : Ieee.double.infRung = 9218868437227405312 := by decide
  simp only [Ieee.Format.nearest, if_neg h0, hl, hf, hlp, hb, hi]
  have e1 : max (place + (l : Int) - (52 : Nat)) (-1074) = place + l - 52 := by omega
  rw [e1]
  have e2 : (place - (place + l - 52)).toNat = b := by omega
  have e3 : (place + l - 52 - place).toNat = a := by omega
  have e4 : (place + l - 52 - -1074).toNat = (place + l + 1022).toNat := by omega
  rw [e2, e3, e4, Nat.shiftLeft_eq]
  have hc : Ieee.Toward.even.cut false (mag * 2 ^ b) a = V := by
    refine cut_exact _ _ _ ?_ hm
    have : mag ≤ mag * 2 ^ b := Nat.le_mul_of_pos_right _ (Nat.two_pow_pos b)
    have : mag.log2 ≤ (mag * 2 ^ b).log2 := by
      refine (Nat.le_log2 (by omega)).2 (Nat.le_trans ((Nat.le_log2 h0).1 (Nat.le_refl _)) this)
    omega
  rw [hc]
  simp only [Ieee.Format.word]
  rw [Nat.min_eq_left (by omega)]
  rfl
theorem read_exact (e V : Nat) (h0 : 4503599627370496 ≤ V) (h1 : V < 9007199254740992) (he : e ≤ 2000) : Ieee.double.read (e * 4503599627370496 + V) = .number false V ((e : Int) - 1074) := by
  have hs : Ieee.double.signWeight = 9223372036854775808 := by decide
  have hlp : Ieee.double.leastPlace = -1074 := by decide
  have hb : Ieee.double.binade = 4503599627370496 := by decide
  have hi : Ieee.double.infRung = 9218868437227405312 := by decide
  simp only [Ieee.Format.read, hs, hlp, hb, hi]
  have e1 : (e * 4503599627370496 + V) / 9223372036854775808 % 2 = 0 := by omega
  have e2 : (e * 4503599627370496 + V) % 9223372036854775808 = e * 4503599627370496 + V := by omega
  rw [e1, e2, if_neg (by omega), if_pos (by omega)]
  have e3 : (e * 4503599627370496 + V) % 4503599627370496 = V - 4503599627370496 := by omega
  have e4 : (e * 4503599627370496 + V) / 4503599627370496 - 1 = e := by omega
  rw [e3, e4, Nat.add_sub_cancel' h0]
  have e5 : (-1074 : Int) + (e : Int) = (e : Int) - 1074 := by omega
  rw [e5]
  rfl
theorem div_exact (v k : Nat) (hk : k ≤ 20) (h0 : 2 ^ k ≤ v) (h1 : v < 2 ^ (k + 1)) :
    Ieee.double.div (FloatKind.f64.nearest (v : Int)) 4679240012837945344 = some ((1006 + k) * 4503599627370496 + v * 2 ^ (52 - k)) := by
  have hp : 2 ^ k * 2 ^ (52 - k) = 4503599627370496 := by rw [← Nat.pow_add, show k + (52 - k) = 52 by omega]
  have hp' : 2 ^ (k + 1) * 2 ^ (52 - k) = 9007199254740992 := by rw [← Nat.pow_add, show k + 1 + (52 - k) = 53 by omega]
  have hq := Nat.two_pow_pos (52 - k)
  have hv0 : v ≠ 0 := by have := Nat.two_pow_pos k; omega
  have V0 : 4503599627370496 ≤ v * 2 ^ (52 - k) := by rw [← hp]; exact Nat.mul_le_mul_right _ h0
  have V1 : v * 2 ^ (52 - k) < 9007199254740992 := by rw [← hp']; exact Nat.mul_lt_mul_of_pos_right h1 hq
  generalize hV : v * 2 ^ (52 - k) = V at V0 V1
  have n1 : FloatKind.f64.nearest (v : Int) = (k + 1022) * 4503599627370496 + V := by
    have : FloatKind.f64.nearest (v : Int) = Ieee.double.nearest false v 0 := by
      have hd : decide ((v : Int) < 0) = false := decide_eq_false (by omega)
      simp only [FloatKind.nearest, FloatKind.encode, FloatKind.format, Ieee.Format.write, hd, Int.natAbs_natCast]
    rw [this, near_exact v V k 0 (52 - k) 0 hv0 (log2_of h0 h1) V1 (by omega) (by omega) (by omega) (by omega) (by omega)]
    congr 2
    omega
  have r1 := read_exact (k + 1022) V V0 V1 (by omega)
  have r2 : Ieee.double.read 4679240012837945344 = .number false 4503599627370496 (-36) := by decide
  have l1 : V.log2 = 52 := log2_of V0 V1
  have l2 : Nat.log2 4503599627370496 = 52 := by decide
  have hfr : Ieee.double.fractionBits = 52 := rfl
  rw [n1, Ieee.Format.div, r1, r2, hfr]
  simp only [Ieee.Datum.quotient, l1, l2, Nat.shiftLeft_eq]
  rw [if_neg (by decide)]
  have m1 : 52 + 2 + 52 - 52 = 54 := rfl
  have m2 : V * 2 ^ 54 / 4503599627370496 = 4 * V := by omega
  have m3 : (V * 2 ^ 54 % 4503599627370496 != 0) = false := by have : V * 2 ^ 54 % 4503599627370496 = 0 := by omega
                                                               rw [this]; rfl
  rw [m1, m2, m3]
  simp only [Option.map_some, Ieee.Format.write, Bool.toNat_false, Bool.bne_false]
  have m4 : ((k + 1022 : Nat) : Int) - 1074 - -36 - (54 : Nat) - 1 = (k : Int) - 71 := by omega
  rw [m4]
  have l3 : (2 * (4 * V) + 0).log2 = 55 := log2_of (by omega) (by omega)
  rw [near_exact (2 * (4 * V) + 0) V 55 3 0 ((k : Int) - 71) (by omega) l3 V1 (by omega) (by omega) (by omega) (by omega) (by omega)]
  congr 3
  omega
end Go.AM
