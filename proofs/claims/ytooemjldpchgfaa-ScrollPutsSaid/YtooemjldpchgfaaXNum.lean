/- Plain facts on numbers' bytes, read backwards and by division. -/
import Derived.Test.YtooemjldpchgfaaXMath
namespace Go.Proofs.Ytooemjldpchgfaa.TH
open Go

theorem leN_drop {l : List UInt8} {i : Nat} {x : UInt8} (h : l[i]? = some x) : leN (l.drop i) = x.toNat + 256 * leN (l.drop (i + 1)) := by
  obtain ⟨hi, hx⟩ := List.getElem?_eq_some_iff.1 h
  rw [List.drop_eq_getElem_cons hi, hx]; rfl
theorem leN_drop_lt (l : List UInt8) (h : l.length ≤ 8) (i : Nat) : leN (l.drop i) < 18446744073709551616 := by
  refine Nat.lt_of_lt_of_le (leN_lt _) ?_
  have h1 : 256 ^ (l.drop i).length ≤ 256 ^ 8 := Nat.pow_le_pow_right (by decide) (by simp; omega)
  have h2 : (256 : Nat) ^ 8 = 18446744073709551616 := by decide
  omega
theorem back_step {l : List UInt8} {i : Nat} {x : UInt8} (hl : l.length ≤ 8) (h : l[i]? = some x) :
    IntKind.u64.wrap (IntKind.u64.wrap (leN (l.drop (i + 1)) * 256) + IntKind.u64.wrap x.toNat) = leN (l.drop i) := by
  have h0 := leN_drop h
  have h1 := leN_drop_lt l hl i
  have h2 := x.toNat_lt
  rw [wrap_u64_in (n := (leN (l.drop (i + 1)) : Int) * 256) (by omega), wrap_u64_in (n := (x.toNat : Int)) (by omega), wrap_u64_in (by omega)]
  omega

/-- The number's rest. -/
def restU (n : Int) (i : Nat) : Int := (n % 18446744073709551616) / 2 ^ (8 * i)
theorem restU_0 (n : Int) : restU n 0 = IntKind.u64.wrap n := by rw [IntKind.wrap_u64]; simp [restU]
theorem pow_pos' (k : Nat) : (0 : Int) < 2 ^ k := Int.pow_pos (by decide)
theorem restU_nonneg (n : Int) (i : Nat) : 0 ≤ restU n i ∧ restU n i < 18446744073709551616 := by
  unfold restU
  have h0 : 0 ≤ n % 18446744073709551616 := Int.emod_nonneg _ (by decide)
  have h1 : n % 18446744073709551616 < 18446744073709551616 := Int.emod_lt_of_pos _ (by decide)
  refine ⟨Int.ediv_nonneg h0 (Int.le_of_lt (pow_pos' _)), ?_⟩
  have := Int.ediv_le_self (2 ^ (8 * i)) h0
  omega
theorem restU_succ (n : Int) (i : Nat) : IntKind.u64.wrap ((restU n i).tdiv 256) = restU n (i + 1) := by
  have h := restU_nonneg n i
  have h2 := restU_nonneg n (i + 1)
  rw [Int.tdiv_eq_ediv_of_nonneg h.1]
  have e : restU n i / 256 = restU n (i + 1) := by
    unfold restU
    have e2 : (2 : Int) ^ (8 * (i + 1)) = 2 ^ (8 * i) * 256 := by rw [Nat.mul_add, Int.pow_add]; rfl
    rw [e2, Int.ediv_ediv_of_nonneg (Int.le_of_lt (pow_pos' _))]
  rw [e, wrap_u64_in h2]
theorem restU_byte (n : Int) {i : Nat} (hi : i < 8) : IntKind.u8.wrap ((restU n i).tmod 256) = (byteAt n i).toNat := by
  have h := restU_nonneg n i
  rw [Int.tmod_eq_emod_of_nonneg h.1, IntKind.wrap_u8, byteAt_nat]
  unfold restU
  have e2 : (18446744073709551616 : Int) = 2 ^ (8 * i) * 2 ^ (64 - 8 * i) := by
    rw [← Int.pow_add]
    have : 8 * i + (64 - 8 * i) = 64 := by omega
    rw [this]; decide
  have e3 : (2 : Int) ^ (64 - 8 * i) = 256 * 2 ^ (56 - 8 * i) := by
    have : 64 - 8 * i = 8 + (56 - 8 * i) := by omega
    rw [this, Int.pow_add]; rfl
  have e1 := Int.mul_ediv_add_emod n 18446744073709551616
  generalize n % 18446744073709551616 = r at e1 ⊢
  generalize n / 18446744073709551616 = q at e1
  have e4 : n / 2 ^ (8 * i) = r / 2 ^ (8 * i) + 2 ^ (64 - 8 * i) * q := by
    rw [← e1, e2, Int.mul_assoc, Int.add_comm, Int.add_mul_ediv_left _ _ (Int.ne_of_gt (pow_pos' _))]
  rw [e4, e3, Int.mul_assoc, Int.add_mul_emod_self_left, Int.emod_emod_of_dvd _ (by decide)]
end Go.Proofs.Ytooemjldpchgfaa.TH
