/- Plain facts: bytes and numbers, the lowest byte first. -/
import Derived.Test.YtooemjldpchgfaaXMore
namespace Go.Proofs.Ytooemjldpchgfaa.TH
open Go

def leN : List UInt8 → Nat
  | [] => 0
  | b :: l => b.toNat + 256 * leN l

theorem leN_append (l m : List UInt8) : leN (l ++ m) = leN l + 256 ^ l.length * leN m := by
  induction l with
  | nil => simp [leN]
  | cons b l ih => simp only [List.cons_append, leN, ih, List.length_cons, Nat.pow_succ]; rw [Nat.mul_add, ← Nat.mul_assoc, Nat.mul_comm 256 (256 ^ _)]; omega

theorem leN_lt (l : List UInt8) : leN l < 256 ^ l.length := by
  induction l with
  | nil => simp [leN]
  | cons b l ih =>
    have := b.toNat_lt
    simp only [leN, List.length_cons, Nat.pow_succ]
    omega

theorem leN_take {l : List UInt8} {i : Nat} {x : UInt8} (h : l[i]? = some x) : leN (l.take (i + 1)) = leN (l.take i) + x.toNat * 256 ^ i := by
  obtain ⟨hi, hx⟩ := List.getElem?_eq_some_iff.1 h
  rw [List.take_succ_eq_append_getElem hi, hx, leN_append, List.length_take, Nat.min_eq_left (by omega)]
  simp [leN, Nat.mul_comm]

theorem leN_take_lt (l : List UInt8) (i : Nat) : leN (l.take i) < 256 ^ i := by
  refine Nat.lt_of_lt_of_le (leN_lt _) (Nat.pow_le_pow_right (by decide) ?_)
  simp; omega

theorem or_low (a b i : Nat) (h : a < 2 ^ i) : a ||| (b * 2 ^ i) = a + b * 2 ^ i := by
  rw [Nat.or_comm, Nat.mul_comm, ← Nat.two_pow_add_eq_or_of_lt h]; omega

theorem wrap_u64_in {n : Int} (h : 0 ≤ n ∧ n < 18446744073709551616) : IntKind.u64.wrap n = n := by rw [IntKind.wrap_u64]; omega
theorem wrap_i64_in {n : Int} (h : -9223372036854775808 ≤ n ∧ n < 9223372036854775808) : IntKind.i64.wrap n = n := IntWalk.i64_in n (by omega)

theorem pow256 (i : Nat) : (256 : Nat) ^ i = 2 ^ (8 * i) := by rw [Nat.pow_mul]
theorem bShl_u64 {x i : Nat} (hx : x < 256) (hi : i < 8) : bShl .u64 (IntKind.u64.wrap x) (IntKind.i64.wrap (8 * i)) = (x * 256 ^ i : Nat) := by
  rw [wrap_u64_in (by omega), wrap_i64_in (by omega)]
  unfold bShl
  have e : min (8 * (i : Int)).toNat IntKind.u64.bits = 8 * i := by simp [IntKind.bits]; omega
  rw [e]
  have : x * 256 ^ i < 18446744073709551616 := by
    have h1 : 256 ^ i ≤ 256 ^ 7 := Nat.pow_le_pow_right (by decide) (by omega)
    calc x * 256 ^ i ≤ 255 * 256 ^ 7 := Nat.mul_le_mul (by omega) h1
      _ < _ := by decide
  have e2 : ((x : Int) * 2 ^ (8 * i)) = ((x * 256 ^ i : Nat) : Int) := by rw [pow256]; push_cast; rfl
  rw [e2, wrap_u64_in (by omega)]
theorem bShl_i64 {x i : Nat} (hx : x < 256) (hi : i < 7) : bShl .i64 (IntKind.i64.wrap x) (IntKind.i64.wrap (8 * i)) = (x * 256 ^ i : Nat) := by
  rw [wrap_i64_in (by omega), wrap_i64_in (by omega)]
  unfold bShl
  have e : min (8 * (i : Int)).toNat IntKind.i64.bits = 8 * i := by simp [IntKind.bits]; omega
  rw [e]
  have : x * 256 ^ i < 9223372036854775808 := by
    have h1 : 256 ^ i ≤ 256 ^ 6 := Nat.pow_le_pow_right (by decide) (by omega)
    calc x * 256 ^ i ≤ 255 * 256 ^ 6 := Nat.mul_le_mul (by omega) h1
      _ < _ := by decide
  have e2 : ((x : Int) * 2 ^ (8 * i)) = ((x * 256 ^ i : Nat) : Int) := by rw [pow256]; push_cast; rfl
  rw [e2, wrap_i64_in (by omega)]

theorem bOr_nat {k : IntKind} {a b : Nat} (ha : a < 2 ^ k.bits) (hb : b < 2 ^ k.bits) : bOr k a b = k.wrap (a ||| b : Nat) := by
  unfold bOr
  congr 2
  simp only [BitVec.toNat_or, BitVec.ofInt_natCast, BitVec.toNat_ofNat]
  rw [Nat.mod_eq_of_lt ha, Nat.mod_eq_of_lt hb]

/-- One more byte. -/
theorem or_u64 {l : List UInt8} {i : Nat} {x : UInt8} (h : l[i]? = some x) (hi : i < 8) : bOr .u64 (leN (l.take i)) (bShl .u64 (IntKind.u64.wrap x.toNat) (IntKind.i64.wrap (8 * i))) = leN (l.take (i + 1)) := by
  have hx := x.toNat_lt
  have h0 := leN_take_lt l i
  have h1 := leN_take_lt l (i + 1)
  have h2 := leN_take h
  have h3 : 256 ^ (i + 1) ≤ 256 ^ 8 := Nat.pow_le_pow_right (by decide) (by omega)
  have h4 : (256 : Nat) ^ 8 = 2 ^ 64 := by decide
  rw [bShl_u64 hx hi, bOr_nat (by simp only [IntKind.bits]; omega) (by simp only [IntKind.bits]; omega), pow256 i, or_low _ _ _ (by rw [← pow256]; exact h0), ← pow256, ← h2, wrap_u64_in (by omega)]
theorem or_i64 {l : List UInt8} {i : Nat} {x : UInt8} (h : l[i]? = some x) (hi : i < 7) : bOr .i64 (leN (l.take i)) (bShl .i64 (IntKind.i64.wrap x.toNat) (IntKind.i64.wrap (8 * i))) = leN (l.take (i + 1)) := by
  have hx := x.toNat_lt
  have h0 := leN_take_lt l i
  have h1 := leN_take_lt l (i + 1)
  have h2 := leN_take h
  have h3 : 256 ^ (i + 1) ≤ 256 ^ 7 := Nat.pow_le_pow_right (by decide) (by omega)
  have h4 : (256 : Nat) ^ 7 = 2 ^ 56 := by decide
  rw [bShl_i64 hx hi, bOr_nat (by simp only [IntKind.bits]; omega) (by simp only [IntKind.bits]; omega), pow256 i, or_low _ _ _ (by rw [← pow256]; exact h0), ← pow256, ← h2, wrap_i64_in (by omega)]

/-- A number's byte. -/
def byteAt (n : Int) (i : Nat) : UInt8 := UInt8.ofNat ((n / 2 ^ (8 * i)) % 256).toNat
def leB (k : Nat) (n : Int) : List UInt8 := (List.range k).map (byteAt n)

theorem byteAt_nat (n : Int) (i : Nat) : ((byteAt n i).toNat : Int) = (n / 2 ^ (8 * i)) % 256 := by
  unfold byteAt
  have h1 : (0 : Int) ≤ (n / 2 ^ (8 * i)) % 256 := Int.emod_nonneg _ (by decide)
  have h2 : (n / 2 ^ (8 * i)) % 256 < 256 := Int.emod_lt_of_pos _ (by decide)
  rw [UInt8.toNat_ofNat']
  generalize (n / 2 ^ (8 * i)) % 256 = y at h1 h2 ⊢
  omega

theorem shr_u8 (n : Int) {i : Nat} (hi : i < 8) : IntKind.u8.wrap (bShr .i64 n (IntKind.i64.wrap (8 * i))) = (byteAt n i).toNat := by
  rw [byteAt_nat, wrap_i64_in (by omega)]
  unfold bShr
  have e : min (8 * (i : Int)).toNat IntKind.i64.bits = 8 * i := by simp [IntKind.bits]; omega
  rw [e, Int.fdiv_eq_ediv_of_nonneg _ (Int.le_of_lt (Int.pow_pos (by decide))), IntKind.wrap_u8]

theorem leB_succ (k : Nat) (n : Int) : leB (k + 1) n = leB k n ++ [byteAt n k] := by simp [leB, List.range_succ]
theorem leB_length (k : Nat) (n : Int) : (leB k n).length = k := by simp [leB]

theorem emod_mul256 (n M : Int) (hM : 0 < M) : n % (M * 256) = n % M + M * ((n / M) % 256) := by
  have h1 := Int.mul_ediv_add_emod n M
  have h2 := Int.mul_ediv_add_emod (n / M) 256
  have h3 : 0 ≤ n % M := Int.emod_nonneg _ (by omega)
  have h4 : n % M < M := Int.emod_lt_of_pos _ hM
  have h5 : 0 ≤ (n / M) % 256 := Int.emod_nonneg _ (by decide)
  have h6 : (n / M) % 256 < 256 := Int.emod_lt_of_pos _ (by decide)
  have h7 : 0 ≤ M * ((n / M) % 256) := Int.mul_nonneg (by omega) h5
  have h8 : M * ((n / M) % 256) ≤ M * 255 := Int.mul_le_mul_of_nonneg_left (by omega) (by omega)
  have e : n = (n % M + M * ((n / M) % 256)) + M * 256 * (n / M / 256) := by
    conv => lhs; rw [← h1, ← h2]
    rw [Int.mul_add, ← Int.mul_assoc]
    omega
  generalize hq : n / M / 256 = q at e
  generalize hz : n % M + M * ((n / M) % 256) = z at e ⊢
  rw [e, Int.add_mul_emod_self_left, Int.emod_eq_of_lt (by omega) (by omega)]

theorem leN_leB (n : Int) : ∀ k : Nat, (leN (leB k n) : Int) = n % 2 ^ (8 * k)
  | 0 => by simp [leB, leN]
  | k + 1 => by
    rw [leB_succ, leN_append, leB_length]
    have e : ((256 ^ k : Nat) : Int) = 2 ^ (8 * k) := by rw [pow256]; push_cast; rfl
    have e0 : leN [byteAt n k] = (byteAt n k).toNat := by simp [leN]
    rw [e0, Int.natCast_add, Int.natCast_mul, leN_leB n k, byteAt_nat, e]
    have e2 : (2 : Int) ^ (8 * (k + 1)) = 2 ^ (8 * k) * 256 := by rw [Nat.mul_add, Int.pow_add]; rfl
    rw [e2, emod_mul256 _ _ (Int.pow_pos (by decide))]
end Go.Proofs.Ytooemjldpchgfaa.TH
