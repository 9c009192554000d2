/- The plain law of counts: what an eye reads is what the document says. -/
import Derived.Test.YtooemjldpchgfaaS9
namespace Go.Proofs.Ytooemjldpchgfaa
open Go Go.Proofs.Ytooemjldpchgfaa.TH

theorem byteAt_leN {l : List UInt8} {i : Nat} {x : UInt8} (h : l[i]? = some x) : byteAt (leN l) i = x := by
  obtain ⟨hi, hx⟩ := List.getElem?_eq_some_iff.1 h
  have e1 : leN l = leN (l.take i) + 256 ^ i * leN (l.drop i) := by
    have := leN_append (l.take i) (l.drop i)
    rw [List.take_append_drop, List.length_take, Nat.min_eq_left (by omega)] at this
    exact this
  have e2 := leN_drop h
  have h1 := leN_take_lt l i
  have hx8 := x.toNat_lt
  have e3 : leN l / 256 ^ i % 256 = x.toNat := by
    rw [e1, Nat.add_mul_div_left _ _ (Nat.pow_pos (by decide)), Nat.div_eq_of_lt h1, e2]
    omega
  unfold byteAt
  have e4 : ((leN l : Int) / 2 ^ (8 * i)) % 256 = ((leN l / 256 ^ i % 256 : Nat) : Int) := by
    rw [Int.natCast_emod, Int.natCast_ediv, pow256, Int.natCast_pow]; rfl
  rw [e4, e3]
  simp

theorem leB_leN (l : List UInt8) : leB l.length (leN l) = l := by
  apply List.ext_getElem?
  intro i
  unfold leB
  by_cases hi : i < l.length
  · have h : l[i]? = some l[i] := List.getElem?_eq_getElem hi
    simp only [List.getElem?_map, List.getElem?_range hi, Option.map_some]
    rw [byteAt_leN h, h]
  · rw [List.getElem?_eq_none (by simp; omega), List.getElem?_eq_none (by omega)]

theorem putK1 : putK 1 = 1 := by decide
theorem putK2 : putK 2 = 2 := by decide
theorem putK4 : putK 4 = 4 := by decide
theorem putK8 : putK 8 = 8 := by decide
theorem leN_one (b : UInt8) : leN [b] = b.toNat := by simp [leN]
theorem leB_one (b : UInt8) : leB (putK 1) b.toNat = [b] := by
  have := leB_leN [b]
  rw [leN_one] at this
  exact this

theorem rawR_ok {s : List UInt8} {n : Nat} (h : n ≤ s.length) : rawR s false n = (s.take n, s.drop n, false) := by
  unfold rawR
  rw [if_pos (by simp; omega)]; simp
theorem rawR_no {s : List UInt8} {n : Nat} (h : s.length < n) : rawR s false n = ([], [], true) := by
  unfold rawR
  rw [if_neg (by simp; omega)]
theorem rawR_bad {s : List UInt8} {n : Int} : rawR s true n = ([], [], true) := by
  unfold rawR
  rw [if_neg (by simp)]

theorem g1 : min (max 1 1) 7 = ((1 : Nat) : Int) := by decide
theorem g2 : min (max 2 1) 7 = ((2 : Nat) : Int) := by decide
theorem g4 : min (max 4 1) 7 = ((4 : Nat) : Int) := by decide
theorem get1 (b : UInt8) (t : List UInt8) : getR (b :: t) false 1 = b.toNat ∧ getT (b :: t) false 1 = (t, false) := by
  unfold getR getT
  rw [g1, rawR_ok (by simp)]
  simp [leN_one]
theorem get1_nil : getR [] false 1 = 0 ∧ getT [] false 1 = ([], true) := by
  unfold getR getT
  rw [g1, rawR_no (by simp)]
  simp [leN]
theorem get_ok {t : List UInt8} {k : Nat} {z : Int} (hz : min (max z 1) 7 = (k : Int)) (h : k ≤ t.length) : getR t false z = leN (t.take k) ∧ getT t false z = (t.drop k, false) := by
  unfold getR getT
  rw [hz, rawR_ok h]; exact ⟨rfl, rfl⟩
theorem get_no {t : List UInt8} {k : Nat} {z : Int} (hz : min (max z 1) 7 = (k : Int)) (h : t.length < k) : getR t false z = 0 ∧ getT t false z = ([], true) := by
  unfold getR getT
  rw [hz, rawR_no h]; simp [leN]
theorem wide_ok {t : List UInt8} (h : 8 ≤ t.length) (h2 : leN (t.take 8) < 9223372036854775808) : wideR t false = (((leN (t.take 8) : Nat) : Int), t.drop 8, false) := by
  unfold wideR
  have : rawR t false 8 = (t.take 8, t.drop 8, false) := rawR_ok (n := 8) h
  rw [this]; dsimp only; rw [if_neg (by omega)]
theorem wide_no {t : List UInt8} (h : t.length < 8 ∨ 9223372036854775808 ≤ leN (t.take 8)) : (wideR t false).1 = 0 := by
  unfold wideR
  by_cases h8 : t.length < 8
  · have : rawR t false 8 = ([], [], true) := rawR_no (n := 8) h8
    rw [this]; dsimp only; rw [if_neg (by simp [leN])]; simp [leN]
  · have : rawR t false 8 = (t.take 8, t.drop 8, false) := rawR_ok (n := 8) (by omega)
    rw [this]; dsimp only; rw [if_pos (by omega)]

theorem b253 {b : UInt8} : (b.toNat : Int) = 253 ↔ b = 253 := u8_eq (k := 253) (by decide)
theorem b254 {b : UInt8} : (b.toNat : Int) = 254 ↔ b = 254 := u8_eq (k := 254) (by decide)
theorem b255 {b : UInt8} : (b.toNat : Int) = 255 ↔ b = 255 := u8_eq (k := 255) (by decide)

theorem countR_nil (most : Int) : countR [] false most = (0, [], true) := by
  have e : cnt2 [] false = (0, 0, [], true) := by
    unfold cnt2
    rw [get1_nil.1, get1_nil.2]; rfl
  unfold countR
  rw [e]
  dsimp only
  split <;> rfl
/-- A count of one byte. -/
theorem countR_low {b : UInt8} {t : List UInt8} {most : Int} (h : cSize b = 0) : countR (b :: t) false most = if most < b.toNat then (0, [], true) else ((b.toNat : Int), t, false) := by
  have hb : b ≠ 253 ∧ b ≠ 254 ∧ b ≠ 255 := by
    unfold cSize at h
    refine ⟨?_, ?_, ?_⟩ <;> (intro e; subst e; simp at h)
  have e : cnt2 (b :: t) false = ((b.toNat : Int), 0, t, false) := by
    unfold cnt2
    rw [(get1 b t).1, (get1 b t).2, if_neg (fun e => hb.1 (b253.1 e)), if_neg (fun e => hb.2.1 (b254.1 e)), if_neg (fun e => hb.2.2 (b255.1 e))]
  unfold countR
  rw [e]
  dsimp only
  by_cases hm : most < b.toNat
  · rw [if_pos hm, if_pos (.inr hm)]
  · rw [if_neg hm, if_neg (by omega)]
def cLeast (b : UInt8) : Int := if b = 253 then 253 else if b = 254 then 65536 else 4294967296
/-- A count of more bytes, that stands there. -/
theorem countR_high {b : UInt8} {t : List UInt8} {most : Int} (h : cSize b ≠ 0) (hl : cSize b ≤ t.length) (h2 : leN (t.take (cSize b)) < 9223372036854775808) :
    countR (b :: t) false most = if ((leN (t.take (cSize b)) : Nat) : Int) < cLeast b ∨ most < (leN (t.take (cSize b)) : Nat) then (0, [], true) else (((leN (t.take (cSize b)) : Nat) : Int), t.drop (cSize b), false) := by
  have e : cnt2 (b :: t) false = (((leN (t.take (cSize b)) : Nat) : Int), cLeast b, t.drop (cSize b), false) := by
    unfold cnt2
    rw [(get1 b t).1, (get1 b t).2]
    by_cases h3 : b = 253
    · subst h3
      have hk : cSize 253 = 2 := rfl
      rw [hk] at hl
      rw [if_pos (b253.2 rfl), (get_ok g2 hl).1, (get_ok g2 hl).2]; rfl
    · by_cases h4 : b = 254
      · subst h4
        have hk : cSize 254 = 4 := rfl
        rw [hk] at hl
        rw [if_neg (fun e => absurd (b253.1 e) (by decide)), if_pos (b254.2 rfl), (get_ok g4 hl).1, (get_ok g4 hl).2]; rfl
      · by_cases h5 : b = 255
        · subst h5
          have hk : cSize 255 = 8 := rfl
          rw [hk] at hl h2
          rw [if_neg (fun e => absurd (b253.1 e) (by decide)), if_neg (fun e => absurd (b254.1 e) (by decide)), if_pos (b255.2 rfl), wide_ok hl h2]; rfl
        · exact absurd (by unfold cSize; rw [if_neg h3, if_neg h4, if_neg h5]) h
  unfold countR
  rw [e]
theorem cLeast_pos (b : UInt8) : 0 < cLeast b := by unfold cLeast; repeat' split
                                                    all_goals decide
/-- A count that doesn't stand there. -/
theorem countR_none {b : UInt8} {t : List UInt8} {most : Int} (h : cSize b ≠ 0) (hl : t.length < cSize b ∨ 9223372036854775808 ≤ leN (t.take (cSize b))) : countR (b :: t) false most = (0, [], true) := by
  have e : (cnt2 (b :: t) false).1 < (cnt2 (b :: t) false).2.1 := by
    unfold cnt2
    rw [(get1 b t).1, (get1 b t).2]
    by_cases h3 : b = 253
    · subst h3
      have hk : cSize 253 = 2 := rfl
      rw [hk] at hl
      have h4 := leN_take_lt t 2
      have h5 : (256 : Nat) ^ 2 = 65536 := by decide
      rw [if_pos (b253.2 rfl)]; dsimp only; rw [(get_no g2 (by omega)).1]; decide
    · by_cases h4 : b = 254
      · subst h4
        have hk : cSize 254 = 4 := rfl
        rw [hk] at hl
        have h6 := leN_take_lt t 4
        have h5 : (256 : Nat) ^ 4 = 4294967296 := by decide
        rw [if_neg (fun e => absurd (b253.1 e) (by decide)), if_pos (b254.2 rfl)]; dsimp only; rw [(get_no g4 (by omega)).1]; decide
      · by_cases h5 : b = 255
        · subst h5
          have hk : cSize 255 = 8 := rfl
          rw [hk] at hl
          rw [if_neg (fun e => absurd (b253.1 e) (by decide)), if_neg (fun e => absurd (b254.1 e) (by decide)), if_pos (b255.2 rfl)]; dsimp only; rw [wide_no hl]; decide
        · exact absurd (by unfold cSize; rw [if_neg h3, if_neg h4, if_neg h5]) h
  unfold countR
  rw [if_pos (.inl e)]

/-- The shortest bytes that tell a number. -/
theorem refCnt_iff {b : UInt8} {t : List UInt8} (h : cSize b ≠ 0) (hl : cSize b ≤ t.length) : refCnt (leN (t.take (cSize b))) = (b :: t).take (1 + cSize b) ↔ cLeast b ≤ (leN (t.take (cSize b)) : Nat) := by
  have hlen : (t.take (cSize b)).length = cSize b := by simp; omega
  have hlt := leN_lt (t.take (cSize b))
  have hback := leB_leN (t.take (cSize b))
  rw [hlen] at hlt hback
  have ht : (b :: t).take (1 + cSize b) = b :: t.take (cSize b) := by rw [Nat.add_comm]; rfl
  rw [ht]
  have hl3 : (b :: t.take (cSize b)).length = 1 + cSize b := by rw [List.length_cons, hlen]; omega
  generalize hw : t.take (cSize b) = w at *
  generalize hn : leN w = n at *
  have h0 : ¬ ((n : Int) < 0) := by omega
  unfold refCnt
  rw [if_neg h0]
  by_cases h3 : b = 253
  · subst h3
    have hk : cSize 253 = 2 := rfl
    have hc : cLeast 253 = 253 := rfl
    rw [hk] at hlt hback hl3
    have h5 : (256 : Nat) ^ 2 = 65536 := by decide
    rw [hc]
    by_cases h6 : (n : Int) < 253
    · rw [if_pos h6]
      refine ⟨fun e => ?_, fun e => by omega⟩
      have := congrArg List.length e
      rw [leB_length, hl3, putK1] at this
      omega
    · rw [if_neg h6, if_pos (by omega), putK2, hback]
      exact ⟨fun _ => by omega, fun _ => rfl⟩
  · by_cases h4 : b = 254
    · subst h4
      have hk : cSize 254 = 4 := rfl
      have hc : cLeast 254 = 65536 := rfl
      rw [hk] at hlt hback hl3
      have h5 : (256 : Nat) ^ 4 = 4294967296 := by decide
      rw [hc]
      by_cases h6 : (n : Int) < 65536
      · refine ⟨fun e => ?_, fun e => by omega⟩
        have := congrArg List.length e
        rw [hl3] at this
        by_cases h7 : (n : Int) < 253
        · rw [if_pos h7, leB_length, putK1] at this; omega
        · rw [if_neg h7, if_pos h6, List.length_append, leB_length, putK2] at this
          simp at this
      · rw [if_neg (by omega), if_neg h6, if_pos (by omega), putK4, hback]
        exact ⟨fun _ => by omega, fun _ => rfl⟩
    · by_cases h5 : b = 255
      · subst h5
        have hk : cSize 255 = 8 := rfl
        have hc : cLeast 255 = 4294967296 := rfl
        rw [hk] at hlt hback hl3
        rw [hc]
        by_cases h6 : (n : Int) < 4294967296
        · refine ⟨fun e => ?_, fun e => by omega⟩
          have := congrArg List.length e
          rw [hl3] at this
          by_cases h7 : (n : Int) < 253
          · rw [if_pos h7, leB_length, putK1] at this; omega
          · by_cases h8 : (n : Int) < 65536
            · rw [if_neg h7, if_pos h8, List.length_append, leB_length, putK2] at this
              simp at this
            · rw [if_neg h7, if_neg h8, if_pos h6, List.length_append, leB_length, putK4] at this
              simp at this
        · rw [if_neg (by omega), if_neg (by omega), if_neg h6, putK8, hback]
          exact ⟨fun _ => by omega, fun _ => rfl⟩
      · exact absurd (by unfold cSize; rw [if_neg h3, if_neg h4, if_neg h5]) h

theorem refCnt_low {b : UInt8} {t : List UInt8} (h : cSize b = 0) : refCnt b.toNat = (b :: t).take 1 := by
  have hb : b ≠ 253 ∧ b ≠ 254 ∧ b ≠ 255 := by
    unfold cSize at h
    refine ⟨?_, ?_, ?_⟩ <;> (intro e; subst e; simp at h)
  have h1 : (b.toNat : Int) ≠ 253 := fun e => hb.1 (b253.1 e)
  have h2 : (b.toNat : Int) ≠ 254 := fun e => hb.2.1 (b254.1 e)
  have h3 : (b.toNat : Int) ≠ 255 := fun e => hb.2.2 (b255.1 e)
  have h4 := b.toNat_lt
  unfold refCnt
  rw [if_neg (by omega), if_pos (by omega), leB_one]
  simp

/-- An eye's answer agrees with the document's. -/
def Agree (c : Int × List UInt8 × Bool) (r : Int × Int) (len : Int) : Prop := c.1 = r.1 ∧ c.2.2 = decide (r.2 = 0) ∧ (r.2 ≠ 0 → (c.2.1.length : Int) = len - r.2)
/-- What an eye reads is what the document says. -/
theorem counts_eq (s : List UInt8) (most : Int) : Agree (countR s false most) (countedR s most) s.length := by
  cases s with
  | nil => rw [countR_nil]; exact ⟨rfl, rfl, fun h => absurd rfl h⟩
  | cons b t =>
    simp only [countedR]
    by_cases h0 : cSize b = 0
    · rw [if_pos h0, countR_low h0]
      unfold cntTry
      by_cases hm : most < (b.toNat : Int)
      · rw [if_pos hm, if_pos hm]; exact ⟨rfl, rfl, fun h => absurd rfl h⟩
      · rw [if_neg hm, if_neg hm, if_neg (fun e => e (refCnt_low h0))]
        exact ⟨rfl, rfl, fun _ => by simp⟩
    · rw [if_neg h0]
      by_cases hl : (b :: t).length < 1 + cSize b
      · rw [if_pos hl, countR_none h0 (.inl (by simp at hl; omega))]
        exact ⟨rfl, rfl, fun h => absurd rfl h⟩
      · rw [if_neg hl]
        have hl2 : cSize b ≤ t.length := by simp at hl; omega
        by_cases hg : 9223372036854775808 ≤ leN (t.take (cSize b))
        · rw [if_pos hg, countR_none h0 (.inr hg)]
          exact ⟨rfl, rfl, fun h => absurd rfl h⟩
        · rw [if_neg hg, countR_high h0 hl2 (by omega)]
          unfold cntTry
          have hi := refCnt_iff h0 hl2
          by_cases hm : most < ((leN (t.take (cSize b)) : Nat) : Int)
          · rw [if_pos (.inr hm), if_pos hm]; exact ⟨rfl, rfl, fun h => absurd rfl h⟩
          · rw [if_neg hm]
            by_cases hc : cLeast b ≤ ((leN (t.take (cSize b)) : Nat) : Int)
            · rw [if_neg (by omega), if_neg (fun e => e (hi.2 hc))]
              refine ⟨rfl, ?_, fun _ => ?_⟩
              · exact (decide_eq_false (by omega)).symm
              · dsimp only; simp only [List.length_drop, List.length_cons]; omega
            · rw [if_pos (by omega), if_pos (fun e => hc (hi.1 e))]
              exact ⟨rfl, rfl, fun h => absurd rfl h⟩

theorem leN_leB_small {n : Int} {k : Nat} (h0 : 0 ≤ n) (h : n < 2 ^ (8 * k)) : (leN (leB k n) : Int) = n := by rw [leN_leB, Int.emod_eq_of_lt h0 h]

/-- A count that is put is read again. -/
theorem count_put (n : Int) (h : n < 9223372036854775808) : countR (cntB n) false (max n 0) = (max n 0, [], false) := by
  unfold cntB
  by_cases h1 : n ≤ 252
  · rw [if_pos h1]
    obtain ⟨m, hm⟩ : ∃ m : Nat, max n 0 = (m : Int) := ⟨(max n 0).toNat, by omega⟩
    have hb : ((UInt8.ofNat m).toNat : Int) = m := by rw [UInt8.toNat_ofNat', Nat.mod_eq_of_lt (by omega)]
    have e : leB (putK 1) (max n 0) = [UInt8.ofNat m] := by rw [hm, ← hb]; exact leB_one _
    rw [e, countR_low, hb, hm, if_neg (by omega)]
    unfold cSize
    have hn : ∀ k : Nat, 252 < k → k < 256 → ¬ UInt8.ofNat m = UInt8.ofNat k := fun k hk hk2 hh => by
      have := congrArg UInt8.toNat hh
      rw [UInt8.toNat_ofNat', UInt8.toNat_ofNat', Nat.mod_eq_of_lt (by omega), Nat.mod_eq_of_lt hk2] at this
      omega
    rw [if_neg (show ¬ UInt8.ofNat m = 253 from hn 253 (by decide) (by decide)), if_neg (show ¬ UInt8.ofNat m = 254 from hn 254 (by decide) (by decide)), if_neg (show ¬ UInt8.ofNat m = 255 from hn 255 (by decide) (by decide))]
  · have hmax : max n 0 = n := by omega
    rw [if_neg h1, hmax]
    have key : ∀ (b : UInt8) (k : Nat), cSize b = k → k ≠ 0 → n < 2 ^ (8 * k) → cLeast b ≤ n → countR ([b] ++ leB k n) false n = (n, [], false) := by
      intro b k hk hk0 hn hc
      have ht : (leB k n).take k = leB k n := List.take_of_length_le (by rw [leB_length]; exact Nat.le_refl _)
      have hd : (leB k n).drop k = [] := List.drop_of_length_le (by rw [leB_length]; exact Nat.le_refl _)
      have hv := leN_leB_small (k := k) (by omega) hn
      show countR (b :: leB k n) false n = _
      rw [countR_high (by rw [hk]; exact hk0) (by rw [hk, leB_length]; exact Nat.le_refl _) (by rw [hk, ht]; omega), hk, ht, hd, hv, if_neg (by omega)]
    by_cases h2 : n ≤ 65535
    · rw [if_pos h2]
      exact key 253 2 rfl (by decide) (by have : (2 : Int) ^ (8 * 2) = 65536 := by decide
                                          omega) (by have : cLeast 253 = 253 := rfl
                                                     omega)
    · rw [if_neg h2]
      by_cases h3 : n ≤ 4294967295
      · rw [if_pos h3]
        exact key 254 4 rfl (by decide) (by have : (2 : Int) ^ (8 * 4) = 4294967296 := by decide
                                            omega) (by have : cLeast 254 = 65536 := rfl
                                                       omega)
      · rw [if_neg h3]
        exact key 255 8 rfl (by decide) (by have : (2 : Int) ^ (8 * 8) = 18446744073709551616 := by decide
                                            omega) (by have : cLeast 255 = 4294967296 := rfl
                                                       omega)
end Go.Proofs.Ytooemjldpchgfaa
