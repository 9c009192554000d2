/- Part S9 of the proofs of this seat: what the functions of the layer answer, in worlds that hold their blocks. -/
import Derived.Test.YtooemjldpchgfaaS8
namespace Go.Proofs.Ytooemjldpchgfaa
open Go Go.Proofs.Ytooemjldpchgfaa.TH

def cSize (b : UInt8) : Nat := if b = 253 then 2 else if b = 254 then 4 else if b = 255 then 8 else 0
/-- What the document answers of a count with which bytes begin: so many bytes are its. -/
def cntTry (s : List UInt8) (most : Int) (n : Int) (k : Nat) : Int × Int := if most < n then (0, 0) else if refCnt n ≠ s.take k then (0, 0) else (n, k)
def countedR (s : List UInt8) (most : Int) : Int × Int := match s with
  | [] => (0, 0)
  | b :: t =>
    if cSize b = 0 then cntTry s most b.toNat 1
    else if s.length < 1 + cSize b then (0, 0)
    else if 9223372036854775808 ≤ leN (t.take (cSize b)) then (0, 0)
    else cntTry s most (leN (t.take (cSize b))) (1 + cSize b)
theorem refCnt_len (n : Int) : (refCnt n).length ≤ 20 := by
  unfold refCnt
  have := putK_le 1; have := putK_le 2; have := putK_le 4; have := putK_le 8
  repeat' split
  all_goals simp [leB_length] <;> omega
theorem u8_eq {b : UInt8} {k : Nat} (hk : k < 256) : ((b.toNat : Int) = (k : Nat)) ↔ b = UInt8.ofNat k := by
  constructor
  · intro h
    have h2 : b.toNat = k := by omega
    rw [← h2]; exact (UInt8.ofNat_toNat).symm
  · intro h; subst h; rw [UInt8.toNat_ofNat', Nat.mod_eq_of_lt hk]
theorem cSize_le (b : UInt8) : cSize b ≤ 8 := by unfold cSize; repeat' split
                                                 all_goals omega


theorem cut_eq (b : UInt8) (t : List UInt8) {k : Nat} (hk : k ≤ 8) : ((b :: t).take (IntKind.i64.wrap (1 + (k : Int))).toNat).drop (1 : Int).toNat = t.take k := by
  rw [wrap_i64_in (by omega)]
  have e : (1 + (k : Int)).toNat = k + 1 := by omega
  rw [e]; rfl
theorem take_eq (b : UInt8) (t : List UInt8) {k : Nat} (hk : k ≤ 8) : (b :: t).take (IntKind.i64.wrap (1 + (k : Int))).toNat = (b :: t).take (1 + k) := by
  rw [wrap_i64_in (by omega)]
  have e : (1 + (k : Int)).toNat = 1 + k := by omega
  rw [e]

theorem Counted_spec (s : List UInt8) (most : Int) : CallL Try.prog 15 [str s, .int .i64 most] [] (fun r Hs' => r = .tuple #[.int .i64 (countedR s most).1, .int .i64 (countedR s most).2] ∧ Hs' = []) := by
  refine CallL.enter Try.func15 Try.ntmps15 rfl rfl rfl ?_
  refine EL.seq ?_
  refine EL.region [.p 0, .p 1] (by kernel_rfl) ?_
  refine EPL.p rfl rfl (q_assign (v := .int _ _) rfl) ?_
  refine EPL.p rfl rfl (q_assign (v := .int _ _) rfl) ?_
  refine EPL.nil ?_
  refine EL.go ?_
  refine EL.seq ?_
  refine EL.seq ?_
  refine EL.region [.p 0, .p 1, .p 2] (by kernel_rfl) ?_
  refine EPL.p rfl rfl (q_move (v := .string _) rfl) ?_
  refine EPL.p rfl rfl (q_lenStr Try.underlying9 rfl) ?_
  refine EPL.p rfl rfl (q_eql rfl rfl) ?_
  refine EPL.nil ?_
  refine EL.go ?_
  refine EL.cond rfl (fun c1 => ?_) (fun c1 => ?_)
  ·
    have c1 := of_decide_eq_true c1
    obtain rfl : s = [] := by
      cases s with
      | nil => rfl
      | cons b t => simp at c1; omega
    refine EL.seq ?_
    refine EL.region [.p 0, .p 1] (by kernel_rfl) ?_
    refine EPL.p rfl rfl (q_assign (v := .int _ _) rfl) ?_
    refine EPL.p rfl rfl (q_assign (v := .int _ _) rfl) ?_
    refine EPL.nil ?_
    refine EL.go ?_
    refine EL.ret ?_
    exact end_ret (fun _ => rfl) (fun _ => ⟨rfl, rfl⟩)
  ·
    have c1 := of_decide_eq_false c1
    obtain ⟨b, t, rfl⟩ : ∃ b t, s = b :: t := by
      cases s with
      | nil => exact absurd rfl c1
      | cons b t => exact ⟨b, t, rfl⟩
    have hx : (b :: t)[(0 : Int).toNat]? = some b := rfl
    refine EL.skip ?_
    refine EL.go ?_
    refine EL.seq ?_
    refine EL.region [.p 0] (by kernel_rfl) ?_
    refine EPL.p rfl rfl (q_assign (v := .int _ _) rfl) ?_
    refine EPL.nil ?_
    refine EL.go ?_
    refine EL.mid [6, 13, 14, 15] (fun _ : Unit => [(6, .int .i64 ((if b = 253 then 2 else 0 : Nat) : Int))]) (fun _ Hs' => Hs' = []) ?_ ?_
    ·
      refine EL.seq ?_
      refine EL.region [.p 0, .p 1, .p 2] (by kernel_rfl) ?_
      refine EPL.p rfl rfl (q_move (v := .string _) rfl) ?_
      refine EPL.p rfl rfl (q_indexStr Try.underlying9 rfl rfl (by decide) (by exact hx)) ?_
      refine EPL.p rfl rfl (q_eql rfl rfl) ?_
      refine EPL.nil ?_
      refine EL.go ?_
      refine EL.cond rfl (fun c2 => ?_) (fun c2 => ?_)
      ·
        have c2 := of_decide_eq_true c2
        refine EL.region [.p 0] (by kernel_rfl) ?_
        refine EPL.p rfl rfl (q_assign (v := .int _ _) rfl) ?_
        refine EPL.nil ?_
        exact RoundQ.mk 0 () (by omega) rfl (by repeat first | exact Off.mix | exact Off.refl | refine Off.upd rfl ?_ | refine Off.upds rfl ?_ | refine Off.mixs rfl ?_) ⟨by rw [if_pos (show b = 253 from (u8_eq (k := 253) (by decide)).1 c2)]; rfl, trivial⟩
      ·
        have c2 := of_decide_eq_false c2
        refine EL.skip ?_
        exact RoundQ.mk 0 () (by omega) rfl (by repeat first | exact Off.mix | exact Off.refl | refine Off.upd rfl ?_ | refine Off.upds rfl ?_ | refine Off.mixs rfl ?_) ⟨by rw [if_neg (show ¬ b = 253 from fun e => c2 ((u8_eq (k := 253) (by decide)).2 e))]; rfl, trivial⟩
    ·
      rintro ⟨⟩ _ j15 rfl
      refine EL.mid [6, 16, 17, 18] (fun _ : Unit => [(6, .int .i64 ((if b = 254 then 4 else if b = 253 then 2 else 0 : Nat) : Int))]) (fun _ Hs' => Hs' = []) ?_ ?_
      ·
        refine EL.seq ?_
        refine EL.region [.p 0, .p 1, .p 2] (by kernel_rfl) ?_
        refine EPL.p rfl rfl (q_move (v := .string _) rfl) ?_
        refine EPL.p rfl rfl (q_indexStr Try.underlying9 rfl rfl (by decide) (by exact hx)) ?_
        refine EPL.p rfl rfl (q_eql rfl rfl) ?_
        refine EPL.nil ?_
        refine EL.go ?_
        refine EL.cond rfl (fun c3 => ?_) (fun c3 => ?_)
        ·
          have c3 := of_decide_eq_true c3
          refine EL.region [.p 0] (by kernel_rfl) ?_
          refine EPL.p rfl rfl (q_assign (v := .int _ _) rfl) ?_
          refine EPL.nil ?_
          exact RoundQ.mk 0 () (by omega) rfl (by repeat first | exact Off.mix | exact Off.refl | refine Off.upd rfl ?_ | refine Off.upds rfl ?_ | refine Off.mixs rfl ?_) ⟨by rw [if_pos (show b = 254 from (u8_eq (k := 254) (by decide)).1 c3)]; rfl, trivial⟩
        ·
          have c3 := of_decide_eq_false c3
          refine EL.skip ?_
          exact RoundQ.mk 0 () (by omega) rfl (by repeat first | exact Off.mix | exact Off.refl | refine Off.upd rfl ?_ | refine Off.upds rfl ?_ | refine Off.mixs rfl ?_) ⟨by rw [if_neg (show ¬ b = 254 from fun e => c3 ((u8_eq (k := 254) (by decide)).2 e))]; rfl, trivial⟩
      ·
        rintro ⟨⟩ _ j18 rfl
        refine EL.mid [6, 19, 20, 21] (fun _ : Unit => [(6, .int .i64 ((if b = 255 then 8 else if b = 254 then 4 else if b = 253 then 2 else 0 : Nat) : Int))]) (fun _ Hs' => Hs' = []) ?_ ?_
        ·
          refine EL.seq ?_
          refine EL.region [.p 0, .p 1, .p 2] (by kernel_rfl) ?_
          refine EPL.p rfl rfl (q_move (v := .string _) rfl) ?_
          refine EPL.p rfl rfl (q_indexStr Try.underlying9 rfl rfl (by decide) (by exact hx)) ?_
          refine EPL.p rfl rfl (q_eql rfl rfl) ?_
          refine EPL.nil ?_
          refine EL.go ?_
          refine EL.cond rfl (fun c4 => ?_) (fun c4 => ?_)
          ·
            have c4 := of_decide_eq_true c4
            refine EL.region [.p 0] (by kernel_rfl) ?_
            refine EPL.p rfl rfl (q_assign (v := .int _ _) rfl) ?_
            refine EPL.nil ?_
            exact RoundQ.mk 0 () (by omega) rfl (by repeat first | exact Off.mix | exact Off.refl | refine Off.upd rfl ?_ | refine Off.upds rfl ?_ | refine Off.mixs rfl ?_) ⟨by rw [if_pos (show b = 255 from (u8_eq (k := 255) (by decide)).1 c4)]; rfl, trivial⟩
          ·
            have c4 := of_decide_eq_false c4
            refine EL.skip ?_
            exact RoundQ.mk 0 () (by omega) rfl (by repeat first | exact Off.mix | exact Off.refl | refine Off.upd rfl ?_ | refine Off.upds rfl ?_ | refine Off.mixs rfl ?_) ⟨by rw [if_neg (show ¬ b = 255 from fun e => c4 ((u8_eq (k := 255) (by decide)).2 e))]; rfl, trivial⟩
        ·
          rintro ⟨⟩ _ j21 rfl
          have hcs : (if b = 255 then 8 else if b = 254 then 4 else if b = 253 then 2 else 0) = cSize b := by
            unfold cSize
            by_cases h1 : b = 253
            · subst h1; rfl
            · by_cases h2 : b = 254
              · subst h2; rfl
              · by_cases h3 : b = 255
                · subst h3; rfl
                · simp [h1, h2, h3]
          rw [hcs]
          have h8 := cSize_le b
          have hb8 := b.toNat_lt
          have hw : IntKind.i64.wrap (1 + (cSize b : Int)) = 1 + (cSize b : Int) := wrap_i64_in (by omega)
          refine EL.seq ?_
          refine EL.region [.p 0, .p 1, .p 2, .p 3] (by kernel_rfl) ?_
          refine EPL.p rfl rfl (q_move (v := .string _) rfl) ?_
          refine EPL.p rfl rfl (q_indexStr Try.underlying9 rfl rfl (by decide) (by exact hx)) ?_
          refine EPL.p rfl rfl (q_conv Try.underlying5 Try.underlying3 rfl) ?_
          refine EPL.p rfl rfl (q_assign (v := .int _ _) rfl) ?_
          refine EPL.nil ?_
          refine EL.go ?_
          refine EL.mid [4, 5, 7, 8, 9, 25, 26, 27, 28, 29, 30, 31, 32, 33, 34, 35, 36, 37, 38, 39, 40, 41, 42] (fun n : Int => [(7, .int .i64 n)]) (fun n Hs' => Hs' = [] ∧ ((cSize b = 0 ∧ n = b.toNat) ∨ (cSize b ≠ 0 ∧ 1 + cSize b ≤ (b :: t).length ∧ leN (t.take (cSize b)) < 9223372036854775808 ∧ n = leN (t.take (cSize b))))) ?_ ?_
          ·
            refine EL.seq ?_
            refine EL.region [.p 0, .p 1] (by kernel_rfl) ?_
            refine EPL.p rfl rfl (q_move (v := .int _ _) rfl) ?_
            refine EPL.p rfl rfl (q_gtr rfl rfl) ?_
            refine EPL.nil ?_
            refine EL.go ?_
            refine EL.cond rfl (fun c5 => ?_) (fun c5 => ?_)
            ·
              have c5 := of_decide_eq_true c5
              refine EL.seq ?_
              refine EL.seq ?_
              refine EL.region [.p 0, .p 1, .p 2, .p 3, .p 4] (by kernel_rfl) ?_
              refine EPL.p rfl rfl (q_move (v := .string _) rfl) ?_
              refine EPL.p rfl rfl (q_lenStr Try.underlying9 rfl) ?_
              refine EPL.p rfl rfl (q_move (v := .int _ _) rfl) ?_
              refine EPL.p rfl rfl (q_add rfl rfl) ?_
              refine EPL.p rfl rfl (q_lss rfl rfl) ?_
              refine EPL.nil ?_
              refine EL.go ?_
              refine EL.cond rfl (fun c6 => ?_) (fun c6 => ?_)
              ·
                have c6 := of_decide_eq_true c6
                refine EL.seq ?_
                refine EL.region [.p 0, .p 1] (by kernel_rfl) ?_
                refine EPL.p rfl rfl (q_assign (v := .int _ _) rfl) ?_
                refine EPL.p rfl rfl (q_assign (v := .int _ _) rfl) ?_
                refine EPL.nil ?_
                refine EL.go ?_
                refine EL.ret ?_
                exact end_ret (fun _ => rfl) (fun _ => ⟨by rw [show countedR (b :: t) most = (0, 0) from by simp only [countedR]; rw [if_neg (by omega), if_pos (by rw [hw] at c6; omega)]]; rfl, rfl⟩)
              ·
                have c6 := of_decide_eq_false c6
                refine EL.skip ?_
                refine EL.go ?_
                refine EL.seq ?_
                refine EL.region [.p 0, .p 1, .p 2, .p 3, .x 4 [], .p 5, .p 6, .p 7, .p 8, .p 9] (by kernel_rfl) ?_
                refine EPL.p rfl rfl (q_move (v := .string _) rfl) ?_
                refine EPL.p rfl rfl (q_move (v := .int _ _) rfl) ?_
                refine EPL.p rfl rfl (q_add rfl rfl) ?_
                refine EPL.p rfl rfl (q_ssLH Try.underlying9 rfl rfl rfl (by decide) (by rw [hw]; omega) (by rw [hw] at c6 ⊢; omega)) ?_
                rw [cut_eq b t h8]
                refine EPL.cl rfl rfl Try.func20 rfl rfl (Back_spec (t.take (cSize b)) (by simp; omega)) rfl ?_
                rintro _ _ ⟨rfl, rfl⟩
                refine ⟨HeldL.nil, ?_⟩
                refine EPL.p rfl rfl (q_move (v := _) rfl) ?_
                refine EPL.p rfl rfl (q_extract (v := .int _ _) rfl rfl) ?_
                refine EPL.p rfl rfl (q_extract (v := .bool _) rfl rfl) ?_
                refine EPL.p rfl rfl (q_assign (v := .int _ _) rfl) ?_
                refine EPL.p rfl rfl (q_assign (v := .bool _) rfl) ?_
                refine EPL.nil ?_
                refine EL.go ?_
                refine EL.seq ?_
                refine EL.seq ?_
                refine EL.region [.p 0, .p 1] (by kernel_rfl) ?_
                refine EPL.p rfl rfl (q_move (v := .bool _) rfl) ?_
                refine EPL.p rfl rfl (q_not rfl) ?_
                refine EPL.nil ?_
                refine EL.go ?_
                refine EL.cond rfl (fun c7 => ?_) (fun c7 => ?_)
                ·
                  have hok : ¬ ((leN (t.take (cSize b)) : Nat) : Int) < 9223372036854775808 := by simpa using c7
                  refine EL.seq ?_
                  refine EL.region [.p 0, .p 1] (by kernel_rfl) ?_
                  refine EPL.p rfl rfl (q_assign (v := .int _ _) rfl) ?_
                  refine EPL.p rfl rfl (q_assign (v := .int _ _) rfl) ?_
                  refine EPL.nil ?_
                  refine EL.go ?_
                  refine EL.ret ?_
                  exact end_ret (fun _ => rfl) (fun _ => ⟨by rw [show countedR (b :: t) most = (0, 0) from by simp only [countedR]; rw [if_neg (by omega), if_neg (by rw [hw] at c6; omega), if_pos (by omega)]]; rfl, rfl⟩)
                ·
                  have hok : ((leN (t.take (cSize b)) : Nat) : Int) < 9223372036854775808 := by simpa using c7
                  refine EL.skip ?_
                  refine EL.go ?_
                  refine EL.region [.p 0, .p 1] (by kernel_rfl) ?_
                  refine EPL.p rfl rfl (q_move (v := .int _ _) rfl) ?_
                  refine EPL.p rfl rfl (q_assign (v := .int _ _) rfl) ?_
                  refine EPL.nil ?_
                  exact RoundQ.mk 0 ((leN (t.take (cSize b)) : Nat) : Int) (by omega) ⟨rfl, .inr ⟨by omega, by rw [hw] at c6; omega, by have := hok; omega, rfl⟩⟩ (by repeat first | exact Off.mix | exact Off.refl | refine Off.upd rfl ?_ | refine Off.upds rfl ?_ | refine Off.mixs rfl ?_) ⟨congrArg (Value.int .i64) (wrap_i64_in (by have := hok; omega)), trivial⟩
            ·
              have c5 := of_decide_eq_false c5
              refine EL.skip ?_
              exact RoundQ.mk 0 ((b.toNat : Nat) : Int) (by omega) ⟨rfl, .inl ⟨by omega, rfl⟩⟩ (by repeat first | exact Off.mix | exact Off.refl | refine Off.upd rfl ?_ | refine Off.upds rfl ?_ | refine Off.mixs rfl ?_) ⟨congrArg (Value.int .i64) (wrap_i64_in (by omega)), trivial⟩
          ·
            rintro n _ j26 ⟨rfl, hn⟩
            have hR : countedR (b :: t) most = cntTry (b :: t) most n (1 + cSize b) := by
              simp only [countedR]
              rcases hn with ⟨h, rfl⟩ | ⟨h, h2, h3, rfl⟩
              · rw [if_pos h, h]
              · rw [if_neg h, if_neg (by omega), if_neg (by omega)]
            refine EL.seq ?_
            refine EL.seq ?_
            refine EL.draw [.p 0, .p 1, .p 2, .p 3, .p 4, .p 6, .p 7, .p 8, .p 9, .x 5 [], .p 10, .p 11] [5] [] fm (by kernel_rfl) ?_
            refine EPL.p rfl rfl (q_move (v := .int _ _) rfl) ?_
            refine EPL.p rfl rfl (q_move (v := .int _ _) rfl) ?_
            refine EPL.p rfl rfl (q_gtr rfl rfl) ?_
            refine EPL.p rfl rfl (q_move (v := .bool _) rfl) ?_
            refine EPL.bool 46 rfl (fun c8 => ?_) (fun c8 => ?_)
            ·
              have c8 := of_decide_eq_true c8
              refine EPL.pno rfl rfl ?_
              refine EPL.pno rfl rfl ?_
              refine EPL.pno rfl rfl ?_
              refine EPL.pno rfl rfl ?_
              refine EPL.pno rfl rfl ?_
              refine EPL.xno rfl rfl ?_
              refine EPL.pno rfl rfl ?_
              refine EPL.p rfl rfl (q_pickT (v := .bool _) rfl rfl) ?_
              refine EPL.nil ?_
              refine EL.go ?_
              refine EL.yes rfl ?_
              refine EL.seq ?_
              refine EL.region [.p 0, .p 1] (by kernel_rfl) ?_
              refine EPL.p rfl rfl (q_assign (v := .int _ _) rfl) ?_
              refine EPL.p rfl rfl (q_assign (v := .int _ _) rfl) ?_
              refine EPL.nil ?_
              refine EL.go ?_
              refine EL.ret ?_
              exact end_ret (fun _ => rfl) (fun _ => ⟨by rw [show countedR (b :: t) most = (0, 0) from by rw [hR]; unfold cntTry; rw [if_pos c8]]; rfl, rfl⟩)
            ·
              have c8 := of_decide_eq_false c8
              refine EPL.p rfl rfl (q_move (v := .int _ _) rfl) ?_
              refine EPL.p rfl rfl (q_move (v := .string _) rfl) ?_
              refine EPL.p rfl rfl (q_move (v := .int _ _) rfl) ?_
              refine EPL.p rfl rfl (q_add rfl rfl) ?_
              refine EPL.p rfl rfl (q_ssHi Try.underlying9 rfl rfl (by rw [hw]; omega) (by rw [hw]; rcases hn with ⟨h, _⟩ | ⟨_, h, _⟩ <;> simp at h ⊢ <;> omega)) ?_
              rw [take_eq b t h8]
              refine EPL.cl rfl rfl Try.func26 rfl rfl (RCount_spec n) rfl ?_
              rintro _ _ ⟨rfl, rfl⟩
              refine ⟨HeldL.nil, ?_⟩
              refine EPL.p rfl rfl (q_strneq rfl rfl) ?_
              refine EPL.p rfl rfl (q_pickF (v := .bool _) rfl rfl) ?_
              refine EPL.nil ?_
              refine EL.go ?_
              refine EL.cond rfl (fun c9 => ?_) (fun c9 => ?_)
              ·
                have c9 := of_decide_eq_true c9
                refine EL.seq ?_
                refine EL.region [.p 0, .p 1] (by kernel_rfl) ?_
                refine EPL.p rfl rfl (q_assign (v := .int _ _) rfl) ?_
                refine EPL.p rfl rfl (q_assign (v := .int _ _) rfl) ?_
                refine EPL.nil ?_
                refine EL.go ?_
                refine EL.ret ?_
                exact end_ret (fun _ => rfl) (fun _ => ⟨by rw [show countedR (b :: t) most = (0, 0) from by rw [hR]; unfold cntTry; rw [if_neg c8, if_pos c9]]; rfl, rfl⟩)
              ·
                have c9 := of_decide_eq_false c9
                refine EL.skip ?_
                refine EL.go ?_
                refine EL.seq ?_
                refine EL.region [.p 0, .p 1, .p 2, .p 3, .p 4] (by kernel_rfl) ?_
                refine EPL.p rfl rfl (q_move (v := .int _ _) rfl) ?_
                refine EPL.p rfl rfl (q_move (v := .int _ _) rfl) ?_
                refine EPL.p rfl rfl (q_add rfl rfl) ?_
                refine EPL.p rfl rfl (q_assign (v := .int _ _) rfl) ?_
                refine EPL.p rfl rfl (q_assign (v := .int _ _) rfl) ?_
                refine EPL.nil ?_
                refine EL.go ?_
                refine EL.ret ?_
                exact end_ret (fun _ => rfl) (fun _ => ⟨by rw [show countedR (b :: t) most = (n, ((1 + cSize b : Nat) : Int)) from by rw [hR]; unfold cntTry; rw [if_neg c8, if_neg c9]]; exact congrArg (fun z => Value.tuple #[.int .i64 n, .int .i64 z]) (by rw [hw]; omega), rfl⟩)

end Go.Proofs.Ytooemjldpchgfaa
