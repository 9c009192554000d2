/- Part S8 of the proofs of this seat: what the functions of the layer answer, in worlds that hold their blocks. -/
import Derived.Test.YtooemjldpchgfaaS7
namespace Go.Proofs.Ytooemjldpchgfaa
open Go Go.Proofs.Ytooemjldpchgfaa.TH
theorem Back_spec (s : List UInt8) (hl : s.length ≤ 8) : CallL Try.prog 20 [str s] [] (fun r Hs' => r = .tuple #[.int .i64 (IntKind.i64.wrap (leN s)), .bool (decide ((leN s : Int) < 9223372036854775808))] ∧ Hs' = []) := by
  refine CallL.enter Try.func20 Try.ntmps20 rfl rfl rfl ?_
  refine EL.seq ?_
  refine EL.region [.p 0, .p 1] (by kernel_rfl) ?_
  refine EPL.p rfl rfl (q_assign (v := .int _ _) rfl) ?_
  refine EPL.p rfl rfl (q_assign (v := .bool _) rfl) ?_
  refine EPL.nil ?_
  refine EL.go ?_
  refine EL.seq ?_
  refine EL.region [.p 0] (by kernel_rfl) ?_
  refine EPL.p rfl rfl (q_assign (v := .int _ _) rfl) ?_
  refine EPL.nil ?_
  refine EL.go ?_
  refine EL.seq ?_
  refine EL.seq ?_
  refine EL.region [.p 0, .p 1, .p 2, .p 3] (by kernel_rfl) ?_
  refine EPL.p rfl rfl (q_move (v := .string _) rfl) ?_
  refine EPL.p rfl rfl (q_lenStr Try.underlying9 rfl) ?_
  refine EPL.p rfl rfl (q_sub rfl rfl) ?_
  refine EPL.p rfl rfl (q_assign (v := .int _ _) rfl) ?_
  refine EPL.nil ?_
  refine EL.go ?_
  refine EL.block ?_
  refine EL.loop [4, 5, 9, 10, 11, 12, 13, 14, 15, 16, 17, 18, 19] (fun k : Nat => [(4, .int .u64 (leN (s.drop k))), (5, .int .i64 ((k : Int) - 1))]) (fun m k Hs' => m = k ∧ k ≤ s.length ∧ Hs' = []) s.length s.length ⟨rfl, Nat.le_refl _, rfl⟩ ⟨by rw [List.drop_length]; rfl, congrArg (Value.int .i64) (wrap_i64_in (by omega)), trivial⟩ ?_
  rintro m k _ j ⟨rfl, hk, rfl⟩
  refine EL.seq ?_
  refine EL.seq ?_
  refine EL.region [.p 0, .p 1] (by kernel_rfl) ?_
  refine EPL.p rfl rfl (q_move (v := .int _ _) rfl) ?_
  refine EPL.p rfl rfl (q_geq rfl rfl) ?_
  refine EPL.nil ?_
  refine EL.go ?_
  refine EL.cond rfl (fun c1 => ?_) (fun c1 => ?_)
  ·
    have c1 := of_decide_eq_true c1
    obtain ⟨x, hx⟩ : ∃ x, s[((m : Int) - 1).toNat]? = some x := ⟨_, List.getElem?_eq_getElem (by omega)⟩
    obtain ⟨i, rfl⟩ : ∃ i, m = i + 1 := ⟨m - 1, by omega⟩
    have hx2 : s[i]? = some x := by rw [← hx]; congr 1; omega
    refine EL.skip ?_
    refine EL.go ?_
    refine EL.seq ?_
    refine EL.block ?_
    refine EL.region [.p 0, .p 1, .p 2, .p 3, .p 4, .p 5, .p 6, .p 7] (by kernel_rfl) ?_
    refine EPL.p rfl rfl (q_move (v := .int _ _) rfl) ?_
    refine EPL.p rfl rfl (q_mul rfl rfl) ?_
    refine EPL.p rfl rfl (q_move (v := .string _) rfl) ?_
    refine EPL.p rfl rfl (q_move (v := .int _ _) rfl) ?_
    refine EPL.p rfl rfl (q_indexStr Try.underlying9 rfl rfl (by omega) (by assumption)) ?_
    refine EPL.p rfl rfl (q_conv Try.underlying5 Try.underlying55 rfl) ?_
    refine EPL.p rfl rfl (q_add rfl rfl) ?_
    refine EPL.p rfl rfl (q_assign (v := .int _ _) rfl) ?_
    refine EPL.nil ?_
    refine EL.go ?_
    refine EL.region [.p 0, .p 1, .p 2] (by kernel_rfl) ?_
    refine EPL.p rfl rfl (q_move (v := .int _ _) rfl) ?_
    refine EPL.p rfl rfl (q_sub rfl rfl) ?_
    refine EPL.p rfl rfl (q_assign (v := .int _ _) rfl) ?_
    refine EPL.nil ?_
    refine RoundQ.mk i i (by omega) ⟨rfl, by omega, rfl⟩ (by repeat first | exact Off.mix | exact Off.refl | refine Off.upd rfl ?_ | refine Off.upds rfl ?_ | refine Off.mixs rfl ?_) ⟨congrArg (Value.int .u64) (back_step hl hx2), congrArg (Value.int .i64) (by rw [wrap_i64_in (by omega)]; omega), trivial⟩
  ·
    have c1 := of_decide_eq_false c1
    obtain rfl : m = 0 := by omega
    refine EL.exit ?_
    refine EL.go ?_
    refine EL.seq ?_
    refine EL.region [.p 0, .p 1, .p 2, .p 3, .p 4, .p 5] (by kernel_rfl) ?_
    refine EPL.p rfl rfl (q_move (v := .int _ _) rfl) ?_
    refine EPL.p rfl rfl (q_conv Try.underlying55 Try.underlying3 rfl) ?_
    refine EPL.p rfl rfl (q_move (v := .int _ _) rfl) ?_
    refine EPL.p rfl rfl (q_lss rfl rfl) ?_
    refine EPL.p rfl rfl (q_assign (v := .int _ _) rfl) ?_
    refine EPL.p rfl rfl (q_assign (v := .bool _) rfl) ?_
    refine EPL.nil ?_
    refine EL.go ?_
    refine EL.ret ?_
    exact end_ret (fun _ => rfl) (fun _ => ⟨rfl, rfl⟩)

theorem Number_spec (size n : Int) : CallL Try.prog 21 [.int .i64 size, .int .i64 n] [] (fun r Hs' => r = str (leB (putK size) n) ∧ Hs' = []) := by
  refine CallL.enter Try.func21 Try.ntmps21 rfl rfl rfl ?_
  refine EL.seq ?_
  refine EL.region [.p 0] (by kernel_rfl) ?_
  refine EPL.p rfl rfl (q_assign (v := .string _) rfl) ?_
  refine EPL.nil ?_
  refine EL.go ?_
  refine EL.seq ?_
  refine EL.region [.p 0, .p 1, .p 2] (by kernel_rfl) ?_
  refine EPL.p rfl rfl (q_move (v := .int _ _) rfl) ?_
  refine EPL.p rfl rfl (q_conv Try.underlying3 Try.underlying55 rfl) ?_
  refine EPL.p rfl rfl (q_assign (v := .int _ _) rfl) ?_
  refine EPL.nil ?_
  refine EL.go ?_
  refine EL.seq ?_
  refine EL.region [.p 0] (by kernel_rfl) ?_
  refine EPL.p rfl rfl (q_assign (v := .string _) rfl) ?_
  refine EPL.nil ?_
  refine EL.go ?_
  refine EL.seq ?_
  refine EL.seq ?_
  refine EL.region [.p 0] (by kernel_rfl) ?_
  refine EPL.p rfl rfl (q_assign (v := .int _ _) rfl) ?_
  refine EPL.nil ?_
  refine EL.go ?_
  refine EL.block ?_
  have hK := putK_eq size
  have hK8 := putK_le size
  refine EL.loop [5, 6, 7, 10, 11, 12, 13, 14, 15, 16, 17, 18, 19, 20, 21, 22, 23, 24, 25] (fun i : Nat => [(5, .int .u64 (restU n i)), (6, str (leB i n)), (7, .int .i64 i)]) (fun m i Hs' => m + i = putK size ∧ Hs' = []) (putK size) 0 ⟨rfl, rfl⟩ ⟨congrArg (Value.int .u64) (restU_0 n).symm, rfl, rfl, trivial⟩ ?_
  rintro m i _ j ⟨hm, rfl⟩
  refine EL.seq ?_
  refine EL.seq ?_
  refine EL.region [.p 0, .p 1, .p 2, .p 3, .p 4] (by kernel_rfl) ?_
  refine EPL.p rfl rfl (q_move (v := .int _ _) rfl) ?_
  refine EPL.p rfl rfl (q_move (v := .int _ _) rfl) ?_
  refine EPL.p rfl rfl (q_max rfl rfl) ?_
  refine EPL.p rfl rfl (q_min rfl rfl) ?_
  refine EPL.p rfl rfl (q_lss rfl rfl) ?_
  refine EPL.nil ?_
  refine EL.go ?_
  refine EL.cond rfl (fun c1 => ?_) (fun c1 => ?_)
  ·
    have c1 := of_decide_eq_true c1
    refine EL.skip ?_
    refine EL.go ?_
    refine EL.seq ?_
    refine EL.block ?_
    refine EL.seq ?_
    refine EL.region [.p 0, .p 1, .p 2, .p 3, .x 4 [], .l 5, .p 6, .p 7] (by kernel_rfl) ?_
    refine EPL.p rfl rfl (q_move (v := .string _) rfl) ?_
    refine EPL.p rfl rfl (q_move (v := .int _ _) rfl) ?_
    refine EPL.p rfl rfl (q_rem rfl rfl (by first | decide | omega)) ?_
    refine EPL.p rfl rfl (q_conv Try.underlying55 Try.underlying5 rfl) ?_
    refine EPL.bs rfl rfl Try.underlying24 el5 rfl rfl (fill1 (u := .int _ _) rfl rfl) (fun _ => HeldL.nil) (fun b2 => ?_)
    refine EPL.btsP (l := [byteAt n i]) rfl rfl Try.underlying24 Try.underlying5 Try.underlying9 rfl rfl ⟨Nat.le_refl _, Nat.le_refl _⟩ (by unfold maxLen; decide) (congrArg (fun z => [Value.int .u8 z]) (restU_byte n (by omega))) okF.z ?_
    refine EPL.p rfl rfl (q_strcat rfl rfl (by rw [leB_length]; simp; omega)) ?_
    refine EPL.p rfl rfl (q_assign (v := .string _) rfl) ?_
    refine EPL.nil ?_
    refine EL.go ?_
    refine EL.region [.p 0, .p 1, .p 2] (by kernel_rfl) ?_
    refine EPL.p rfl rfl (q_move (v := .int _ _) rfl) ?_
    refine EPL.p rfl rfl (q_quo rfl rfl (by first | decide | omega)) ?_
    refine EPL.p rfl rfl (q_assign (v := .int _ _) rfl) ?_
    refine EPL.nil ?_
    refine EL.go ?_
    refine EL.region [.p 0, .p 1, .p 2] (by kernel_rfl) ?_
    refine EPL.p rfl rfl (q_move (v := .int _ _) rfl) ?_
    refine EPL.p rfl rfl (q_add rfl rfl) ?_
    refine EPL.p rfl rfl (q_assign (v := .int _ _) rfl) ?_
    refine EPL.nil ?_
    refine RoundQ.mkP (m - 1) (i + 1) [] (by omega) ⟨by omega, rfl⟩ (by repeat first | exact Off.mix | exact Off.refl | refine Off.upd rfl ?_ | refine Off.upds rfl ?_ | refine Off.mixs rfl ?_) ⟨congrArg (Value.int .u64) (restU_succ n i), congrArg (fun l => str l) (leB_succ i n).symm, congrArg (Value.int .i64) (wrap_i64_in (by omega)), trivial⟩
  ·
    have c1 := of_decide_eq_false c1
    obtain rfl : i = putK size := by omega
    refine EL.exit ?_
    refine EL.go ?_
    refine EL.seq ?_
    refine EL.region [.p 0, .p 1] (by kernel_rfl) ?_
    refine EPL.p rfl rfl (q_move (v := .string _) rfl) ?_
    refine EPL.p rfl rfl (q_assign (v := .string _) rfl) ?_
    refine EPL.nil ?_
    refine EL.go ?_
    refine EL.ret ?_
    exact end_ret (fun _ => rfl) (fun _ => ⟨rfl, rfl⟩)


def refCnt (n : Int) : List UInt8 := if n < 0 then [0] else if n < 253 then leB (putK 1) n else if n < 65536 then [253] ++ leB (putK 2) n else if n < 4294967296 then [254] ++ leB (putK 4) n else [255] ++ leB (putK 8) n

theorem RCount_spec (n : Int) : CallL Try.prog 26 [.int .i64 n] [] (fun r Hs' => r = str (refCnt n) ∧ Hs' = []) := by
  refine CallL.enter Try.func26 Try.ntmps26 rfl rfl rfl ?_
  refine EL.seq ?_
  refine EL.region [.p 0] (by kernel_rfl) ?_
  refine EPL.p rfl rfl (q_assign (v := .string _) rfl) ?_
  refine EPL.nil ?_
  refine EL.go ?_
  refine EL.seq ?_
  refine EL.seq ?_
  refine EL.region [.p 0, .p 1] (by kernel_rfl) ?_
  refine EPL.p rfl rfl (q_move (v := .int _ _) rfl) ?_
  refine EPL.p rfl rfl (q_lss rfl rfl) ?_
  refine EPL.nil ?_
  refine EL.go ?_
  refine EL.cond rfl (fun c1 => ?_) (fun c1 => ?_)
  ·
    have c1 := of_decide_eq_true c1
    refine EL.seq ?_
    refine EL.region [.p 0] (by kernel_rfl) ?_
    refine EPL.p rfl rfl (q_assign (v := .string _) rfl) ?_
    refine EPL.nil ?_
    refine EL.go ?_
    refine EL.ret ?_
    exact end_ret (fun _ => rfl) (fun _ => ⟨by unfold refCnt; rw [if_pos c1]; rfl, rfl⟩)
  ·
    have c1 := of_decide_eq_false c1
    refine EL.skip ?_
    refine EL.go ?_
    refine EL.seq ?_
    refine EL.seq ?_
    refine EL.region [.p 0, .p 1] (by kernel_rfl) ?_
    refine EPL.p rfl rfl (q_move (v := .int _ _) rfl) ?_
    refine EPL.p rfl rfl (q_lss rfl rfl) ?_
    refine EPL.nil ?_
    refine EL.go ?_
    refine EL.cond rfl (fun c2 => ?_) (fun c2 => ?_)
    ·
      have c2 := of_decide_eq_true c2
      refine EL.seq ?_
      refine EL.region [.p 0, .x 1 [], .p 2] (by kernel_rfl) ?_
      refine EPL.p rfl rfl (q_move (v := .int _ _) rfl) ?_
      refine EPL.cl rfl rfl Try.func21 rfl rfl (Number_spec 1 n) rfl ?_
      rintro _ _ ⟨rfl, rfl⟩
      refine ⟨HeldL.nil, ?_⟩
      refine EPL.p rfl rfl (q_assign (v := .string _) rfl) ?_
      refine EPL.nil ?_
      refine EL.go ?_
      refine EL.ret ?_
      exact end_ret (fun _ => rfl) (fun _ => ⟨by unfold refCnt; rw [if_neg c1, if_pos c2]; rfl, rfl⟩)
    ·
      have c2 := of_decide_eq_false c2
      refine EL.skip ?_
      refine EL.go ?_
      refine EL.seq ?_
      refine EL.seq ?_
      refine EL.region [.p 0, .p 1] (by kernel_rfl) ?_
      refine EPL.p rfl rfl (q_move (v := .int _ _) rfl) ?_
      refine EPL.p rfl rfl (q_lss rfl rfl) ?_
      refine EPL.nil ?_
      refine EL.go ?_
      refine EL.cond rfl (fun c3 => ?_) (fun c3 => ?_)
      ·
        have c3 := of_decide_eq_true c3
        refine EL.seq ?_
        refine EL.region [.p 0, .x 1 [], .p 2, .p 3] (by kernel_rfl) ?_
        refine EPL.p rfl rfl (q_move (v := .int _ _) rfl) ?_
        refine EPL.cl rfl rfl Try.func21 rfl rfl (Number_spec 2 n) rfl ?_
        rintro _ _ ⟨rfl, rfl⟩
        refine ⟨HeldL.nil, ?_⟩
        refine EPL.p rfl rfl (q_strcat rfl rfl (by rw [leB_length]; decide)) ?_
        refine EPL.p rfl rfl (q_assign (v := .string _) rfl) ?_
        refine EPL.nil ?_
        refine EL.go ?_
        refine EL.ret ?_
        exact end_ret (fun _ => rfl) (fun _ => ⟨by unfold refCnt; rw [if_neg c1, if_neg c2, if_pos c3]; rfl, rfl⟩)
      ·
        have c3 := of_decide_eq_false c3
        refine EL.skip ?_
        refine EL.go ?_
        refine EL.seq ?_
        refine EL.seq ?_
        refine EL.region [.p 0, .p 1] (by kernel_rfl) ?_
        refine EPL.p rfl rfl (q_move (v := .int _ _) rfl) ?_
        refine EPL.p rfl rfl (q_lss rfl rfl) ?_
        refine EPL.nil ?_
        refine EL.go ?_
        refine EL.cond rfl (fun c4 => ?_) (fun c4 => ?_)
        ·
          have c4 := of_decide_eq_true c4
          refine EL.seq ?_
          refine EL.region [.p 0, .x 1 [], .p 2, .p 3] (by kernel_rfl) ?_
          refine EPL.p rfl rfl (q_move (v := .int _ _) rfl) ?_
          refine EPL.cl rfl rfl Try.func21 rfl rfl (Number_spec 4 n) rfl ?_
          rintro _ _ ⟨rfl, rfl⟩
          refine ⟨HeldL.nil, ?_⟩
          refine EPL.p rfl rfl (q_strcat rfl rfl (by rw [leB_length]; decide)) ?_
          refine EPL.p rfl rfl (q_assign (v := .string _) rfl) ?_
          refine EPL.nil ?_
          refine EL.go ?_
          refine EL.ret ?_
          exact end_ret (fun _ => rfl) (fun _ => ⟨by unfold refCnt; rw [if_neg c1, if_neg c2, if_neg c3, if_pos c4]; rfl, rfl⟩)
        ·
          have c4 := of_decide_eq_false c4
          refine EL.skip ?_
          refine EL.go ?_
          refine EL.seq ?_
          refine EL.region [.p 0, .x 1 [], .p 2, .p 3] (by kernel_rfl) ?_
          refine EPL.p rfl rfl (q_move (v := .int _ _) rfl) ?_
          refine EPL.cl rfl rfl Try.func21 rfl rfl (Number_spec 8 n) rfl ?_
          rintro _ _ ⟨rfl, rfl⟩
          refine ⟨HeldL.nil, ?_⟩
          refine EPL.p rfl rfl (q_strcat rfl rfl (by rw [leB_length]; decide)) ?_
          refine EPL.p rfl rfl (q_assign (v := .string _) rfl) ?_
          refine EPL.nil ?_
          refine EL.go ?_
          refine EL.ret ?_
          exact end_ret (fun _ => rfl) (fun _ => ⟨by unfold refCnt; rw [if_neg c1, if_neg c2, if_neg c3, if_neg c4]; rfl, rfl⟩)

end Go.Proofs.Ytooemjldpchgfaa
