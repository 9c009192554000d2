/- Part S7 of the proofs of this seat: what the functions of the layer answer, in worlds that hold their blocks. -/
import Derived.Test.YtooemjldpchgfaaS6
namespace Go.Proofs.Ytooemjldpchgfaa
open Go Go.Proofs.Ytooemjldpchgfaa.TH
theorem alive_spec : CallL Try.prog 6 [] [] (fun r Hs' => r = .bool true ∧ Hs' = []) := by
  refine CallL.enter Try.func6 Try.ntmps6 rfl rfl rfl ?_
  refine EL.seq ?_
  refine EL.region [.p 0] (by kernel_rfl) ?_
  refine EPL.p rfl rfl (q_assign (v := .bool _) rfl) ?_
  refine EPL.nil ?_
  refine EL.go ?_
  refine EL.seq ?_
  refine EL.region [.p 0, .x 1 [], .p 2] (by kernel_rfl) ?_
  refine EPL.p rfl rfl (q_build (cells := #[.slice _ _ _]) pl26 el26 .nil) ?_
  refine EPL.box (c := #[.slice _ _ _]) rfl rfl rfl (fun _ => HeldL.nil) (fun b1 => ?_)
  refine EPL.hd (sg b1 (PenS none 0 [])) rfl ?_
  refine EPL.pad ?_
  refine EPL.p rfl rfl (q_assign (v := .pointer _) rfl) ?_
  refine EPL.nil ?_
  refine EL.go ?_
  refine EL.seq ?_
  refine EL.region [.p 0, .x 1 []] (by kernel_rfl) ?_
  refine EPL.p rfl rfl (q_move (v := .pointer _) rfl) ?_
  refine EPL.cl rfl rfl Try.func16 rfl rfl (PCount_spec b1 none 0 [] 253 Hp.nil (OwnS.nil 5 1 _) (by decide)) rfl ?_
  rintro _ _ ⟨rfl, a1, c1, H1, rfl, hO1⟩
  refine ⟨HeldL.nil, ?_⟩
  refine EPL.nil ?_
  refine EL.go ?_
  refine EL.seq ?_
  refine EL.region [.p 0, .x 1 [], .p 2, .p 3, .x 4 [], .x 5 [], .p 6, .p 7, .x 8 [], .x 9 [], .p 10, .p 11, .p 12] (by kernel_rfl) ?_
  refine EPL.p rfl rfl (q_move (v := .pointer _) rfl) ?_
  refine EPL.cl rfl rfl Try.func10 rfl rfl (Text_spec b1 a1 c1 _ H1 hO1) rfl ?_
  rintro _ _ ⟨rfl, rfl⟩
  refine ⟨HeldL.nil, ?_⟩
  refine EPL.p rfl rfl (q_streq rfl rfl) ?_
  refine EPL.p rfl rfl (q_move (v := .bool _) rfl) ?_
  refine EPL.bool 9 rfl (fun c2 => ?_) (fun c2 => ?_)
  ·
    have c2 := of_decide_eq_true c2
    refine EPL.cl rfl rfl Try.func9 rfl rfl (On_spec []) rfl ?_
    rintro _ _ ⟨e1, rfl, rfl⟩
    refine ⟨HeldL.nil, ?_⟩
    refine EPL.cl rfl rfl Try.func17 rfl rfl (Done_spec e1 [] false) rfl ?_
    rintro _ _ ⟨rfl, rfl⟩
    refine ⟨HeldL.nil, ?_⟩
    refine EPL.p rfl rfl (q_pickT (v := .bool _) rfl rfl) ?_
    refine EPL.p rfl rfl (q_move (v := .bool _) rfl) ?_
    refine EPL.bool 13 rfl (fun c3 => ?_) (fun c3 => ?_)
    ·
      refine EPL.cl rfl rfl Try.func9 rfl rfl (On_spec [97]) rfl ?_
      rintro _ _ ⟨e2, rfl, rfl⟩
      refine ⟨HeldL.nil, ?_⟩
      refine EPL.cl rfl rfl Try.func17 rfl rfl (Done_spec e2 [97] false) rfl ?_
      rintro _ _ ⟨rfl, rfl⟩
      refine ⟨HeldL.nil, ?_⟩
      refine EPL.p rfl rfl (q_not rfl) ?_
      refine EPL.p rfl rfl (q_pickT (v := .bool _) rfl rfl) ?_
      refine EPL.p rfl rfl (q_assign (v := .bool _) rfl) ?_
      refine EPL.nil ?_
      refine EL.go ?_
      refine EL.ret ?_
      exact end_retP [] (fun _ => rfl) (fun _ => ⟨rfl, rfl⟩)
    ·
      cases c3
  ·
    have c2 := of_decide_eq_false c2
    exact absurd (by decide) c2


theorem wide_put (n : Int) (more : List UInt8) (h : -9223372036854775808 ≤ n ∧ n < 9223372036854775808) : wideR ([] ++ leB (putK 8) n ++ more) false = if n < 0 then (0, [], true) else (n, more, false) := by
  have hk : putK 8 = 8 := by decide
  have hr : rawR ([] ++ leB (putK 8) n ++ more) false 8 = (leB 8 n, more, false) := by
    unfold rawR
    have hl : (leB 8 n).length = 8 := leB_length 8 n
    rw [hk, List.nil_append, if_pos (by simp [hl]; omega)]
    have e : (8 : Int).toNat = (leB 8 n).length := by rw [hl]; rfl
    rw [e, List.take_left, List.drop_left]
  unfold wideR
  rw [hr]
  dsimp only
  have hn := leN_leB n 8
  have e2 : (2 : Int) ^ (8 * 8) = 18446744073709551616 := by decide
  rw [e2] at hn
  generalize leN (leB 8 n) = z at hn
  by_cases h0 : n < 0
  · have h1 : 9223372036854775808 ≤ z := by omega
    simp only [h0, h1, if_true]
  · have h1 : ¬ 9223372036854775808 ≤ z := by omega
    have h2 : (z : Int) = n := by omega
    simp only [h0, h1, if_false, h2]

theorem Wide_law (n : Int) (more : List UInt8) (h : -9223372036854775808 ≤ n ∧ n < 9223372036854775808) : CallL Try.prog 3 [.int .i64 n, str more] [] (fun r Hs' => r = .bool true) := by
  refine CallL.enter Try.func3 Try.ntmps3 rfl rfl rfl ?_
  refine EL.seq ?_
  refine EL.region [.p 0] (by kernel_rfl) ?_
  refine EPL.p rfl rfl (q_assign (v := .bool _) rfl) ?_
  refine EPL.nil ?_
  refine EL.go ?_
  refine EL.seq ?_
  refine EL.seq ?_
  refine EL.region [.x 0 [], .p 1] (by kernel_rfl) ?_
  refine EPL.cl rfl rfl Try.func6 rfl rfl (alive_spec) rfl ?_
  rintro _ _ ⟨rfl, rfl⟩
  refine ⟨HeldL.nil, ?_⟩
  refine EPL.p rfl rfl (q_not rfl) ?_
  refine EPL.nil ?_
  refine EL.go ?_
  refine EL.cond rfl (fun c1 => ?_) (fun c1 => ?_)
  ·
    cases c1
  ·
    refine EL.skip ?_
    refine EL.go ?_
    refine EL.seq ?_
    refine EL.seq ?_
    refine EL.region [.p 0, .p 1, .p 2] (by kernel_rfl) ?_
    refine EPL.p rfl rfl (q_move (v := .string _) rfl) ?_
    refine EPL.p rfl rfl (q_lenStr Try.underlying9 rfl) ?_
    refine EPL.p rfl rfl (q_gtr rfl rfl) ?_
    refine EPL.nil ?_
    refine EL.go ?_
    refine EL.cond rfl (fun c2 => ?_) (fun c2 => ?_)
    ·
      have c2 := of_decide_eq_true c2
      refine EL.seq ?_
      refine EL.region [.p 0] (by kernel_rfl) ?_
      refine EPL.p rfl rfl (q_assign (v := .bool _) rfl) ?_
      refine EPL.nil ?_
      refine EL.go ?_
      refine EL.ret ?_
      exact end_ret (fun _ => rfl) (fun _ => rfl)
    ·
      have c2 := of_decide_eq_false c2
      refine EL.skip ?_
      refine EL.go ?_
      refine EL.seq ?_
      refine EL.region [.p 0, .x 1 [], .p 2] (by kernel_rfl) ?_
      refine EPL.p rfl rfl (q_build (cells := #[.slice _ _ _]) pl26 el26 .nil) ?_
      refine EPL.box (c := #[.slice _ _ _]) rfl rfl rfl (fun _ => HeldL.nil) (fun b3 => ?_)
      refine EPL.hd (sg b3 (PenS none 0 [])) rfl ?_
      refine EPL.pad ?_
      refine EPL.p rfl rfl (q_assign (v := .pointer _) rfl) ?_
      refine EPL.nil ?_
      refine EL.go ?_
      refine EL.seq ?_
      refine EL.region [.p 0, .p 1, .x 2 [], .x 3 []] (by kernel_rfl) ?_
      refine EPL.p rfl rfl (q_move (v := .pointer _) rfl) ?_
      refine EPL.p rfl rfl (q_move (v := .int _ _) rfl) ?_
      refine EPL.bs rfl rfl Try.underlying52 el3 rfl rfl (fill1 (u := .int _ _) rfl rfl) (fun _ => HeldL.nil) (fun b4 => ?_)
      refine EPL.cl rfl rfl Try.func7 rfl rfl (Put1_spec b3 none b4 0 [] n Hp.nil 8 (OwnS.nil 5 1 _) (by decide)) rfl ?_
      rintro _ _ ⟨rfl, a1, c1, H1, rfl, hO1⟩
      refine ⟨HeldL.nil, ?_⟩
      refine EPL.nil ?_
      refine EL.go ?_
      refine EL.seq ?_
      refine EL.region [.p 0, .p 1, .x 2 []] (by kernel_rfl) ?_
      refine EPL.p rfl rfl (q_move (v := .pointer _) rfl) ?_
      refine EPL.p rfl rfl (q_move (v := .string _) rfl) ?_
      refine EPL.cl rfl rfl Try.func8 rfl rfl (PRaw_spec b3 a1 c1 _ more H1 hO1 (by simp [leB]; have := putK_le 8; omega)) rfl ?_
      rintro _ _ ⟨rfl, a2, c2, H2, rfl, hO2⟩
      refine ⟨HeldL.nil, ?_⟩
      refine EPL.nil ?_
      refine EL.go ?_
      refine EL.seq ?_
      refine EL.region [.p 0, .x 1 [], .x 2 [], .p 3] (by kernel_rfl) ?_
      refine EPL.p rfl rfl (q_move (v := .pointer _) rfl) ?_
      refine EPL.cl rfl rfl Try.func10 rfl rfl (Text_spec b3 a2 c2 _ H2 hO2) rfl ?_
      rintro _ _ ⟨rfl, rfl⟩
      refine ⟨HeldL.nil, ?_⟩
      refine EPL.cl rfl rfl Try.func9 rfl rfl (On_spec ([] ++ leB (putK 8) n ++ more)) rfl ?_
      rintro _ _ ⟨e1, rfl, rfl⟩
      refine ⟨HeldL.nil, ?_⟩
      refine EPL.p rfl rfl (q_assign (v := .pointer _) rfl) ?_
      refine EPL.nil ?_
      refine EL.go ?_
      refine EL.seq ?_
      refine EL.region [.p 0, .x 1 [], .p 2] (by kernel_rfl) ?_
      refine EPL.p rfl rfl (q_move (v := .pointer _) rfl) ?_
      refine EPL.cl rfl rfl Try.func11 rfl rfl (Wide_spec e1 ([] ++ leB (putK 8) n ++ more) false) rfl ?_
      rintro _ _ ⟨rfl, rfl⟩
      refine ⟨HeldL.nil, ?_⟩
      have hw := wide_put n more h
      refine EPL.p rfl rfl (q_assign (v := .int _ _) rfl) ?_
      refine EPL.nil ?_
      refine EL.go ?_
      refine EL.seq ?_
      refine EL.seq ?_
      refine EL.region [.p 0, .p 1] (by kernel_rfl) ?_
      refine EPL.p rfl rfl (q_move (v := .int _ _) rfl) ?_
      refine EPL.p rfl rfl (q_lss rfl rfl) ?_
      refine EPL.nil ?_
      refine EL.go ?_
      refine EL.cond rfl (fun c5 => ?_) (fun c5 => ?_)
      ·
        have c5 := of_decide_eq_true c5
        refine EL.seq ?_
        refine EL.region [.p 0, .p 1, .p 2, .p 3, .x 4 [], .p 5, .p 6, .p 7, .x 8 [], .p 9, .p 10, .p 11] (by kernel_rfl) ?_
        refine EPL.p rfl rfl (q_move (v := .int _ _) rfl) ?_
        refine EPL.p rfl rfl (q_eql rfl rfl) ?_
        refine EPL.p rfl rfl (q_move (v := .bool _) rfl) ?_
        refine EPL.bool 31 rfl (fun c6 => ?_) (fun c6 => ?_)
        ·
          have c6 := of_decide_eq_true c6
          refine EPL.p rfl rfl (q_move (v := .pointer _) rfl) ?_
          refine EPL.cl rfl rfl Try.func12 rfl rfl (Bad_spec e1 (wideR ([] ++ leB (putK 8) n ++ more) false).2.1 (wideR ([] ++ leB (putK 8) n ++ more) false).2.2) rfl ?_
          rintro _ _ ⟨rfl, rfl⟩
          refine ⟨HeldL.nil, ?_⟩
          refine EPL.p rfl rfl (q_pickT (v := .bool _) rfl rfl) ?_
          refine EPL.p rfl rfl (q_move (v := .bool _) rfl) ?_
          refine EPL.bool 35 rfl (fun c7 => ?_) (fun c7 => ?_)
          ·
            refine EPL.p rfl rfl (q_move (v := .pointer _) rfl) ?_
            refine EPL.cl rfl rfl Try.func13 rfl rfl (Left_spec e1 (wideR ([] ++ leB (putK 8) n ++ more) false).2.1 (wideR ([] ++ leB (putK 8) n ++ more) false).2.2) rfl ?_
            rintro _ _ ⟨rfl, rfl⟩
            refine ⟨HeldL.nil, ?_⟩
            refine EPL.p rfl rfl (q_eql rfl rfl) ?_
            refine EPL.p rfl rfl (q_pickT (v := .bool _) rfl rfl) ?_
            refine EPL.p rfl rfl (q_assign (v := .bool _) rfl) ?_
            refine EPL.nil ?_
            refine EL.go ?_
            refine EL.ret ?_
            exact end_ret (fun _ => rfl) (fun _ => show Value.bool (decide (((wideR ([] ++ leB (putK 8) n ++ more) false).2.1.length : Int) = 0)) = .bool true by rw [hw, if_pos c5]; rfl)
          ·
            rw [hw, if_pos c5] at c7; cases c7
        ·
          have c6 := of_decide_eq_false c6
          refine absurd ?_ c6; exact (by rw [hw, if_pos c5])
      ·
        have c5 := of_decide_eq_false c5
        refine EL.skip ?_
        refine EL.go ?_
        refine EL.seq ?_
        refine EL.region [.p 0, .p 1, .p 2, .p 3, .p 4, .x 5 [], .p 6, .p 7, .p 8, .p 9, .x 10 [], .p 11, .p 12, .p 13, .p 14, .p 15] (by kernel_rfl) ?_
        refine EPL.p rfl rfl (q_move (v := .int _ _) rfl) ?_
        refine EPL.p rfl rfl (q_move (v := .int _ _) rfl) ?_
        refine EPL.p rfl rfl (q_eql rfl rfl) ?_
        refine EPL.p rfl rfl (q_move (v := .bool _) rfl) ?_
        refine EPL.bool 43 rfl (fun c8 => ?_) (fun c8 => ?_)
        ·
          have c8 := of_decide_eq_true c8
          refine EPL.p rfl rfl (q_move (v := .pointer _) rfl) ?_
          refine EPL.cl rfl rfl Try.func12 rfl rfl (Bad_spec e1 (wideR ([] ++ leB (putK 8) n ++ more) false).2.1 (wideR ([] ++ leB (putK 8) n ++ more) false).2.2) rfl ?_
          rintro _ _ ⟨rfl, rfl⟩
          refine ⟨HeldL.nil, ?_⟩
          refine EPL.p rfl rfl (q_not rfl) ?_
          refine EPL.p rfl rfl (q_pickT (v := .bool _) rfl rfl) ?_
          refine EPL.p rfl rfl (q_move (v := .bool _) rfl) ?_
          refine EPL.bool 48 rfl (fun c9 => ?_) (fun c9 => ?_)
          ·
            refine EPL.p rfl rfl (q_move (v := .pointer _) rfl) ?_
            refine EPL.cl rfl rfl Try.func13 rfl rfl (Left_spec e1 (wideR ([] ++ leB (putK 8) n ++ more) false).2.1 (wideR ([] ++ leB (putK 8) n ++ more) false).2.2) rfl ?_
            rintro _ _ ⟨rfl, rfl⟩
            refine ⟨HeldL.nil, ?_⟩
            refine EPL.p rfl rfl (q_move (v := .string _) rfl) ?_
            refine EPL.p rfl rfl (q_lenStr Try.underlying9 rfl) ?_
            refine EPL.p rfl rfl (q_eql rfl rfl) ?_
            refine EPL.p rfl rfl (q_pickT (v := .bool _) rfl rfl) ?_
            refine EPL.p rfl rfl (q_assign (v := .bool _) rfl) ?_
            refine EPL.nil ?_
            refine EL.go ?_
            refine EL.ret ?_
            exact end_ret (fun _ => rfl) (fun _ => show Value.bool (decide (((wideR ([] ++ leB (putK 8) n ++ more) false).2.1.length : Int) = more.length)) = .bool true by rw [hw, if_neg c5]; simp)
          ·
            rw [hw, if_neg c5] at c9; cases c9
        ·
          have c8 := of_decide_eq_false c8
          refine absurd ?_ c8; exact (by rw [hw, if_neg c5])

end Go.Proofs.Ytooemjldpchgfaa
