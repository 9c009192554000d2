/- Part S10 of the proofs of this seat: what the functions of the layer answer, in worlds that hold their blocks. -/
import Derived.Test.YtooemjldpchgfaaL1
namespace Go.Proofs.Ytooemjldpchgfaa
open Go Go.Proofs.Ytooemjldpchgfaa.TH

theorem countedR_nonneg (s : List UInt8) (most : Int) : 0 ≤ (countedR s most).2 := by
  have key : ∀ s n k, 0 ≤ (cntTry s most n k).2 := by
    intro s n k
    unfold cntTry
    split
    · exact Int.le_refl _
    · split
      · exact Int.le_refl _
      · exact Int.natCast_nonneg _
  cases s with
  | nil => exact Int.le_refl _
  | cons b t =>
    simp only [countedR]
    split
    · exact key _ _ _
    · split
      · exact Int.le_refl _
      · split
        · exact Int.le_refl _
        · exact key _ _ _

theorem Counts_law (s : List UInt8) (most n : Int) (h : -9223372036854775808 ≤ n ∧ n < 9223372036854775808) : CallL Try.prog 4 [str s, .int .i64 most, .int .i64 n] [] (fun r Hs' => r = .bool true) := by
  refine CallL.enter Try.func4 Try.ntmps4 rfl rfl rfl ?_
  obtain ⟨ha1, ha2, ha3⟩ := counts_eq s most
  have hf : countR ([] ++ cntB n) false (max n 0) = (max n 0, [], false) := by rw [List.nil_append]; exact count_put n h.2
  refine EL.seq ?_
  refine EL.region [.p 0] (by kernel_rfl) ?_
  refine EPL.p rfl rfl (q_assign (v := .bool _) rfl) ?_
  refine EPL.nil ?_
  refine EL.go ?_
  refine EL.seq ?_
  refine EL.seq ?_
  refine EL.region [.x 0 [], .p 1] (by kernel_rfl) ?_
  refine EPL.cl rfl rfl Try.func6 rfl rfl (alive_spec) rfl ?_
  rintro _ _ ⟨rfl, rfl⟩
  refine ⟨HeldL.nil, ?_⟩
  refine EPL.p rfl rfl (q_not rfl) ?_
  refine EPL.nil ?_
  refine EL.go ?_
  refine EL.cond rfl (fun c1 => ?_) (fun c1 => ?_)
  ·
    cases c1
  ·
    refine EL.skip ?_
    refine EL.go ?_
    refine EL.seq ?_
    refine EL.seq ?_
    refine EL.region [.p 0, .p 1, .p 2] (by kernel_rfl) ?_
    refine EPL.p rfl rfl (q_move (v := .string _) rfl) ?_
    refine EPL.p rfl rfl (q_lenStr Try.underlying9 rfl) ?_
    refine EPL.p rfl rfl (q_gtr rfl rfl) ?_
    refine EPL.nil ?_
    refine EL.go ?_
    refine EL.cond rfl (fun c2 => ?_) (fun c2 => ?_)
    ·
      have c2 := of_decide_eq_true c2
      refine EL.seq ?_
      refine EL.region [.p 0] (by kernel_rfl) ?_
      refine EPL.p rfl rfl (q_assign (v := .bool _) rfl) ?_
      refine EPL.nil ?_
      refine EL.go ?_
      refine EL.ret ?_
      exact end_ret (fun _ => rfl) (fun _ => rfl)
    ·
      have c2 := of_decide_eq_false c2
      refine EL.skip ?_
      refine EL.go ?_
      refine EL.seq ?_
      refine EL.region [.p 0, .x 1 [], .p 2] (by kernel_rfl) ?_
      refine EPL.p rfl rfl (q_move (v := .string _) rfl) ?_
      refine EPL.cl rfl rfl Try.func9 rfl rfl (On_spec s) rfl ?_
      rintro _ _ ⟨e1, rfl, rfl⟩
      refine ⟨HeldL.nil, ?_⟩
      refine EPL.p rfl rfl (q_assign (v := .pointer _) rfl) ?_
      refine EPL.nil ?_
      refine EL.go ?_
      refine EL.seq ?_
      refine EL.region [.p 0, .p 1, .x 2 [], .p 3] (by kernel_rfl) ?_
      refine EPL.p rfl rfl (q_move (v := .pointer _) rfl) ?_
      refine EPL.p rfl rfl (q_move (v := .int _ _) rfl) ?_
      refine EPL.cl rfl rfl Try.func14 rfl rfl (ECount_spec e1 s false most) rfl ?_
      rintro _ _ ⟨rfl, rfl⟩
      refine ⟨HeldL.nil, ?_⟩
      refine EPL.p rfl rfl (q_assign (v := .int _ _) rfl) ?_
      refine EPL.nil ?_
      refine EL.go ?_
      refine EL.seq ?_
      refine EL.region [.p 0, .p 1, .x 2 [], .p 3, .p 4, .p 5, .p 6, .p 7] (by kernel_rfl) ?_
      refine EPL.p rfl rfl (q_move (v := .string _) rfl) ?_
      refine EPL.p rfl rfl (q_move (v := .int _ _) rfl) ?_
      refine EPL.cl rfl rfl Try.func15 rfl rfl (Counted_spec s most) rfl ?_
      rintro _ _ ⟨rfl, rfl⟩
      refine ⟨HeldL.nil, ?_⟩
      refine EPL.p rfl rfl (q_move (v := _) rfl) ?_
      refine EPL.p rfl rfl (q_extract (v := .int _ _) rfl rfl) ?_
      refine EPL.p rfl rfl (q_extract (v := .int _ _) rfl rfl) ?_
      refine EPL.p rfl rfl (q_assign (v := .int _ _) rfl) ?_
      refine EPL.p rfl rfl (q_assign (v := .int _ _) rfl) ?_
      refine EPL.nil ?_
      refine EL.go ?_
      refine EL.seq ?_
      refine EL.region [.p 0, .x 1 [], .p 2] (by kernel_rfl) ?_
      refine EPL.p rfl rfl (q_build (cells := #[.slice _ _ _]) pl26 el26 .nil) ?_
      refine EPL.box (c := #[.slice _ _ _]) rfl rfl rfl (fun _ => HeldL.nil) (fun b3 => ?_)
      refine EPL.hd (sg b3 (PenS none 0 [])) rfl ?_
      refine EPL.pad ?_
      refine EPL.p rfl rfl (q_assign (v := .pointer _) rfl) ?_
      refine EPL.nil ?_
      refine EL.go ?_
      refine EL.seq ?_
      refine EL.region [.p 0, .p 1, .x 2 []] (by kernel_rfl) ?_
      refine EPL.p rfl rfl (q_move (v := .pointer _) rfl) ?_
      refine EPL.p rfl rfl (q_move (v := .int _ _) rfl) ?_
      refine EPL.cl rfl rfl Try.func16 rfl rfl (PCount_spec b3 none 0 [] n Hp.nil (OwnS.nil 5 1 _) (by decide)) rfl ?_
      rintro _ _ ⟨rfl, a1, k1, H1, rfl, hO1⟩
      refine ⟨HeldL.nil, ?_⟩
      refine EPL.nil ?_
      refine EL.go ?_
      refine EL.seq ?_
      refine EL.region [.p 0, .x 1 [], .x 2 [], .p 3] (by kernel_rfl) ?_
      refine EPL.p rfl rfl (q_move (v := .pointer _) rfl) ?_
      refine EPL.cl rfl rfl Try.func10 rfl rfl (Text_spec b3 a1 k1 _ H1 hO1) rfl ?_
      rintro _ _ ⟨rfl, rfl⟩
      refine ⟨HeldL.nil, ?_⟩
      refine EPL.cl rfl rfl Try.func9 rfl rfl (On_spec ([] ++ cntB n)) rfl ?_
      rintro _ _ ⟨e2, rfl, rfl⟩
      refine ⟨HeldL.nil, ?_⟩
      refine EPL.p rfl rfl (q_assign (v := .pointer _) rfl) ?_
      refine EPL.nil ?_
      refine EL.go ?_
      refine EL.seq ?_
      refine EL.region [.p 0, .p 1, .p 2, .x 3 [], .p 4] (by kernel_rfl) ?_
      refine EPL.p rfl rfl (q_move (v := .pointer _) rfl) ?_
      refine EPL.p rfl rfl (q_move (v := .int _ _) rfl) ?_
      refine EPL.p rfl rfl (q_max rfl rfl) ?_
      refine EPL.cl rfl rfl Try.func14 rfl rfl (ECount_spec e2 ([] ++ cntB n) false (max n 0)) rfl ?_
      rintro _ _ ⟨rfl, rfl⟩
      refine ⟨HeldL.nil, ?_⟩
      refine EPL.p rfl rfl (q_assign (v := .int _ _) rfl) ?_
      refine EPL.nil ?_
      refine EL.go ?_
      refine EL.seq ?_
      refine EL.region [.p 0, .p 1, .p 2, .p 3, .p 4, .x 5 [], .p 6, .p 7, .p 8, .p 9, .p 10, .p 11, .p 12, .p 13, .p 14, .x 15 [], .p 16, .p 17, .p 18, .p 19, .p 20, .p 21, .p 22, .p 23, .p 24, .p 25, .p 26, .p 27, .p 28, .p 29, .p 30, .x 31 [], .p 32, .p 33] (by kernel_rfl) ?_
      refine EPL.p rfl rfl (q_move (v := .int _ _) rfl) ?_
      refine EPL.p rfl rfl (q_move (v := .int _ _) rfl) ?_
      refine EPL.p rfl rfl (q_eql rfl rfl) ?_
      refine EPL.p rfl rfl (q_move (v := .bool _) rfl) ?_
      refine EPL.bool 45 rfl (fun c4 => ?_) (fun c4 => ?_)
      ·
        have c4 := of_decide_eq_true c4
        refine EPL.p rfl rfl (q_move (v := .pointer _) rfl) ?_
        refine EPL.cl rfl rfl Try.func12 rfl rfl (Bad_spec e1 (countR s false most).2.1 (countR s false most).2.2) rfl ?_
        rintro _ _ ⟨rfl, rfl⟩
        refine ⟨HeldL.nil, ?_⟩
        refine EPL.p rfl rfl (q_move (v := .int _ _) rfl) ?_
        refine EPL.p rfl rfl (q_eql rfl rfl) ?_
        refine EPL.p rfl rfl (q_beql Try.underlying4 rfl rfl) ?_
        refine EPL.p rfl rfl (q_pickT (v := .bool _) rfl rfl) ?_
        refine EPL.p rfl rfl (q_move (v := .bool _) rfl) ?_
        refine EPL.bool 52 rfl (fun c5 => ?_) (fun c5 => ?_)
        ·
          refine EPL.p rfl rfl (q_move (v := .int _ _) rfl) ?_
          refine EPL.p rfl rfl (q_eql rfl rfl) ?_
          refine EPL.p rfl rfl (q_move (v := .bool _) rfl) ?_
          refine EPL.bool 55 rfl (fun c6 => ?_) (fun c6 => ?_)
          ·
            have c6 := of_decide_eq_true c6
            refine EPL.pno rfl rfl ?_
            refine EPL.xno rfl rfl ?_
            refine EPL.pno rfl rfl ?_
            refine EPL.pno rfl rfl ?_
            refine EPL.pno rfl rfl ?_
            refine EPL.pno rfl rfl ?_
            refine EPL.pno rfl rfl ?_
            refine EPL.p rfl rfl (q_pickT (v := .bool _) rfl rfl) ?_
            refine EPL.p rfl rfl (q_pickT (v := .bool _) rfl rfl) ?_
            refine EPL.p rfl rfl (q_move (v := .bool _) rfl) ?_
            refine EPL.p rfl rfl (q_move (v := .int _ _) rfl) ?_
            refine EPL.p rfl rfl (q_move (v := .int _ _) rfl) ?_
            refine EPL.p rfl rfl (q_max rfl rfl) ?_
            refine EPL.p rfl rfl (q_eql rfl rfl) ?_
            refine EPL.p rfl rfl (q_pickT (v := .bool _) rfl rfl) ?_
            refine EPL.p rfl rfl (q_move (v := .bool _) rfl) ?_
            refine EPL.bool 71 rfl (fun c7 => ?_) (fun c7 => ?_)
            ·
              have c7 := of_decide_eq_true c7
              refine EPL.p rfl rfl (q_move (v := .pointer _) rfl) ?_
              refine EPL.cl rfl rfl Try.func17 rfl rfl (Done_spec e2 (countR ([] ++ cntB n) false (max n 0)).2.1 (countR ([] ++ cntB n) false (max n 0)).2.2) rfl ?_
              rintro _ _ ⟨rfl, rfl⟩
              refine ⟨HeldL.nil, ?_⟩
              refine EPL.p rfl rfl (q_pickT (v := .bool _) rfl rfl) ?_
              refine EPL.p rfl rfl (q_assign (v := .bool _) rfl) ?_
              refine EPL.nil ?_
              refine EL.go ?_
              refine EL.ret ?_
              exact end_ret (fun _ => rfl) (fun _ => show Value.bool (!(countR ([] ++ cntB n) false (max n 0)).2.2 && decide ((countR ([] ++ cntB n) false (max n 0)).2.1 = [])) = .bool true by rw [hf]; rfl)
            ·
              have c7 := of_decide_eq_false c7
              exact absurd (by rw [hf]) c7
          ·
            have c6 := of_decide_eq_false c6
            refine EPL.p rfl rfl (q_move (v := .pointer _) rfl) ?_
            refine EPL.cl rfl rfl Try.func13 rfl rfl (Left_spec e1 (countR s false most).2.1 (countR s false most).2.2) rfl ?_
            rintro _ _ ⟨rfl, rfl⟩
            refine ⟨HeldL.nil, ?_⟩
            refine EPL.p rfl rfl (q_move (v := .string _) rfl) ?_
            refine EPL.p rfl rfl (q_lenStr Try.underlying9 rfl) ?_
            refine EPL.p rfl rfl (q_move (v := .int _ _) rfl) ?_
            refine EPL.p rfl rfl (q_sub rfl rfl) ?_
            refine EPL.p rfl rfl (q_eql rfl rfl) ?_
            refine EPL.p rfl rfl (q_pickF (v := .bool _) rfl rfl) ?_
            refine EPL.p rfl rfl (q_pickT (v := .bool _) rfl rfl) ?_
            refine EPL.p rfl rfl (q_move (v := .bool _) rfl) ?_
            refine EPL.bool 65 rfl (fun c8 => ?_) (fun c8 => ?_)
            ·
              have c8 := of_decide_eq_true c8
              refine EPL.p rfl rfl (q_move (v := .int _ _) rfl) ?_
              refine EPL.p rfl rfl (q_move (v := .int _ _) rfl) ?_
              refine EPL.p rfl rfl (q_max rfl rfl) ?_
              refine EPL.p rfl rfl (q_eql rfl rfl) ?_
              refine EPL.p rfl rfl (q_pickT (v := .bool _) rfl rfl) ?_
              refine EPL.p rfl rfl (q_move (v := .bool _) rfl) ?_
              refine EPL.bool 71 rfl (fun c9 => ?_) (fun c9 => ?_)
              ·
                have c9 := of_decide_eq_true c9
                refine EPL.p rfl rfl (q_move (v := .pointer _) rfl) ?_
                refine EPL.cl rfl rfl Try.func17 rfl rfl (Done_spec e2 (countR ([] ++ cntB n) false (max n 0)).2.1 (countR ([] ++ cntB n) false (max n 0)).2.2) rfl ?_
                rintro _ _ ⟨rfl, rfl⟩
                refine ⟨HeldL.nil, ?_⟩
                refine EPL.p rfl rfl (q_pickT (v := .bool _) rfl rfl) ?_
                refine EPL.p rfl rfl (q_assign (v := .bool _) rfl) ?_
                refine EPL.nil ?_
                refine EL.go ?_
                refine EL.ret ?_
                exact end_ret (fun _ => rfl) (fun _ => show Value.bool (!(countR ([] ++ cntB n) false (max n 0)).2.2 && decide ((countR ([] ++ cntB n) false (max n 0)).2.1 = [])) = .bool true by rw [hf]; rfl)
              ·
                have c9 := of_decide_eq_false c9
                exact absurd (by rw [hf]) c9
            ·
              have c8 := of_decide_eq_false c8
              have h0 := countedR_nonneg s most
              exact absurd (by rw [ha3 c6, wrap_i64_in (by have := ha3 c6; omega)]) c8
        ·
          rw [ha2] at c5; simp at c5
      ·
        have c4 := of_decide_eq_false c4
        exact absurd ha1 c4

end Go.Proofs.Ytooemjldpchgfaa
