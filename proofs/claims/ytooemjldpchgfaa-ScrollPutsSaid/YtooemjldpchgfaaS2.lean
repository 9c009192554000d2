/- Part S2 of the proofs of this seat: what the functions of the layer answer, in worlds that hold their blocks. -/
import Derived.Test.YtooemjldpchgfaaS1
namespace Go.Proofs.Ytooemjldpchgfaa
open Go Go.Proofs.Ytooemjldpchgfaa.TH

def rawOK (s : List UInt8) (bad : Bool) (n : Int) : Prop := bad = false ∧ 0 ≤ n ∧ n ≤ s.length

theorem Raw_spec (g : Nat) (s : List UInt8) (bad : Bool) (n : Int) : CallL Try.prog 24 [ptr g, .int .i64 n] [sg g (EyeB s bad)] (fun v Hs' => (rawOK s bad n ∧ v = str (s.take n.toNat) ∧ Hs' = [sg g (EyeB (s.drop n.toNat) false)]) ∨ (¬ rawOK s bad n ∧ v = str [] ∧ Hs' = [sg g (EyeB [] true)])) := by
  refine CallL.enter Try.func24 Try.ntmps24 rfl rfl rfl ?_
  refine EL.seq ?_
  refine EL.region [.p 0] (by kernel_rfl) ?_
  refine EPL.p rfl rfl (q_assign (v := .string _) rfl) ?_
  refine EPL.nil ?_
  refine EL.go ?_
  refine EL.seq ?_
  refine EL.seq ?_
  refine EL.region [.p 0, .p 1, .p 2, .p 3, .p 4, .p 5, .l 6, .p 7, .p 8, .p 9, .p 10, .p 11, .p 12, .p 13, .p 14, .p 15, .p 16, .l 17, .p 18, .p 19, .p 20] (by kernel_rfl) ?_
  refine EPL.p rfl rfl (q_move (v := .pointer _) rfl) ?_
  refine EPL.p rfl rfl (q_eqlSome Try.underlying29 rfl rfl) ?_
  refine EPL.p rfl rfl (q_move (v := .bool _) rfl) ?_
  refine EPL.p rfl rfl (q_move (v := .pointer _) rfl) ?_
  refine EPL.p rfl rfl (q_nilCheck rfl) ?_
  refine EPL.p rfl rfl (q_fieldAddr (p := ⟨_, _, none⟩) Try.underlying54 rfl sz4 rfl rfl) ?_
  refine EPL.ld1 (v := .bool _) rfl rfl sc4 rfl rfl ?_
  refine EPL.p rfl rfl (q_pickF (v := .bool _) rfl rfl) ?_
  refine EPL.p rfl rfl (q_move (v := .bool _) rfl) ?_
  refine EPL.bool 14 rfl (fun c1 => ?_) (fun c1 => ?_)
  ·
    refine EPL.pno rfl rfl ?_
    refine EPL.pno rfl rfl ?_
    refine EPL.p rfl rfl (q_pickT (v := .bool _) rfl rfl) ?_
    refine EPL.p rfl rfl (q_move (v := .bool _) rfl) ?_
    refine EPL.pno rfl rfl ?_
    refine EPL.pno rfl rfl ?_
    refine EPL.pno rfl rfl ?_
    refine EPL.pno rfl rfl ?_
    refine EPL.rno rfl rfl ?_
    refine EPL.pno rfl rfl ?_
    refine EPL.pno rfl rfl ?_
    refine EPL.p rfl rfl (q_pickT (v := .bool _) rfl rfl) ?_
    refine EPL.nil ?_
    refine EL.go ?_
    refine EL.yes rfl ?_
    refine EL.seq ?_
    refine EL.region [.p 0, .x 1 []] (by kernel_rfl) ?_
    refine EPL.p rfl rfl (q_move (v := .pointer _) rfl) ?_
    refine EPL.cl rfl rfl Try.func25 rfl rfl (Blind_spec g s bad) rfl ?_
    rintro _ _ ⟨rfl, rfl⟩
    refine ⟨HeldL.nil, ?_⟩
    refine EPL.nil ?_
    refine EL.go ?_
    refine EL.seq ?_
    refine EL.region [.p 0] (by kernel_rfl) ?_
    refine EPL.p rfl rfl (q_assign (v := .string _) rfl) ?_
    refine EPL.nil ?_
    refine EL.go ?_
    refine EL.ret ?_
    exact end_ret (fun _ => rfl) (fun _ => .inr ⟨by unfold rawOK; simp [c1], rfl, rfl⟩)
  ·
    refine EPL.p rfl rfl (q_move (v := .int _ _) rfl) ?_
    refine EPL.p rfl rfl (q_lss rfl rfl) ?_
    refine EPL.p rfl rfl (q_pickF (v := .bool _) rfl rfl) ?_
    refine EPL.p rfl rfl (q_move (v := .bool _) rfl) ?_
    refine EPL.bool 18 rfl (fun c2 => ?_) (fun c2 => ?_)
    ·
      have c2 := of_decide_eq_true c2
      refine EPL.pno rfl rfl ?_
      refine EPL.pno rfl rfl ?_
      refine EPL.pno rfl rfl ?_
      refine EPL.pno rfl rfl ?_
      refine EPL.rno rfl rfl ?_
      refine EPL.pno rfl rfl ?_
      refine EPL.pno rfl rfl ?_
      refine EPL.p rfl rfl (q_pickT (v := .bool _) rfl rfl) ?_
      refine EPL.nil ?_
      refine EL.go ?_
      refine EL.yes rfl ?_
      refine EL.seq ?_
      refine EL.region [.p 0, .x 1 []] (by kernel_rfl) ?_
      refine EPL.p rfl rfl (q_move (v := .pointer _) rfl) ?_
      refine EPL.cl rfl rfl Try.func25 rfl rfl (Blind_spec g s bad) rfl ?_
      rintro _ _ ⟨rfl, rfl⟩
      refine ⟨HeldL.nil, ?_⟩
      refine EPL.nil ?_
      refine EL.go ?_
      refine EL.seq ?_
      refine EL.region [.p 0] (by kernel_rfl) ?_
      refine EPL.p rfl rfl (q_assign (v := .string _) rfl) ?_
      refine EPL.nil ?_
      refine EL.go ?_
      refine EL.ret ?_
      exact end_ret (fun _ => rfl) (fun _ => .inr ⟨by unfold rawOK; omega, rfl, rfl⟩)
    ·
      have c2 := of_decide_eq_false c2
      refine EPL.p rfl rfl (q_move (v := .int _ _) rfl) ?_
      refine EPL.p rfl rfl (q_move (v := .pointer _) rfl) ?_
      refine EPL.p rfl rfl (q_nilCheck rfl) ?_
      refine EPL.p rfl rfl (q_fieldAddr (p := ⟨_, _, none⟩) Try.underlying54 rfl sz9 rfl rfl) ?_
      refine EPL.ld1 (v := .string _) rfl rfl sc9 rfl rfl ?_
      refine EPL.p rfl rfl (q_lenStr Try.underlying9 rfl) ?_
      refine EPL.p rfl rfl (q_gtr rfl rfl) ?_
      refine EPL.p rfl rfl (q_pickF (v := .bool _) rfl rfl) ?_
      refine EPL.nil ?_
      refine EL.go ?_
      refine EL.cond rfl (fun c3 => ?_) (fun c3 => ?_)
      ·
        have c3 := of_decide_eq_true c3
        refine EL.seq ?_
        refine EL.region [.p 0, .x 1 []] (by kernel_rfl) ?_
        refine EPL.p rfl rfl (q_move (v := .pointer _) rfl) ?_
        refine EPL.cl rfl rfl Try.func25 rfl rfl (Blind_spec g s bad) rfl ?_
        rintro _ _ ⟨rfl, rfl⟩
        refine ⟨HeldL.nil, ?_⟩
        refine EPL.nil ?_
        refine EL.go ?_
        refine EL.seq ?_
        refine EL.region [.p 0] (by kernel_rfl) ?_
        refine EPL.p rfl rfl (q_assign (v := .string _) rfl) ?_
        refine EPL.nil ?_
        refine EL.go ?_
        refine EL.ret ?_
        exact end_ret (fun _ => rfl) (fun _ => .inr ⟨by unfold rawOK; omega, rfl, rfl⟩)
      ·
        have c3 := of_decide_eq_false c3
        refine EL.skip ?_
        refine EL.go ?_
        refine EL.seq ?_
        refine EL.region [.p 0, .p 1, .p 2, .l 3, .p 4, .p 5, .p 6] (by kernel_rfl) ?_
        refine EPL.p rfl rfl (q_move (v := .pointer _) rfl) ?_
        refine EPL.p rfl rfl (q_nilCheck rfl) ?_
        refine EPL.p rfl rfl (q_fieldAddr (p := ⟨_, _, none⟩) Try.underlying54 rfl sz9 rfl rfl) ?_
        refine EPL.ld1 (v := .string _) rfl rfl sc9 rfl rfl ?_
        refine EPL.p rfl rfl (q_move (v := .int _ _) rfl) ?_
        refine EPL.p rfl rfl (q_ssHi Try.underlying9 rfl rfl (by omega) (by omega)) ?_
        refine EPL.p rfl rfl (q_assign (v := .string _) rfl) ?_
        refine EPL.nil ?_
        refine EL.go ?_
        refine EL.seq ?_
        refine EL.region [.p 0, .p 1, .p 2, .p 3, .l 4, .p 5, .p 6, .p 7, .p 8, .x 9 []] (by kernel_rfl) ?_
        refine EPL.p rfl rfl (q_move (v := .pointer _) rfl) ?_
        refine EPL.p rfl rfl (q_move (v := .pointer _) rfl) ?_
        refine EPL.p rfl rfl (q_nilCheck rfl) ?_
        refine EPL.p rfl rfl (q_fieldAddr (p := ⟨_, _, none⟩) Try.underlying54 rfl sz9 rfl rfl) ?_
        refine EPL.ld1 (v := .string _) rfl rfl sc9 rfl rfl ?_
        refine EPL.p rfl rfl (q_move (v := .int _ _) rfl) ?_
        refine EPL.p rfl rfl (q_ssLo Try.underlying9 rfl rfl (by omega) (by omega)) ?_
        refine EPL.p rfl rfl (q_nilCheck rfl) ?_
        refine EPL.p rfl rfl (q_fieldAddr (p := ⟨_, _, none⟩) Try.underlying54 rfl sz9 rfl rfl) ?_
        refine EPL.st (v := .string _) (c' := #[.string _, .bool _]) rfl rfl sz9 rfl rfl rfl (oneV rfl) (Nat.le_of_ble_eq_true rfl) rfl HeldL.nil ?_
        refine EPL.nil ?_
        refine EL.go ?_
        refine EL.seq ?_
        refine EL.region [.p 0, .p 1] (by kernel_rfl) ?_
        refine EPL.p rfl rfl (q_move (v := .string _) rfl) ?_
        refine EPL.p rfl rfl (q_assign (v := .string _) rfl) ?_
        refine EPL.nil ?_
        refine EL.go ?_
        refine EL.ret ?_
        exact end_ret (fun _ => rfl) (fun _ => .inl ⟨⟨c1, by omega, by omega⟩, rfl, by subst c1; rfl⟩)

theorem Left_spec (g : Nat) (s : List UInt8) (bad : Bool) : CallL Try.prog 13 [ptr g] [sg g (EyeB s bad)] (fun v Hs' => v = .int .i64 s.length ∧ Hs' = [sg g (EyeB s bad)]) := by
  refine CallL.enter Try.func13 Try.ntmps13 rfl rfl rfl ?_
  refine EL.seq ?_
  refine EL.region [.p 0] (by kernel_rfl) ?_
  refine EPL.p rfl rfl (q_assign (v := .int _ _) rfl) ?_
  refine EPL.nil ?_
  refine EL.go ?_
  refine EL.seq ?_
  refine EL.seq ?_
  refine EL.region [.p 0, .p 1] (by kernel_rfl) ?_
  refine EPL.p rfl rfl (q_move (v := .pointer _) rfl) ?_
  refine EPL.p rfl rfl (q_eqlSome Try.underlying29 rfl rfl) ?_
  refine EPL.nil ?_
  refine EL.go ?_
  refine EL.no rfl ?_
  refine EL.skip ?_
  refine EL.go ?_
  refine EL.seq ?_
  refine EL.region [.p 0, .p 1, .p 2, .l 3, .p 4, .p 5] (by kernel_rfl) ?_
  refine EPL.p rfl rfl (q_move (v := .pointer _) rfl) ?_
  refine EPL.p rfl rfl (q_nilCheck rfl) ?_
  refine EPL.p rfl rfl (q_fieldAddr (p := ⟨_, _, none⟩) Try.underlying54 rfl sz9 rfl rfl) ?_
  refine EPL.ld1 (v := .string _) rfl rfl sc9 rfl rfl ?_
  refine EPL.p rfl rfl (q_lenStr Try.underlying9 rfl) ?_
  refine EPL.p rfl rfl (q_assign (v := .int _ _) rfl) ?_
  refine EPL.nil ?_
  refine EL.go ?_
  refine EL.ret ?_
  exact end_ret (fun _ => rfl) (fun _ => ⟨rfl, rfl⟩)

theorem Done_spec (g : Nat) (s : List UInt8) (bad : Bool) : CallL Try.prog 17 [ptr g] [sg g (EyeB s bad)] (fun v Hs' => v = .bool (!bad && decide (s = [])) ∧ Hs' = [sg g (EyeB s bad)]) := by
  refine CallL.enter Try.func17 Try.ntmps17 rfl rfl rfl ?_
  refine EL.seq ?_
  refine EL.region [.p 0] (by kernel_rfl) ?_
  refine EPL.p rfl rfl (q_assign (v := .bool _) rfl) ?_
  refine EPL.nil ?_
  refine EL.go ?_
  refine EL.seq ?_
  refine EL.region [.p 0, .p 1, .p 2, .p 3, .p 4, .p 5, .l 6, .p 7, .p 8, .p 9, .p 10, .p 11, .p 12, .l 13, .p 14, .p 15, .p 16] (by kernel_rfl) ?_
  refine EPL.p rfl rfl (q_move (v := .pointer _) rfl) ?_
  refine EPL.p rfl rfl (q_neqSome Try.underlying29 rfl rfl) ?_
  refine EPL.p rfl rfl (q_move (v := .bool _) rfl) ?_
  refine EPL.p rfl rfl (q_move (v := .pointer _) rfl) ?_
  refine EPL.p rfl rfl (q_nilCheck rfl) ?_
  refine EPL.p rfl rfl (q_fieldAddr (p := ⟨_, _, none⟩) Try.underlying54 rfl sz4 rfl rfl) ?_
  refine EPL.ld1 (v := .bool _) rfl rfl sc4 rfl rfl ?_
  refine EPL.p rfl rfl (q_not rfl) ?_
  refine EPL.p rfl rfl (q_pickT (v := .bool _) rfl rfl) ?_
  refine EPL.p rfl rfl (q_move (v := .bool _) rfl) ?_
  refine EPL.bool 12 rfl (fun c1 => ?_) (fun c1 => ?_)
  ·
    refine EPL.p rfl rfl (q_move (v := .pointer _) rfl) ?_
    refine EPL.p rfl rfl (q_nilCheck rfl) ?_
    refine EPL.p rfl rfl (q_fieldAddr (p := ⟨_, _, none⟩) Try.underlying54 rfl sz9 rfl rfl) ?_
    refine EPL.ld1 (v := .string _) rfl rfl sc9 rfl rfl ?_
    refine EPL.p rfl rfl (q_streq rfl rfl) ?_
    refine EPL.p rfl rfl (q_pickT (v := .bool _) rfl rfl) ?_
    refine EPL.p rfl rfl (q_assign (v := .bool _) rfl) ?_
    refine EPL.nil ?_
    refine EL.go ?_
    refine EL.ret ?_
    exact end_ret (fun _ => rfl) (fun _ => ⟨by rw [c1]; rfl, rfl⟩)
  ·
    refine EPL.pno rfl rfl ?_
    refine EPL.pno rfl rfl ?_
    refine EPL.pno rfl rfl ?_
    refine EPL.rno rfl rfl ?_
    refine EPL.pno rfl rfl ?_
    refine EPL.p rfl rfl (q_pickF (v := .bool _) rfl rfl) ?_
    refine EPL.p rfl rfl (q_assign (v := .bool _) rfl) ?_
    refine EPL.nil ?_
    refine EL.go ?_
    refine EL.ret ?_
    exact end_ret (fun _ => rfl) (fun _ => ⟨by rw [c1]; rfl, rfl⟩)

end Go.Proofs.Ytooemjldpchgfaa
