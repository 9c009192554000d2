/- Part S1 of the proofs of this seat: what the functions of the layer answer, in worlds that hold their blocks. -/
import Derived.Test.YtooemjldpchgfaaXT
namespace Go.Proofs.Ytooemjldpchgfaa
open Go Go.Proofs.Ytooemjldpchgfaa.TH

abbrev EyeB (s : List UInt8) (bad : Bool) : Obj := .cells #[str s, .bool bad] 54 (0, 0)
abbrev PenB (v : Value) : Obj := .cells #[v] 26 (0, 0)
abbrev ptr (g : Nat) : Value := .pointer (some ⟨g, 0, none⟩)

theorem On_spec (s : List UInt8) : CallL Try.prog 9 [str s] [] (fun v Hs' => ∃ b, v = ptr b ∧ Hs' = [sg b (EyeB s false)]) := by
  refine CallL.enter Try.func9 Try.ntmps9 rfl rfl rfl ?_
  refine EL.seq ?_
  refine EL.region [.p 0] (by kernel_rfl) ?_
  refine EPL.p rfl rfl (q_assign (v := .pointer _) rfl) ?_
  refine EPL.nil ?_
  refine EL.go ?_
  refine EL.seq ?_
  refine EL.region [.p 0, .p 1, .x 2 [], .p 3] (by kernel_rfl) ?_
  refine EPL.p rfl rfl (q_move (v := .string _) rfl) ?_
  refine EPL.p rfl rfl (q_build (cells := #[.string _, .bool _]) pl54 el54 (.cons rfl rfl (by decide) rfl .nil)) ?_
  refine EPL.box (c := #[.string _, .bool _]) rfl rfl rfl (fun _ => HeldL.nil) (fun b1 => ?_)
  refine EPL.p rfl rfl (q_assign (v := .pointer _) rfl) ?_
  refine EPL.nil ?_
  refine EL.go ?_
  refine EL.ret ?_
  exact end_ret (fun _ => rfl) (fun _ => ⟨_, rfl, rfl⟩)

theorem Blind_spec (g : Nat) (s : List UInt8) (bad : Bool) : CallL Try.prog 25 [ptr g] [sg g (EyeB s bad)] (fun v Hs' => v = .tuple #[] ∧ Hs' = [sg g (EyeB [] true)]) := by
  refine CallL.enter Try.func25 Try.ntmps25 rfl rfl rfl ?_
  refine EL.seq ?_
  refine EL.region [.p 0, .p 1] (by kernel_rfl) ?_
  refine EPL.p rfl rfl (q_move (v := .pointer _) rfl) ?_
  refine EPL.p rfl rfl (q_neqSome Try.underlying29 rfl rfl) ?_
  refine EPL.nil ?_
  refine EL.go ?_
  refine EL.yes rfl ?_
  refine EL.region [.p 0, .p 1, .p 2, .p 3, .x 4 [], .p 5, .p 6, .x 7 []] (by kernel_rfl) ?_
  refine EPL.p rfl rfl (q_move (v := .pointer _) rfl) ?_
  refine EPL.p rfl rfl (q_move (v := .pointer _) rfl) ?_
  refine EPL.p rfl rfl (q_nilCheck rfl) ?_
  refine EPL.p rfl rfl (q_fieldAddr (p := ⟨_, _, none⟩) Try.underlying54 rfl sz4 rfl rfl) ?_
  refine EPL.st (v := .bool _) (c' := #[.string _, .bool _]) rfl rfl sz4 rfl rfl rfl (oneV rfl) (Nat.le_of_ble_eq_true rfl) rfl HeldL.nil ?_
  refine EPL.p rfl rfl (q_nilCheck rfl) ?_
  refine EPL.p rfl rfl (q_fieldAddr (p := ⟨_, _, none⟩) Try.underlying54 rfl sz9 rfl rfl) ?_
  refine EPL.st (v := .string _) (c' := #[.string _, .bool _]) rfl rfl sz9 rfl rfl rfl (oneV rfl) (Nat.le_of_ble_eq_true rfl) rfl HeldL.nil ?_
  refine EPL.nil ?_
  exact end_normal (fun _ => rfl) (fun _ => ⟨rfl, rfl⟩)

theorem Bad_spec (g : Nat) (s : List UInt8) (bad : Bool) : CallL Try.prog 12 [ptr g] [sg g (EyeB s bad)] (fun v Hs' => v = .bool bad ∧ Hs' = [sg g (EyeB s bad)]) := by
  refine CallL.enter Try.func12 Try.ntmps12 rfl rfl rfl ?_
  refine EL.seq ?_
  refine EL.region [.p 0] (by kernel_rfl) ?_
  refine EPL.p rfl rfl (q_assign (v := .bool _) rfl) ?_
  refine EPL.nil ?_
  refine EL.go ?_
  refine EL.seq ?_
  refine EL.region [.p 0, .p 1, .p 2, .p 3, .p 4, .p 5, .l 6, .p 7, .p 8] (by kernel_rfl) ?_
  refine EPL.p rfl rfl (q_move (v := .pointer _) rfl) ?_
  refine EPL.p rfl rfl (q_eqlSome Try.underlying29 rfl rfl) ?_
  refine EPL.p rfl rfl (q_move (v := .bool _) rfl) ?_
  refine EPL.p rfl rfl (q_move (v := .pointer _) rfl) ?_
  refine EPL.p rfl rfl (q_nilCheck rfl) ?_
  refine EPL.p rfl rfl (q_fieldAddr (p := ⟨_, _, none⟩) Try.underlying54 rfl sz4 rfl rfl) ?_
  refine EPL.ld1 (v := .bool _) rfl rfl sc4 rfl rfl ?_
  refine EPL.p rfl rfl (q_pickF (v := .bool _) rfl rfl) ?_
  refine EPL.p rfl rfl (q_assign (v := .bool _) rfl) ?_
  refine EPL.nil ?_
  refine EL.go ?_
  refine EL.ret ?_
  exact end_ret (fun _ => rfl) (fun _ => ⟨rfl, rfl⟩)

end Go.Proofs.Ytooemjldpchgfaa
