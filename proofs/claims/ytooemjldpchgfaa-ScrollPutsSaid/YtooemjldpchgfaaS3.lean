/- Part S3 of the proofs of this seat: what the functions of the layer answer, in worlds that hold their blocks. -/
import Derived.Test.YtooemjldpchgfaaS2
namespace Go.Proofs.Ytooemjldpchgfaa
open Go Go.Proofs.Ytooemjldpchgfaa.TH

/-- What an eye answers that is asked for so many bytes, and what it then is. -/
def rawR (s : List UInt8) (bad : Bool) (n : Int) : List UInt8 × List UInt8 × Bool := if !bad && decide (0 ≤ n) && decide (n ≤ s.length) then (s.take n.toNat, s.drop n.toNat, false) else ([], [], true)
theorem rawR_len (s : List UInt8) (bad : Bool) (n : Int) (h : 0 ≤ n) : ((rawR s bad n).1.length : Int) ≤ n := by
  unfold rawR; split
  · simp; omega
  · simp; omega
theorem Raw_spec' (g : Nat) (s : List UInt8) (bad : Bool) (n : Int) : CallL Try.prog 24 [ptr g, .int .i64 n] [sg g (EyeB s bad)] (fun v Hs' => v = str (rawR s bad n).1 ∧ Hs' = [sg g (EyeB (rawR s bad n).2.1 (rawR s bad n).2.2)]) := by
  refine (Raw_spec g s bad n).mono fun v Hs' h => ?_
  unfold rawR
  rcases h with ⟨⟨h1, h2, h3⟩, rfl, rfl⟩ | ⟨h, rfl, rfl⟩
  · rw [if_pos (by simp [h1, h2, h3])]; exact ⟨rfl, rfl⟩
  · rw [if_neg (by intro h'; simp at h'; exact h ⟨h'.1.1, h'.1.2, h'.2⟩)]; exact ⟨rfl, rfl⟩
def wideR (s : List UInt8) (bad : Bool) : Int × List UInt8 × Bool := if 9223372036854775808 ≤ leN (rawR s bad 8).1 then (0, [], true) else (leN (rawR s bad 8).1, (rawR s bad 8).2)

theorem Wide_spec (g : Nat) (s : List UInt8) (bad : Bool) : CallL Try.prog 11 [ptr g] [sg g (EyeB s bad)] (fun r Hs' => r = .int .i64 (wideR s bad).1 ∧ Hs' = [sg g (EyeB (wideR s bad).2.1 (wideR s bad).2.2)]) := by
  refine CallL.enter Try.func11 Try.ntmps11 rfl rfl rfl ?_
  refine EL.seq ?_
  refine EL.region [.p 0] (by kernel_rfl) ?_
  refine EPL.p rfl rfl (q_assign (v := .int _ _) rfl) ?_
  refine EPL.nil ?_
  refine EL.go ?_
  refine EL.seq ?_
  refine EL.region [.p 0, .x 1 [], .p 2, .p 3] (by kernel_rfl) ?_
  refine EPL.p rfl rfl (q_move (v := .pointer _) rfl) ?_
  refine EPL.cl rfl rfl Try.func24 rfl rfl (Raw_spec' g s bad 8) rfl ?_
  rintro _ _ ⟨rfl, rfl⟩
  refine ⟨HeldL.nil, ?_⟩
  refine EPL.p rfl rfl (q_assign (v := .string _) rfl) ?_
  refine EPL.p rfl rfl (q_assign (v := .int _ _) rfl) ?_
  refine EPL.nil ?_
  refine EL.go ?_
  refine EL.seq ?_
  refine EL.seq ?_
  refine EL.region [.p 0, .p 1, .p 2] (by kernel_rfl) ?_
  refine EPL.p rfl rfl (q_move (v := .string _) rfl) ?_
  refine EPL.p rfl rfl (q_lenStr Try.underlying9 rfl) ?_
  refine EPL.p rfl rfl (q_move (v := .int _ _) rfl) ?_
  refine EPL.nil ?_
  refine EL.go ?_
  refine EL.block ?_
  have hlen := rawR_len s bad 8 (by decide)
  refine EL.loop [4, 5, 10, 11, 12, 13, 14, 15, 16, 17, 18, 19, 20, 21, 22] (fun i : Nat => [(4, .int .u64 (leN ((rawR s bad 8).1.take i))), (10, .int .i64 i)]) (fun m i Hs' => m + i = (rawR s bad 8).1.length ∧ Hs' = [sg g (EyeB (rawR s bad 8).2.1 (rawR s bad 8).2.2)]) (rawR s bad 8).1.length 0 ⟨by omega, rfl⟩ ⟨rfl, rfl, trivial⟩ ?_
  rintro m i _ j ⟨hm, rfl⟩
  refine EL.seq ?_
  refine EL.region [.p 0] (by kernel_rfl) ?_
  refine EPL.p rfl rfl (q_lss rfl rfl) ?_
  refine EPL.nil ?_
  refine EL.go ?_
  refine EL.seq ?_
  refine EL.cond rfl (fun c1 => ?_) (fun c1 => ?_)
  ·
    have c1 := of_decide_eq_true c1
    obtain ⟨x, hx⟩ : ∃ x, (rawR s bad 8).1[i]? = some x := ⟨_, List.getElem?_eq_getElem (by omega)⟩
    refine EL.skip ?_
    refine EL.go ?_
    refine EL.seq ?_
    refine EL.block ?_
    refine EL.seq ?_
    refine EL.region [.p 0, .p 1] (by kernel_rfl) ?_
    refine EPL.p rfl rfl (q_move (v := .int _ _) rfl) ?_
    refine EPL.p rfl rfl (q_assign (v := .int _ _) rfl) ?_
    refine EPL.nil ?_
    refine EL.go ?_
    refine EL.region [.p 0, .p 1, .p 2, .p 3, .p 4, .p 5, .p 6, .p 7, .p 8, .p 9] (by kernel_rfl) ?_
    refine EPL.p rfl rfl (q_move (v := .int _ _) rfl) ?_
    refine EPL.p rfl rfl (q_move (v := .string _) rfl) ?_
    refine EPL.p rfl rfl (q_move (v := .int _ _) rfl) ?_
    refine EPL.p rfl rfl (q_indexStr Try.underlying9 rfl rfl (by omega) (by assumption)) ?_
    refine EPL.p rfl rfl (q_conv Try.underlying5 Try.underlying55 rfl) ?_
    refine EPL.p rfl rfl (q_move (v := .int _ _) rfl) ?_
    refine EPL.p rfl rfl (q_mul rfl rfl) ?_
    refine EPL.p rfl rfl (q_shl rfl rfl (by first | decide | omega | (rw [wrap_i64_in (by omega)]; omega))) ?_
    refine EPL.p rfl rfl (q_or rfl rfl) ?_
    refine EPL.p rfl rfl (q_assign (v := .int _ _) rfl) ?_
    refine EPL.nil ?_
    refine EL.go ?_
    refine EL.region [.p 0, .p 1] (by kernel_rfl) ?_
    refine EPL.p rfl rfl (q_add rfl rfl) ?_
    refine EPL.p rfl rfl (q_move (v := .int _ _) rfl) ?_
    refine EPL.nil ?_
    refine RoundQ.mk (m - 1) (i + 1) (by omega) ⟨by omega, rfl⟩ (by repeat first | exact Off.mix | exact Off.refl | refine Off.upd rfl ?_ | refine Off.upds rfl ?_ | refine Off.mixs rfl ?_) ⟨congrArg (Value.int .u64) (or_u64 hx (by omega)), congrArg (Value.int .i64) (wrap_i64_in (by omega)), trivial⟩
  ·
    have c1 := of_decide_eq_false c1
    have ht : (rawR s bad 8).1.take i = (rawR s bad 8).1 := List.take_of_length_le (by omega)
    rw [ht] at *
    refine EL.exit ?_
    refine EL.go ?_
    refine EL.seq ?_
    refine EL.seq ?_
    refine EL.region [.p 0, .p 1] (by kernel_rfl) ?_
    refine EPL.p rfl rfl (q_move (v := .int _ _) rfl) ?_
    refine EPL.p rfl rfl (q_geq rfl rfl) ?_
    refine EPL.nil ?_
    refine EL.go ?_
    refine EL.cond rfl (fun c2 => ?_) (fun c2 => ?_)
    ·
      have c2 := of_decide_eq_true c2
      refine EL.seq ?_
      refine EL.region [.p 0, .x 1 []] (by kernel_rfl) ?_
      refine EPL.p rfl rfl (q_move (v := .pointer _) rfl) ?_
      refine EPL.cl rfl rfl Try.func25 rfl rfl (Blind_spec g (rawR s bad 8).2.1 (rawR s bad 8).2.2) rfl ?_
      rintro _ _ ⟨rfl, rfl⟩
      refine ⟨HeldL.nil, ?_⟩
      refine EPL.nil ?_
      refine EL.go ?_
      refine EL.seq ?_
      refine EL.region [.p 0] (by kernel_rfl) ?_
      refine EPL.p rfl rfl (q_assign (v := .int _ _) rfl) ?_
      refine EPL.nil ?_
      refine EL.go ?_
      refine EL.ret ?_
      exact end_ret (fun _ => rfl) (fun _ => by unfold wideR; rw [if_pos (by omega)]; exact ⟨rfl, rfl⟩)
    ·
      have c2 := of_decide_eq_false c2
      refine EL.skip ?_
      refine EL.go ?_
      refine EL.seq ?_
      refine EL.region [.p 0, .p 1, .p 2] (by kernel_rfl) ?_
      refine EPL.p rfl rfl (q_move (v := .int _ _) rfl) ?_
      refine EPL.p rfl rfl (q_conv Try.underlying55 Try.underlying3 rfl) ?_
      refine EPL.p rfl rfl (q_assign (v := .int _ _) rfl) ?_
      refine EPL.nil ?_
      refine EL.go ?_
      refine EL.ret ?_
      exact end_ret (fun _ => rfl) (fun _ => by unfold wideR; rw [if_neg (by omega)]; exact ⟨congrArg (Value.int .i64) (wrap_i64_in (by omega)), rfl⟩)

end Go.Proofs.Ytooemjldpchgfaa
