/- Part S6 of the proofs of this seat: what the functions of the layer answer, in worlds that hold their blocks. -/
import Derived.Test.YtooemjldpchgfaaS5
namespace Go.Proofs.Ytooemjldpchgfaa
open Go Go.Proofs.Ytooemjldpchgfaa.TH

def getK (size : Int) : Nat := (min (max size 1) 7).toNat
theorem getK_eq (size : Int) : min (max size 1) 7 = (getK size : Int) := by unfold getK; omega
theorem getK_le (size : Int) : getK size ≤ 7 := by unfold getK; omega
def getR (s : List UInt8) (bad : Bool) (size : Int) : Int := leN (rawR s bad (min (max size 1) 7)).1
def getT (s : List UInt8) (bad : Bool) (size : Int) : List UInt8 × Bool := (rawR s bad (min (max size 1) 7)).2

theorem Get_spec (g : Nat) (s : List UInt8) (bad : Bool) (size : Int) : CallL Try.prog 22 [ptr g, .int .i64 size] [sg g (EyeB s bad)] (fun r Hs' => r = .int .i64 (getR s bad size) ∧ Hs' = [sg g (EyeB (getT s bad size).1 (getT s bad size).2)]) := by
  refine CallL.enter Try.func22 Try.ntmps22 rfl rfl rfl ?_
  refine EL.seq ?_
  refine EL.region [.p 0] (by kernel_rfl) ?_
  refine EPL.p rfl rfl (q_assign (v := .int _ _) rfl) ?_
  refine EPL.nil ?_
  refine EL.go ?_
  refine EL.seq ?_
  refine EL.region [.p 0, .p 1, .p 2, .p 3, .x 4 [], .p 5, .p 6] (by kernel_rfl) ?_
  refine EPL.p rfl rfl (q_move (v := .pointer _) rfl) ?_
  refine EPL.p rfl rfl (q_move (v := .int _ _) rfl) ?_
  refine EPL.p rfl rfl (q_max rfl rfl) ?_
  refine EPL.p rfl rfl (q_min rfl rfl) ?_
  refine EPL.cl rfl rfl Try.func24 rfl rfl (Raw_spec' g s bad (min (max size 1) 7)) rfl ?_
  rintro _ _ ⟨rfl, rfl⟩
  refine ⟨HeldL.nil, ?_⟩
  refine EPL.p rfl rfl (q_assign (v := .string _) rfl) ?_
  refine EPL.p rfl rfl (q_assign (v := .int _ _) rfl) ?_
  refine EPL.nil ?_
  refine EL.go ?_
  refine EL.seq ?_
  refine EL.seq ?_
  refine EL.region [.p 0, .p 1, .p 2] (by kernel_rfl) ?_
  refine EPL.p rfl rfl (q_move (v := .string _) rfl) ?_
  refine EPL.p rfl rfl (q_lenStr Try.underlying9 rfl) ?_
  refine EPL.p rfl rfl (q_move (v := .int _ _) rfl) ?_
  refine EPL.nil ?_
  refine EL.go ?_
  refine EL.block ?_
  have hlen := rawR_len s bad (min (max size 1) 7) (by omega)
  refine EL.loop [6, 7, 15, 16, 17, 18, 19, 20, 21, 22, 23, 24, 25, 26, 27] (fun i : Nat => [(6, .int .i64 (leN ((rawR s bad (min (max size 1) 7)).1.take i))), (15, .int .i64 i)]) (fun m i Hs' => m + i = (rawR s bad (min (max size 1) 7)).1.length ∧ Hs' = [sg g (EyeB (rawR s bad (min (max size 1) 7)).2.1 (rawR s bad (min (max size 1) 7)).2.2)]) (rawR s bad (min (max size 1) 7)).1.length 0 ⟨by omega, rfl⟩ ⟨rfl, rfl, trivial⟩ ?_
  rintro m i _ j ⟨hm, rfl⟩
  refine EL.seq ?_
  refine EL.region [.p 0] (by kernel_rfl) ?_
  refine EPL.p rfl rfl (q_lss rfl rfl) ?_
  refine EPL.nil ?_
  refine EL.go ?_
  refine EL.seq ?_
  refine EL.cond rfl (fun c1 => ?_) (fun c1 => ?_)
  ·
    have c1 := of_decide_eq_true c1
    obtain ⟨x, hx⟩ : ∃ x, (rawR s bad (min (max size 1) 7)).1[i]? = some x := ⟨_, List.getElem?_eq_getElem (by omega)⟩
    refine EL.skip ?_
    refine EL.go ?_
    refine EL.seq ?_
    refine EL.block ?_
    refine EL.seq ?_
    refine EL.region [.p 0, .p 1] (by kernel_rfl) ?_
    refine EPL.p rfl rfl (q_move (v := .int _ _) rfl) ?_
    refine EPL.p rfl rfl (q_assign (v := .int _ _) rfl) ?_
    refine EPL.nil ?_
    refine EL.go ?_
    refine EL.region [.p 0, .p 1, .p 2, .p 3, .p 4, .p 5, .p 6, .p 7, .p 8, .p 9] (by kernel_rfl) ?_
    refine EPL.p rfl rfl (q_move (v := .int _ _) rfl) ?_
    refine EPL.p rfl rfl (q_move (v := .string _) rfl) ?_
    refine EPL.p rfl rfl (q_move (v := .int _ _) rfl) ?_
    refine EPL.p rfl rfl (q_indexStr Try.underlying9 rfl rfl (by omega) (by assumption)) ?_
    refine EPL.p rfl rfl (q_conv Try.underlying5 Try.underlying3 rfl) ?_
    refine EPL.p rfl rfl (q_move (v := .int _ _) rfl) ?_
    refine EPL.p rfl rfl (q_mul rfl rfl) ?_
    refine EPL.p rfl rfl (q_shl rfl rfl (by first | decide | omega | (rw [wrap_i64_in (by omega)]; omega))) ?_
    refine EPL.p rfl rfl (q_or rfl rfl) ?_
    refine EPL.p rfl rfl (q_assign (v := .int _ _) rfl) ?_
    refine EPL.nil ?_
    refine EL.go ?_
    refine EL.region [.p 0, .p 1] (by kernel_rfl) ?_
    refine EPL.p rfl rfl (q_add rfl rfl) ?_
    refine EPL.p rfl rfl (q_move (v := .int _ _) rfl) ?_
    refine EPL.nil ?_
    refine RoundQ.mk (m - 1) (i + 1) (by omega) ⟨by omega, rfl⟩ (by repeat first | exact Off.mix | exact Off.refl | refine Off.upd rfl ?_ | refine Off.upds rfl ?_ | refine Off.mixs rfl ?_) ⟨congrArg (Value.int .i64) (or_i64 hx (by omega)), congrArg (Value.int .i64) (wrap_i64_in (by omega)), trivial⟩
  ·
    have c1 := of_decide_eq_false c1
    have ht : (rawR s bad (min (max size 1) 7)).1.take i = (rawR s bad (min (max size 1) 7)).1 := List.take_of_length_le (by omega)
    rw [ht] at *
    refine EL.exit ?_
    refine EL.go ?_
    refine EL.seq ?_
    refine EL.region [.p 0, .p 1] (by kernel_rfl) ?_
    refine EPL.p rfl rfl (q_move (v := .int _ _) rfl) ?_
    refine EPL.p rfl rfl (q_assign (v := .int _ _) rfl) ?_
    refine EPL.nil ?_
    refine EL.go ?_
    refine EL.ret ?_
    exact end_ret (fun _ => rfl) (fun _ => ⟨rfl, rfl⟩)


/-- After a first byte. -/
def cnt2 (s : List UInt8) (bad : Bool) : Int × Int × List UInt8 × Bool :=
  if getR s bad 1 = 253 then (getR (getT s bad 1).1 (getT s bad 1).2 2, 253, getT (getT s bad 1).1 (getT s bad 1).2 2)
  else if getR s bad 1 = 254 then (getR (getT s bad 1).1 (getT s bad 1).2 4, 65536, getT (getT s bad 1).1 (getT s bad 1).2 4)
  else if getR s bad 1 = 255 then ((wideR (getT s bad 1).1 (getT s bad 1).2).1, 4294967296, (wideR (getT s bad 1).1 (getT s bad 1).2).2)
  else (getR s bad 1, 0, getT s bad 1)
def countR (s : List UInt8) (bad : Bool) (most : Int) : Int × List UInt8 × Bool :=
  if (cnt2 s bad).1 < (cnt2 s bad).2.1 ∨ most < (cnt2 s bad).1 then (0, [], true) else ((cnt2 s bad).1, (cnt2 s bad).2.2)

theorem ECount_spec (g : Nat) (s : List UInt8) (bad : Bool) (most : Int) : CallL Try.prog 14 [ptr g, .int .i64 most] [sg g (EyeB s bad)] (fun r Hs' => r = .int .i64 (countR s bad most).1 ∧ Hs' = [sg g (EyeB (countR s bad most).2.1 (countR s bad most).2.2)]) := by
  refine CallL.enter Try.func14 Try.ntmps14 rfl rfl rfl ?_
  refine EL.seq ?_
  refine EL.region [.p 0] (by kernel_rfl) ?_
  refine EPL.p rfl rfl (q_assign (v := .int _ _) rfl) ?_
  refine EPL.nil ?_
  refine EL.go ?_
  refine EL.seq ?_
  refine EL.region [.p 0, .x 1 [], .p 2, .p 3] (by kernel_rfl) ?_
  refine EPL.p rfl rfl (q_move (v := .pointer _) rfl) ?_
  refine EPL.cl rfl rfl Try.func22 rfl rfl (Get_spec g s bad 1) rfl ?_
  rintro _ _ ⟨rfl, rfl⟩
  refine ⟨HeldL.nil, ?_⟩
  refine EPL.p rfl rfl (q_assign (v := .int _ _) rfl) ?_
  refine EPL.p rfl rfl (q_assign (v := .int _ _) rfl) ?_
  refine EPL.nil ?_
  refine EL.go ?_
  refine EL.seq ?_
  refine EL.seq ?_
  refine EL.region [.p 0] (by kernel_rfl) ?_
  refine EPL.p rfl rfl (q_move (v := .int _ _) rfl) ?_
  refine EPL.nil ?_
  refine EL.go ?_
  refine EL.block ?_
  refine EL.seq ?_
  refine EL.region [.p 0, .p 1] (by kernel_rfl) ?_
  refine EPL.p rfl rfl (q_eql rfl rfl) ?_
  refine EPL.p rfl rfl (q_assign (v := .bool _) rfl) ?_
  refine EPL.nil ?_
  refine EL.go ?_
  refine EL.cond rfl (fun c1 => ?_) (fun c1 => ?_)
  ·
    have c1 := of_decide_eq_true c1
    refine EL.region [.p 0, .x 1 [], .p 2, .p 3] (by kernel_rfl) ?_
    refine EPL.p rfl rfl (q_move (v := .pointer _) rfl) ?_
    refine EPL.cl rfl rfl Try.func22 rfl rfl (Get_spec g (getT s bad 1).1 (getT s bad 1).2 2) rfl ?_
    rintro _ _ ⟨rfl, rfl⟩
    refine ⟨HeldL.nil, ?_⟩
    refine EPL.p rfl rfl (q_assign (v := .int _ _) rfl) ?_
    refine EPL.p rfl rfl (q_assign (v := .int _ _) rfl) ?_
    refine EPL.nil ?_
    refine EL.go ?_
    refine EL.seq ?_
    refine EL.seq ?_
    refine EL.region [.p 0, .p 1, .p 2, .p 3, .p 4, .p 5, .p 6, .p 7] (by kernel_rfl) ?_
    refine EPL.p rfl rfl (q_move (v := .int _ _) rfl) ?_
    refine EPL.p rfl rfl (q_move (v := .int _ _) rfl) ?_
    refine EPL.p rfl rfl (q_lss rfl rfl) ?_
    refine EPL.p rfl rfl (q_move (v := .bool _) rfl) ?_
    refine EPL.bool 25 rfl (fun c2 => ?_) (fun c2 => ?_)
    ·
      have c2 := of_decide_eq_true c2
      refine EPL.pno rfl rfl ?_
      refine EPL.pno rfl rfl ?_
      refine EPL.pno rfl rfl ?_
      refine EPL.p rfl rfl (q_pickT (v := .bool _) rfl rfl) ?_
      refine EPL.nil ?_
      refine EL.go ?_
      refine EL.yes rfl ?_
      refine EL.seq ?_
      refine EL.region [.p 0, .x 1 []] (by kernel_rfl) ?_
      refine EPL.p rfl rfl (q_move (v := .pointer _) rfl) ?_
      refine EPL.cl rfl rfl Try.func25 rfl rfl (Blind_spec g (getT (getT s bad 1).1 (getT s bad 1).2 2).1 (getT (getT s bad 1).1 (getT s bad 1).2 2).2) rfl ?_
      rintro _ _ ⟨rfl, rfl⟩
      refine ⟨HeldL.nil, ?_⟩
      refine EPL.nil ?_
      refine EL.go ?_
      refine EL.seq ?_
      refine EL.region [.p 0] (by kernel_rfl) ?_
      refine EPL.p rfl rfl (q_assign (v := .int _ _) rfl) ?_
      refine EPL.nil ?_
      refine EL.go ?_
      refine EL.ret ?_
      exact end_ret (fun _ => rfl) (fun _ => by unfold countR cnt2; rw [if_pos c1, if_pos (by dsimp only; omega)]; exact ⟨rfl, rfl⟩)
    ·
      have c2 := of_decide_eq_false c2
      refine EPL.p rfl rfl (q_move (v := .int _ _) rfl) ?_
      refine EPL.p rfl rfl (q_move (v := .int _ _) rfl) ?_
      refine EPL.p rfl rfl (q_gtr rfl rfl) ?_
      refine EPL.p rfl rfl (q_pickF (v := .bool _) rfl rfl) ?_
      refine EPL.nil ?_
      refine EL.go ?_
      refine EL.cond rfl (fun c3 => ?_) (fun c3 => ?_)
      ·
        have c3 := of_decide_eq_true c3
        refine EL.seq ?_
        refine EL.region [.p 0, .x 1 []] (by kernel_rfl) ?_
        refine EPL.p rfl rfl (q_move (v := .pointer _) rfl) ?_
        refine EPL.cl rfl rfl Try.func25 rfl rfl (Blind_spec g (getT (getT s bad 1).1 (getT s bad 1).2 2).1 (getT (getT s bad 1).1 (getT s bad 1).2 2).2) rfl ?_
        rintro _ _ ⟨rfl, rfl⟩
        refine ⟨HeldL.nil, ?_⟩
        refine EPL.nil ?_
        refine EL.go ?_
        refine EL.seq ?_
        refine EL.region [.p 0] (by kernel_rfl) ?_
        refine EPL.p rfl rfl (q_assign (v := .int _ _) rfl) ?_
        refine EPL.nil ?_
        refine EL.go ?_
        refine EL.ret ?_
        exact end_ret (fun _ => rfl) (fun _ => by unfold countR cnt2; rw [if_pos c1, if_pos (by dsimp only; omega)]; exact ⟨rfl, rfl⟩)
      ·
        have c3 := of_decide_eq_false c3
        refine EL.skip ?_
        refine EL.go ?_
        refine EL.seq ?_
        refine EL.region [.p 0, .p 1] (by kernel_rfl) ?_
        refine EPL.p rfl rfl (q_move (v := .int _ _) rfl) ?_
        refine EPL.p rfl rfl (q_assign (v := .int _ _) rfl) ?_
        refine EPL.nil ?_
        refine EL.go ?_
        refine EL.ret ?_
        exact end_ret (fun _ => rfl) (fun _ => by unfold countR cnt2; rw [if_pos c1, if_neg (by dsimp only; omega)]; exact ⟨rfl, rfl⟩)
  ·
    have c1 := of_decide_eq_false c1
    refine EL.seq ?_
    refine EL.region [.p 0, .p 1] (by kernel_rfl) ?_
    refine EPL.p rfl rfl (q_eql rfl rfl) ?_
    refine EPL.p rfl rfl (q_assign (v := .bool _) rfl) ?_
    refine EPL.nil ?_
    refine EL.go ?_
    refine EL.cond rfl (fun c4 => ?_) (fun c4 => ?_)
    ·
      have c4 := of_decide_eq_true c4
      refine EL.region [.p 0, .x 1 [], .p 2, .p 3] (by kernel_rfl) ?_
      refine EPL.p rfl rfl (q_move (v := .pointer _) rfl) ?_
      refine EPL.cl rfl rfl Try.func22 rfl rfl (Get_spec g (getT s bad 1).1 (getT s bad 1).2 4) rfl ?_
      rintro _ _ ⟨rfl, rfl⟩
      refine ⟨HeldL.nil, ?_⟩
      refine EPL.p rfl rfl (q_assign (v := .int _ _) rfl) ?_
      refine EPL.p rfl rfl (q_assign (v := .int _ _) rfl) ?_
      refine EPL.nil ?_
      refine EL.go ?_
      refine EL.seq ?_
      refine EL.seq ?_
      refine EL.region [.p 0, .p 1, .p 2, .p 3, .p 4, .p 5, .p 6, .p 7] (by kernel_rfl) ?_
      refine EPL.p rfl rfl (q_move (v := .int _ _) rfl) ?_
      refine EPL.p rfl rfl (q_move (v := .int _ _) rfl) ?_
      refine EPL.p rfl rfl (q_lss rfl rfl) ?_
      refine EPL.p rfl rfl (q_move (v := .bool _) rfl) ?_
      refine EPL.bool 25 rfl (fun c5 => ?_) (fun c5 => ?_)
      ·
        have c5 := of_decide_eq_true c5
        refine EPL.pno rfl rfl ?_
        refine EPL.pno rfl rfl ?_
        refine EPL.pno rfl rfl ?_
        refine EPL.p rfl rfl (q_pickT (v := .bool _) rfl rfl) ?_
        refine EPL.nil ?_
        refine EL.go ?_
        refine EL.yes rfl ?_
        refine EL.seq ?_
        refine EL.region [.p 0, .x 1 []] (by kernel_rfl) ?_
        refine EPL.p rfl rfl (q_move (v := .pointer _) rfl) ?_
        refine EPL.cl rfl rfl Try.func25 rfl rfl (Blind_spec g (getT (getT s bad 1).1 (getT s bad 1).2 4).1 (getT (getT s bad 1).1 (getT s bad 1).2 4).2) rfl ?_
        rintro _ _ ⟨rfl, rfl⟩
        refine ⟨HeldL.nil, ?_⟩
        refine EPL.nil ?_
        refine EL.go ?_
        refine EL.seq ?_
        refine EL.region [.p 0] (by kernel_rfl) ?_
        refine EPL.p rfl rfl (q_assign (v := .int _ _) rfl) ?_
        refine EPL.nil ?_
        refine EL.go ?_
        refine EL.ret ?_
        exact end_ret (fun _ => rfl) (fun _ => by unfold countR cnt2; rw [if_neg c1, if_pos c4, if_pos (by dsimp only; omega)]; exact ⟨rfl, rfl⟩)
      ·
        have c5 := of_decide_eq_false c5
        refine EPL.p rfl rfl (q_move (v := .int _ _) rfl) ?_
        refine EPL.p rfl rfl (q_move (v := .int _ _) rfl) ?_
        refine EPL.p rfl rfl (q_gtr rfl rfl) ?_
        refine EPL.p rfl rfl (q_pickF (v := .bool _) rfl rfl) ?_
        refine EPL.nil ?_
        refine EL.go ?_
        refine EL.cond rfl (fun c6 => ?_) (fun c6 => ?_)
        ·
          have c6 := of_decide_eq_true c6
          refine EL.seq ?_
          refine EL.region [.p 0, .x 1 []] (by kernel_rfl) ?_
          refine EPL.p rfl rfl (q_move (v := .pointer _) rfl) ?_
          refine EPL.cl rfl rfl Try.func25 rfl rfl (Blind_spec g (getT (getT s bad 1).1 (getT s bad 1).2 4).1 (getT (getT s bad 1).1 (getT s bad 1).2 4).2) rfl ?_
          rintro _ _ ⟨rfl, rfl⟩
          refine ⟨HeldL.nil, ?_⟩
          refine EPL.nil ?_
          refine EL.go ?_
          refine EL.seq ?_
          refine EL.region [.p 0] (by kernel_rfl) ?_
          refine EPL.p rfl rfl (q_assign (v := .int _ _) rfl) ?_
          refine EPL.nil ?_
          refine EL.go ?_
          refine EL.ret ?_
          exact end_ret (fun _ => rfl) (fun _ => by unfold countR cnt2; rw [if_neg c1, if_pos c4, if_pos (by dsimp only; omega)]; exact ⟨rfl, rfl⟩)
        ·
          have c6 := of_decide_eq_false c6
          refine EL.skip ?_
          refine EL.go ?_
          refine EL.seq ?_
          refine EL.region [.p 0, .p 1] (by kernel_rfl) ?_
          refine EPL.p rfl rfl (q_move (v := .int _ _) rfl) ?_
          refine EPL.p rfl rfl (q_assign (v := .int _ _) rfl) ?_
          refine EPL.nil ?_
          refine EL.go ?_
          refine EL.ret ?_
          exact end_ret (fun _ => rfl) (fun _ => by unfold countR cnt2; rw [if_neg c1, if_pos c4, if_neg (by dsimp only; omega)]; exact ⟨rfl, rfl⟩)
    ·
      have c4 := of_decide_eq_false c4
      refine EL.seq ?_
      refine EL.region [.p 0, .p 1] (by kernel_rfl) ?_
      refine EPL.p rfl rfl (q_eql rfl rfl) ?_
      refine EPL.p rfl rfl (q_assign (v := .bool _) rfl) ?_
      refine EPL.nil ?_
      refine EL.go ?_
      refine EL.cond rfl (fun c7 => ?_) (fun c7 => ?_)
      ·
        have c7 := of_decide_eq_true c7
        refine EL.region [.p 0, .x 1 [], .p 2, .p 3] (by kernel_rfl) ?_
        refine EPL.p rfl rfl (q_move (v := .pointer _) rfl) ?_
        refine EPL.cl rfl rfl Try.func11 rfl rfl (Wide_spec g (getT s bad 1).1 (getT s bad 1).2) rfl ?_
        rintro _ _ ⟨rfl, rfl⟩
        refine ⟨HeldL.nil, ?_⟩
        refine EPL.p rfl rfl (q_assign (v := .int _ _) rfl) ?_
        refine EPL.p rfl rfl (q_assign (v := .int _ _) rfl) ?_
        refine EPL.nil ?_
        refine EL.go ?_
        refine EL.seq ?_
        refine EL.seq ?_
        refine EL.region [.p 0, .p 1, .p 2, .p 3, .p 4, .p 5, .p 6, .p 7] (by kernel_rfl) ?_
        refine EPL.p rfl rfl (q_move (v := .int _ _) rfl) ?_
        refine EPL.p rfl rfl (q_move (v := .int _ _) rfl) ?_
        refine EPL.p rfl rfl (q_lss rfl rfl) ?_
        refine EPL.p rfl rfl (q_move (v := .bool _) rfl) ?_
        refine EPL.bool 25 rfl (fun c8 => ?_) (fun c8 => ?_)
        ·
          have c8 := of_decide_eq_true c8
          refine EPL.pno rfl rfl ?_
          refine EPL.pno rfl rfl ?_
          refine EPL.pno rfl rfl ?_
          refine EPL.p rfl rfl (q_pickT (v := .bool _) rfl rfl) ?_
          refine EPL.nil ?_
          refine EL.go ?_
          refine EL.yes rfl ?_
          refine EL.seq ?_
          refine EL.region [.p 0, .x 1 []] (by kernel_rfl) ?_
          refine EPL.p rfl rfl (q_move (v := .pointer _) rfl) ?_
          refine EPL.cl rfl rfl Try.func25 rfl rfl (Blind_spec g ((wideR (getT s bad 1).1 (getT s bad 1).2).2).1 ((wideR (getT s bad 1).1 (getT s bad 1).2).2).2) rfl ?_
          rintro _ _ ⟨rfl, rfl⟩
          refine ⟨HeldL.nil, ?_⟩
          refine EPL.nil ?_
          refine EL.go ?_
          refine EL.seq ?_
          refine EL.region [.p 0] (by kernel_rfl) ?_
          refine EPL.p rfl rfl (q_assign (v := .int _ _) rfl) ?_
          refine EPL.nil ?_
          refine EL.go ?_
          refine EL.ret ?_
          exact end_ret (fun _ => rfl) (fun _ => by unfold countR cnt2; rw [if_neg c1, if_neg c4, if_pos c7, if_pos (by dsimp only; omega)]; exact ⟨rfl, rfl⟩)
        ·
          have c8 := of_decide_eq_false c8
          refine EPL.p rfl rfl (q_move (v := .int _ _) rfl) ?_
          refine EPL.p rfl rfl (q_move (v := .int _ _) rfl) ?_
          refine EPL.p rfl rfl (q_gtr rfl rfl) ?_
          refine EPL.p rfl rfl (q_pickF (v := .bool _) rfl rfl) ?_
          refine EPL.nil ?_
          refine EL.go ?_
          refine EL.cond rfl (fun c9 => ?_) (fun c9 => ?_)
          ·
            have c9 := of_decide_eq_true c9
            refine EL.seq ?_
            refine EL.region [.p 0, .x 1 []] (by kernel_rfl) ?_
            refine EPL.p rfl rfl (q_move (v := .pointer _) rfl) ?_
            refine EPL.cl rfl rfl Try.func25 rfl rfl (Blind_spec g ((wideR (getT s bad 1).1 (getT s bad 1).2).2).1 ((wideR (getT s bad 1).1 (getT s bad 1).2).2).2) rfl ?_
            rintro _ _ ⟨rfl, rfl⟩
            refine ⟨HeldL.nil, ?_⟩
            refine EPL.nil ?_
            refine EL.go ?_
            refine EL.seq ?_
            refine EL.region [.p 0] (by kernel_rfl) ?_
            refine EPL.p rfl rfl (q_assign (v := .int _ _) rfl) ?_
            refine EPL.nil ?_
            refine EL.go ?_
            refine EL.ret ?_
            exact end_ret (fun _ => rfl) (fun _ => by unfold countR cnt2; rw [if_neg c1, if_neg c4, if_pos c7, if_pos (by dsimp only; omega)]; exact ⟨rfl, rfl⟩)
          ·
            have c9 := of_decide_eq_false c9
            refine EL.skip ?_
            refine EL.go ?_
            refine EL.seq ?_
            refine EL.region [.p 0, .p 1] (by kernel_rfl) ?_
            refine EPL.p rfl rfl (q_move (v := .int _ _) rfl) ?_
            refine EPL.p rfl rfl (q_assign (v := .int _ _) rfl) ?_
            refine EPL.nil ?_
            refine EL.go ?_
            refine EL.ret ?_
            exact end_ret (fun _ => rfl) (fun _ => by unfold countR cnt2; rw [if_neg c1, if_neg c4, if_pos c7, if_neg (by dsimp only; omega)]; exact ⟨rfl, rfl⟩)
      ·
        have c7 := of_decide_eq_false c7
        refine EL.skip ?_
        refine EL.go ?_
        refine EL.seq ?_
        refine EL.seq ?_
        refine EL.region [.p 0, .p 1, .p 2, .p 3, .p 4, .p 5, .p 6, .p 7] (by kernel_rfl) ?_
        refine EPL.p rfl rfl (q_move (v := .int _ _) rfl) ?_
        refine EPL.p rfl rfl (q_move (v := .int _ _) rfl) ?_
        refine EPL.p rfl rfl (q_lss rfl rfl) ?_
        refine EPL.p rfl rfl (q_move (v := .bool _) rfl) ?_
        refine EPL.bool 25 rfl (fun c10 => ?_) (fun c10 => ?_)
        ·
          have c10 := of_decide_eq_true c10
          refine EPL.pno rfl rfl ?_
          refine EPL.pno rfl rfl ?_
          refine EPL.pno rfl rfl ?_
          refine EPL.p rfl rfl (q_pickT (v := .bool _) rfl rfl) ?_
          refine EPL.nil ?_
          refine EL.go ?_
          refine EL.yes rfl ?_
          refine EL.seq ?_
          refine EL.region [.p 0, .x 1 []] (by kernel_rfl) ?_
          refine EPL.p rfl rfl (q_move (v := .pointer _) rfl) ?_
          refine EPL.cl rfl rfl Try.func25 rfl rfl (Blind_spec g (getT s bad 1).1 (getT s bad 1).2) rfl ?_
          rintro _ _ ⟨rfl, rfl⟩
          refine ⟨HeldL.nil, ?_⟩
          refine EPL.nil ?_
          refine EL.go ?_
          refine EL.seq ?_
          refine EL.region [.p 0] (by kernel_rfl) ?_
          refine EPL.p rfl rfl (q_assign (v := .int _ _) rfl) ?_
          refine EPL.nil ?_
          refine EL.go ?_
          refine EL.ret ?_
          exact end_ret (fun _ => rfl) (fun _ => by unfold countR cnt2; rw [if_neg c1, if_neg c4, if_neg c7, if_pos (by dsimp only; omega)]; exact ⟨rfl, rfl⟩)
        ·
          have c10 := of_decide_eq_false c10
          refine EPL.p rfl rfl (q_move (v := .int _ _) rfl) ?_
          refine EPL.p rfl rfl (q_move (v := .int _ _) rfl) ?_
          refine EPL.p rfl rfl (q_gtr rfl rfl) ?_
          refine EPL.p rfl rfl (q_pickF (v := .bool _) rfl rfl) ?_
          refine EPL.nil ?_
          refine EL.go ?_
          refine EL.cond rfl (fun c11 => ?_) (fun c11 => ?_)
          ·
            have c11 := of_decide_eq_true c11
            refine EL.seq ?_
            refine EL.region [.p 0, .x 1 []] (by kernel_rfl) ?_
            refine EPL.p rfl rfl (q_move (v := .pointer _) rfl) ?_
            refine EPL.cl rfl rfl Try.func25 rfl rfl (Blind_spec g (getT s bad 1).1 (getT s bad 1).2) rfl ?_
            rintro _ _ ⟨rfl, rfl⟩
            refine ⟨HeldL.nil, ?_⟩
            refine EPL.nil ?_
            refine EL.go ?_
            refine EL.seq ?_
            refine EL.region [.p 0] (by kernel_rfl) ?_
            refine EPL.p rfl rfl (q_assign (v := .int _ _) rfl) ?_
            refine EPL.nil ?_
            refine EL.go ?_
            refine EL.ret ?_
            exact end_ret (fun _ => rfl) (fun _ => by unfold countR cnt2; rw [if_neg c1, if_neg c4, if_neg c7, if_pos (by dsimp only; omega)]; exact ⟨rfl, rfl⟩)
          ·
            have c11 := of_decide_eq_false c11
            refine EL.skip ?_
            refine EL.go ?_
            refine EL.seq ?_
            refine EL.region [.p 0, .p 1] (by kernel_rfl) ?_
            refine EPL.p rfl rfl (q_move (v := .int _ _) rfl) ?_
            refine EPL.p rfl rfl (q_assign (v := .int _ _) rfl) ?_
            refine EPL.nil ?_
            refine EL.go ?_
            refine EL.ret ?_
            exact end_ret (fun _ => rfl) (fun _ => by unfold countR cnt2; rw [if_neg c1, if_neg c4, if_neg c7, if_neg (by dsimp only; omega)]; exact ⟨rfl, rfl⟩)

end Go.Proofs.Ytooemjldpchgfaa
