/- Part S5 of the proofs of this seat: what the functions of the layer answer, in worlds that hold their blocks. -/
import Derived.Test.YtooemjldpchgfaaS4
namespace Go.Proofs.Ytooemjldpchgfaa
open Go Go.Proofs.Ytooemjldpchgfaa.TH
theorem PRaw_spec (p : Nat) (a : Option Addr) (c : Nat) (out s : List UInt8) (H : Hp) (hO : OwnB a c out H) (hb : out.length + s.length ≤ 1099511627776) : CallL Try.prog 8 [ptr p, str s] [sg p (PenS a c out), H] (fun r Hs' => r = .tuple #[] ∧ ∃ a' c' H', Hs' = [sg p (PenS a' c' (out ++ s)), H'] ∧ OwnB a' c' (out ++ s) H') := by
  refine CallL.enter Try.func8 Try.ntmps8 rfl rfl rfl ?_
  refine EL.region [.p 0, .p 1, .p 2, .p 3, .l 4, .p 5, .x 6 [], .p 7, .p 8, .x 9 []] (by kernel_rfl) ?_
  refine EPL.p rfl rfl (q_move (v := .pointer _) rfl) ?_
  refine EPL.p rfl rfl (q_move (v := .pointer _) rfl) ?_
  refine EPL.p rfl rfl (q_nilCheck rfl) ?_
  refine EPL.p rfl rfl (q_fieldAddr (p := ⟨_, _, none⟩) Try.underlying26 rfl sz24 rfl rfl) ?_
  refine EPL.ld1 (v := .slice _ _ _) rfl rfl sc24 rfl rfl ?_
  refine EPL.p rfl rfl (q_move (v := .string _) rfl) ?_
  refine EPL.app rfl rfl Try.underlying24 (.inl Try.underlying9) el5 rfl (by exact hO) rfl (by exact fun hd => Src.str) (by unfold maxLen; omega) (by omega) (fun v' H3 hv' => ?_)
  obtain ⟨a3, c3, rfl, hO3⟩ := OwnB.app hv'
  refine ⟨HeldL.nil, ?_⟩
  refine EPL.p rfl rfl (q_nilCheck rfl) ?_
  refine EPL.p rfl rfl (q_fieldAddr (p := ⟨_, _, none⟩) Try.underlying26 rfl sz24 rfl rfl) ?_
  refine EPL.st (v := .slice _ _ _) (c' := #[.slice _ _ _]) rfl rfl sz24 rfl rfl rfl (oneV rfl) (Nat.le_of_ble_eq_true rfl) rfl HeldL.nil ?_
  refine EPL.nil ?_
  exact end_normal (fun _ => rfl) (fun _ => ⟨rfl, a3, c3, H3, rfl, hO3⟩)

theorem Text_spec (p : Nat) (a : Option Addr) (c : Nat) (out : List UInt8) (H : Hp) (hO : OwnB a c out H) : CallL Try.prog 10 [ptr p] [sg p (PenS a c out), H] (fun r Hs' => r = str out ∧ Hs' = [sg p (PenS a c out), H]) := by
  refine CallL.enter Try.func10 Try.ntmps10 rfl rfl rfl ?_
  refine EL.seq ?_
  refine EL.region [.p 0] (by kernel_rfl) ?_
  refine EPL.p rfl rfl (q_assign (v := .string _) rfl) ?_
  refine EPL.nil ?_
  refine EL.go ?_
  refine EL.seq ?_
  refine EL.region [.p 0, .p 1, .p 2, .l 3, .l 4, .p 5] (by kernel_rfl) ?_
  refine EPL.p rfl rfl (q_move (v := .pointer _) rfl) ?_
  refine EPL.p rfl rfl (q_nilCheck rfl) ?_
  refine EPL.p rfl rfl (q_fieldAddr (p := ⟨_, _, none⟩) Try.underlying26 rfl sz24 rfl rfl) ?_
  refine EPL.ld1 (v := .slice _ _ _) rfl rfl sc24 rfl rfl ?_
  refine EPL.bts rfl rfl Try.underlying24 Try.underlying5 Try.underlying9 rfl (by exact hO) ?_
  refine EPL.p rfl rfl (q_assign (v := .string _) rfl) ?_
  refine EPL.nil ?_
  refine EL.go ?_
  refine EL.ret ?_
  exact end_ret (fun _ => rfl) (fun _ => ⟨rfl, rfl⟩)


/-- A count's bytes. -/
def cntB (n : Int) : List UInt8 := if n ≤ 252 then leB (putK 1) (max n 0) else if n ≤ 65535 then leB (putK 1) 253 ++ leB (putK 2) n else if n ≤ 4294967295 then leB (putK 1) 254 ++ leB (putK 4) n else leB (putK 1) 255 ++ leB (putK 8) n
theorem Put1_spec (p : Nat) (a : Option Addr) (b c : Nat) (out : List UInt8) (n : Int) (H : Hp) (size : Int) (hO : OwnB a c out H) (hb : out.length + 8 ≤ 1099511627776) : CallL Try.prog 7 [ptr p, .int .i64 size, .slice (some ⟨b, 0, none⟩) 1 1] [sg p (PenS a c out), H, sg b (.cells #[.int .i64 n] 3 (0, 0))] (fun r Hs' => r = .tuple #[] ∧ ∃ a' c' H', Hs' = [sg p (PenS a' c' (out ++ leB (putK size) n)), H', sg b (.cells #[.int .i64 n] 3 (0, 0))] ∧ OwnB a' c' (out ++ leB (putK size) n) H') := by
  have := Put_spec p a (some ⟨b, 0, none⟩) c 1 out [n] H (sg b (.cells #[.int .i64 n] 3 (0, 0))) size hO OwnS.one (by simpa using hb)
  simpa [putB] using this

theorem PCount_spec (p : Nat) (a : Option Addr) (c : Nat) (out : List UInt8) (n : Int) (H : Hp) (hO : OwnB a c out H) (hb : out.length + 30 ≤ 1099511627776) : CallL Try.prog 16 [ptr p, .int .i64 n] [sg p (PenS a c out), H] (fun r Hs' => r = .tuple #[] ∧ ∃ a' c' H', Hs' = [sg p (PenS a' c' (out ++ cntB n)), H'] ∧ OwnB a' c' (out ++ cntB n) H') := by
  refine CallL.enter Try.func16 Try.ntmps16 rfl rfl rfl ?_
  refine EL.block ?_
  refine EL.seq ?_
  refine EL.region [.p 0, .p 1, .p 2] (by kernel_rfl) ?_
  refine EPL.p rfl rfl (q_move (v := .int _ _) rfl) ?_
  refine EPL.p rfl rfl (q_leq rfl rfl) ?_
  refine EPL.p rfl rfl (q_assign (v := .bool _) rfl) ?_
  refine EPL.nil ?_
  refine EL.go ?_
  refine EL.cond rfl (fun c1 => ?_) (fun c1 => ?_)
  ·
    have c1 := of_decide_eq_true c1
    refine EL.region [.p 0, .p 1, .p 2, .x 3 [], .x 4 []] (by kernel_rfl) ?_
    refine EPL.p rfl rfl (q_move (v := .pointer _) rfl) ?_
    refine EPL.p rfl rfl (q_move (v := .int _ _) rfl) ?_
    refine EPL.p rfl rfl (q_max rfl rfl) ?_
    refine EPL.bs rfl rfl Try.underlying52 el3 rfl rfl (fill1 (u := .int _ _) rfl rfl) (fun _ => HeldL.nil) (fun b2 => ?_)
    refine EPL.cl rfl rfl Try.func7 rfl rfl (Put1_spec p a b2 c (out) (max n 0) H 1 hO (by omega)) rfl ?_
    rintro _ _ ⟨rfl, a1, c1', H1, rfl, hO1⟩
    refine ⟨HeldL.nil, ?_⟩
    refine EPL.nil ?_
    exact end_normalP [sg p (PenS a1 c1' (out ++ leB (putK 1) (max n 0))), H1] (fun _ => rfl) (fun _ => ⟨rfl, a1, c1', H1, by unfold cntB; rw [if_pos c1], by unfold cntB; rw [if_pos c1]; exact hO1⟩)
  ·
    have c1 := of_decide_eq_false c1
    refine EL.seq ?_
    refine EL.region [.p 0, .p 1, .p 2] (by kernel_rfl) ?_
    refine EPL.p rfl rfl (q_move (v := .int _ _) rfl) ?_
    refine EPL.p rfl rfl (q_leq rfl rfl) ?_
    refine EPL.p rfl rfl (q_assign (v := .bool _) rfl) ?_
    refine EPL.nil ?_
    refine EL.go ?_
    refine EL.cond rfl (fun c3 => ?_) (fun c3 => ?_)
    ·
      have c3 := of_decide_eq_true c3
      refine EL.seq ?_
      refine EL.region [.p 0, .x 1 [], .x 2 []] (by kernel_rfl) ?_
      refine EPL.p rfl rfl (q_move (v := .pointer _) rfl) ?_
      refine EPL.bs rfl rfl Try.underlying52 el3 rfl rfl (fill1 (u := .int _ _) rfl rfl) (fun _ => HeldL.nil) (fun b4 => ?_)
      refine EPL.cl rfl rfl Try.func7 rfl rfl (Put1_spec p a b4 c (out) (253) H 1 hO (by omega)) rfl ?_
      rintro _ _ ⟨rfl, a1, c1', H1, rfl, hO1⟩
      refine ⟨HeldL.nil, ?_⟩
      refine EPL.nil ?_
      refine EL.go ?_
      refine EL.region [.p 0, .p 1, .x 2 [], .x 3 []] (by kernel_rfl) ?_
      refine EPL.p rfl rfl (q_move (v := .pointer _) rfl) ?_
      refine EPL.p rfl rfl (q_move (v := .int _ _) rfl) ?_
      refine EPL.bs rfl rfl Try.underlying52 el3 rfl rfl (fill1 (u := .int _ _) rfl rfl) (fun _ => HeldL.nil) (fun b5 => ?_)
      refine EPL.cl rfl rfl Try.func7 rfl rfl (Put1_spec p a1 b5 c1' (out ++ leB (putK 1) 253) (n) H1 2 hO1 (by rw [List.length_append, leB_length]; have := putK_le 1; omega)) rfl ?_
      rintro _ _ ⟨rfl, a2, c2', H2, rfl, hO2⟩
      refine ⟨HeldL.nil, ?_⟩
      refine EPL.nil ?_
      exact end_normalP [sg p (PenS a2 c2' (out ++ leB (putK 1) 253 ++ leB (putK 2) n)), H2] (fun _ => rfl) (fun _ => have e : cntB n = leB (putK 1) 253 ++ leB (putK 2) n := (by unfold cntB; rw [if_neg c1, if_pos c3]); ⟨rfl, a2, c2', H2, by rw [e, List.append_assoc], by rw [e, ← List.append_assoc]; exact hO2⟩)
    ·
      have c3 := of_decide_eq_false c3
      refine EL.seq ?_
      refine EL.region [.p 0, .p 1, .p 2] (by kernel_rfl) ?_
      refine EPL.p rfl rfl (q_move (v := .int _ _) rfl) ?_
      refine EPL.p rfl rfl (q_leq rfl rfl) ?_
      refine EPL.p rfl rfl (q_assign (v := .bool _) rfl) ?_
      refine EPL.nil ?_
      refine EL.go ?_
      refine EL.cond rfl (fun c6 => ?_) (fun c6 => ?_)
      ·
        have c6 := of_decide_eq_true c6
        refine EL.seq ?_
        refine EL.region [.p 0, .x 1 [], .x 2 []] (by kernel_rfl) ?_
        refine EPL.p rfl rfl (q_move (v := .pointer _) rfl) ?_
        refine EPL.bs rfl rfl Try.underlying52 el3 rfl rfl (fill1 (u := .int _ _) rfl rfl) (fun _ => HeldL.nil) (fun b7 => ?_)
        refine EPL.cl rfl rfl Try.func7 rfl rfl (Put1_spec p a b7 c (out) (254) H 1 hO (by omega)) rfl ?_
        rintro _ _ ⟨rfl, a1, c1', H1, rfl, hO1⟩
        refine ⟨HeldL.nil, ?_⟩
        refine EPL.nil ?_
        refine EL.go ?_
        refine EL.region [.p 0, .p 1, .x 2 [], .x 3 []] (by kernel_rfl) ?_
        refine EPL.p rfl rfl (q_move (v := .pointer _) rfl) ?_
        refine EPL.p rfl rfl (q_move (v := .int _ _) rfl) ?_
        refine EPL.bs rfl rfl Try.underlying52 el3 rfl rfl (fill1 (u := .int _ _) rfl rfl) (fun _ => HeldL.nil) (fun b8 => ?_)
        refine EPL.cl rfl rfl Try.func7 rfl rfl (Put1_spec p a1 b8 c1' (out ++ leB (putK 1) 254) (n) H1 4 hO1 (by rw [List.length_append, leB_length]; have := putK_le 1; omega)) rfl ?_
        rintro _ _ ⟨rfl, a2, c2', H2, rfl, hO2⟩
        refine ⟨HeldL.nil, ?_⟩
        refine EPL.nil ?_
        exact end_normalP [sg p (PenS a2 c2' (out ++ leB (putK 1) 254 ++ leB (putK 4) n)), H2] (fun _ => rfl) (fun _ => have e : cntB n = leB (putK 1) 254 ++ leB (putK 4) n := (by unfold cntB; rw [if_neg c1, if_neg c3, if_pos c6]); ⟨rfl, a2, c2', H2, by rw [e, List.append_assoc], by rw [e, ← List.append_assoc]; exact hO2⟩)
      ·
        have c6 := of_decide_eq_false c6
        refine EL.seq ?_
        refine EL.region [.p 0, .x 1 [], .x 2 []] (by kernel_rfl) ?_
        refine EPL.p rfl rfl (q_move (v := .pointer _) rfl) ?_
        refine EPL.bs rfl rfl Try.underlying52 el3 rfl rfl (fill1 (u := .int _ _) rfl rfl) (fun _ => HeldL.nil) (fun b9 => ?_)
        refine EPL.cl rfl rfl Try.func7 rfl rfl (Put1_spec p a b9 c (out) (255) H 1 hO (by omega)) rfl ?_
        rintro _ _ ⟨rfl, a1, c1', H1, rfl, hO1⟩
        refine ⟨HeldL.nil, ?_⟩
        refine EPL.nil ?_
        refine EL.go ?_
        refine EL.region [.p 0, .p 1, .x 2 [], .x 3 []] (by kernel_rfl) ?_
        refine EPL.p rfl rfl (q_move (v := .pointer _) rfl) ?_
        refine EPL.p rfl rfl (q_move (v := .int _ _) rfl) ?_
        refine EPL.bs rfl rfl Try.underlying52 el3 rfl rfl (fill1 (u := .int _ _) rfl rfl) (fun _ => HeldL.nil) (fun b10 => ?_)
        refine EPL.cl rfl rfl Try.func7 rfl rfl (Put1_spec p a1 b10 c1' (out ++ leB (putK 1) 255) (n) H1 8 hO1 (by rw [List.length_append, leB_length]; have := putK_le 1; omega)) rfl ?_
        rintro _ _ ⟨rfl, a2, c2', H2, rfl, hO2⟩
        refine ⟨HeldL.nil, ?_⟩
        refine EPL.nil ?_
        exact end_normalP [sg p (PenS a2 c2' (out ++ leB (putK 1) 255 ++ leB (putK 8) n)), H2] (fun _ => rfl) (fun _ => have e : cntB n = leB (putK 1) 255 ++ leB (putK 8) n := (by unfold cntB; rw [if_neg c1, if_neg c3, if_neg c6]); ⟨rfl, a2, c2', H2, by rw [e, List.append_assoc], by rw [e, ← List.append_assoc]; exact hO2⟩)

end Go.Proofs.Ytooemjldpchgfaa
