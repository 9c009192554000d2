/- Part S4 of the proofs of this seat: what the functions of the layer answer, in worlds that hold their blocks. -/
import Derived.Test.YtooemjldpchgfaaS3
namespace Go.Proofs.Ytooemjldpchgfaa
open Go Go.Proofs.Ytooemjldpchgfaa.TH

abbrev PenS (a : Option Addr) (c : Nat) (out : List UInt8) : Obj := PenB (.slice a out.length c)
abbrev OwnB (a : Option Addr) (c : Nat) (out : List UInt8) (H : Hp) : Prop := OwnS 5 1 (.slice a out.length c) out.length (out.map bV) H
theorem OwnB.app {v : Value} {out news : List UInt8} {m : Nat} {H : Hp} (h : OwnS 5 1 v (out.length + m) (out.map bV ++ news.map bV) H) : ∃ a c, v = .slice a (out ++ news).length c ∧ OwnB a c (out ++ news) H := by
  have hm : (out ++ news).length = out.length + m := by have := h.1; simp at this; simp; omega
  obtain ⟨a, c, rfl⟩ := h.sl
  refine ⟨a, c, by rw [hm], ?_⟩
  unfold OwnB
  rw [hm, List.map_append]; exact h
def putK (size : Int) : Nat := (min (max size 1) 8).toNat
theorem putK_eq (size : Int) : min (max size 1) 8 = (putK size : Int) := by unfold putK; omega
theorem putK_le (size : Int) : putK size ≤ 8 := by unfold putK; omega
def putB (size : Int) (ns : List Int) : List UInt8 := ns.flatMap (leB (putK size))
theorem putB_take (size : Int) {ns : List Int} {i : Nat} {x : Int} (h : ns[i]? = some x) : putB size (ns.take (i + 1)) = putB size (ns.take i) ++ leB (putK size) x := by
  obtain ⟨hi, hx⟩ := List.getElem?_eq_some_iff.1 h
  rw [List.take_succ_eq_append_getElem hi, hx]
  simp [putB]
theorem putB_len (size : Int) (ns : List Int) : (putB size ns).length ≤ 8 * ns.length := by
  unfold putB
  induction ns with
  | nil => simp
  | cons n ns ih => have := putK_le size; simp only [List.flatMap_cons, List.length_append, leB_length, List.length_cons]; omega
theorem bvOne (l : List UInt8) : ∀ u ∈ l.map bV, u.oneCell' = true := by intro u hu; obtain ⟨x, _, rfl⟩ := List.mem_map.1 hu; rfl

theorem Put_spec (p : Nat) (a la : Option Addr) (c lc : Nat) (out : List UInt8) (ns : List Int) (H I : Hp) (size : Int) (hO : OwnB a c out H) (hI : OwnS 3 1 (.slice la ns.length lc) ns.length (ns.map (.int .i64)) I) (hb : out.length + 8 * ns.length ≤ 1099511627776) : CallL Try.prog 7 [ptr p, .int .i64 size, .slice la ns.length lc] [sg p (PenS a c out), H, I] (fun r Hs' => r = .tuple #[] ∧ ∃ a' c' H', Hs' = [sg p (PenS a' c' (out ++ putB size ns)), H', I] ∧ OwnB a' c' (out ++ putB size ns) H') := by
  refine CallL.enter Try.func7 Try.ntmps7 rfl rfl rfl ?_
  refine EL.seq ?_
  refine EL.region [.p 0, .p 1, .p 2] (by kernel_rfl) ?_
  refine EPL.p rfl rfl (q_move (v := .slice _ _ _) rfl) ?_
  refine EPL.p rfl rfl (q_lenSl Try.underlying52 rfl) ?_
  refine EPL.p rfl rfl (q_move (v := .int _ _) rfl) ?_
  refine EPL.nil ?_
  refine EL.go ?_
  refine EL.block ?_
  refine EL.loop [7, 8, 11, 12, 13, 14, 15, 16, 17, 18, 19, 20, 21, 22, 23, 24, 25, 26, 27, 28, 29, 30, 31, 32, 33, 34, 35, 36] (fun i : Nat => [(11, .int .i64 i)]) (fun m i Hs' => m + i = ns.length ∧ ∃ a' c' H', Hs' = [sg p (PenS a' c' (out ++ putB size (ns.take i))), H', I] ∧ OwnB a' c' (out ++ putB size (ns.take i)) H') ns.length 0 ⟨by omega, a, c, H, by simp [putB], by simpa [putB] using hO⟩ ⟨rfl, trivial⟩ ?_
  rintro m i _ j ⟨hm, a', c', H', rfl, hO'⟩
  refine EL.seq ?_
  refine EL.region [.p 0] (by kernel_rfl) ?_
  refine EPL.p rfl rfl (q_lss rfl rfl) ?_
  refine EPL.nil ?_
  refine EL.go ?_
  refine EL.seq ?_
  refine EL.cond rfl (fun c1 => ?_) (fun c1 => ?_)
  ·
    have c1 := of_decide_eq_true c1
    obtain ⟨x, hx⟩ : ∃ x, ns[i]? = some x := ⟨_, List.getElem?_eq_getElem (by omega)⟩
    obtain ⟨b, off, cap, cc, fr, he, hbI, hcc⟩ := hI.get1 (i := i) (u := .int .i64 x) (by simp [hx])
    obtain ⟨rfl, rfl⟩ : la = some ⟨b, off, none⟩ ∧ lc = cap := by simpa using he
    refine EL.skip ?_
    refine EL.go ?_
    refine EL.seq ?_
    refine EL.block ?_
    refine EL.seq ?_
    refine EL.region [.p 0, .l 1, .p 2] (by kernel_rfl) ?_
    refine EPL.p rfl rfl (q_idxSl Try.underlying52 sz3 rfl rfl (by omega) (by omega)) ?_
    refine EPL.ld1P (v := .int _ _) rfl rfl sc3 rfl hbI (by simpa using hcc) ?_
    refine EPL.p rfl rfl (q_assign (v := .int _ _) rfl) ?_
    refine EPL.nil ?_
    refine EL.go ?_
    refine EL.seq ?_
    refine EL.region [.p 0, .p 1, .p 2, .p 3] (by kernel_rfl) ?_
    refine EPL.p rfl rfl (q_move (v := .int _ _) rfl) ?_
    refine EPL.p rfl rfl (q_max rfl rfl) ?_
    refine EPL.p rfl rfl (q_min rfl rfl) ?_
    refine EPL.p rfl rfl (q_move (v := .int _ _) rfl) ?_
    refine EPL.nil ?_
    refine EL.go ?_
    refine EL.block ?_
    have hK := putK_eq size
    have hK8 := putK_le size
    have hlen : (out ++ putB size (ns.take i)).length + 8 ≤ 1099511627776 := by
      have := putB_len size (ns.take i)
      simp at this ⊢; omega
    refine EL.loop [8, 18, 19, 20, 21, 22, 23, 24, 25, 26, 27, 28, 29, 30, 31, 32, 33, 34, 35] (fun i2 : Nat => [(18, .int .i64 i2)]) (fun m2 i2 Hs' => m2 + i2 = putK size ∧ ∃ a' c' H', Hs' = [sg p (PenS a' c' (out ++ putB size (ns.take i) ++ leB i2 x)), H', I] ∧ OwnB a' c' (out ++ putB size (ns.take i) ++ leB i2 x) H') (putK size) 0 ⟨by omega, a', c', H', by simp [leB], by simpa [leB] using hO'⟩ ⟨rfl, trivial⟩ ?_
    rintro m2 i2 _ j2 ⟨hm2, a2, c2', H2, rfl, hO2⟩
    have hl2 : (out ++ putB size (ns.take i) ++ leB i2 x).length = (out ++ putB size (ns.take i)).length + i2 := by rw [List.length_append, leB_length]
    refine EL.seq ?_
    refine EL.region [.p 0] (by kernel_rfl) ?_
    refine EPL.p rfl rfl (q_lss rfl rfl) ?_
    refine EPL.nil ?_
    refine EL.go ?_
    refine EL.seq ?_
    refine EL.cond rfl (fun c2 => ?_) (fun c2 => ?_)
    ·
      have c2 := of_decide_eq_true c2
      refine EL.skip ?_
      refine EL.go ?_
      refine EL.seq ?_
      refine EL.block ?_
      refine EL.seq ?_
      refine EL.region [.p 0, .p 1] (by kernel_rfl) ?_
      refine EPL.p rfl rfl (q_move (v := .int _ _) rfl) ?_
      refine EPL.p rfl rfl (q_assign (v := .int _ _) rfl) ?_
      refine EPL.nil ?_
      refine EL.go ?_
      refine EL.draw [.p 0, .p 1, .p 2, .p 3, .l 4, .p 5, .p 6, .p 7, .p 8, .p 9, .x 10 [4], .x 11 [], .p 12, .p 13, .x 14 []] [10, 11, 14] [4] fm (by kernel_rfl) ?_
      refine EPL.p rfl rfl (q_move (v := .pointer _) rfl) ?_
      refine EPL.p rfl rfl (q_move (v := .pointer _) rfl) ?_
      refine EPL.p rfl rfl (q_nilCheck rfl) ?_
      refine EPL.p rfl rfl (q_fieldAddr (p := ⟨_, _, none⟩) Try.underlying26 rfl sz24 rfl rfl) ?_
      refine EPL.ld1 (v := .slice _ _ _) rfl rfl sc24 rfl rfl ?_
      refine EPL.p rfl rfl (q_move (v := .int _ _) rfl) ?_
      refine EPL.p rfl rfl (q_move (v := .int _ _) rfl) ?_
      refine EPL.p rfl rfl (q_mul rfl rfl) ?_
      refine EPL.p rfl rfl (q_shr rfl rfl (by first | decide | omega | (rw [wrap_i64_in (by omega)]; omega))) ?_
      refine EPL.p rfl rfl (q_conv Try.underlying3 Try.underlying5 rfl) ?_
      refine EPL.bs rfl rfl Try.underlying24 el5 rfl rfl (fill1 (u := .int _ _) rfl rfl) (fun _ => (HeldL.ld1 rfl rfl sc24 rfl rfl HeldL.nil)) (fun b3 => ?_)
      refine EPL.app rfl rfl Try.underlying24 (.inr ⟨_, Try.underlying24⟩) el5 rfl (by exact hO2) rfl (by exact fun hd => Src.pick hd rfl rfl) (by unfold maxLen; omega) (by omega) (fun v' H3 hv' => ?_)
      rw [shr_u8 x (by omega)] at hv'
      obtain ⟨a3, c3, rfl, hO3⟩ := OwnB.app (news := [byteAt x i2]) hv'
      refine ⟨HeldL.nil, ?_⟩
      refine EPL.p rfl rfl (q_nilCheck rfl) ?_
      refine EPL.p rfl rfl (q_fieldAddr (p := ⟨_, _, none⟩) Try.underlying26 rfl sz24 rfl rfl) ?_
      refine EPL.st (v := .slice _ _ _) (c' := #[.slice _ _ _]) rfl rfl sz24 rfl rfl rfl (oneV rfl) (Nat.le_of_ble_eq_true rfl) rfl HeldL.nil ?_
      refine EPL.nil ?_
      refine EL.go ?_
      refine EL.region [.p 0, .p 1] (by kernel_rfl) ?_
      refine EPL.p rfl rfl (q_add rfl rfl) ?_
      refine EPL.p rfl rfl (q_move (v := .int _ _) rfl) ?_
      refine EPL.nil ?_
      refine RoundQ.mkP (m2 - 1) (i2 + 1) [sg p (PenS a3 c3 (out ++ putB size (ns.take i) ++ leB i2 x ++ [byteAt x i2])), H3, I] (by omega) ⟨by omega, a3, c3, H3, by rw [leB_succ, ← List.append_assoc], by rw [leB_succ, ← List.append_assoc]; exact hO3⟩ (by repeat first | exact Off.mix | exact Off.refl | refine Off.upd rfl ?_ | refine Off.upds rfl ?_ | refine Off.mixs rfl ?_) ⟨congrArg (Value.int .i64) (wrap_i64_in (by omega)), trivial⟩
    ·
      have c2 := of_decide_eq_false c2
      have hi2 : i2 = putK size := by omega
      subst hi2
      refine EL.exit ?_
      refine EL.go ?_
      refine EL.region [.p 0, .p 1] (by kernel_rfl) ?_
      refine EPL.p rfl rfl (q_add rfl rfl) ?_
      refine EPL.p rfl rfl (q_move (v := .int _ _) rfl) ?_
      refine EPL.nil ?_
      refine RoundQ.mk (m - 1) (i + 1) (by omega) ⟨by omega, a2, c2', H2, by rw [putB_take size hx, List.append_assoc], by rw [putB_take size hx, ← List.append_assoc]; exact hO2⟩ (by repeat first | exact Off.mix | exact Off.refl | refine Off.upd rfl ?_ | refine Off.upds rfl ?_ | refine Off.mixs rfl ?_) ⟨congrArg (Value.int .i64) (wrap_i64_in (by omega)), trivial⟩
  ·
    have c1 := of_decide_eq_false c1
    have ht : ns.take i = ns := List.take_of_length_le (by omega)
    rw [ht] at hO' ⊢
    refine EL.exit ?_
    exact end_normal (fun _ => rfl) (fun _ => ⟨rfl, a', c', H', rfl, hO'⟩)

end Go.Proofs.Ytooemjldpchgfaa
