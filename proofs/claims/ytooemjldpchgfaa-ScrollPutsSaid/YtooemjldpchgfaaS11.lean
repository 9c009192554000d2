/- Part S11 of the proofs of this seat: what the functions of the layer answer, in worlds that hold their blocks. -/
import Derived.Test.YtooemjldpchgfaaL1
namespace Go.Proofs.Ytooemjldpchgfaa
open Go Go.Proofs.Ytooemjldpchgfaa.TH

abbrev hashV (h : List UInt8) : Value := .agg (h.map bV).toArray
abbrev HashB (h : List UInt8) : Obj := .cells (h.map bV).toArray 44 (0, 0)

theorem RName_spec (h : List UInt8) (hh : h.length = 32) : CallL Try.prog 28 [hashV h] [] (fun r Hs' => r = str h ∧ Hs' = []) := by
  refine CallL.enter Try.func28 Try.ntmps28 rfl rfl rfl ?_
  refine EL.seq ?_
  refine EL.region [.x 0 [], .p 1] (by kernel_rfl) ?_
  refine EPL.box (c := (h.map bV).toArray) rfl rfl rfl (fun _ => HeldL.nil) (fun b1 => ?_)
  refine EPL.p rfl rfl (q_assign (v := .string _) rfl) ?_
  refine EPL.nil ?_
  refine EL.go ?_
  refine EL.seq ?_
  refine EL.region [.p 0] (by kernel_rfl) ?_
  refine EPL.p rfl rfl (q_assign (v := .string _) rfl) ?_
  refine EPL.nil ?_
  refine EL.go ?_
  refine EL.seq ?_
  refine EL.seq ?_
  refine EL.region [.p 0] (by kernel_rfl) ?_
  refine EPL.p rfl rfl (q_assign (v := .int _ _) rfl) ?_
  refine EPL.nil ?_
  refine EL.go ?_
  refine EL.block ?_
  refine EL.loop [3, 4, 5, 6, 7, 8, 9, 10, 11, 12, 13, 14, 15] (fun i : Nat => [(3, str (h.take i)), (4, .int .i64 i)]) (fun m i Hs' => m + i = 32 ∧ Hs' = [sg b1 (HashB h)]) 32 0 ⟨by omega, rfl⟩ ⟨rfl, rfl, trivial⟩ ?_
  rintro m i _ j ⟨hm, rfl⟩
  refine EL.seq ?_
  refine EL.seq ?_
  refine EL.region [.p 0, .p 1] (by kernel_rfl) ?_
  refine EPL.p rfl rfl (q_move (v := .int _ _) rfl) ?_
  refine EPL.p rfl rfl (q_lss rfl rfl) ?_
  refine EPL.nil ?_
  refine EL.go ?_
  refine EL.cond rfl (fun c2 => ?_) (fun c2 => ?_)
  ·
    have c2 := of_decide_eq_true c2
    obtain ⟨x, hx⟩ : ∃ x, h[i]? = some x := ⟨_, List.getElem?_eq_getElem (by omega)⟩
    refine EL.skip ?_
    refine EL.go ?_
    refine EL.seq ?_
    refine EL.block ?_
    refine EL.region [.p 0, .p 1, .p 2, .l 3, .x 4 [], .l 5, .p 6, .p 7] (by kernel_rfl) ?_
    refine EPL.p rfl rfl (q_move (v := .string _) rfl) ?_
    refine EPL.p rfl rfl (q_move (v := .int _ _) rfl) ?_
    refine EPL.p rfl rfl (q_idxArr Try.underlying44 sz5 rfl rfl (by omega) (by omega)) ?_
    refine EPL.ld1 (v := bV x) rfl rfl sc5 rfl (by simp [hx]) ?_
    refine EPL.bs rfl rfl Try.underlying24 el5 rfl rfl (fill1 (u := .int _ _) rfl rfl) (fun _ => HeldL.nil) (fun b3 => ?_)
    refine EPL.btsP (l := [x]) rfl rfl Try.underlying24 Try.underlying5 Try.underlying9 rfl rfl ⟨Nat.le_refl _, Nat.le_refl _⟩ (by unfold maxLen; decide) rfl okF.z ?_
    refine EPL.p rfl rfl (q_strcat rfl rfl (by simp; omega)) ?_
    refine EPL.p rfl rfl (q_assign (v := .string _) rfl) ?_
    refine EPL.nil ?_
    refine EL.go ?_
    refine EL.region [.p 0, .p 1, .p 2] (by kernel_rfl) ?_
    refine EPL.p rfl rfl (q_move (v := .int _ _) rfl) ?_
    refine EPL.p rfl rfl (q_add rfl rfl) ?_
    refine EPL.p rfl rfl (q_assign (v := .int _ _) rfl) ?_
    refine EPL.nil ?_
    refine RoundQ.mkP (m - 1) (i + 1) [sg b1 (HashB h)] (by omega) ⟨by omega, rfl⟩ (by repeat first | exact Off.mix | exact Off.refl | refine Off.upd rfl ?_ | refine Off.upds rfl ?_ | refine Off.mixs rfl ?_) ⟨congrArg (fun l => str l) (by obtain ⟨hi, hx2⟩ := List.getElem?_eq_some_iff.1 hx; rw [List.take_succ_eq_append_getElem hi, hx2]), congrArg (Value.int .i64) (wrap_i64_in (by omega)), trivial⟩
  ·
    have c2 := of_decide_eq_false c2
    obtain rfl : i = 32 := by omega
    have ht : h.take 32 = h := List.take_of_length_le (by omega)
    rw [ht] at *
    refine EL.exit ?_
    refine EL.go ?_
    refine EL.seq ?_
    refine EL.region [.p 0, .p 1] (by kernel_rfl) ?_
    refine EPL.p rfl rfl (q_move (v := .string _) rfl) ?_
    refine EPL.p rfl rfl (q_assign (v := .string _) rfl) ?_
    refine EPL.nil ?_
    refine EL.go ?_
    refine EL.ret ?_
    exact end_retP [] (fun _ => rfl) (fun _ => ⟨rfl, rfl⟩)


/-- The name that is read. -/
def nameR (s : List UInt8) (bad : Bool) : List UInt8 := if (rawR s bad 32).1.length = 32 then (rawR s bad 32).1 else List.replicate 32 0
theorem z44_eq : z44 = (List.replicate 32 (0 : UInt8)).map bV := rfl
theorem rawR_32 (s : List UInt8) (bad : Bool) : (rawR s bad 32).1.length = 32 ∨ (rawR s bad 32).1 = [] := by
  unfold rawR
  split
  · rename_i h
    simp at h
    left; simp; omega
  · right; rfl
theorem nameR_len (s : List UInt8) (bad : Bool) : (nameR s bad).length = 32 := by
  unfold nameR
  split
  · assumption
  · simp
theorem name_copy (s : List UInt8) (bad : Bool) : setL z44.toArray 0 (((rawR s bad 32).1.take (min (rawR s bad 32).1.length 32)).map bV) = ((nameR s bad).map bV).toArray := by
  unfold nameR
  rcases rawR_32 s bad with h | h
  · rw [if_pos h, h, List.take_of_length_le (by rw [h]; decide), setL_all (by simp [h, z44])]
  · rw [h]; rfl

theorem EName_spec (g : Nat) (s : List UInt8) (bad : Bool) : CallL Try.prog 23 [ptr g] [sg g (EyeB s bad)] (fun r Hs' => r = hashV (nameR s bad) ∧ Hs' = [sg g (EyeB (rawR s bad 32).2.1 (rawR s bad 32).2.2)]) := by
  refine CallL.enter Try.func23 Try.ntmps23 rfl rfl rfl ?_
  refine EL.seq ?_
  refine EL.region [.x 0 []] (by kernel_rfl) ?_
  refine EPL.al rfl rfl el44 (fun _ => HeldL.nil) (fun b1 => ?_)
  refine EPL.nil ?_
  refine EL.go ?_
  refine EL.seq ?_
  refine EL.region [.x 0 []] (by kernel_rfl) ?_
  refine EPL.al rfl rfl el44 (fun _ => HeldL.nil) (fun b2 => ?_)
  refine EPL.nil ?_
  refine EL.go ?_
  refine EL.seq ?_
  refine EL.draw [.p 0, .p 1, .x 2 [], .x 3 []] [2, 3] [] fm (by kernel_rfl) ?_
  refine EPL.p rfl rfl (q_slArr Try.underlying44 sz5 (by decide) rfl) ?_
  refine EPL.p rfl rfl (q_move (v := .pointer _) rfl) ?_
  refine EPL.cl rfl rfl Try.func24 rfl rfl (Raw_spec' g s bad 32) rfl ?_
  rintro _ _ ⟨rfl, rfl⟩
  refine ⟨HeldL.nil, ?_⟩
  refine EPL.cp (c' := ((nameR s bad).map bV).toArray) rfl rfl Try.underlying24 sz5 rfl (by exact fun _ => CSrc.str) rfl okF.z (by simp [z44]; omega) (name_copy s bad) HeldL.nil ?_
  refine EPL.nil ?_
  refine EL.go ?_
  refine EL.seq ?_
  refine EL.region [.l 0, .x 1 []] (by kernel_rfl) ?_
  refine EPL.ldAw rfl rfl ag44 rfl (by simp [nameR_len]) ?_
  refine EPL.stA (v := ((nameR s bad).map bV).toArray) rfl rfl sz44 rfl rfl (by simp [nameR_len]) (bvAll _) rfl HeldL.nil ?_
  refine EPL.nil ?_
  refine EL.go ?_
  refine EL.ret ?_
  exact end_retP (vs := [hashV (nameR s bad)]) [sg g (EyeB (rawR s bad 32).2.1 (rawR s bad 32).2.2)] (fun hd => resL_one (rv_cellA (e := 44) (fr := (0, 0)) ag44 rfl (TakeP.sub (H := sg b1 (HashB (nameR s bad))) hd b1 _ sg_self) (by simp [nameR_len]))) (fun _ => ⟨rfl, rfl⟩)

end Go.Proofs.Ytooemjldpchgfaa
