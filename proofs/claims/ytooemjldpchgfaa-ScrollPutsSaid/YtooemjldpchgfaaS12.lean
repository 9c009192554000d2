/- Part S12 of the proofs of this seat: what the functions of the layer answer, in worlds that hold their blocks. -/
import Derived.Test.YtooemjldpchgfaaS11
namespace Go.Proofs.Ytooemjldpchgfaa
open Go Go.Proofs.Ytooemjldpchgfaa.TH

/-- Names, one behind the other. -/
abbrev OwnN (la : Option Addr) (lc : Nat) (hs : List (List UInt8)) (I : Hp) : Prop := OwnS 44 32 (.slice la hs.length lc) hs.length (hs.flatMap fun h => h.map bV) I
theorem join_take {hs : List (List UInt8)} {i : Nat} {x : List UInt8} (h : hs[i]? = some x) : (hs.take (i + 1)).flatten = (hs.take i).flatten ++ x := by
  obtain ⟨hi, hx⟩ := List.getElem?_eq_some_iff.1 h
  rw [List.take_succ_eq_append_getElem hi, hx]; simp
theorem flatten_le {hs : List (List UInt8)} (hw : ∀ h ∈ hs, h.length = 32) : hs.flatten.length = 32 * hs.length := by
  induction hs with
  | nil => rfl
  | cons h hs ih => simp only [List.flatten_cons, List.length_append, hw h List.mem_cons_self, ih fun x hx => hw x (List.mem_cons_of_mem _ hx), List.length_cons]; omega

theorem PNames_spec (p : Nat) (a la : Option Addr) (c lc : Nat) (out : List UInt8) (hs : List (List UInt8)) (H I : Hp) (hw : ∀ h ∈ hs, h.length = 32) (hO : OwnB a c out H) (hI : OwnN la lc hs I) (hb : out.length + 32 * hs.length ≤ 1099511627776) : CallL Try.prog 27 [ptr p, .slice la hs.length lc] [sg p (PenS a c out), H, I] (fun r Hs' => r = .tuple #[] ∧ ∃ a' c' H', Hs' = [sg p (PenS a' c' (out ++ hs.flatten)), H', I] ∧ OwnB a' c' (out ++ hs.flatten) H') := by
  refine CallL.enter Try.func27 Try.ntmps27 rfl rfl rfl ?_
  refine EL.seq ?_
  refine EL.region [.p 0, .p 1, .p 2] (by kernel_rfl) ?_
  refine EPL.p rfl rfl (q_move (v := .slice _ _ _) rfl) ?_
  refine EPL.p rfl rfl (q_lenSl Try.underlying58 rfl) ?_
  refine EPL.p rfl rfl (q_move (v := .int _ _) rfl) ?_
  refine EPL.nil ?_
  refine EL.go ?_
  refine EL.block ?_
  refine EL.loop [5, 8, 9, 10, 11, 12, 13, 14, 15, 16, 17, 18, 19, 20, 21] (fun i : Nat => [(8, .int .i64 i)]) (fun m i Hs' => m + i = hs.length ∧ ∃ a' c' H', Hs' = [sg p (PenS a' c' (out ++ (hs.take i).flatten)), H', I] ∧ OwnB a' c' (out ++ (hs.take i).flatten) H') hs.length 0 ⟨by omega, a, c, H, by simp, by simpa using hO⟩ ⟨rfl, trivial⟩ ?_
  rintro m i _ j ⟨hm, a', c', H', rfl, hO'⟩
  refine EL.seq ?_
  refine EL.region [.p 0] (by kernel_rfl) ?_
  refine EPL.p rfl rfl (q_lss rfl rfl) ?_
  refine EPL.nil ?_
  refine EL.go ?_
  refine EL.seq ?_
  refine EL.cond rfl (fun c1 => ?_) (fun c1 => ?_)
  ·
    have c1 := of_decide_eq_true c1
    obtain ⟨x, hx⟩ : ∃ x, hs[i]? = some x := ⟨_, List.getElem?_eq_getElem (by omega)⟩
    have hx32 : x.length = 32 := hw x (List.mem_of_getElem? hx)
    obtain ⟨b, off, cap, cc, fr, he, hbI, hcs, hcc⟩ := hI.getA (fun h hh => by simp [hw h hh]) hx
    obtain ⟨rfl, rfl⟩ : la = some ⟨b, off, none⟩ ∧ lc = cap := by simpa using he
    have hlen : (out ++ (hs.take i).flatten).length + 32 ≤ 1099511627776 := by
      rw [List.length_append, flatten_le fun h hh => hw h (List.mem_of_mem_take hh)]; simp; omega
    refine EL.skip ?_
    refine EL.go ?_
    refine EL.seq ?_
    refine EL.block ?_
    refine EL.seq ?_
    refine EL.region [.p 0, .l 1, .x 2 [], .x 3 []] (by kernel_rfl) ?_
    refine EPL.p rfl rfl (q_idxSl Try.underlying58 sz44 rfl rfl (by omega) (by omega)) ?_
    refine EPL.ldAP (v := hashV x) rfl rfl ag44 rfl hbI (by simpa using hcs) (congrArg Value.agg (by simpa using hcc)) ?_
    refine EPL.al rfl rfl el44 (fun _ => HeldL.nil) (fun b2 => ?_)
    refine EPL.stA (v := (x.map bV).toArray) rfl rfl sz44 rfl rfl (by simp [hx32]) (bvAll _) rfl HeldL.nil ?_
    refine EPL.nil ?_
    refine EL.go ?_
    refine EL.draw [.p 0, .p 1, .p 2, .p 3, .l 4, .p 5, .x 6 [], .p 7, .p 8, .x 9 []] [6, 9] [4] fm (by kernel_rfl) ?_
    refine EPL.p rfl rfl (q_move (v := .pointer _) rfl) ?_
    refine EPL.p rfl rfl (q_move (v := .pointer _) rfl) ?_
    refine EPL.p rfl rfl (q_nilCheck rfl) ?_
    refine EPL.p rfl rfl (q_fieldAddr (p := ⟨_, _, none⟩) Try.underlying26 rfl sz24 rfl rfl) ?_
    refine EPL.ld1 (v := .slice _ _ _) rfl rfl sc24 rfl rfl ?_
    refine EPL.p rfl rfl (q_slArr Try.underlying44 sz5 (by decide) rfl) ?_
    refine EPL.app rfl rfl Try.underlying24 (.inr ⟨_, Try.underlying24⟩) el5 rfl (by exact hO') rfl (by exact fun hd => Src.pick hd (by simp [hx32]) (by simp [Value.oneCell'])) (by unfold maxLen; omega) (by omega) (fun v' H3 hv' => ?_)
    obtain ⟨a3, c3, rfl, hO3⟩ := OwnB.app (news := x) hv'
    refine ⟨HeldL.nil, ?_⟩
    refine EPL.p rfl rfl (q_nilCheck rfl) ?_
    refine EPL.p rfl rfl (q_fieldAddr (p := ⟨_, _, none⟩) Try.underlying26 rfl sz24 rfl rfl) ?_
    refine EPL.st (v := .slice _ _ _) (c' := #[.slice _ _ _]) rfl rfl sz24 rfl rfl rfl (oneV rfl) (Nat.le_of_ble_eq_true rfl) rfl HeldL.nil ?_
    refine EPL.nil ?_
    refine EL.go ?_
    refine EL.region [.p 0, .p 1] (by kernel_rfl) ?_
    refine EPL.p rfl rfl (q_add rfl rfl) ?_
    refine EPL.p rfl rfl (q_move (v := .int _ _) rfl) ?_
    refine EPL.nil ?_
    refine RoundQ.mkP (m - 1) (i + 1) [sg p (PenS a3 c3 (out ++ (hs.take i).flatten ++ x)), H3, I] (by omega) ⟨by omega, a3, c3, H3, by rw [join_take hx, List.append_assoc], by rw [join_take hx, ← List.append_assoc]; exact hO3⟩ (by repeat first | exact Off.mix | exact Off.refl | refine Off.upd rfl ?_ | refine Off.upds rfl ?_ | refine Off.mixs rfl ?_) ⟨congrArg (Value.int .i64) (wrap_i64_in (by omega)), trivial⟩
  ·
    have c1 := of_decide_eq_false c1
    have ht : hs.take i = hs := List.take_of_length_le (by omega)
    rw [ht] at hO' ⊢
    refine EL.exit ?_
    exact end_normal (fun _ => rfl) (fun _ => ⟨rfl, a', c', H', rfl, hO'⟩)


structure Itm where
  kind : Int
  size : Int
  n : Int
  name : List UInt8
  text : List UInt8
def Itm.cells (x : Itm) : List Value := [.int .i64 x.kind, .int .i64 x.size, .int .i64 x.n] ++ (x.name.map bV ++ [str x.text])
def Itm.ok (x : Itm) : Prop := x.name.length = 32 ∧ (-9223372036854775808 ≤ x.n ∧ x.n < 9223372036854775808)
theorem Itm.len {x : Itm} (h : x.ok) : x.cells.length = 36 := by simp [Itm.cells, h.1]
theorem Itm.sz {x : Itm} (h : x.ok) : x.cells.toArray.size = 36 := by simp [Itm.len h]
theorem Itm.c0 (x : Itm) : x.cells.toArray[0]? = some (.int .i64 x.kind) := rfl
theorem Itm.c1 (x : Itm) : x.cells.toArray[1]? = some (.int .i64 x.size) := rfl
theorem Itm.c2 (x : Itm) : x.cells.toArray[2]? = some (.int .i64 x.n) := rfl
theorem Itm.c35 {x : Itm} (h : x.ok) : x.cells.toArray[35]? = some (str x.text) := by
  have h1 := h.1
  simp only [Itm.cells, List.getElem?_toArray]
  rw [List.getElem?_append_right (by simp), List.getElem?_append_right (by simp [h1])]
  simp [h1]
theorem Itm.c3 {x : Itm} (h : x.ok) : x.cells.toArray.extract 3 (3 + 32) = (x.name.map bV).toArray := by
  have h1 := h.1
  refine extract_of ?_
  show ((x.name.map bV ++ [str x.text]).take 32) = _
  rw [List.take_append_of_le_length (by simp [h1]), List.take_of_length_le (by simp [h1])]
theorem Itm.one (x : Itm) : ∀ u ∈ x.cells.toArray.toList, u.oneCell' = true := by
  intro u hu
  simp only [Itm.cells, List.mem_append, List.mem_cons, List.mem_map, List.not_mem_nil, or_false] at hu
  rcases hu with (rfl | rfl | rfl) | (⟨x, _, rfl⟩ | rfl) <;> rfl
/-- Items, one behind the other. -/
abbrev OwnI (la : Option Addr) (lc : Nat) (l : List Itm) (I : Hp) : Prop := RdS 36 (.slice la l.length lc) l.length (l.flatMap Itm.cells) I
def textLen (l : List Itm) : Nat := (l.map fun x => x.text.length).sum
def greatR (l : List Itm) : Bool := decide (4096 < textLen l) || decide (40 < l.length)
theorem textLen_take {l : List Itm} {i : Nat} {x : Itm} (h : l[i]? = some x) : textLen (l.take (i + 1)) = textLen (l.take i) + x.text.length := by
  obtain ⟨hi, hx⟩ := List.getElem?_eq_some_iff.1 h
  rw [List.take_succ_eq_append_getElem hi, hx]; simp [textLen]
theorem textLen_le (l : List Itm) (i : Nat) : textLen (l.take i) ≤ textLen l := by
  have h : textLen l = textLen (l.take i) + textLen (l.drop i) := by
    conv => lhs; rw [← List.take_append_drop i l]
    simp [textLen, -List.take_append_drop]
  omega

theorem great_spec (la : Option Addr) (lc : Nat) (l : List Itm) (I : Hp) (hw : ∀ x ∈ l, x.ok) (hI : OwnI la lc l I) (hs : ∀ x ∈ l, x.text.length ≤ 9223372036854771711) : CallL Try.prog 18 [.slice la l.length lc] [I] (fun r Hs' => r = .bool (greatR l) ∧ Hs' = [I]) := by
  refine CallL.enter Try.func18 Try.ntmps18 rfl rfl rfl ?_
  refine EL.seq ?_
  refine EL.region [.p 0] (by kernel_rfl) ?_
  refine EPL.p rfl rfl (q_assign (v := .bool _) rfl) ?_
  refine EPL.nil ?_
  refine EL.go ?_
  refine EL.seq ?_
  refine EL.region [.p 0] (by kernel_rfl) ?_
  refine EPL.p rfl rfl (q_assign (v := .int _ _) rfl) ?_
  refine EPL.nil ?_
  refine EL.go ?_
  refine EL.seq ?_
  refine EL.seq ?_
  refine EL.region [.p 0, .p 1, .p 2] (by kernel_rfl) ?_
  refine EPL.p rfl rfl (q_move (v := .slice _ _ _) rfl) ?_
  refine EPL.p rfl rfl (q_lenSl Try.underlying39 rfl) ?_
  refine EPL.p rfl rfl (q_move (v := .int _ _) rfl) ?_
  refine EPL.nil ?_
  refine EL.go ?_
  refine EL.block ?_
  refine EL.loop [2, 3, 5, 8, 9, 10, 11, 12, 13, 14, 15, 16, 17, 18, 19] (fun i : Nat => [(3, .int .i64 (textLen (l.take i))), (8, .int .i64 i)]) (fun m i Hs' => m + i = l.length ∧ textLen (l.take i) ≤ 4096 ∧ Hs' = [I]) l.length 0 ⟨by omega, by simp [textLen], rfl⟩ ⟨rfl, rfl, trivial⟩ ?_
  rintro m i _ j ⟨hm, ht4, rfl⟩
  have hmx := hI.max
  refine EL.seq ?_
  refine EL.region [.p 0] (by kernel_rfl) ?_
  refine EPL.p rfl rfl (q_lss rfl rfl) ?_
  refine EPL.nil ?_
  refine EL.go ?_
  refine EL.seq ?_
  refine EL.cond rfl (fun c1 => ?_) (fun c1 => ?_)
  ·
    have c1 := of_decide_eq_true c1
    obtain ⟨x, hx⟩ : ∃ x, l[i]? = some x := ⟨_, List.getElem?_eq_getElem (by omega)⟩
    have hxo : x.ok := hw x (List.mem_of_getElem? hx)
    obtain ⟨b, off, cap, cc, ety, fr, he, hbI, hcs, hcc⟩ := hI.getA (fun y hy => Itm.len (hw y hy)) hx
    obtain ⟨rfl, rfl⟩ : la = some ⟨b, off, none⟩ ∧ lc = cap := by simpa using he
    have hx4 := hs x (List.mem_of_getElem? hx)
    have htl := textLen_take hx
    have htw : IntKind.i64.wrap ((textLen (l.take i) : Nat) + (x.text.length : Int)) = (textLen (l.take (i + 1)) : Nat) := by rw [htl, wrap_i64_in (by omega)]; omega
    refine EL.skip ?_
    refine EL.go ?_
    refine EL.seq ?_
    refine EL.block ?_
    refine EL.seq ?_
    refine EL.region [.p 0, .l 1, .x 2 [], .x 3 []] (by kernel_rfl) ?_
    refine EPL.p rfl rfl (q_idxSl Try.underlying39 sz46 rfl rfl (by omega) (by omega)) ?_
    refine EPL.ldAP (v := .agg x.cells.toArray) rfl rfl ag46 rfl hbI (by simpa using hcs) (congrArg Value.agg (by simpa using hcc)) ?_
    refine EPL.al rfl rfl el46 (fun _ => HeldL.nil) (fun b2 => ?_)
    refine EPL.stA (v := x.cells.toArray) rfl rfl sz46 rfl rfl (Itm.sz hxo) (Itm.one x) rfl HeldL.nil ?_
    refine EPL.nil ?_
    refine EL.go ?_
    refine EL.seq ?_
    refine EL.region [.p 0, .p 1, .l 2, .p 3, .p 4, .p 5] (by kernel_rfl) ?_
    refine EPL.p rfl rfl (q_move (v := .int _ _) rfl) ?_
    refine EPL.p rfl rfl (q_fieldAddr (p := ⟨_, _, none⟩) Try.underlying46 rfl sz9 rfl rfl) ?_
    refine EPL.ld1 (v := str x.text) rfl rfl sc9 rfl (by exact Itm.c35 hxo) ?_
    refine EPL.p rfl rfl (q_lenStr Try.underlying9 rfl) ?_
    refine EPL.p rfl rfl (q_add rfl rfl) ?_
    refine EPL.p rfl rfl (q_assign (v := .int _ _) rfl) ?_
    refine EPL.nil ?_
    refine EL.go ?_
    refine EL.seq ?_
    refine EL.region [.p 0, .p 1] (by kernel_rfl) ?_
    refine EPL.p rfl rfl (q_move (v := .int _ _) rfl) ?_
    refine EPL.p rfl rfl (q_gtr rfl rfl) ?_
    refine EPL.nil ?_
    refine EL.go ?_
    refine EL.cond rfl (fun c3 => ?_) (fun c3 => ?_)
    ·
      have c3 := of_decide_eq_true c3
      refine EL.seq ?_
      refine EL.region [.p 0] (by kernel_rfl) ?_
      refine EPL.p rfl rfl (q_assign (v := .bool _) rfl) ?_
      refine EPL.nil ?_
      refine EL.go ?_
      refine EL.ret ?_
      exact end_retP [I] (fun _ => rfl) (fun _ => ⟨congrArg Value.bool (by unfold greatR; have := textLen_le l (i + 1); rw [htw] at c3; rw [decide_eq_true (by omega)]; rfl), rfl⟩)
    ·
      have c3 := of_decide_eq_false c3
      refine EL.skip ?_
      refine EL.go ?_
      refine EL.region [.p 0, .p 1] (by kernel_rfl) ?_
      refine EPL.p rfl rfl (q_add rfl rfl) ?_
      refine EPL.p rfl rfl (q_move (v := .int _ _) rfl) ?_
      refine EPL.nil ?_
      refine RoundQ.mkP (m - 1) (i + 1) [I] (by omega) ⟨by omega, by rw [htw] at c3; omega, rfl⟩ (by repeat first | exact Off.mix | exact Off.refl | refine Off.upd rfl ?_ | refine Off.upds rfl ?_ | refine Off.mixs rfl ?_) ⟨congrArg (Value.int .i64) htw, congrArg (Value.int .i64) (wrap_i64_in (by omega)), trivial⟩
  ·
    have c1 := of_decide_eq_false c1
    have ht : l.take i = l := List.take_of_length_le (by omega)
    rw [ht] at ht4
    refine EL.exit ?_
    refine EL.go ?_
    refine EL.seq ?_
    refine EL.region [.p 0, .p 1, .p 2, .p 3] (by kernel_rfl) ?_
    refine EPL.p rfl rfl (q_move (v := .slice _ _ _) rfl) ?_
    refine EPL.p rfl rfl (q_lenSl Try.underlying39 rfl) ?_
    refine EPL.p rfl rfl (q_gtr rfl rfl) ?_
    refine EPL.p rfl rfl (q_assign (v := .bool _) rfl) ?_
    refine EPL.nil ?_
    refine EL.go ?_
    refine EL.ret ?_
    exact end_ret (fun _ => rfl) (fun _ => ⟨congrArg Value.bool (by unfold greatR; rw [show decide (4096 < textLen l) = false from decide_eq_false (by omega), Bool.false_or]; exact decide_eq_decide.2 (by omega)), rfl⟩)

end Go.Proofs.Ytooemjldpchgfaa
