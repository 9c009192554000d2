/- Part S13 of the proofs of this seat: what the functions of the layer answer, in worlds that hold their blocks. -/
import Derived.Test.YtooemjldpchgfaaS12
namespace Go.Proofs.Ytooemjldpchgfaa
open Go Go.Proofs.Ytooemjldpchgfaa.TH

/-- What an item's bytes are. -/
def itemB (x : Itm) : List UInt8 := if x.kind = 0 then leB (putK x.size) x.n ++ leB (putK x.size) x.n else if x.kind = 1 then refCnt x.n else if x.kind = 2 then x.name else if x.kind = 3 then x.text else []
def itemsB (l : List Itm) : List UInt8 := l.flatMap itemB
theorem itemsB_take {l : List Itm} {i : Nat} {x : Itm} (h : l[i]? = some x) : itemsB (l.take (i + 1)) = itemsB (l.take i) ++ itemB x := by
  obtain ⟨hi, hx⟩ := List.getElem?_eq_some_iff.1 h
  rw [List.take_succ_eq_append_getElem hi, hx]; simp [itemsB]
theorem cntB_ref (n : Int) : cntB n = refCnt n := by
  unfold cntB refCnt
  by_cases h0 : n < 0
  · rw [if_pos (by omega), if_pos h0]
    have : max n 0 = 0 := by omega
    rw [this]; rfl
  · rw [if_neg h0]
    have : max n 0 = n := by omega
    rw [this]
    by_cases h1 : n < 253
    · rw [if_pos (by omega), if_pos h1]
    · rw [if_neg (by omega), if_neg h1]
      by_cases h2 : n < 65536
      · rw [if_pos (by omega), if_pos h2]; rfl
      · rw [if_neg (by omega), if_neg h2]
        by_cases h3 : n < 4294967296
        · rw [if_pos (by omega), if_pos h3]; rfl
        · rw [if_neg (by omega), if_neg h3]; rfl
theorem itemB_len {x : Itm} (h : x.ok) : (itemB x).length ≤ 32 + x.text.length := by
  unfold itemB
  have := putK_le x.size
  have := refCnt_len x.n
  have := h.1
  repeat' split
  all_goals simp [leB_length] <;> omega
theorem itemsB_len {l : List Itm} (hw : ∀ x ∈ l, x.ok) : (itemsB l).length ≤ 32 * l.length + textLen l := by
  induction l with
  | nil => simp [itemsB]
  | cons x l ih =>
    have h1 := itemB_len (hw x List.mem_cons_self)
    have h2 := ih fun y hy => hw y (List.mem_cons_of_mem _ hy)
    have e1 : itemsB (x :: l) = itemB x ++ itemsB l := by simp [itemsB]
    have e2 : textLen (x :: l) = x.text.length + textLen l := by simp [textLen]
    rw [e1, e2, List.length_append, List.length_cons]; omega
theorem textLen_mem {l : List Itm} {x : Itm} (h : x ∈ l) : x.text.length ≤ textLen l := by
  induction l with
  | nil => cases h
  | cons y l ih =>
    have e2 : textLen (y :: l) = y.text.length + textLen l := by simp [textLen]
    rcases List.mem_cons.1 h with rfl | h
    · omega
    · have := ih h; omega

theorem put_spec (la : Option Addr) (lc : Nat) (l : List Itm) (I : Hp) (hw : ∀ x ∈ l, x.ok) (hI : OwnI la lc l I) (h40 : l.length ≤ 40) (h4 : textLen l ≤ 4096) : CallL Try.prog 19 [.slice la l.length lc] [I] (fun r Hs' => r = .tuple #[str (itemsB l), str (itemsB l)] ∧ Hs' = [I]) := by
  refine CallL.enter Try.func19 Try.ntmps19 rfl rfl rfl ?_
  refine EL.seq ?_
  refine EL.region [.p 0, .p 1] (by kernel_rfl) ?_
  refine EPL.p rfl rfl (q_assign (v := .string _) rfl) ?_
  refine EPL.p rfl rfl (q_assign (v := .string _) rfl) ?_
  refine EPL.nil ?_
  refine EL.go ?_
  refine EL.seq ?_
  refine EL.region [.p 0, .x 1 [], .p 2] (by kernel_rfl) ?_
  refine EPL.p rfl rfl (q_build (cells := #[.slice _ _ _]) pl26 el26 .nil) ?_
  refine EPL.box (c := #[.slice _ _ _]) rfl rfl rfl (fun _ => HeldL.nil) (fun b1 => ?_)
  refine EPL.hd (sg b1 (PenS none 0 [])) rfl ?_
  refine EPL.pad ?_
  refine EPL.p rfl rfl (q_assign (v := .pointer _) rfl) ?_
  refine EPL.nil ?_
  refine EL.go ?_
  refine EL.seq ?_
  refine EL.region [.p 0] (by kernel_rfl) ?_
  refine EPL.p rfl rfl (q_assign (v := .string _) rfl) ?_
  refine EPL.nil ?_
  refine EL.go ?_
  refine EL.seq ?_
  refine EL.seq ?_
  refine EL.region [.p 0, .p 1, .p 2] (by kernel_rfl) ?_
  refine EPL.p rfl rfl (q_move (v := .slice _ _ _) rfl) ?_
  refine EPL.p rfl rfl (q_lenSl Try.underlying39 rfl) ?_
  refine EPL.p rfl rfl (q_move (v := .int _ _) rfl) ?_
  refine EPL.nil ?_
  refine EL.go ?_
  refine EL.block ?_
  refine EL.useP [sg b1 (PenS none 0 []), Hp.nil, I] ?_
  refine EL.loop [5, 7, 12, 13, 14, 15, 16, 17, 18, 19, 20, 21, 22, 23, 24, 25, 26, 27, 28, 29, 30, 31, 32, 33, 34, 35, 36, 37, 38, 39, 40, 41, 42, 43, 44, 45, 46, 47, 48, 49, 50, 51, 52, 53, 54, 55, 56, 57, 58, 59, 60, 61, 62, 63, 64, 65, 66, 67, 68, 69, 70, 71, 72, 73, 74, 75] (fun i : Nat => [(5, str (itemsB (l.take i))), (12, .int .i64 i)]) (fun m i Hs' => m + i = l.length ∧ ∃ a' c' H', Hs' = [sg b1 (PenS a' c' (itemsB (l.take i))), H', I] ∧ OwnB a' c' (itemsB (l.take i)) H') l.length 0 ⟨by omega, none, 0, Hp.nil, rfl, OwnS.nil 5 1 _⟩ ⟨rfl, rfl, trivial⟩ ?_
  rintro m i _ j ⟨hm, a', c', H', rfl, hO'⟩
  refine EL.seq ?_
  refine EL.region [.p 0] (by kernel_rfl) ?_
  refine EPL.p rfl rfl (q_lss rfl rfl) ?_
  refine EPL.nil ?_
  refine EL.go ?_
  refine EL.seq ?_
  refine EL.cond rfl (fun c2 => ?_) (fun c2 => ?_)
  ·
    have c2 := of_decide_eq_true c2
    obtain ⟨x, hx⟩ : ∃ x, l[i]? = some x := ⟨_, List.getElem?_eq_getElem (by omega)⟩
    have hxo : x.ok := hw x (List.mem_of_getElem? hx)
    obtain ⟨b, off, cap, cc, ety, fr, he, hbI, hcs, hcc⟩ := hI.getA (fun y hy => Itm.len (hw y hy)) hx
    obtain ⟨rfl, rfl⟩ : la = some ⟨b, off, none⟩ ∧ lc = cap := by simpa using he
    have hx4 : x.text.length ≤ 4096 := Nat.le_trans (textLen_mem (List.mem_of_getElem? hx)) h4
    have hbl : (itemsB (l.take i)).length ≤ 5376 := by
      have h1 := itemsB_len (l := l.take i) fun y hy => hw y (List.mem_of_mem_take hy)
      have h2 := textLen_le l i
      have h3 : (l.take i).length ≤ 40 := by simp; omega
      omega
    have hK := putK_le x.size
    have hR := refCnt_len x.n
    have h32 := hxo.1
    have hmx := hI.max
    refine EL.skip ?_
    refine EL.go ?_
    refine EL.seq ?_
    refine EL.block ?_
    refine EL.seq ?_
    refine EL.region [.p 0, .l 1, .x 2 [], .x 3 []] (by kernel_rfl) ?_
    refine EPL.p rfl rfl (q_idxSl Try.underlying39 sz46 rfl rfl (by omega) (by omega)) ?_
    refine EPL.ldAP (v := .agg x.cells.toArray) rfl rfl ag46 rfl hbI (by simpa using hcs) (congrArg Value.agg (by simpa using hcc)) ?_
    refine EPL.al rfl rfl el46 (fun _ => HeldL.nil) (fun b3 => ?_)
    refine EPL.stA (v := x.cells.toArray) rfl rfl sz46 rfl rfl (Itm.sz hxo) (Itm.one x) rfl HeldL.nil ?_
    refine EPL.nil ?_
    refine EL.go ?_
    refine EL.seq ?_
    refine EL.region [.p 0, .l 1] (by kernel_rfl) ?_
    refine EPL.p rfl rfl (q_fieldAddr (p := ⟨_, _, none⟩) Try.underlying46 rfl sz3 rfl rfl) ?_
    refine EPL.ld1 (v := .int _ _) rfl rfl sc3 rfl (by first | exact Itm.c0 x | exact Itm.c1 x | exact Itm.c2 x) ?_
    refine EPL.nil ?_
    refine EL.go ?_
    refine EL.block ?_
    refine EL.seq ?_
    refine EL.region [.p 0, .p 1] (by kernel_rfl) ?_
    refine EPL.p rfl rfl (q_eql rfl rfl) ?_
    refine EPL.p rfl rfl (q_assign (v := .bool _) rfl) ?_
    refine EPL.nil ?_
    refine EL.go ?_
    refine EL.cond rfl (fun c4 => ?_) (fun c4 => ?_)
    ·
      have c4 := of_decide_eq_true c4
      have hib : itemB x = leB (putK x.size) x.n ++ leB (putK x.size) x.n := by unfold itemB; rw [if_pos c4]
      refine EL.seq ?_
      refine EL.region [.p 0, .p 1, .l 2, .p 3, .l 4, .p 5, .l 6, .x 7 [], .x 8 []] (by kernel_rfl) ?_
      refine EPL.p rfl rfl (q_move (v := .pointer _) rfl) ?_
      refine EPL.p rfl rfl (q_fieldAddr (p := ⟨_, _, none⟩) Try.underlying46 rfl sz3 rfl rfl) ?_
      refine EPL.ld1 (v := .int _ _) rfl rfl sc3 rfl (by first | exact Itm.c0 x | exact Itm.c1 x | exact Itm.c2 x) ?_
      refine EPL.p rfl rfl (q_fieldAddr (p := ⟨_, _, none⟩) Try.underlying46 rfl sz3 rfl rfl) ?_
      refine EPL.ld1 (v := .int _ _) rfl rfl sc3 rfl (by first | exact Itm.c0 x | exact Itm.c1 x | exact Itm.c2 x) ?_
      refine EPL.p rfl rfl (q_fieldAddr (p := ⟨_, _, none⟩) Try.underlying46 rfl sz3 rfl rfl) ?_
      refine EPL.ld1 (v := .int _ _) rfl rfl sc3 rfl (by first | exact Itm.c0 x | exact Itm.c1 x | exact Itm.c2 x) ?_
      refine EPL.bs rfl rfl Try.underlying52 el3 rfl rfl (fill2 (u := .int _ _) (w := .int _ _) rfl rfl rfl) (fun _ => HeldL.nil) (fun b91 => ?_)
      refine EPL.cl rfl rfl Try.func7 rfl rfl (Put_spec b1 a' (some ⟨b91, 0, none⟩) c' 2 (itemsB (l.take i)) [x.n, x.n] H' (sg b91 (.cells #[.int .i64 x.n, .int .i64 x.n] 3 (0, 0))) x.size hO' (OwnS.blk (xs := [.int .i64 x.n, .int .i64 x.n]) rfl (by unfold maxLen; simp)) (by simp; omega)) rfl ?_
      rw [show putB x.size [x.n, x.n] = leB (putK x.size) x.n ++ leB (putK x.size) x.n from by simp [putB]]
      rintro _ _ ⟨rfl, a1, c1, H1, rfl, hO1⟩
      refine ⟨HeldL.nil, ?_⟩
      refine EPL.nil ?_
      refine EL.go ?_
      refine EL.draw [.p 0, .p 1, .l 2, .p 3, .l 4, .p 7, .l 8, .p 9, .l 10, .x 5 [8, 10], .p 6, .x 11 [], .p 12, .p 13] [5, 11] [2, 4, 8, 10] fm (by kernel_rfl) ?_
      refine EPL.p rfl rfl (q_move (v := .string _) rfl) ?_
      refine EPL.p rfl rfl (q_fieldAddr (p := ⟨_, _, none⟩) Try.underlying46 rfl sz3 rfl rfl) ?_
      refine EPL.ld1 (v := .int _ _) rfl rfl sc3 rfl (by first | exact Itm.c0 x | exact Itm.c1 x | exact Itm.c2 x) ?_
      refine EPL.p rfl rfl (q_fieldAddr (p := ⟨_, _, none⟩) Try.underlying46 rfl sz3 rfl rfl) ?_
      refine EPL.ld1 (v := .int _ _) rfl rfl sc3 rfl (by first | exact Itm.c0 x | exact Itm.c1 x | exact Itm.c2 x) ?_
      refine EPL.p rfl rfl (q_fieldAddr (p := ⟨_, _, none⟩) Try.underlying46 rfl sz3 rfl rfl) ?_
      refine EPL.ld1 (v := .int _ _) rfl rfl sc3 rfl (by first | exact Itm.c0 x | exact Itm.c1 x | exact Itm.c2 x) ?_
      refine EPL.p rfl rfl (q_fieldAddr (p := ⟨_, _, none⟩) Try.underlying46 rfl sz3 rfl rfl) ?_
      refine EPL.ld1 (v := .int _ _) rfl rfl sc3 rfl (by first | exact Itm.c0 x | exact Itm.c1 x | exact Itm.c2 x) ?_
      refine EPL.cl rfl rfl Try.func21 rfl rfl (Number_spec x.size x.n) rfl ?_
      rintro _ _ ⟨rfl, rfl⟩
      refine ⟨(HeldL.ld1 rfl rfl sc3 rfl rfl (HeldL.ld1 rfl rfl sc3 rfl rfl HeldL.nil)), ?_⟩
      refine EPL.p rfl rfl (q_strcat rfl rfl (by first | omega | (simp only [List.length_append, leB_length]; omega))) ?_
      refine EPL.cl rfl rfl Try.func21 rfl rfl (Number_spec x.size x.n) rfl ?_
      rintro _ _ ⟨rfl, rfl⟩
      refine ⟨HeldL.nil, ?_⟩
      refine EPL.p rfl rfl (q_strcat rfl rfl (by first | omega | (simp only [List.length_append, leB_length]; omega))) ?_
      refine EPL.p rfl rfl (q_assign (v := .string _) rfl) ?_
      refine EPL.nil ?_
      refine EL.go ?_
      refine EL.region [.p 0, .p 1] (by kernel_rfl) ?_
      refine EPL.p rfl rfl (q_add rfl rfl) ?_
      refine EPL.p rfl rfl (q_move (v := .int _ _) rfl) ?_
      refine EPL.nil ?_
      refine RoundQ.mkP (m - 1) (i + 1) [sg b1 (PenS a1 c1 (itemsB (l.take i) ++ (leB (putK x.size) x.n ++ leB (putK x.size) x.n))), H1, I] (by omega) ⟨by omega, a1, c1, H1, by rw [itemsB_take hx, hib], by rw [itemsB_take hx, hib]; exact hO1⟩ (by repeat first | exact Off.mix | exact Off.refl | refine Off.upd rfl ?_ | refine Off.upds rfl ?_ | refine Off.mixs rfl ?_) ⟨congrArg (fun z => str z) (by rw [itemsB_take hx, hib, ← List.append_assoc]), congrArg (Value.int .i64) (wrap_i64_in (by omega)), trivial⟩
    ·
      have c4 := of_decide_eq_false c4
      refine EL.seq ?_
      refine EL.region [.p 0, .p 1] (by kernel_rfl) ?_
      refine EPL.p rfl rfl (q_eql rfl rfl) ?_
      refine EPL.p rfl rfl (q_assign (v := .bool _) rfl) ?_
      refine EPL.nil ?_
      refine EL.go ?_
      refine EL.cond rfl (fun c6 => ?_) (fun c6 => ?_)
      ·
        have c6 := of_decide_eq_true c6
        have hib : itemB x = refCnt x.n := by unfold itemB; rw [if_neg c4, if_pos c6]
        refine EL.seq ?_
        refine EL.region [.p 0, .p 1, .l 2, .x 3 []] (by kernel_rfl) ?_
        refine EPL.p rfl rfl (q_move (v := .pointer _) rfl) ?_
        refine EPL.p rfl rfl (q_fieldAddr (p := ⟨_, _, none⟩) Try.underlying46 rfl sz3 rfl rfl) ?_
        refine EPL.ld1 (v := .int _ _) rfl rfl sc3 rfl (by first | exact Itm.c0 x | exact Itm.c1 x | exact Itm.c2 x) ?_
        refine EPL.cl rfl rfl Try.func16 rfl rfl (PCount_spec b1 a' c' (itemsB (l.take i)) x.n H' hO' (by omega)) rfl ?_
        rw [cntB_ref]
        rintro _ _ ⟨rfl, a1, c1, H1, rfl, hO1⟩
        refine ⟨HeldL.nil, ?_⟩
        refine EPL.nil ?_
        refine EL.go ?_
        refine EL.region [.p 0, .p 1, .l 2, .x 3 [], .p 4, .p 5] (by kernel_rfl) ?_
        refine EPL.p rfl rfl (q_move (v := .string _) rfl) ?_
        refine EPL.p rfl rfl (q_fieldAddr (p := ⟨_, _, none⟩) Try.underlying46 rfl sz3 rfl rfl) ?_
        refine EPL.ld1 (v := .int _ _) rfl rfl sc3 rfl (by first | exact Itm.c0 x | exact Itm.c1 x | exact Itm.c2 x) ?_
        refine EPL.cl rfl rfl Try.func26 rfl rfl (RCount_spec x.n) rfl ?_
        rintro _ _ ⟨rfl, rfl⟩
        refine ⟨HeldL.nil, ?_⟩
        refine EPL.p rfl rfl (q_strcat rfl rfl (by first | omega | (simp only [List.length_append, leB_length]; omega))) ?_
        refine EPL.p rfl rfl (q_assign (v := .string _) rfl) ?_
        refine EPL.nil ?_
        refine EL.go ?_
        refine EL.region [.p 0, .p 1] (by kernel_rfl) ?_
        refine EPL.p rfl rfl (q_add rfl rfl) ?_
        refine EPL.p rfl rfl (q_move (v := .int _ _) rfl) ?_
        refine EPL.nil ?_
        refine RoundQ.mkP (m - 1) (i + 1) [sg b1 (PenS a1 c1 (itemsB (l.take i) ++ refCnt x.n)), H1, I] (by omega) ⟨by omega, a1, c1, H1, by rw [itemsB_take hx, hib], by rw [itemsB_take hx, hib]; exact hO1⟩ (by repeat first | exact Off.mix | exact Off.refl | refine Off.upd rfl ?_ | refine Off.upds rfl ?_ | refine Off.mixs rfl ?_) ⟨congrArg (fun z => str z) (by rw [itemsB_take hx, hib]), congrArg (Value.int .i64) (wrap_i64_in (by omega)), trivial⟩
      ·
        have c6 := of_decide_eq_false c6
        refine EL.seq ?_
        refine EL.region [.p 0, .p 1] (by kernel_rfl) ?_
        refine EPL.p rfl rfl (q_eql rfl rfl) ?_
        refine EPL.p rfl rfl (q_assign (v := .bool _) rfl) ?_
        refine EPL.nil ?_
        refine EL.go ?_
        refine EL.cond rfl (fun c7 => ?_) (fun c7 => ?_)
        ·
          have c7 := of_decide_eq_true c7
          have hib : itemB x = x.name := by unfold itemB; rw [if_neg c4, if_neg c6, if_pos c7]
          refine EL.seq ?_
          refine EL.region [.p 0, .p 1, .l 2, .x 3 [], .x 4 []] (by kernel_rfl) ?_
          refine EPL.p rfl rfl (q_move (v := .pointer _) rfl) ?_
          refine EPL.p rfl rfl (q_fieldAddr (p := ⟨_, _, none⟩) Try.underlying46 rfl sz44 rfl rfl) ?_
          refine EPL.ldAp rfl rfl ag44 rfl (by rw [Itm.sz hxo]; exact (by decide : 3 + 32 ≤ 36)) (Itm.c3 hxo) ?_
          refine EPL.bs (cells := (x.name.map bV).toArray) rfl rfl Try.underlying58 el44 rfl rfl (fillA (by simp [h32])) (fun _ => HeldL.nil) (fun b92 => ?_)
          refine EPL.cl rfl rfl Try.func27 rfl rfl (PNames_spec b1 a' (some ⟨b92, 0, none⟩) c' 1 (itemsB (l.take i)) [x.name] H' (sg b92 (.cells (x.name.map bV).toArray 44 (0, 0))) (by simp [h32]) hO' (by unfold OwnN; simpa using OwnS.blk (T := 44) (sz := 32) (b := b92) (n := 1) (xs := x.name.map bV) (by simp [h32]) (by unfold maxLen; simp)) (by simp; omega)) rfl ?_
          rw [show [x.name].flatten = x.name from by simp]
          rintro _ _ ⟨rfl, a1, c1, H1, rfl, hO1⟩
          refine ⟨HeldL.nil, ?_⟩
          refine EPL.nil ?_
          refine EL.go ?_
          refine EL.region [.p 0, .p 1, .l 2, .x 3 [], .p 4, .p 5] (by kernel_rfl) ?_
          refine EPL.p rfl rfl (q_move (v := .string _) rfl) ?_
          refine EPL.p rfl rfl (q_fieldAddr (p := ⟨_, _, none⟩) Try.underlying46 rfl sz44 rfl rfl) ?_
          refine EPL.ldAp rfl rfl ag44 rfl (by rw [Itm.sz hxo]; exact (by decide : 3 + 32 ≤ 36)) (Itm.c3 hxo) ?_
          refine EPL.cl rfl rfl Try.func28 rfl rfl (RName_spec x.name h32) rfl ?_
          rintro _ _ ⟨rfl, rfl⟩
          refine ⟨HeldL.nil, ?_⟩
          refine EPL.p rfl rfl (q_strcat rfl rfl (by first | omega | (simp only [List.length_append, leB_length]; omega))) ?_
          refine EPL.p rfl rfl (q_assign (v := .string _) rfl) ?_
          refine EPL.nil ?_
          refine EL.go ?_
          refine EL.region [.p 0, .p 1] (by kernel_rfl) ?_
          refine EPL.p rfl rfl (q_add rfl rfl) ?_
          refine EPL.p rfl rfl (q_move (v := .int _ _) rfl) ?_
          refine EPL.nil ?_
          refine RoundQ.mkP (m - 1) (i + 1) [sg b1 (PenS a1 c1 (itemsB (l.take i) ++ x.name)), H1, I] (by omega) ⟨by omega, a1, c1, H1, by rw [itemsB_take hx, hib], by rw [itemsB_take hx, hib]; exact hO1⟩ (by repeat first | exact Off.mix | exact Off.refl | refine Off.upd rfl ?_ | refine Off.upds rfl ?_ | refine Off.mixs rfl ?_) ⟨congrArg (fun z => str z) (by rw [itemsB_take hx, hib]), congrArg (Value.int .i64) (wrap_i64_in (by omega)), trivial⟩
        ·
          have c7 := of_decide_eq_false c7
          refine EL.seq ?_
          refine EL.region [.p 0, .p 1] (by kernel_rfl) ?_
          refine EPL.p rfl rfl (q_eql rfl rfl) ?_
          refine EPL.p rfl rfl (q_assign (v := .bool _) rfl) ?_
          refine EPL.nil ?_
          refine EL.go ?_
          refine EL.cond rfl (fun c9 => ?_) (fun c9 => ?_)
          ·
            have c9 := of_decide_eq_true c9
            have hib : itemB x = x.text := by unfold itemB; rw [if_neg c4, if_neg c6, if_neg c7, if_pos c9]
            refine EL.seq ?_
            refine EL.region [.p 0, .p 1, .l 2, .x 3 []] (by kernel_rfl) ?_
            refine EPL.p rfl rfl (q_move (v := .pointer _) rfl) ?_
            refine EPL.p rfl rfl (q_fieldAddr (p := ⟨_, _, none⟩) Try.underlying46 rfl sz9 rfl rfl) ?_
            refine EPL.ld1 (v := str x.text) rfl rfl sc9 rfl (by exact Itm.c35 hxo) ?_
            refine EPL.cl rfl rfl Try.func8 rfl rfl (PRaw_spec b1 a' c' (itemsB (l.take i)) x.text H' hO' (by omega)) rfl ?_
            rintro _ _ ⟨rfl, a1, c1, H1, rfl, hO1⟩
            refine ⟨HeldL.nil, ?_⟩
            refine EPL.nil ?_
            refine EL.go ?_
            refine EL.region [.p 0, .p 1, .l 2, .p 3, .p 4] (by kernel_rfl) ?_
            refine EPL.p rfl rfl (q_move (v := .string _) rfl) ?_
            refine EPL.p rfl rfl (q_fieldAddr (p := ⟨_, _, none⟩) Try.underlying46 rfl sz9 rfl rfl) ?_
            refine EPL.ld1 (v := str x.text) rfl rfl sc9 rfl (by exact Itm.c35 hxo) ?_
            refine EPL.p rfl rfl (q_strcat rfl rfl (by first | omega | (simp only [List.length_append, leB_length]; omega))) ?_
            refine EPL.p rfl rfl (q_assign (v := .string _) rfl) ?_
            refine EPL.nil ?_
            refine EL.go ?_
            refine EL.region [.p 0, .p 1] (by kernel_rfl) ?_
            refine EPL.p rfl rfl (q_add rfl rfl) ?_
            refine EPL.p rfl rfl (q_move (v := .int _ _) rfl) ?_
            refine EPL.nil ?_
            refine RoundQ.mkP (m - 1) (i + 1) [sg b1 (PenS a1 c1 (itemsB (l.take i) ++ x.text)), H1, I] (by omega) ⟨by omega, a1, c1, H1, by rw [itemsB_take hx, hib], by rw [itemsB_take hx, hib]; exact hO1⟩ (by repeat first | exact Off.mix | exact Off.refl | refine Off.upd rfl ?_ | refine Off.upds rfl ?_ | refine Off.mixs rfl ?_) ⟨congrArg (fun z => str z) (by rw [itemsB_take hx, hib]), congrArg (Value.int .i64) (wrap_i64_in (by omega)), trivial⟩
          ·
            have c9 := of_decide_eq_false c9
            have hib : itemB x = [] := by unfold itemB; rw [if_neg c4, if_neg c6, if_neg c7, if_neg c9]
            refine EL.skip ?_
            refine EL.go ?_
            refine EL.region [.p 0, .p 1] (by kernel_rfl) ?_
            refine EPL.p rfl rfl (q_add rfl rfl) ?_
            refine EPL.p rfl rfl (q_move (v := .int _ _) rfl) ?_
            refine EPL.nil ?_
            refine RoundQ.mkP (m - 1) (i + 1) [sg b1 (PenS a' c' (itemsB (l.take i))), H', I] (by omega) ⟨by omega, a', c', H', by rw [itemsB_take hx, hib, List.append_nil], by rw [itemsB_take hx, hib, List.append_nil]; exact hO'⟩ (by repeat first | exact Off.mix | exact Off.refl | refine Off.upd rfl ?_ | refine Off.upds rfl ?_ | refine Off.mixs rfl ?_) ⟨congrArg (fun z => str z) (by rw [itemsB_take hx, hib, List.append_nil]), congrArg (Value.int .i64) (wrap_i64_in (by omega)), trivial⟩
  ·
    have c2 := of_decide_eq_false c2
    have ht : l.take i = l := List.take_of_length_le (by omega)
    rw [ht] at hO' ⊢
    refine EL.exit ?_
    refine EL.go ?_
    refine EL.seq ?_
    refine EL.region [.p 0, .x 1 [], .p 2, .p 3, .p 4] (by kernel_rfl) ?_
    refine EPL.p rfl rfl (q_move (v := .pointer _) rfl) ?_
    refine EPL.cl rfl rfl Try.func10 rfl rfl (Text_spec b1 a' c' _ H' hO') rfl ?_
    rintro _ _ ⟨rfl, rfl⟩
    refine ⟨HeldL.nil, ?_⟩
    refine EPL.p rfl rfl (q_move (v := .string _) rfl) ?_
    refine EPL.p rfl rfl (q_assign (v := .string _) rfl) ?_
    refine EPL.p rfl rfl (q_assign (v := .string _) rfl) ?_
    refine EPL.nil ?_
    refine EL.go ?_
    refine EL.ret ?_
    exact end_retP [I] (fun _ => rfl) (fun _ => ⟨rfl, rfl⟩)

end Go.Proofs.Ytooemjldpchgfaa
