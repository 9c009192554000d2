/- Part S14 of the proofs of this seat: what the functions of the layer answer, in worlds that hold their blocks. -/
import Derived.Test.YtooemjldpchgfaaS13
namespace Go.Proofs.Ytooemjldpchgfaa
open Go Go.Proofs.Ytooemjldpchgfaa.TH

theorem raw_app (a r : List UInt8) : rawR (a ++ r) false a.length = (a, r, false) := by
  rw [rawR_ok (by simp), List.take_left, List.drop_left]
/-- A number that is put is got again. -/
theorem get_app (n size : Int) (r : List UInt8) (h1 : 1 ≤ size) (h7 : size ≤ 7) : getR (leB (putK size) n ++ r) false size = leN (leB (putK size) n) ∧ getT (leB (putK size) n ++ r) false size = (r, false) := by
  have hk : min (max size 1) 7 = ((leB (putK size) n).length : Int) := by rw [leB_length]; unfold putK; omega
  unfold getR getT
  rw [hk, raw_app]; exact ⟨rfl, rfl⟩
theorem leN_leB_7 (n size : Int) (h7 : size ≤ 7) : leN (leB (putK size) n) < 72057594037927936 := by
  refine Nat.lt_of_lt_of_le (leN_lt _) ?_
  have h1 : 256 ^ (leB (putK size) n).length ≤ 256 ^ 7 := Nat.pow_le_pow_right (by decide) (by rw [leB_length]; unfold putK; omega)
  have h2 : (256 : Nat) ^ 7 = 72057594037927936 := by decide
  omega
/-- A count that is put is read again, whatever stands behind. -/
theorem count_app (n : Int) (r : List UInt8) (h : n < 9223372036854775808) : countR (refCnt n ++ r) false 9223372036854775807 = (max n 0, r, false) := by
  have key : ∀ (b : UInt8) (k : Nat), cSize b = k → k ≠ 0 → 0 ≤ n → n < 2 ^ (8 * k) → cLeast b ≤ n → countR ([b] ++ leB k n ++ r) false 9223372036854775807 = (n, r, false) := by
    intro b k hk hk0 h0 hn hc
    have ht : (leB k n ++ r).take k = leB k n := by have := List.take_left (l₁ := leB k n) (l₂ := r); rwa [leB_length] at this
    have hd : (leB k n ++ r).drop k = r := by have := List.drop_left (l₁ := leB k n) (l₂ := r); rwa [leB_length] at this
    have hv := leN_leB_small (k := k) h0 hn
    show countR (b :: (leB k n ++ r)) false _ = _
    rw [countR_high (by rw [hk]; exact hk0) (by rw [hk, List.length_append, leB_length]; omega) (by rw [hk, ht]; omega), hk, ht, hd, hv, if_neg (by omega)]
  have low : ∀ m : Nat, m < 253 → countR (leB (putK 1) (m : Int) ++ r) false 9223372036854775807 = ((m : Int), r, false) := by
    intro m hm
    have hb : ((UInt8.ofNat m).toNat : Int) = m := by rw [UInt8.toNat_ofNat', Nat.mod_eq_of_lt (by omega)]
    have e : leB (putK 1) (m : Int) = [UInt8.ofNat m] := by rw [← hb]; exact leB_one _
    have hn : ∀ k : Nat, 252 < k → k < 256 → ¬ UInt8.ofNat m = UInt8.ofNat k := fun k hk hk2 hh => by
      have := congrArg UInt8.toNat hh
      rw [UInt8.toNat_ofNat', UInt8.toNat_ofNat', Nat.mod_eq_of_lt (by omega), Nat.mod_eq_of_lt hk2] at this
      omega
    have hc : cSize (UInt8.ofNat m) = 0 := by
      unfold cSize
      rw [if_neg (show ¬ UInt8.ofNat m = 253 from hn 253 (by decide) (by decide)), if_neg (show ¬ UInt8.ofNat m = 254 from hn 254 (by decide) (by decide)), if_neg (show ¬ UInt8.ofNat m = 255 from hn 255 (by decide) (by decide))]
    rw [e]
    show countR (UInt8.ofNat m :: r) false _ = _
    rw [countR_low hc, hb, if_neg (by omega)]
  rw [← cntB_ref]
  unfold cntB
  by_cases h1 : n ≤ 252
  · obtain ⟨m, hm⟩ : ∃ m : Nat, max n 0 = (m : Int) := ⟨(max n 0).toNat, by omega⟩
    rw [if_pos h1, hm]
    exact low m (by omega)
  · have hmax : max n 0 = n := by omega
    rw [if_neg h1, hmax]
    by_cases h2 : n ≤ 65535
    · rw [if_pos h2]
      exact key 253 2 rfl (by decide) (by omega) (by have : (2 : Int) ^ (8 * 2) = 65536 := by decide
                                                     omega) (by have : cLeast 253 = 253 := rfl
                                                                omega)
    · rw [if_neg h2]
      by_cases h3 : n ≤ 4294967295
      · rw [if_pos h3]
        exact key 254 4 rfl (by decide) (by omega) (by have : (2 : Int) ^ (8 * 4) = 4294967296 := by decide
                                                       omega) (by have : cLeast 254 = 65536 := rfl
                                                                  omega)
      · rw [if_neg h3]
        exact key 255 8 rfl (by decide) (by omega) (by have : (2 : Int) ^ (8 * 8) = 18446744073709551616 := by decide
                                                       omega) (by have : cLeast 255 = 4294967296 := rfl
                                                                  omega)
theorem name_app (a r : List UInt8) (h : a.length = 32) : nameR (a ++ r) false = a ∧ (rawR (a ++ r) false 32).2 = (r, false) := by
  have e : rawR (a ++ r) false 32 = (a, r, false) := by have := raw_app a r; rw [h] at this; exact this
  unfold nameR
  rw [e]
  exact ⟨if_pos h, rfl⟩
theorem itemsB_drop {l : List Itm} {i : Nat} {x : Itm} (h : l[i]? = some x) : itemsB (l.drop i) = itemB x ++ itemsB (l.drop (i + 1)) := by
  obtain ⟨hi, hx⟩ := List.getElem?_eq_some_iff.1 h
  rw [List.drop_eq_getElem_cons hi, hx]; simp [itemsB]
theorem eqg44 : Try.prog.eqGuardType Try.prog.depth 44 = false := by kernel_rfl

theorem Puts_law (la : Option Addr) (lc : Nat) (l : List Itm) (I : Hp) (hw : ∀ x ∈ l, x.ok) (hI : OwnI la lc l I) (hs : ∀ x ∈ l, x.text.length ≤ 9223372036854771711) : CallL Try.prog 5 [.slice la l.length lc] [I] (fun r Hs' => r = .bool true ∧ Hs' = [I]) := by
  refine CallL.enter Try.func5 Try.ntmps5 rfl rfl rfl ?_
  refine EL.seq ?_
  refine EL.region [.p 0] (by kernel_rfl) ?_
  refine EPL.p rfl rfl (q_assign (v := .bool _) rfl) ?_
  refine EPL.nil ?_
  refine EL.go ?_
  refine EL.seq ?_
  refine EL.seq ?_
  refine EL.region [.x 0 [], .p 1] (by kernel_rfl) ?_
  refine EPL.cl rfl rfl Try.func6 rfl rfl (alive_spec) rfl ?_
  rintro _ _ ⟨rfl, rfl⟩
  refine ⟨HeldL.nil, ?_⟩
  refine EPL.p rfl rfl (q_not rfl) ?_
  refine EPL.nil ?_
  refine EL.go ?_
  refine EL.cond rfl (fun c1 => ?_) (fun c1 => ?_)
  ·
    cases c1
  ·
    refine EL.skip ?_
    refine EL.go ?_
    refine EL.seq ?_
    refine EL.seq ?_
    refine EL.region [.p 0, .x 1 []] (by kernel_rfl) ?_
    refine EPL.p rfl rfl (q_move (v := .slice _ _ _) rfl) ?_
    refine EPL.cl rfl rfl Try.func18 rfl rfl (great_spec la lc l I hw hI hs) rfl ?_
    rintro _ _ ⟨rfl, rfl⟩
    refine ⟨HeldL.nil, ?_⟩
    refine EPL.nil ?_
    refine EL.go ?_
    refine EL.cond rfl (fun c2 => ?_) (fun c2 => ?_)
    ·
      refine EL.seq ?_
      refine EL.region [.p 0] (by kernel_rfl) ?_
      refine EPL.p rfl rfl (q_assign (v := .bool _) rfl) ?_
      refine EPL.nil ?_
      refine EL.go ?_
      refine EL.ret ?_
      exact end_retP [I] (fun _ => rfl) (fun _ => ⟨rfl, rfl⟩)
    ·
      have h4 : textLen l ≤ 4096 := by unfold greatR at c2; simp at c2; omega
      have h40 : l.length ≤ 40 := by unfold greatR at c2; simp at c2; omega
      refine EL.skip ?_
      refine EL.go ?_
      refine EL.seq ?_
      refine EL.region [.p 0, .x 1 [], .p 2, .p 3, .p 4, .p 5, .p 6] (by kernel_rfl) ?_
      refine EPL.p rfl rfl (q_move (v := .slice _ _ _) rfl) ?_
      refine EPL.cl rfl rfl Try.func19 rfl rfl (put_spec la lc l I hw hI h40 h4) rfl ?_
      rintro _ _ ⟨rfl, rfl⟩
      refine ⟨HeldL.nil, ?_⟩
      refine EPL.p rfl rfl (q_move (v := _) rfl) ?_
      refine EPL.p rfl rfl (q_extract (v := .string _) rfl rfl) ?_
      refine EPL.p rfl rfl (q_extract (v := .string _) rfl rfl) ?_
      refine EPL.p rfl rfl (q_assign (v := .string _) rfl) ?_
      refine EPL.p rfl rfl (q_assign (v := .string _) rfl) ?_
      refine EPL.nil ?_
      refine EL.go ?_
      refine EL.seq ?_
      refine EL.seq ?_
      refine EL.region [.p 0, .p 1, .p 2] (by kernel_rfl) ?_
      refine EPL.p rfl rfl (q_move (v := .string _) rfl) ?_
      refine EPL.p rfl rfl (q_move (v := .string _) rfl) ?_
      refine EPL.p rfl rfl (q_strneq rfl rfl) ?_
      refine EPL.nil ?_
      refine EL.go ?_
      refine EL.cond rfl (fun c3 => ?_) (fun c3 => ?_)
      ·
        have c3 := of_decide_eq_true c3
        exact absurd rfl c3
      ·
        have c3 := of_decide_eq_false c3
        refine EL.skip ?_
        refine EL.go ?_
        refine EL.seq ?_
        refine EL.region [.p 0, .x 1 [], .p 2] (by kernel_rfl) ?_
        refine EPL.p rfl rfl (q_move (v := .string _) rfl) ?_
        refine EPL.cl rfl rfl Try.func9 rfl rfl (On_spec (itemsB l)) rfl ?_
        rintro _ _ ⟨e1, rfl, rfl⟩
        refine ⟨HeldL.nil, ?_⟩
        refine EPL.p rfl rfl (q_assign (v := .pointer _) rfl) ?_
        refine EPL.nil ?_
        refine EL.go ?_
        refine EL.seq ?_
        refine EL.seq ?_
        refine EL.region [.p 0, .p 1, .p 2] (by kernel_rfl) ?_
        refine EPL.p rfl rfl (q_move (v := .slice _ _ _) rfl) ?_
        refine EPL.p rfl rfl (q_lenSl Try.underlying39 rfl) ?_
        refine EPL.p rfl rfl (q_move (v := .int _ _) rfl) ?_
        refine EPL.nil ?_
        refine EL.go ?_
        refine EL.block ?_
        refine EL.useP [sg e1 (EyeB (itemsB l) false), I] ?_
        refine EL.loop [2, 7, 8, 9, 26, 27, 28, 29, 30, 31, 32, 33, 34, 35, 36, 37, 38, 39, 40, 41, 42, 43, 44, 45, 46, 47, 48, 49, 50, 51, 52, 53, 54, 55, 56, 57, 58, 59, 60, 61, 62, 63, 64, 65, 66, 67, 68, 69, 70, 71, 72, 73, 74, 75, 76, 77, 78, 79, 80, 81, 82, 83, 84, 85, 86, 87, 88, 89, 90] (fun i : Nat => [(26, .int .i64 i)]) (fun m i Hs' => m + i = l.length ∧ Hs' = [sg e1 (EyeB (itemsB (l.drop i)) false), I]) l.length 0 ⟨by omega, rfl⟩ ⟨rfl, trivial⟩ ?_
        rintro m i _ j ⟨hm, rfl⟩
        refine EL.seq ?_
        refine EL.region [.p 0] (by kernel_rfl) ?_
        refine EPL.p rfl rfl (q_lss rfl rfl) ?_
        refine EPL.nil ?_
        refine EL.go ?_
        refine EL.seq ?_
        refine EL.cond rfl (fun c4 => ?_) (fun c4 => ?_)
        ·
          have c4 := of_decide_eq_true c4
          obtain ⟨x, hx⟩ : ∃ x, l[i]? = some x := ⟨_, List.getElem?_eq_getElem (by omega)⟩
          have hxo : x.ok := hw x (List.mem_of_getElem? hx)
          obtain ⟨b, off, cap, cc, ety, fr, he, hbI, hcs, hcc⟩ := hI.getA (fun y hy => Itm.len (hw y hy)) hx
          obtain ⟨rfl, rfl⟩ : la = some ⟨b, off, none⟩ ∧ lc = cap := by simpa using he
          have hd := itemsB_drop hx
          have h32 := hxo.1
          have hmx := hI.max
          refine EL.skip ?_
          refine EL.go ?_
          refine EL.seq ?_
          refine EL.block ?_
          refine EL.seq ?_
          refine EL.region [.p 0, .l 1, .x 2 [], .x 3 []] (by kernel_rfl) ?_
          refine EPL.p rfl rfl (q_idxSl Try.underlying39 sz46 rfl rfl (by omega) (by omega)) ?_
          refine EPL.ldAP (v := .agg x.cells.toArray) rfl rfl ag46 rfl hbI (by simpa using hcs) (congrArg Value.agg (by simpa using hcc)) ?_
          refine EPL.al rfl rfl el46 (fun _ => HeldL.nil) (fun b5 => ?_)
          refine EPL.stA (v := x.cells.toArray) rfl rfl sz46 rfl rfl (Itm.sz hxo) (Itm.one x) rfl HeldL.nil ?_
          refine EPL.nil ?_
          refine EL.go ?_
          refine EL.seq ?_
          refine EL.region [.p 0, .l 1] (by kernel_rfl) ?_
          refine EPL.p rfl rfl (q_fieldAddr (p := ⟨_, _, none⟩) Try.underlying46 rfl sz3 rfl rfl) ?_
          refine EPL.ld1 (v := .int _ _) rfl rfl sc3 rfl (by first | exact Itm.c0 x | exact Itm.c1 x | exact Itm.c2 x) ?_
          refine EPL.nil ?_
          refine EL.go ?_
          refine EL.block ?_
          refine EL.seq ?_
          refine EL.region [.p 0, .p 1] (by kernel_rfl) ?_
          refine EPL.p rfl rfl (q_eql rfl rfl) ?_
          refine EPL.p rfl rfl (q_assign (v := .bool _) rfl) ?_
          refine EPL.nil ?_
          refine EL.go ?_
          refine EL.cond rfl (fun c6 => ?_) (fun c6 => ?_)
          ·
            have c6 := of_decide_eq_true c6
            refine EL.seq ?_
            refine EL.seq ?_
            refine EL.region [.p 0, .l 1, .p 2, .p 3, .p 4, .l 5, .p 6, .p 7] (by kernel_rfl) ?_
            refine EPL.p rfl rfl (q_fieldAddr (p := ⟨_, _, none⟩) Try.underlying46 rfl sz3 rfl rfl) ?_
            refine EPL.ld1 (v := .int _ _) rfl rfl sc3 rfl (by first | exact Itm.c0 x | exact Itm.c1 x | exact Itm.c2 x) ?_
            refine EPL.p rfl rfl (q_lss rfl rfl) ?_
            refine EPL.p rfl rfl (q_move (v := .bool _) rfl) ?_
            refine EPL.bool 37 rfl (fun c7 => ?_) (fun c7 => ?_)
            ·
              have c7 := of_decide_eq_true c7
              refine EPL.pno rfl rfl ?_
              refine EPL.rno rfl rfl ?_
              refine EPL.pno rfl rfl ?_
              refine EPL.p rfl rfl (q_pickT (v := .bool _) rfl rfl) ?_
              refine EPL.nil ?_
              refine EL.go ?_
              refine EL.yes rfl ?_
              refine EL.seq ?_
              refine EL.region [.p 0] (by kernel_rfl) ?_
              refine EPL.p rfl rfl (q_assign (v := .bool _) rfl) ?_
              refine EPL.nil ?_
              refine EL.go ?_
              refine EL.ret ?_
              exact end_retP [I] (fun _ => rfl) (fun _ => ⟨rfl, rfl⟩)
            ·
              have c7 := of_decide_eq_false c7
              refine EPL.p rfl rfl (q_fieldAddr (p := ⟨_, _, none⟩) Try.underlying46 rfl sz3 rfl rfl) ?_
              refine EPL.ld1 (v := .int _ _) rfl rfl sc3 rfl (by first | exact Itm.c0 x | exact Itm.c1 x | exact Itm.c2 x) ?_
              refine EPL.p rfl rfl (q_gtr rfl rfl) ?_
              refine EPL.p rfl rfl (q_pickF (v := .bool _) rfl rfl) ?_
              refine EPL.nil ?_
              refine EL.go ?_
              refine EL.cond rfl (fun c8 => ?_) (fun c8 => ?_)
              ·
                have c8 := of_decide_eq_true c8
                refine EL.seq ?_
                refine EL.region [.p 0] (by kernel_rfl) ?_
                refine EPL.p rfl rfl (q_assign (v := .bool _) rfl) ?_
                refine EPL.nil ?_
                refine EL.go ?_
                refine EL.ret ?_
                exact end_retP [I] (fun _ => rfl) (fun _ => ⟨rfl, rfl⟩)
              ·
                have c8 := of_decide_eq_false c8
                have hib : itemB x = leB (putK x.size) x.n ++ leB (putK x.size) x.n := by unfold itemB; rw [if_pos c6]
                rw [hd, hib, List.append_assoc]
                have h7 := leN_leB_7 x.n x.size (by omega)
                obtain ⟨g1, g2⟩ := get_app x.n x.size (leB (putK x.size) x.n ++ itemsB (l.drop (i + 1))) (by omega) (by omega)
                obtain ⟨g3, g4⟩ := get_app x.n x.size (itemsB (l.drop (i + 1))) (by omega) (by omega)
                refine EL.skip ?_
                refine EL.go ?_
                refine EL.seq ?_
                refine EL.region [.p 0, .l 1, .p 2, .l 3, .x 4 [], .x 5 [], .p 6, .p 7, .p 8, .p 9, .p 10] (by kernel_rfl) ?_
                refine EPL.p rfl rfl (q_fieldAddr (p := ⟨_, _, none⟩) Try.underlying46 rfl sz3 rfl rfl) ?_
                refine EPL.ld1 (v := .int _ _) rfl rfl sc3 rfl (by first | exact Itm.c0 x | exact Itm.c1 x | exact Itm.c2 x) ?_
                refine EPL.p rfl rfl (q_fieldAddr (p := ⟨_, _, none⟩) Try.underlying46 rfl sz3 rfl rfl) ?_
                refine EPL.ld1 (v := .int _ _) rfl rfl sc3 rfl (by first | exact Itm.c0 x | exact Itm.c1 x | exact Itm.c2 x) ?_
                refine EPL.cl rfl rfl Try.func21 rfl rfl (Number_spec x.size x.n) rfl ?_
                rintro _ _ ⟨rfl, rfl⟩
                refine ⟨HeldL.nil, ?_⟩
                refine EPL.cl rfl rfl Try.func20 rfl rfl (Back_spec (leB (putK x.size) x.n) (by rw [leB_length]; exact putK_le _)) rfl ?_
                rintro _ _ ⟨rfl, rfl⟩
                refine ⟨HeldL.nil, ?_⟩
                refine EPL.p rfl rfl (q_move (v := _) rfl) ?_
                refine EPL.p rfl rfl (q_extract (v := .int _ _) rfl rfl) ?_
                refine EPL.p rfl rfl (q_extract (v := .bool _) rfl rfl) ?_
                refine EPL.p rfl rfl (q_assign (v := .int _ _) rfl) ?_
                refine EPL.p rfl rfl (q_assign (v := .bool _) rfl) ?_
                refine EPL.nil ?_
                refine EL.go ?_
                refine EL.seq ?_
                refine EL.region [.p 0, .p 1, .l 2, .x 3 [], .p 4, .p 5, .p 6, .p 7, .p 8, .l 9, .x 10 [], .p 11, .p 12, .p 13] (by kernel_rfl) ?_
                refine EPL.p rfl rfl (q_move (v := .pointer _) rfl) ?_
                refine EPL.p rfl rfl (q_fieldAddr (p := ⟨_, _, none⟩) Try.underlying46 rfl sz3 rfl rfl) ?_
                refine EPL.ld1 (v := .int _ _) rfl rfl sc3 rfl (by first | exact Itm.c0 x | exact Itm.c1 x | exact Itm.c2 x) ?_
                refine EPL.cl rfl rfl Try.func22 rfl rfl (Get_spec e1 (leB (putK x.size) x.n ++ (leB (putK x.size) x.n ++ itemsB (l.drop (i + 1)))) false x.size) rfl ?_
                rw [g1, g2]
                rintro _ _ ⟨rfl, rfl⟩
                refine ⟨HeldL.nil, ?_⟩
                refine EPL.p rfl rfl (q_move (v := .int _ _) rfl) ?_
                refine EPL.p rfl rfl (q_neq rfl rfl) ?_
                refine EPL.p rfl rfl (q_move (v := .bool _) rfl) ?_
                refine EPL.bool 57 rfl (fun c9 => ?_) (fun c9 => ?_)
                ·
                  have c9 := of_decide_eq_true c9
                  exact absurd (wrap_i64_in (by omega)).symm c9
                ·
                  have c9 := of_decide_eq_false c9
                  refine EPL.p rfl rfl (q_move (v := .pointer _) rfl) ?_
                  refine EPL.p rfl rfl (q_fieldAddr (p := ⟨_, _, none⟩) Try.underlying46 rfl sz3 rfl rfl) ?_
                  refine EPL.ld1 (v := .int _ _) rfl rfl sc3 rfl (by first | exact Itm.c0 x | exact Itm.c1 x | exact Itm.c2 x) ?_
                  refine EPL.cl rfl rfl Try.func22 rfl rfl (Get_spec e1 (leB (putK x.size) x.n ++ itemsB (l.drop (i + 1))) false x.size) rfl ?_
                  rw [g3, g4]
                  rintro _ _ ⟨rfl, rfl⟩
                  refine ⟨HeldL.nil, ?_⟩
                  refine EPL.p rfl rfl (q_move (v := .int _ _) rfl) ?_
                  refine EPL.p rfl rfl (q_neq rfl rfl) ?_
                  refine EPL.p rfl rfl (q_pickF (v := .bool _) rfl rfl) ?_
                  refine EPL.nil ?_
                  refine EL.go ?_
                  refine EL.cond rfl (fun c10 => ?_) (fun c10 => ?_)
                  ·
                    have c10 := of_decide_eq_true c10
                    exact absurd (wrap_i64_in (by omega)).symm c10
                  ·
                    have c10 := of_decide_eq_false c10
                    refine EL.skip ?_
                    refine EL.go ?_
                    refine EL.region [.p 0, .p 1] (by kernel_rfl) ?_
                    refine EPL.p rfl rfl (q_add rfl rfl) ?_
                    refine EPL.p rfl rfl (q_move (v := .int _ _) rfl) ?_
                    refine EPL.nil ?_
                    refine RoundQ.mkP (m - 1) (i + 1) [sg e1 (EyeB (itemsB (l.drop (i + 1))) false), I] (by omega) ⟨by omega, rfl⟩ (by repeat first | exact Off.mix | exact Off.refl | refine Off.upd rfl ?_ | refine Off.upds rfl ?_ | refine Off.mixs rfl ?_) ⟨congrArg (Value.int .i64) (wrap_i64_in (by omega)), trivial⟩
          ·
            have c6 := of_decide_eq_false c6
            refine EL.seq ?_
            refine EL.region [.p 0, .p 1] (by kernel_rfl) ?_
            refine EPL.p rfl rfl (q_eql rfl rfl) ?_
            refine EPL.p rfl rfl (q_assign (v := .bool _) rfl) ?_
            refine EPL.nil ?_
            refine EL.go ?_
            refine EL.cond rfl (fun c11 => ?_) (fun c11 => ?_)
            ·
              have c11 := of_decide_eq_true c11
              have hib : itemB x = refCnt x.n := by unfold itemB; rw [if_neg c6, if_pos c11]
              rw [hd, hib]
              have hco := count_app x.n (itemsB (l.drop (i + 1))) hxo.2.2
              refine EL.seq ?_
              refine EL.draw [.p 0, .p 2, .l 3, .p 4, .x 1 [3], .p 5] [1] [3] fm (by kernel_rfl) ?_
              refine EPL.p rfl rfl (q_move (v := .pointer _) rfl) ?_
              refine EPL.p rfl rfl (q_fieldAddr (p := ⟨_, _, none⟩) Try.underlying46 rfl sz3 rfl rfl) ?_
              refine EPL.ld1 (v := .int _ _) rfl rfl sc3 rfl (by first | exact Itm.c0 x | exact Itm.c1 x | exact Itm.c2 x) ?_
              refine EPL.p rfl rfl (q_max rfl rfl) ?_
              refine EPL.cl rfl rfl Try.func14 rfl rfl (ECount_spec e1 (refCnt x.n ++ itemsB (l.drop (i + 1))) false 9223372036854775807) rfl ?_
              rw [hco]
              rintro _ _ ⟨rfl, rfl⟩
              refine ⟨(HeldL.ld1 rfl rfl sc3 rfl rfl HeldL.nil), ?_⟩
              refine EPL.p rfl rfl (q_neq rfl rfl) ?_
              refine EPL.nil ?_
              refine EL.go ?_
              refine EL.cond rfl (fun c12 => ?_) (fun c12 => ?_)
              ·
                have c12 := of_decide_eq_true c12
                exact absurd rfl c12
              ·
                have c12 := of_decide_eq_false c12
                refine EL.skip ?_
                refine EL.go ?_
                refine EL.region [.p 0, .p 1] (by kernel_rfl) ?_
                refine EPL.p rfl rfl (q_add rfl rfl) ?_
                refine EPL.p rfl rfl (q_move (v := .int _ _) rfl) ?_
                refine EPL.nil ?_
                refine RoundQ.mkP (m - 1) (i + 1) [sg e1 (EyeB (itemsB (l.drop (i + 1))) false), I] (by omega) ⟨by omega, rfl⟩ (by repeat first | exact Off.mix | exact Off.refl | refine Off.upd rfl ?_ | refine Off.upds rfl ?_ | refine Off.mixs rfl ?_) ⟨congrArg (Value.int .i64) (wrap_i64_in (by omega)), trivial⟩
            ·
              have c11 := of_decide_eq_false c11
              refine EL.seq ?_
              refine EL.region [.p 0, .p 1] (by kernel_rfl) ?_
              refine EPL.p rfl rfl (q_eql rfl rfl) ?_
              refine EPL.p rfl rfl (q_assign (v := .bool _) rfl) ?_
              refine EPL.nil ?_
              refine EL.go ?_
              refine EL.cond rfl (fun c13 => ?_) (fun c13 => ?_)
              ·
                have c13 := of_decide_eq_true c13
                have hib : itemB x = x.name := by unfold itemB; rw [if_neg c6, if_neg c11, if_pos c13]
                rw [hd, hib]
                obtain ⟨n1, n2⟩ := name_app x.name (itemsB (l.drop (i + 1))) h32
                refine EL.seq ?_
                refine EL.draw [.p 0, .p 2, .l 3, .x 1 [3], .p 4] [1] [3] fm (by kernel_rfl) ?_
                refine EPL.p rfl rfl (q_move (v := .pointer _) rfl) ?_
                refine EPL.p rfl rfl (q_fieldAddr (p := ⟨_, _, none⟩) Try.underlying46 rfl sz44 rfl rfl) ?_
                refine EPL.ldAp rfl rfl ag44 rfl (by rw [Itm.sz hxo]; exact (by decide : 3 + 32 ≤ 36)) (Itm.c3 hxo) ?_
                refine EPL.cl rfl rfl Try.func23 rfl rfl (EName_spec e1 (x.name ++ itemsB (l.drop (i + 1))) false) rfl ?_
                rw [n1, n2]
                rintro _ _ ⟨rfl, rfl⟩
                refine ⟨(HeldL.ldAp rfl rfl ag44 rfl (by rw [Itm.sz hxo]; exact (by decide : 3 + 32 ≤ 36)) (congrArg Value.agg (Itm.c3 hxo)) HeldL.nil), ?_⟩
                refine EPL.p rfl rfl (q_arrNeq (xs := x.name.map fun y => (y.toNat : Int)) (ys := x.name.map fun y => (y.toNat : Int)) Try.underlying44 Try.underlying5 sz5 eqg44 (by simp [h32]) (by simp [h32]) (by rw [← bv_map]; rfl) (by rw [← bv_map]; rfl)) ?_
                refine EPL.nil ?_
                refine EL.go ?_
                refine EL.cond rfl (fun c14 => ?_) (fun c14 => ?_)
                ·
                  have c14 := of_decide_eq_true c14
                  exact absurd rfl c14
                ·
                  have c14 := of_decide_eq_false c14
                  refine EL.skip ?_
                  refine EL.go ?_
                  refine EL.region [.p 0, .p 1] (by kernel_rfl) ?_
                  refine EPL.p rfl rfl (q_add rfl rfl) ?_
                  refine EPL.p rfl rfl (q_move (v := .int _ _) rfl) ?_
                  refine EPL.nil ?_
                  refine RoundQ.mkP (m - 1) (i + 1) [sg e1 (EyeB (itemsB (l.drop (i + 1))) false), I] (by omega) ⟨by omega, rfl⟩ (by repeat first | exact Off.mix | exact Off.refl | refine Off.upd rfl ?_ | refine Off.upds rfl ?_ | refine Off.mixs rfl ?_) ⟨congrArg (Value.int .i64) (wrap_i64_in (by omega)), trivial⟩
              ·
                have c13 := of_decide_eq_false c13
                refine EL.seq ?_
                refine EL.region [.p 0, .p 1] (by kernel_rfl) ?_
                refine EPL.p rfl rfl (q_eql rfl rfl) ?_
                refine EPL.p rfl rfl (q_assign (v := .bool _) rfl) ?_
                refine EPL.nil ?_
                refine EL.go ?_
                refine EL.cond rfl (fun c15 => ?_) (fun c15 => ?_)
                ·
                  have c15 := of_decide_eq_true c15
                  have hib : itemB x = x.text := by unfold itemB; rw [if_neg c6, if_neg c11, if_neg c13, if_pos c15]
                  rw [hd, hib]
                  refine EL.seq ?_
                  refine EL.draw [.p 0, .p 1, .l 2, .p 3, .p 5, .l 6, .x 4 [6], .p 7] [4] [2, 6] fm (by kernel_rfl) ?_
                  refine EPL.p rfl rfl (q_move (v := .pointer _) rfl) ?_
                  refine EPL.p rfl rfl (q_fieldAddr (p := ⟨_, _, none⟩) Try.underlying46 rfl sz9 rfl rfl) ?_
                  refine EPL.ld1 (v := str x.text) rfl rfl sc9 rfl (by exact Itm.c35 hxo) ?_
                  refine EPL.p rfl rfl (q_lenStr Try.underlying9 rfl) ?_
                  refine EPL.p rfl rfl (q_fieldAddr (p := ⟨_, _, none⟩) Try.underlying46 rfl sz9 rfl rfl) ?_
                  refine EPL.ld1 (v := str x.text) rfl rfl sc9 rfl (by exact Itm.c35 hxo) ?_
                  refine EPL.cl rfl rfl Try.func24 rfl rfl (Raw_spec' e1 (x.text ++ itemsB (l.drop (i + 1))) false x.text.length) rfl ?_
                  rw [raw_app]
                  rintro _ _ ⟨rfl, rfl⟩
                  refine ⟨(HeldL.ld1 rfl rfl sc9 rfl (by exact Itm.c35 hxo) HeldL.nil), ?_⟩
                  refine EPL.p rfl rfl (q_strneq rfl rfl) ?_
                  refine EPL.nil ?_
                  refine EL.go ?_
                  refine EL.cond rfl (fun c16 => ?_) (fun c16 => ?_)
                  ·
                    have c16 := of_decide_eq_true c16
                    exact absurd rfl c16
                  ·
                    have c16 := of_decide_eq_false c16
                    refine EL.skip ?_
                    refine EL.go ?_
                    refine EL.region [.p 0, .p 1] (by kernel_rfl) ?_
                    refine EPL.p rfl rfl (q_add rfl rfl) ?_
                    refine EPL.p rfl rfl (q_move (v := .int _ _) rfl) ?_
                    refine EPL.nil ?_
                    refine RoundQ.mkP (m - 1) (i + 1) [sg e1 (EyeB (itemsB (l.drop (i + 1))) false), I] (by omega) ⟨by omega, rfl⟩ (by repeat first | exact Off.mix | exact Off.refl | refine Off.upd rfl ?_ | refine Off.upds rfl ?_ | refine Off.mixs rfl ?_) ⟨congrArg (Value.int .i64) (wrap_i64_in (by omega)), trivial⟩
                ·
                  have c15 := of_decide_eq_false c15
                  have hib : itemB x = [] := by unfold itemB; rw [if_neg c6, if_neg c11, if_neg c13, if_neg c15]
                  rw [hd, hib, List.nil_append]
                  refine EL.skip ?_
                  refine EL.go ?_
                  refine EL.region [.p 0, .p 1] (by kernel_rfl) ?_
                  refine EPL.p rfl rfl (q_add rfl rfl) ?_
                  refine EPL.p rfl rfl (q_move (v := .int _ _) rfl) ?_
                  refine EPL.nil ?_
                  refine RoundQ.mkP (m - 1) (i + 1) [sg e1 (EyeB (itemsB (l.drop (i + 1))) false), I] (by omega) ⟨by omega, rfl⟩ (by repeat first | exact Off.mix | exact Off.refl | refine Off.upd rfl ?_ | refine Off.upds rfl ?_ | refine Off.mixs rfl ?_) ⟨congrArg (Value.int .i64) (wrap_i64_in (by omega)), trivial⟩
        ·
          have c4 := of_decide_eq_false c4
          have hdr : l.drop i = [] := List.drop_of_length_le (by omega)
          rw [hdr, show itemsB [] = [] from rfl]
          refine EL.exit ?_
          refine EL.go ?_
          refine EL.seq ?_
          refine EL.region [.p 0, .x 1 [], .p 2, .p 3, .x 4 [], .p 5, .p 6, .p 7, .p 8, .x 9 [], .p 10, .p 11, .p 12] (by kernel_rfl) ?_
          refine EPL.p rfl rfl (q_move (v := .pointer _) rfl) ?_
          refine EPL.cl rfl rfl Try.func17 rfl rfl (Done_spec e1 [] false) rfl ?_
          rintro _ _ ⟨rfl, rfl⟩
          refine ⟨HeldL.nil, ?_⟩
          refine EPL.p rfl rfl (q_move (v := .bool _) rfl) ?_
          refine EPL.bool 93 rfl (fun c17 => ?_) (fun c17 => ?_)
          ·
            refine EPL.p rfl rfl (q_move (v := .pointer _) rfl) ?_
            refine EPL.cl rfl rfl Try.func12 rfl rfl (Bad_spec e1 [] false) rfl ?_
            rintro _ _ ⟨rfl, rfl⟩
            refine ⟨HeldL.nil, ?_⟩
            refine EPL.p rfl rfl (q_not rfl) ?_
            refine EPL.p rfl rfl (q_pickT (v := .bool _) rfl rfl) ?_
            refine EPL.p rfl rfl (q_move (v := .bool _) rfl) ?_
            refine EPL.bool 98 rfl (fun c18 => ?_) (fun c18 => ?_)
            ·
              refine EPL.p rfl rfl (q_move (v := .pointer _) rfl) ?_
              refine EPL.cl rfl rfl Try.func13 rfl rfl (Left_spec e1 [] false) rfl ?_
              rintro _ _ ⟨rfl, rfl⟩
              refine ⟨HeldL.nil, ?_⟩
              refine EPL.p rfl rfl (q_eql rfl rfl) ?_
              refine EPL.p rfl rfl (q_pickT (v := .bool _) rfl rfl) ?_
              refine EPL.p rfl rfl (q_assign (v := .bool _) rfl) ?_
              refine EPL.nil ?_
              refine EL.go ?_
              refine EL.ret ?_
              exact end_retP [I] (fun _ => rfl) (fun _ => ⟨rfl, rfl⟩)
            ·
              cases c18
          ·
            cases c17

end Go.Proofs.Ytooemjldpchgfaa
