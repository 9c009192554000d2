/- Parts D3a, D3b, D3c, D3d, D3, D4, D5, D6, D7, D8, D9, D10, D11a, D11b, D11c, D11d of the proofs of this seat: what the functions of these layers answer, in worlds that hold their blocks. No condition beside those that each theorem names. -/
import Derived.Test.YtedkoebbijpnfaaGreatDoorPack3
import Derived.Test.YtedkoebbijpnfaaGreatDoorPack2
namespace Go.Proofs.YtedkoebbijpnfaaGreatDoor
open Go Go.Proofs.YtedkoebbijpnfaaGreatDoor.TH
set_option maxHeartbeats 1000000
theorem Take_s0 (p b1 fb foff lc : Nat) (s : St) (v : Value) (n : Int) (l : List UInt8) (B G : Hp) (hl : l.length = 64) (fc : Array Value) (fety : TypeId) (ffr : Nat × Nat) (fhb : B fb = some (.cells fc fety ffr)) (fall : ∀ (i : Nat) (x : UInt8), l[i]? = some x → fc[foff + i]? = some (bV x)) (hwl : (wordsOf l).length = 16) (e : Env) (Q : Exit → Env → Hp → Prop) : EL Tryz.prog Tryz.f93.ntmps (bodyAt Tryz.f93 [1, 0, 1]) (thenQ (SegQ [5, 16, 17, 18, 19, 20, 21, 22, 23, 24, 25, 26, 27, 28, 29, 30, 31, 32, 33, 34, 35, 36, 37, 38, 39, 40, 41, 42, 43, 44, 45, 46, 47, 48, 49, 50, 51, 52, 53, 54] (fun _ : Unit => []) (fun _ Hs => Hs = [sg b1 (WArr (wordsOf l)), sg p (HasherB s v n), B, G]) (upds e [(0, .pointer (some ⟨p, 0, none⟩)), (1, .slice (some ⟨fb, foff, none⟩) l.length lc), (4, .pointer (some ⟨b1, 0, none⟩)), (16, .int .i64 0)])) Q) (upds e [(0, .pointer (some ⟨p, 0, none⟩)), (1, .slice (some ⟨fb, foff, none⟩) l.length lc), (4, .pointer (some ⟨b1, 0, none⟩)), (16, .int .i64 0)]) [sg b1 (WArr []), sg p (HasherB s v n), B, G] := by
  refine EL.block ?_
  refine EL.loop [5, 16, 17, 18, 19, 20, 21, 22, 23, 24, 25, 26, 27, 28, 29, 30, 31, 32, 33, 34, 35, 36, 37, 38, 39, 40, 41, 42, 43, 44, 45, 46, 47, 48, 49, 50, 51, 52, 53, 54] (fun i : Nat => [(16, .int .i64 i)]) (fun m i Hs' => m + i = 16 ∧ Hs' = [sg b1 (WArr ((wordsOf l).take i)), sg p (HasherB s v n), B, G]) 16 0 ⟨rfl, rfl⟩ ⟨rfl, trivial⟩ ?_
  rintro m i _ j ⟨hm, rfl⟩
  refine EL.seq ?_
  refine EL.region (.p 0 (.nil)) (by kernel_rfl) ?_
  refine EPL.p rfl rfl (q_lss rfl rfl) ?_
  refine EPL.nil ?_
  refine EL.go ?_
  refine EL.seq ?_
  refine EL.cond rfl (fun c2 => ?_) (fun c2 => ?_)
  ·
    have c2 := of_decide_eq_true c2
    obtain ⟨x0, h0⟩ : ∃ x, l[4 * i]? = some x := ⟨_, List.getElem?_eq_getElem (by omega)⟩
    obtain ⟨x1, h1⟩ : ∃ x, l[4 * i + 1]? = some x := ⟨_, List.getElem?_eq_getElem (by omega)⟩
    obtain ⟨x2, h2⟩ : ∃ x, l[4 * i + 2]? = some x := ⟨_, List.getElem?_eq_getElem (by omega)⟩
    obtain ⟨x3, h3⟩ : ∃ x, l[4 * i + 3]? = some x := ⟨_, List.getElem?_eq_getElem (by omega)⟩
    have w0 : IntKind.i64.wrap (4 * (i : Int)) = 4 * i := wrap_i64_in (by omega)
    have w1 : IntKind.i64.wrap (IntKind.i64.wrap (4 * (i : Int)) + 1) = 4 * i + 1 := by rw [w0]; exact wrap_i64_in (by omega)
    have w2 : IntKind.i64.wrap (IntKind.i64.wrap (4 * (i : Int)) + 2) = 4 * i + 2 := by rw [w0]; exact wrap_i64_in (by omega)
    have w3 : IntKind.i64.wrap (IntKind.i64.wrap (4 * (i : Int)) + 3) = 4 * i + 3 := by rw [w0]; exact wrap_i64_in (by omega)
    have g0 : (IntKind.i64.wrap (4 * (i : Int))).toNat * 1 = 4 * i := by rw [w0]; omega
    have g1 : (IntKind.i64.wrap (IntKind.i64.wrap (4 * (i : Int)) + 1)).toNat * 1 = 4 * i + 1 := by rw [w1]; omega
    have g2 : (IntKind.i64.wrap (IntKind.i64.wrap (4 * (i : Int)) + 2)).toNat * 1 = 4 * i + 2 := by rw [w2]; omega
    have g3 : (IntKind.i64.wrap (IntKind.i64.wrap (4 * (i : Int)) + 3)).toNat * 1 = 4 * i + 3 := by rw [w3]; omega
    have hv : bOr .u32 (bOr .u32 (bOr .u32 (bShl .u32 (IntKind.u32.wrap x0.toNat) 24) (bShl .u32 (IntKind.u32.wrap x1.toNat) 16)) (bShl .u32 (IntKind.u32.wrap x2.toNat) 8)) (IntKind.u32.wrap x3.toNat) = ((beW [x0, x1, x2, x3]).toNat : Int) := by
      rw [w_byte, w_byte, w_byte, w_byte]
      have e24 := w_shl (BitVec.ofNat 32 x0.toNat) 24 (by decide)
      have e16 := w_shl (BitVec.ofNat 32 x1.toNat) 16 (by decide)
      have e8 := w_shl (BitVec.ofNat 32 x2.toNat) 8 (by decide)
      rw [show ((24 : Nat) : Int) = 24 from rfl] at e24
      rw [show ((16 : Nat) : Int) = 16 from rfl] at e16
      rw [show ((8 : Nat) : Int) = 8 from rfl] at e8
      rw [e24, e16, e8, w_or, w_or, w_or, be_or]
    have hti : ((wordsOf l).take i).length = i := by rw [List.length_take, hwl]; omega
    refine EL.skip ?_
    refine EL.go ?_
    refine EL.seq ?_
    refine EL.block ?_
    refine EL.seq ?_
    refine EL.region (.p 0 (.p 1 (.nil))) (by kernel_rfl) ?_
    refine EPL.p rfl rfl (q_move (v := .int _ _) rfl) ?_
    refine EPL.p rfl rfl (q_assign (v := .int _ _) rfl) ?_
    refine EPL.nil ?_
    refine EL.go ?_
    refine EL.draw (.p 0 (.p 1 (.p 2 (.p 3 (.p 4 (.l 5 (.p 6 (.p 7 (.p 8 (.p 9 (.p 10 (.p 11 (.p 12 (.l 13 (.p 14 (.p 15 (.p 16 (.p 17 (.p 18 (.p 19 (.p 20 (.p 21 (.l 22 (.p 23 (.p 24 (.p 25 (.p 26 (.p 27 (.p 28 (.p 29 (.p 30 (.l 31 (.p 32 (.p 33 (.p 34 (.x 35 [] (.nil))))))))))))))))))))))))))))))))))))) [35] [5, 13, 22, 31] fm (by kernel_rfl) ?_
    refine EPL.p rfl rfl (q_move (v := .int _ _) rfl) ?_
    refine EPL.p rfl rfl (q_move (v := .slice _ _ _) rfl) ?_
    refine EPL.p rfl rfl (q_move (v := .int _ _) rfl) ?_
    refine EPL.p rfl rfl (q_mul rfl rfl) ?_
    refine EPL.p rfl rfl (q_idxSl Tryz.underlying71 sz5 rfl rfl (by omega) (by omega)) ?_
    refine EPL.ld1P (v := bV _) rfl rfl sc5 rfl fhb (by first | (rw [g0]; exact fall _ _ h0) | (rw [g1]; exact fall _ _ h1) | (rw [g2]; exact fall _ _ h2) | (rw [g3]; exact fall _ _ h3)) ?_
    refine EPL.p rfl rfl (q_conv Tryz.underlying5 Tryz.underlying101 rfl) ?_
    refine EPL.p rfl rfl (q_shl rfl rfl (by first | decide | omega | (rw [wrap_i64_in (by omega)]; omega))) ?_
    refine EPL.p rfl rfl (q_move (v := .slice _ _ _) rfl) ?_
    refine EPL.p rfl rfl (q_move (v := .int _ _) rfl) ?_
    refine EPL.p rfl rfl (q_mul rfl rfl) ?_
    refine EPL.p rfl rfl (q_add rfl rfl) ?_
    refine EPL.p rfl rfl (q_idxSl Tryz.underlying71 sz5 rfl rfl (by omega) (by omega)) ?_
    refine EPL.ld1P (v := bV _) rfl rfl sc5 rfl fhb (by first | (rw [g0]; exact fall _ _ h0) | (rw [g1]; exact fall _ _ h1) | (rw [g2]; exact fall _ _ h2) | (rw [g3]; exact fall _ _ h3)) ?_
    refine EPL.p rfl rfl (q_conv Tryz.underlying5 Tryz.underlying101 rfl) ?_
    refine EPL.p rfl rfl (q_shl rfl rfl (by first | decide | omega | (rw [wrap_i64_in (by omega)]; omega))) ?_
    refine EPL.p rfl rfl (q_or rfl rfl) ?_
    refine EPL.p rfl rfl (q_move (v := .slice _ _ _) rfl) ?_
    refine EPL.p rfl rfl (q_move (v := .int _ _) rfl) ?_
    refine EPL.p rfl rfl (q_mul rfl rfl) ?_
    refine EPL.p rfl rfl (q_add rfl rfl) ?_
    refine EPL.p rfl rfl (q_idxSl Tryz.underlying71 sz5 rfl rfl (by omega) (by omega)) ?_
    refine EPL.ld1P (v := bV _) rfl rfl sc5 rfl fhb (by first | (rw [g0]; exact fall _ _ h0) | (rw [g1]; exact fall _ _ h1) | (rw [g2]; exact fall _ _ h2) | (rw [g3]; exact fall _ _ h3)) ?_
    refine EPL.p rfl rfl (q_conv Tryz.underlying5 Tryz.underlying101 rfl) ?_
    refine EPL.p rfl rfl (q_shl rfl rfl (by first | decide | omega | (rw [wrap_i64_in (by omega)]; omega))) ?_
    refine EPL.p rfl rfl (q_or rfl rfl) ?_
    refine EPL.p rfl rfl (q_move (v := .slice _ _ _) rfl) ?_
    refine EPL.p rfl rfl (q_move (v := .int _ _) rfl) ?_
    refine EPL.p rfl rfl (q_mul rfl rfl) ?_
    refine EPL.p rfl rfl (q_add rfl rfl) ?_
    refine EPL.p rfl rfl (q_idxSl Tryz.underlying71 sz5 rfl rfl (by omega) (by omega)) ?_
    refine EPL.ld1P (v := bV _) rfl rfl sc5 rfl fhb (by first | (rw [g0]; exact fall _ _ h0) | (rw [g1]; exact fall _ _ h1) | (rw [g2]; exact fall _ _ h2) | (rw [g3]; exact fall _ _ h3)) ?_
    refine EPL.p rfl rfl (q_conv Tryz.underlying5 Tryz.underlying101 rfl) ?_
    refine EPL.p rfl rfl (q_or rfl rfl) ?_
    refine EPL.p rfl rfl (q_idxArr Tryz.underlying103 sz101 rfl rfl (by omega) (by omega)) ?_
    refine EPL.st (v := wV (beW [x0, x1, x2, x3])) (c' := ((((wordsOf l).take i ++ [beW [x0, x1, x2, x3]]) ++ List.replicate (64 - ((wordsOf l).take i ++ [beW [x0, x1, x2, x3]]).length) 0).map wV).toArray) rfl rfl sz101 rfl (by exact congrArg (Value.int .u32) hv) rfl (oneV rfl) (by rw [wArr_size (by omega)]; simp; omega) (by show setL _ (0 + (i : Int).toNat * 1) [wV _] = _; rw [show 0 + (i : Int).toNat * 1 = ((wordsOf l).take i).length from by rw [hti]; omega]; exact wArr_set (by omega)) HeldL.nil ?_
    refine EPL.nil ?_
    refine EL.go ?_
    refine EL.region (.p 0 (.p 1 (.nil))) (by kernel_rfl) ?_
    refine EPL.p rfl rfl (q_add rfl rfl) ?_
    refine EPL.p rfl rfl (q_move (v := .int _ _) rfl) ?_
    refine EPL.nil ?_
    refine RoundQ.mkP (m - 1) (i + 1) [sg b1 (WArr ((wordsOf l).take i ++ [beW [x0, x1, x2, x3]])), sg p (HasherB s v n), B, G] (by omega) ⟨by omega, by rw [words_take (by omega) h0 h1 h2 h3]⟩ (by repeat first | refine Off.upd rfl ?_ | exact Off.mix | refine Off.upds rfl ?_ | refine Off.mixs rfl ?_ | exact Off.refl) ⟨congrArg (Value.int .i64) (wrap_i64_in (by omega)), trivial⟩
  ·
    have c2 := of_decide_eq_false c2
    have hwt : (wordsOf l).take i = wordsOf l := List.take_of_length_le (by omega)
    rw [hwt]
    refine EL.exit ?_
    exact SegQ.mk () (by repeat first | refine Off.upd rfl ?_ | exact Off.mix | refine Off.upds rfl ?_ | refine Off.mixs rfl ?_ | exact Off.refl) rfl trivial


end Go.Proofs.YtedkoebbijpnfaaGreatDoor

namespace Go.Proofs.YtedkoebbijpnfaaGreatDoor
open Go Go.Proofs.YtedkoebbijpnfaaGreatDoor.TH
set_option maxHeartbeats 1000000
theorem Take_s2 (p b1 : Nat) (s : St) (v : Value) (n : Int) (l : List UInt8) (B G : Hp) (hwl : (wordsOf l).length = 16) (e : Env) (Q : Exit → Env → Hp → Prop) : EL Tryz.prog Tryz.f93.ntmps (bodyAt Tryz.f93 [1, 1, 0, 1]) (thenQ (SegQ [6, 7, 8, 55, 56, 57, 58, 59, 60, 61, 62, 63, 64, 65, 66, 67, 68, 69, 70, 71, 72, 73, 74, 75, 76, 77, 78, 79, 80, 81, 82, 83, 84, 85, 86, 87, 88, 89, 90, 91] (fun _ : Unit => []) (fun _ Hs => Hs = [sg b1 (WArr (sched (wordsOf l) 48)), sg p (HasherB s v n), B, G]) (upds e [(0, .pointer (some ⟨p, 0, none⟩)), (4, .pointer (some ⟨b1, 0, none⟩)), (6, .int .i64 16)])) Q) (upds e [(0, .pointer (some ⟨p, 0, none⟩)), (4, .pointer (some ⟨b1, 0, none⟩)), (6, .int .i64 16)]) [sg b1 (WArr (wordsOf l)), sg p (HasherB s v n), B, G] := by
  refine EL.block ?_
  refine EL.loop [6, 7, 8, 55, 56, 57, 58, 59, 60, 61, 62, 63, 64, 65, 66, 67, 68, 69, 70, 71, 72, 73, 74, 75, 76, 77, 78, 79, 80, 81, 82, 83, 84, 85, 86, 87, 88, 89, 90, 91] (fun k : Nat => [(6, .int .i64 ((16 + k : Nat) : Int))]) (fun m k Hs' => m + k = 48 ∧ Hs' = [sg b1 (WArr (sched (wordsOf l) k)), sg p (HasherB s v n), B, G]) 48 0 ⟨rfl, rfl⟩ ⟨rfl, trivial⟩ ?_
  rintro m k _ j ⟨hm, rfl⟩
  have hsl := sched_len (wordsOf l) k
  refine EL.seq ?_
  refine EL.seq ?_
  refine EL.region (.p 0 (.p 1 (.nil))) (by kernel_rfl) ?_
  refine EPL.p rfl rfl (q_move (v := .int _ _) rfl) ?_
  refine EPL.p rfl rfl (q_lss rfl rfl) ?_
  refine EPL.nil ?_
  refine EL.go ?_
  refine EL.cond rfl (fun c3 => ?_) (fun c3 => ?_)
  ·
    have c3 := of_decide_eq_true c3
    have hk : k < 48 := by omega
    obtain ⟨a16, h16⟩ : ∃ x, (sched (wordsOf l) k)[k]? = some x := ⟨_, List.getElem?_eq_getElem (by omega)⟩
    obtain ⟨a15, h15⟩ : ∃ x, (sched (wordsOf l) k)[k + 1]? = some x := ⟨_, List.getElem?_eq_getElem (by omega)⟩
    obtain ⟨a7, h7⟩ : ∃ x, (sched (wordsOf l) k)[k + 9]? = some x := ⟨_, List.getElem?_eq_getElem (by omega)⟩
    obtain ⟨a2, h2⟩ : ∃ x, (sched (wordsOf l) k)[k + 14]? = some x := ⟨_, List.getElem?_eq_getElem (by omega)⟩
    have w15 : IntKind.i64.wrap (((16 + k : Nat) : Int) - 15) = ((k + 1 : Nat) : Int) := by rw [wrap_i64_in (by omega)]; omega
    have w2 : IntKind.i64.wrap (((16 + k : Nat) : Int) - 2) = ((k + 14 : Nat) : Int) := by rw [wrap_i64_in (by omega)]; omega
    have w16 : IntKind.i64.wrap (((16 + k : Nat) : Int) - 16) = (k : Int) := by rw [wrap_i64_in (by omega)]; omega
    have w7 : IntKind.i64.wrap (((16 + k : Nat) : Int) - 7) = ((k + 9 : Nat) : Int) := by rw [wrap_i64_in (by omega)]; omega
    have e15 : 0 + (IntKind.i64.wrap (((16 + k : Nat) : Int) - 15)).toNat * 1 = k + 1 := by rw [w15]; omega
    have e2 : 0 + (IntKind.i64.wrap (((16 + k : Nat) : Int) - 2)).toNat * 1 = k + 14 := by rw [w2]; omega
    have e16 : 0 + (IntKind.i64.wrap (((16 + k : Nat) : Int) - 16)).toNat * 1 = k := by rw [w16]; omega
    have e7 : 0 + (IntKind.i64.wrap (((16 + k : Nat) : Int) - 7)).toNat * 1 = k + 9 := by rw [w7]; omega
    have g15 : ((sched (wordsOf l) k ++ List.replicate (64 - (sched (wordsOf l) k).length) 0).map wV).toArray[0 + (IntKind.i64.wrap (((16 + k : Nat) : Int) - 15)).toNat * 1]? = some (wV a15) := by rw [e15]; exact wArr_get h15
    have g2 : ((sched (wordsOf l) k ++ List.replicate (64 - (sched (wordsOf l) k).length) 0).map wV).toArray[0 + (IntKind.i64.wrap (((16 + k : Nat) : Int) - 2)).toNat * 1]? = some (wV a2) := by rw [e2]; exact wArr_get h2
    have g16 : ((sched (wordsOf l) k ++ List.replicate (64 - (sched (wordsOf l) k).length) 0).map wV).toArray[0 + (IntKind.i64.wrap (((16 + k : Nat) : Int) - 16)).toNat * 1]? = some (wV a16) := by rw [e16]; exact wArr_get h16
    have g7 : ((sched (wordsOf l) k ++ List.replicate (64 - (sched (wordsOf l) k).length) 0).map wV).toArray[0 + (IntKind.i64.wrap (((16 + k : Nat) : Int) - 7)).toNat * 1]? = some (wV a7) := by rw [e7]; exact wArr_get h7
    have hsz := wArr_size (l := sched (wordsOf l) k) (by omega)
    have hv2 : IntKind.u32.wrap (IntKind.u32.wrap (IntKind.u32.wrap ((a16.toNat : Int) + bXor .u32 ((turnW a15 [7, 18]).toNat : Int) (bShr .u32 a15.toNat 3)) + a7.toNat) + bXor .u32 ((turnW a2 [17, 19]).toNat : Int) (bShr .u32 a2.toNat 10)) = ((a16 + ssig0 a15 + a7 + ssig1 a2).toNat : Int) := by
      have s3 := w_shr a15 3 (by decide)
      have s10 := w_shr a2 10 (by decide)
      rw [show ((3 : Nat) : Int) = 3 from rfl] at s3
      rw [show ((10 : Nat) : Int) = 10 from rfl] at s10
      rw [s3, s10, turn2, turn2, w_xor, w_xor, w_add, w_add, w_add]; rfl
    have hnx := sched_next (wordsOf l) hwl h16 h15 h7 h2
    refine EL.skip ?_
    refine EL.go ?_
    refine EL.seq ?_
    refine EL.block ?_
    refine EL.seq ?_
    refine EL.draw (.p 0 (.p 1 (.p 2 (.l 3 (.p 4 (.p 5 (.p 6 (.l 7 (.p 8 (.p 9 (.nil))))))))))) [] [3, 7] fm (by kernel_rfl) ?_
    refine EPL.p rfl rfl (q_move (v := .int _ _) rfl) ?_
    refine EPL.p rfl rfl (q_sub rfl rfl) ?_
    refine EPL.p rfl rfl (q_idxArr Tryz.underlying103 sz101 rfl rfl (by omega) (by omega)) ?_
    refine EPL.ld1 (v := wV a15) rfl rfl sc101 rfl g15 ?_
    refine EPL.p rfl rfl (q_move (v := .int _ _) rfl) ?_
    refine EPL.p rfl rfl (q_sub rfl rfl) ?_
    refine EPL.p rfl rfl (q_idxArr Tryz.underlying103 sz101 rfl rfl (by omega) (by omega)) ?_
    refine EPL.ld1 (v := wV a2) rfl rfl sc101 rfl g2 ?_
    refine EPL.p rfl rfl (q_assign (v := .int _ _) rfl) ?_
    refine EPL.p rfl rfl (q_assign (v := .int _ _) rfl) ?_
    refine EPL.nil ?_
    refine EL.go ?_
    refine EL.draw (.p 0 (.p 1 (.p 2 (.p 3 (.l 4 (.p 5 (.p 8 (.p 9 (.p 12 (.p 13 (.p 14 (.l 15 (.p 17 (.p 20 (.p 21 ((.alt (.x 6 [4, 15] ((.alt (.x 7 [4, 15] (.p 10 (.p 11 (.p 16 (.x 18 [4, 15] (.x 19 [4, 15] (.p 22 (.p 23 (.p 24 (.x 25 [] (.nil))))))))))) (.x 18 [4, 15] (.x 7 [4, 15] (.p 10 (.p 11 (.p 16 (.x 19 [4, 15] (.p 22 (.p 23 (.p 24 (.x 25 [] (.nil)))))))))))))) (.x 18 [4, 15] (.x 6 [4, 15] (.x 7 [4, 15] (.p 10 (.p 11 (.p 16 (.x 19 [4, 15] (.p 22 (.p 23 (.p 24 (.x 25 [] (.nil))))))))))))))))))))))))))))) [6, 7, 18, 19, 25] [4, 15] fm (by kernel_rfl) ?_
    refine EPL.p rfl rfl (q_move (v := .int _ _) rfl) ?_
    refine EPL.p rfl rfl (q_move (v := .int _ _) rfl) ?_
    refine EPL.p rfl rfl (q_sub rfl rfl) ?_
    refine EPL.p rfl rfl (q_idxArr Tryz.underlying103 sz101 rfl rfl (by omega) (by omega)) ?_
    refine EPL.ld1 (v := wV a16) rfl rfl sc101 rfl g16 ?_
    refine EPL.p rfl rfl (q_move (v := .int _ _) rfl) ?_
    refine EPL.p rfl rfl (q_move (v := .int _ _) rfl) ?_
    refine EPL.p rfl rfl (q_shr rfl rfl (by first | decide | omega | (rw [wrap_i64_in (by omega)]; omega))) ?_
    refine EPL.p rfl rfl (q_move (v := .int _ _) rfl) ?_
    refine EPL.p rfl rfl (q_sub rfl rfl) ?_
    refine EPL.p rfl rfl (q_idxArr Tryz.underlying103 sz101 rfl rfl (by omega) (by omega)) ?_
    refine EPL.ld1 (v := wV a7) rfl rfl sc101 rfl g7 ?_
    refine EPL.p rfl rfl (q_move (v := .int _ _) rfl) ?_
    refine EPL.p rfl rfl (q_move (v := .int _ _) rfl) ?_
    refine EPL.p rfl rfl (q_shr rfl rfl (by first | decide | omega | (rw [wrap_i64_in (by omega)]; omega))) ?_
    refine EPL.alt ?_ ?_
    ·
      refine EPL.bs rfl rfl Tryz.underlying82 el3 rfl rfl (fill2 (u := .int _ _) (w := .int _ _) rfl rfl rfl) (fun _ => (HeldL.ld1 rfl rfl sc101 rfl (by first | exact g16 | exact g7 | rfl | exact gw) (HeldL.ld1 rfl rfl sc101 rfl (by first | exact g16 | exact g7 | rfl | exact gw) HeldL.nil))) (fun b71 => ?_)
      refine EPL.alt ?_ ?_
      ·
        refine EPL.cl rfl rfl Tryz.func97 rfl rfl (Turn_spec a15 (some ⟨b71, 0, none⟩) 2 [7, 18] (sg b71 (.cells #[.int .i64 7, .int .i64 18] 3 (0, 0))) (by decide) (rdI2 b71 7 18)) rfl ?_
        rintro _ _ ⟨rfl, rfl⟩
        refine ⟨(HeldL.ld1 rfl rfl sc101 rfl (by first | exact g16 | exact g7 | rfl | exact gw) (HeldL.ld1 rfl rfl sc101 rfl (by first | exact g16 | exact g7 | rfl | exact gw) HeldL.nil)), ?_⟩
        refine EPL.p rfl rfl (q_xor rfl rfl) ?_
        refine EPL.p rfl rfl (q_add rfl rfl) ?_
        refine EPL.p rfl rfl (q_add rfl rfl) ?_
        refine EPL.bs rfl rfl Tryz.underlying82 el3 rfl rfl (fill2 (u := .int _ _) (w := .int _ _) rfl rfl rfl) (fun _ => (HeldL.ld1 rfl rfl sc101 rfl (by first | exact g16 | exact g7 | rfl | exact gw) (HeldL.ld1 rfl rfl sc101 rfl (by first | exact g16 | exact g7 | rfl | exact gw) HeldL.nil))) (fun b72 => ?_)
        refine EPL.cl rfl rfl Tryz.func97 rfl rfl (Turn_spec a2 (some ⟨b72, 0, none⟩) 2 [17, 19] (sg b72 (.cells #[.int .i64 17, .int .i64 19] 3 (0, 0))) (by decide) (rdI2 b72 17 19)) rfl ?_
        rintro _ _ ⟨rfl, rfl⟩
        refine ⟨(HeldL.ld1 rfl rfl sc101 rfl (by first | exact g16 | exact g7 | rfl | exact gw) (HeldL.ld1 rfl rfl sc101 rfl (by first | exact g16 | exact g7 | rfl | exact gw) HeldL.nil)), ?_⟩
        refine EPL.p rfl rfl (q_xor rfl rfl) ?_
        refine EPL.p rfl rfl (q_add rfl rfl) ?_
        refine EPL.p rfl rfl (q_idxArr Tryz.underlying103 sz101 rfl rfl (by omega) (by omega)) ?_
        refine EPL.st (v := wV (a16 + ssig0 a15 + a7 + ssig1 a2)) (c' := (((sched (wordsOf l) (k + 1)) ++ List.replicate (64 - (sched (wordsOf l) (k + 1)).length) 0).map wV).toArray) rfl rfl sz101 rfl (by exact congrArg (Value.int .u32) hv2) rfl (oneV rfl) (by rw [hsz]; omega) (by show setL _ (0 + ((16 + k : Nat) : Int).toNat * 1) [wV _] = _; rw [show 0 + ((16 + k : Nat) : Int).toNat * 1 = (sched (wordsOf l) k).length from by rw [hsl, hwl]; omega, hnx]; exact wArr_set (by rw [hsl, hwl]; omega)) HeldL.nil ?_
        refine EPL.nil ?_
        refine EL.go ?_
        refine EL.region (.p 0 (.p 1 (.p 2 (.nil)))) (by kernel_rfl) ?_
        refine EPL.p rfl rfl (q_move (v := .int _ _) rfl) ?_
        refine EPL.p rfl rfl (q_add rfl rfl) ?_
        refine EPL.p rfl rfl (q_assign (v := .int _ _) rfl) ?_
        refine EPL.nil ?_
        refine RoundQ.mkP (m - 1) (k + 1) [sg b1 (WArr (sched (wordsOf l) (k + 1))), sg p (HasherB s v n), B, G] (by omega) ⟨by omega, rfl⟩ (by repeat first | refine Off.upd rfl ?_ | exact Off.mix | refine Off.upds rfl ?_ | refine Off.mixs rfl ?_ | exact Off.refl) ⟨congrArg (Value.int .i64) (by rw [wrap_i64_in (by omega)]; omega), trivial⟩
      ·
        refine EPL.bs rfl rfl Tryz.underlying82 el3 rfl rfl (fill2 (u := .int _ _) (w := .int _ _) rfl rfl rfl) (fun _ => (HeldL.ld1 rfl rfl sc101 rfl (by first | exact g16 | exact g7 | rfl | exact gw) (HeldL.ld1 rfl rfl sc101 rfl (by first | exact g16 | exact g7 | rfl | exact gw) HeldL.nil))) (fun b72 => ?_)
        refine EPL.cl rfl rfl Tryz.func97 rfl rfl (Turn_spec a15 (some ⟨b71, 0, none⟩) 2 [7, 18] (sg b71 (.cells #[.int .i64 7, .int .i64 18] 3 (0, 0))) (by decide) (rdI2 b71 7 18)) rfl ?_
        rintro _ _ ⟨rfl, rfl⟩
        refine ⟨(HeldL.ld1 rfl rfl sc101 rfl (by first | exact g16 | exact g7 | rfl | exact gw) (HeldL.ld1 rfl rfl sc101 rfl (by first | exact g16 | exact g7 | rfl | exact gw) HeldL.nil)), ?_⟩
        refine EPL.p rfl rfl (q_xor rfl rfl) ?_
        refine EPL.p rfl rfl (q_add rfl rfl) ?_
        refine EPL.p rfl rfl (q_add rfl rfl) ?_
        refine EPL.cl rfl rfl Tryz.func97 rfl rfl (Turn_spec a2 (some ⟨b72, 0, none⟩) 2 [17, 19] (sg b72 (.cells #[.int .i64 17, .int .i64 19] 3 (0, 0))) (by decide) (rdI2 b72 17 19)) rfl ?_
        rintro _ _ ⟨rfl, rfl⟩
        refine ⟨(HeldL.ld1 rfl rfl sc101 rfl (by first | exact g16 | exact g7 | rfl | exact gw) (HeldL.ld1 rfl rfl sc101 rfl (by first | exact g16 | exact g7 | rfl | exact gw) HeldL.nil)), ?_⟩
        refine EPL.p rfl rfl (q_xor rfl rfl) ?_
        refine EPL.p rfl rfl (q_add rfl rfl) ?_
        refine EPL.p rfl rfl (q_idxArr Tryz.underlying103 sz101 rfl rfl (by omega) (by omega)) ?_
        refine EPL.st (v := wV (a16 + ssig0 a15 + a7 + ssig1 a2)) (c' := (((sched (wordsOf l) (k + 1)) ++ List.replicate (64 - (sched (wordsOf l) (k + 1)).length) 0).map wV).toArray) rfl rfl sz101 rfl (by exact congrArg (Value.int .u32) hv2) rfl (oneV rfl) (by rw [hsz]; omega) (by show setL _ (0 + ((16 + k : Nat) : Int).toNat * 1) [wV _] = _; rw [show 0 + ((16 + k : Nat) : Int).toNat * 1 = (sched (wordsOf l) k).length from by rw [hsl, hwl]; omega, hnx]; exact wArr_set (by rw [hsl, hwl]; omega)) HeldL.nil ?_
        refine EPL.nil ?_
        refine EL.go ?_
        refine EL.region (.p 0 (.p 1 (.p 2 (.nil)))) (by kernel_rfl) ?_
        refine EPL.p rfl rfl (q_move (v := .int _ _) rfl) ?_
        refine EPL.p rfl rfl (q_add rfl rfl) ?_
        refine EPL.p rfl rfl (q_assign (v := .int _ _) rfl) ?_
        refine EPL.nil ?_
        refine RoundQ.mkP (m - 1) (k + 1) [sg b1 (WArr (sched (wordsOf l) (k + 1))), sg p (HasherB s v n), B, G] (by omega) ⟨by omega, rfl⟩ (by repeat first | refine Off.upd rfl ?_ | exact Off.mix | refine Off.upds rfl ?_ | refine Off.mixs rfl ?_ | exact Off.refl) ⟨congrArg (Value.int .i64) (by rw [wrap_i64_in (by omega)]; omega), trivial⟩
    ·
      refine EPL.bs rfl rfl Tryz.underlying82 el3 rfl rfl (fill2 (u := .int _ _) (w := .int _ _) rfl rfl rfl) (fun _ => (HeldL.ld1 rfl rfl sc101 rfl (by first | exact g16 | exact g7 | rfl | exact gw) (HeldL.ld1 rfl rfl sc101 rfl (by first | exact g16 | exact g7 | rfl | exact gw) HeldL.nil))) (fun b72 => ?_)
      refine EPL.bs rfl rfl Tryz.underlying82 el3 rfl rfl (fill2 (u := .int _ _) (w := .int _ _) rfl rfl rfl) (fun _ => (HeldL.ld1 rfl rfl sc101 rfl (by first | exact g16 | exact g7 | rfl | exact gw) (HeldL.ld1 rfl rfl sc101 rfl (by first | exact g16 | exact g7 | rfl | exact gw) HeldL.nil))) (fun b71 => ?_)
      refine EPL.cl rfl rfl Tryz.func97 rfl rfl (Turn_spec a15 (some ⟨b71, 0, none⟩) 2 [7, 18] (sg b71 (.cells #[.int .i64 7, .int .i64 18] 3 (0, 0))) (by decide) (rdI2 b71 7 18)) rfl ?_
      rintro _ _ ⟨rfl, rfl⟩
      refine ⟨(HeldL.ld1 rfl rfl sc101 rfl (by first | exact g16 | exact g7 | rfl | exact gw) (HeldL.ld1 rfl rfl sc101 rfl (by first | exact g16 | exact g7 | rfl | exact gw) HeldL.nil)), ?_⟩
      refine EPL.p rfl rfl (q_xor rfl rfl) ?_
      refine EPL.p rfl rfl (q_add rfl rfl) ?_
      refine EPL.p rfl rfl (q_add rfl rfl) ?_
      refine EPL.cl rfl rfl Tryz.func97 rfl rfl (Turn_spec a2 (some ⟨b72, 0, none⟩) 2 [17, 19] (sg b72 (.cells #[.int .i64 17, .int .i64 19] 3 (0, 0))) (by decide) (rdI2 b72 17 19)) rfl ?_
      rintro _ _ ⟨rfl, rfl⟩
      refine ⟨(HeldL.ld1 rfl rfl sc101 rfl (by first | exact g16 | exact g7 | rfl | exact gw) (HeldL.ld1 rfl rfl sc101 rfl (by first | exact g16 | exact g7 | rfl | exact gw) HeldL.nil)), ?_⟩
      refine EPL.p rfl rfl (q_xor rfl rfl) ?_
      refine EPL.p rfl rfl (q_add rfl rfl) ?_
      refine EPL.p rfl rfl (q_idxArr Tryz.underlying103 sz101 rfl rfl (by omega) (by omega)) ?_
      refine EPL.st (v := wV (a16 + ssig0 a15 + a7 + ssig1 a2)) (c' := (((sched (wordsOf l) (k + 1)) ++ List.replicate (64 - (sched (wordsOf l) (k + 1)).length) 0).map wV).toArray) rfl rfl sz101 rfl (by exact congrArg (Value.int .u32) hv2) rfl (oneV rfl) (by rw [hsz]; omega) (by show setL _ (0 + ((16 + k : Nat) : Int).toNat * 1) [wV _] = _; rw [show 0 + ((16 + k : Nat) : Int).toNat * 1 = (sched (wordsOf l) k).length from by rw [hsl, hwl]; omega, hnx]; exact wArr_set (by rw [hsl, hwl]; omega)) HeldL.nil ?_
      refine EPL.nil ?_
      refine EL.go ?_
      refine EL.region (.p 0 (.p 1 (.p 2 (.nil)))) (by kernel_rfl) ?_
      refine EPL.p rfl rfl (q_move (v := .int _ _) rfl) ?_
      refine EPL.p rfl rfl (q_add rfl rfl) ?_
      refine EPL.p rfl rfl (q_assign (v := .int _ _) rfl) ?_
      refine EPL.nil ?_
      refine RoundQ.mkP (m - 1) (k + 1) [sg b1 (WArr (sched (wordsOf l) (k + 1))), sg p (HasherB s v n), B, G] (by omega) ⟨by omega, rfl⟩ (by repeat first | refine Off.upd rfl ?_ | exact Off.mix | refine Off.upds rfl ?_ | refine Off.mixs rfl ?_ | exact Off.refl) ⟨congrArg (Value.int .i64) (by rw [wrap_i64_in (by omega)]; omega), trivial⟩
  ·
    have c3 := of_decide_eq_false c3
    have hk48 : k = 48 := by omega
    subst hk48
    refine EL.exit ?_
    exact SegQ.mk () (by repeat first | refine Off.upd rfl ?_ | exact Off.mix | refine Off.upds rfl ?_ | refine Off.mixs rfl ?_ | exact Off.refl) rfl trivial


end Go.Proofs.YtedkoebbijpnfaaGreatDoor

namespace Go.Proofs.YtedkoebbijpnfaaGreatDoor
open Go Go.Proofs.YtedkoebbijpnfaaGreatDoor.TH
set_option maxHeartbeats 1000000
theorem Take_s4 (p b1 b8 : Nat) (s : St) (v : Value) (n : Int) (S : List W32) (B G : Hp) (hSl : S.length = 64) (hG : ∃ fr, G 3 = some (.cells (kW.map wV).toArray 103 fr)) (e : Env) (Q : Exit → Env → Hp → Prop) : EL Tryz.prog Tryz.f93.ntmps (bodyAt Tryz.f93 [1, 1, 1, 1, 0, 1]) (thenQ (SegQ [10, 11, 12, 13, 14, 96, 97, 98, 99, 100, 101, 102, 103, 104, 105, 106, 107, 108, 109, 110, 111, 112, 113, 114, 115, 116, 117, 118, 119, 120, 121, 122, 123, 124, 125, 126, 127, 128, 129, 130, 131, 132, 133, 134, 135, 136, 137, 138, 139, 140, 141, 142, 143, 144, 145, 146, 147, 148, 149, 150, 151, 152, 153, 154, 155, 156, 157, 158, 159, 160, 161, 162, 163, 164, 165, 166, 167, 168, 169, 170, 171] (fun _ : Unit => []) (fun _ Hs => Hs = [sg b8 (SArr (rounds kW S s 64)), sg b1 (WArr S), sg p (HasherB s v n), B, G]) (upds e [(0, .pointer (some ⟨p, 0, none⟩)), (4, .pointer (some ⟨b1, 0, none⟩)), (9, .pointer (some ⟨b8, 0, none⟩)), (96, .int .i64 0)])) Q) (upds e [(0, .pointer (some ⟨p, 0, none⟩)), (4, .pointer (some ⟨b1, 0, none⟩)), (9, .pointer (some ⟨b8, 0, none⟩)), (96, .int .i64 0)]) [sg b8 (SArr s), sg b1 (WArr S), sg p (HasherB s v n), B, G] := by
  refine EL.block ?_
  refine EL.loop [10, 11, 12, 13, 14, 96, 97, 98, 99, 100, 101, 102, 103, 104, 105, 106, 107, 108, 109, 110, 111, 112, 113, 114, 115, 116, 117, 118, 119, 120, 121, 122, 123, 124, 125, 126, 127, 128, 129, 130, 131, 132, 133, 134, 135, 136, 137, 138, 139, 140, 141, 142, 143, 144, 145, 146, 147, 148, 149, 150, 151, 152, 153, 154, 155, 156, 157, 158, 159, 160, 161, 162, 163, 164, 165, 166, 167, 168, 169, 170, 171] (fun i : Nat => [(96, .int .i64 i)]) (fun m i Hs' => m + i = 64 ∧ Hs' = [sg b8 (SArr (rounds kW S s i)), sg b1 (WArr S), sg p (HasherB s v n), B, G]) 64 0 ⟨rfl, rfl⟩ ⟨rfl, trivial⟩ ?_
  rintro m i _ j ⟨hm, rfl⟩
  refine EL.seq ?_
  refine EL.region (.p 0 (.nil)) (by kernel_rfl) ?_
  refine EPL.p rfl rfl (q_lss rfl rfl) ?_
  refine EPL.nil ?_
  refine EL.go ?_
  refine EL.seq ?_
  refine EL.cond rfl (fun c4 => ?_) (fun c4 => ?_)
  ·
    have c4 := of_decide_eq_true c4
    have hi : i < 64 := by omega
    obtain ⟨fr3, hG3⟩ := hG
    generalize hq : rounds kW S s i = q
    obtain ⟨kk, hkk⟩ : ∃ x, kW[i]? = some x := ⟨_, List.getElem?_eq_getElem (by show i < 64; omega)⟩
    obtain ⟨ww, hww⟩ : ∃ x, S[i]? = some x := ⟨_, List.getElem?_eq_getElem (by omega)⟩
    have hnr : rounds kW S s (i + 1) = q.step kk ww := by
      show (rounds kW S s i).step (kW.getD i 0) (S.getD i 0) = _
      rw [hq, List.getD_eq_getElem?_getD, List.getD_eq_getElem?_getD, hkk, hww]; rfl
    have ei : 0 + (i : Int).toNat * 1 = i := by omega
    have gk : (kW.map wV).toArray[0 + (i : Int).toNat * 1]? = some (wV kk) := by rw [ei]; simp [hkk]
    have gw : ((S ++ List.replicate (64 - S.length) 0).map wV).toArray[0 + (i : Int).toNat * 1]? = some (wV ww) := by rw [ei]; exact wArr_get hww
    have hX : IntKind.u32.wrap (IntKind.u32.wrap (IntKind.u32.wrap (IntKind.u32.wrap ((q.h.toNat : Int) + (turnW q.e [6, 11, 25]).toNat) + bXor .u32 (bAnd .u32 q.e.toNat q.f.toNat) (bAnd .u32 (bXor .u32 (if IntKind.u32.signed then -1 else IntKind.u32.max) q.e.toNat) q.g.toNat)) + kk.toNat) + ww.toNat) = ((q.h + bsig1 q.e + chW q.e q.f q.g + kk + ww).toNat : Int) := by
      rw [turn3, w_compl, w_and, w_and, w_xor, w_add, w_add, w_add, w_add]; rfl
    have hY : IntKind.u32.wrap (((turnW q.a [2, 13, 22]).toNat : Int) + bXor .u32 (bXor .u32 (bAnd .u32 q.a.toNat q.b.toNat) (bAnd .u32 q.a.toNat q.c.toNat)) (bAnd .u32 q.b.toNat q.c.toNat)) = ((bsig0 q.a + majW q.a q.b q.c).toNat : Int) := by
      rw [turn3, w_and, w_and, w_and, w_xor, w_xor, w_add]; rfl
    refine EL.skip ?_
    refine EL.go ?_
    refine EL.seq ?_
    refine EL.block ?_
    refine EL.seq ?_
    refine EL.region (.p 0 (.p 1 (.nil))) (by kernel_rfl) ?_
    refine EPL.p rfl rfl (q_move (v := .int _ _) rfl) ?_
    refine EPL.p rfl rfl (q_assign (v := .int _ _) rfl) ?_
    refine EPL.nil ?_
    refine EL.go ?_
    refine EL.seq ?_
    refine EL.region (.p 0 (.l 1 (.p 2 (.l 3 (.p 4 (.p 5 (.l 6 (.p 7 (.p 8 (.l 9 (.p 10 (.p 11 (.p 12 (.nil)))))))))))))) (by kernel_rfl) ?_
    refine EPL.p rfl rfl (q_idxArr Tryz.underlying102 sz101 rfl rfl (by omega) (by omega)) ?_
    refine EPL.ld1 (v := wV q.e) rfl rfl sc101 rfl rfl ?_
    refine EPL.p rfl rfl (q_idxArr Tryz.underlying102 sz101 rfl rfl (by omega) (by omega)) ?_
    refine EPL.ld1 (v := wV q.f) rfl rfl sc101 rfl rfl ?_
    refine EPL.p rfl rfl (q_and rfl rfl) ?_
    refine EPL.p rfl rfl (q_idxArr Tryz.underlying102 sz101 rfl rfl (by omega) (by omega)) ?_
    refine EPL.ld1 (v := wV q.e) rfl rfl sc101 rfl rfl ?_
    refine EPL.p rfl rfl (q_compl rfl) ?_
    refine EPL.p rfl rfl (q_idxArr Tryz.underlying102 sz101 rfl rfl (by omega) (by omega)) ?_
    refine EPL.ld1 (v := wV q.g) rfl rfl sc101 rfl rfl ?_
    refine EPL.p rfl rfl (q_and rfl rfl) ?_
    refine EPL.p rfl rfl (q_xor rfl rfl) ?_
    refine EPL.p rfl rfl (q_assign (v := .int _ _) rfl) ?_
    refine EPL.nil ?_
    refine EL.go ?_
    refine EL.seq ?_
    refine EL.region (.p 0 (.l 1 (.p 2 (.l 3 (.p 4 (.p 5 (.l 6 (.p 7 (.l 8 (.p 9 (.p 10 (.p 11 (.l 12 (.p 13 (.l 14 (.p 15 (.p 16 (.p 17 (.nil))))))))))))))))))) (by kernel_rfl) ?_
    refine EPL.p rfl rfl (q_idxArr Tryz.underlying102 sz101 rfl rfl (by omega) (by omega)) ?_
    refine EPL.ld1 (v := wV q.a) rfl rfl sc101 rfl rfl ?_
    refine EPL.p rfl rfl (q_idxArr Tryz.underlying102 sz101 rfl rfl (by omega) (by omega)) ?_
    refine EPL.ld1 (v := wV q.b) rfl rfl sc101 rfl rfl ?_
    refine EPL.p rfl rfl (q_and rfl rfl) ?_
    refine EPL.p rfl rfl (q_idxArr Tryz.underlying102 sz101 rfl rfl (by omega) (by omega)) ?_
    refine EPL.ld1 (v := wV q.a) rfl rfl sc101 rfl rfl ?_
    refine EPL.p rfl rfl (q_idxArr Tryz.underlying102 sz101 rfl rfl (by omega) (by omega)) ?_
    refine EPL.ld1 (v := wV q.c) rfl rfl sc101 rfl rfl ?_
    refine EPL.p rfl rfl (q_and rfl rfl) ?_
    refine EPL.p rfl rfl (q_xor rfl rfl) ?_
    refine EPL.p rfl rfl (q_idxArr Tryz.underlying102 sz101 rfl rfl (by omega) (by omega)) ?_
    refine EPL.ld1 (v := wV q.b) rfl rfl sc101 rfl rfl ?_
    refine EPL.p rfl rfl (q_idxArr Tryz.underlying102 sz101 rfl rfl (by omega) (by omega)) ?_
    refine EPL.ld1 (v := wV q.c) rfl rfl sc101 rfl rfl ?_
    refine EPL.p rfl rfl (q_and rfl rfl) ?_
    refine EPL.p rfl rfl (q_xor rfl rfl) ?_
    refine EPL.p rfl rfl (q_assign (v := .int _ _) rfl) ?_
    refine EPL.nil ?_
    refine EL.go ?_
    refine EL.seq ?_
    refine EL.draw (.p 0 (.l 1 (.p 2 (.l 3 (.p 7 (.p 9 (.p 10 (.l 11 (.p 13 (.p 14 (.l 15 (.x 4 [1, 3, 11, 15] (.x 5 [1, 11, 15] (.p 6 (.p 8 (.p 12 (.p 16 (.p 17 (.nil))))))))))))))))))) [4, 5] [1, 3, 11, 15] fm (by kernel_rfl) ?_
    refine EPL.p rfl rfl (q_idxArr Tryz.underlying102 sz101 rfl rfl (by omega) (by omega)) ?_
    refine EPL.ld1 (v := wV q.h) rfl rfl sc101 rfl rfl ?_
    refine EPL.p rfl rfl (q_idxArr Tryz.underlying102 sz101 rfl rfl (by omega) (by omega)) ?_
    refine EPL.ld1 (v := wV q.e) rfl rfl sc101 rfl rfl ?_
    refine EPL.p rfl rfl (q_move (v := .int _ _) rfl) ?_
    refine EPL.p rfl rfl (q_move (v := .int _ _) rfl) ?_
    refine EPL.p rfl rfl (q_idxArr Tryz.underlying103 sz101 rfl rfl (by omega) (by omega)) ?_
    refine EPL.ld1P (v := wV kk) rfl rfl sc101 rfl hG3 gk ?_
    refine EPL.p rfl rfl (q_move (v := .int _ _) rfl) ?_
    refine EPL.p rfl rfl (q_idxArr Tryz.underlying103 sz101 rfl rfl (by omega) (by omega)) ?_
    refine EPL.ld1 (v := wV ww) rfl rfl sc101 rfl gw ?_
    refine EPL.bs rfl rfl Tryz.underlying82 el3 rfl rfl (fill3 (u := .int _ _) (w := .int _ _) (x := .int _ _) rfl rfl rfl rfl) (fun _ => (HeldL.ld1 rfl rfl sc101 rfl (by first | exact g16 | exact g7 | rfl | exact gw) (HeldL.ld1 rfl rfl sc101 rfl (by first | exact g16 | exact g7 | rfl | exact gw) (HeldL.ld1P rfl rfl sc101 rfl hG3 gk (HeldL.ld1 rfl rfl sc101 rfl (by first | exact g16 | exact g7 | rfl | exact gw) HeldL.nil))))) (fun b73 => ?_)
    refine EPL.cl rfl rfl Tryz.func97 rfl rfl (Turn_spec q.e (some ⟨b73, 0, none⟩) 3 [6, 11, 25] (sg b73 (.cells #[.int .i64 6, .int .i64 11, .int .i64 25] 3 (0, 0))) (by decide) (rdI3 b73 6 11 25)) rfl ?_
    rintro _ _ ⟨rfl, rfl⟩
    refine ⟨(HeldL.ld1 rfl rfl sc101 rfl (by first | exact g16 | exact g7 | rfl | exact gw) (HeldL.ld1P rfl rfl sc101 rfl hG3 gk (HeldL.ld1 rfl rfl sc101 rfl (by first | exact g16 | exact g7 | rfl | exact gw) HeldL.nil))), ?_⟩
    refine EPL.p rfl rfl (q_add rfl rfl) ?_
    refine EPL.p rfl rfl (q_add rfl rfl) ?_
    refine EPL.p rfl rfl (q_add rfl rfl) ?_
    refine EPL.p rfl rfl (q_add rfl rfl) ?_
    refine EPL.p rfl rfl (q_assign (v := .int _ _) rfl) ?_
    refine EPL.nil ?_
    refine EL.go ?_
    refine EL.seq ?_
    refine EL.region (.p 0 (.l 1 (.x 2 [] (.x 3 [] (.p 4 (.p 5 (.p 6 (.nil)))))))) (by kernel_rfl) ?_
    refine EPL.p rfl rfl (q_idxArr Tryz.underlying102 sz101 rfl rfl (by omega) (by omega)) ?_
    refine EPL.ld1 (v := wV q.a) rfl rfl sc101 rfl rfl ?_
    refine EPL.bs rfl rfl Tryz.underlying82 el3 rfl rfl (fill3 (u := .int _ _) (w := .int _ _) (x := .int _ _) rfl rfl rfl rfl) (fun _ => HeldL.nil) (fun b74 => ?_)
    refine EPL.cl rfl rfl Tryz.func97 rfl rfl (Turn_spec q.a (some ⟨b74, 0, none⟩) 3 [2, 13, 22] (sg b74 (.cells #[.int .i64 2, .int .i64 13, .int .i64 22] 3 (0, 0))) (by decide) (rdI3 b74 2 13 22)) rfl ?_
    rintro _ _ ⟨rfl, rfl⟩
    refine ⟨HeldL.nil, ?_⟩
    refine EPL.p rfl rfl (q_move (v := .int _ _) rfl) ?_
    refine EPL.p rfl rfl (q_add rfl rfl) ?_
    refine EPL.p rfl rfl (q_assign (v := .int _ _) rfl) ?_
    refine EPL.nil ?_
    refine EL.go ?_
    refine EL.region (.p 0 (.p 1 (.p 2 (.p 3 (.l 4 (.p 5 (.l 6 (.p 7 (.l 8 (.p 9 (.l 10 (.p 11 (.p 12 (.p 13 (.l 14 (.p 15 (.l 16 (.p 17 (.l 18 (.p 19 (.x 20 [] (.nil)))))))))))))))))))))) (by kernel_rfl) ?_
    refine EPL.p rfl rfl (q_move (v := .int _ _) rfl) ?_
    refine EPL.p rfl rfl (q_move (v := .int _ _) rfl) ?_
    refine EPL.p rfl rfl (q_add rfl rfl) ?_
    refine EPL.p rfl rfl (q_idxArr Tryz.underlying102 sz101 rfl rfl (by omega) (by omega)) ?_
    refine EPL.ld1 (v := wV q.a) rfl rfl sc101 rfl rfl ?_
    refine EPL.p rfl rfl (q_idxArr Tryz.underlying102 sz101 rfl rfl (by omega) (by omega)) ?_
    refine EPL.ld1 (v := wV q.b) rfl rfl sc101 rfl rfl ?_
    refine EPL.p rfl rfl (q_idxArr Tryz.underlying102 sz101 rfl rfl (by omega) (by omega)) ?_
    refine EPL.ld1 (v := wV q.c) rfl rfl sc101 rfl rfl ?_
    refine EPL.p rfl rfl (q_idxArr Tryz.underlying102 sz101 rfl rfl (by omega) (by omega)) ?_
    refine EPL.ld1 (v := wV q.d) rfl rfl sc101 rfl rfl ?_
    refine EPL.p rfl rfl (q_move (v := .int _ _) rfl) ?_
    refine EPL.p rfl rfl (q_add rfl rfl) ?_
    refine EPL.p rfl rfl (q_idxArr Tryz.underlying102 sz101 rfl rfl (by omega) (by omega)) ?_
    refine EPL.ld1 (v := wV q.e) rfl rfl sc101 rfl rfl ?_
    refine EPL.p rfl rfl (q_idxArr Tryz.underlying102 sz101 rfl rfl (by omega) (by omega)) ?_
    refine EPL.ld1 (v := wV q.f) rfl rfl sc101 rfl rfl ?_
    refine EPL.p rfl rfl (q_idxArr Tryz.underlying102 sz101 rfl rfl (by omega) (by omega)) ?_
    refine EPL.ld1 (v := wV q.g) rfl rfl sc101 rfl rfl ?_
    refine EPL.p rfl rfl (q_buildA (cells := #[.int _ _, .int _ _, .int _ _, .int _ _, .int _ _, .int _ _, .int _ _, .int _ _]) Tryz.underlying102 sz101 el102 (.cons rfl rfl (Nat.le_of_ble_eq_true rfl) rfl (.cons rfl rfl (Nat.le_of_ble_eq_true rfl) rfl (.cons rfl rfl (Nat.le_of_ble_eq_true rfl) rfl (.cons rfl rfl (Nat.le_of_ble_eq_true rfl) rfl (.cons rfl rfl (Nat.le_of_ble_eq_true rfl) rfl (.cons rfl rfl (Nat.le_of_ble_eq_true rfl) rfl (.cons rfl rfl (Nat.le_of_ble_eq_true rfl) rfl (.cons rfl rfl (Nat.le_of_ble_eq_true rfl) rfl .nil))))))))) ?_
    refine EPL.stA (v := ((q.step kk ww).list.map wV).toArray) rfl rfl sz102 rfl (by
      show Value.agg #[.int .u32 (IntKind.u32.wrap (IntKind.u32.wrap _ + IntKind.u32.wrap _)), wV q.a, wV q.b, wV q.c, .int .u32 (IntKind.u32.wrap (_ + IntKind.u32.wrap _)), wV q.e, wV q.f, wV q.g] = _
      rw [hX, hY, w_add, w_add]; rfl) rfl (wAll _) rfl HeldL.nil ?_
    refine EPL.nil ?_
    refine EL.go ?_
    refine EL.region (.p 0 (.p 1 (.nil))) (by kernel_rfl) ?_
    refine EPL.p rfl rfl (q_add rfl rfl) ?_
    refine EPL.p rfl rfl (q_move (v := .int _ _) rfl) ?_
    refine EPL.nil ?_
    refine RoundQ.mkP (m - 1) (i + 1) [sg b8 (SArr (q.step kk ww)), sg b1 (WArr S), sg p (HasherB s v n), B, G] (by omega) ⟨by omega, by rw [hnr]⟩ (by repeat first | refine Off.upd rfl ?_ | exact Off.mix | refine Off.upds rfl ?_ | refine Off.mixs rfl ?_ | exact Off.refl) ⟨congrArg (Value.int .i64) (wrap_i64_in (by omega)), trivial⟩
  ·
    have c4 := of_decide_eq_false c4
    have hi64 : i = 64 := by omega
    subst hi64
    refine EL.exit ?_
    exact SegQ.mk () (by repeat first | refine Off.upd rfl ?_ | exact Off.mix | refine Off.upds rfl ?_ | refine Off.mixs rfl ?_ | exact Off.refl) rfl trivial


end Go.Proofs.YtedkoebbijpnfaaGreatDoor

namespace Go.Proofs.YtedkoebbijpnfaaGreatDoor
open Go Go.Proofs.YtedkoebbijpnfaaGreatDoor.TH
set_option maxHeartbeats 1000000
theorem Take_s6 (p b1 b8 : Nat) (s q : St) (v : Value) (n : Int) (S : List W32) (B G : Hp) (e : Env) (Q : Exit → Env → Hp → Prop) : EL Tryz.prog Tryz.f93.ntmps (bodyAt Tryz.f93 [1, 1, 1, 1, 1, 1]) (thenQ (SegQ [15, 172, 173, 174, 175, 176, 177, 178, 179, 180, 181, 182, 183, 184, 185, 186, 187, 188] (fun _ : Unit => []) (fun _ Hs => Hs = [sg b8 (SArr q), sg b1 (WArr S), sg p (HasherB (s.add q) v n), B, G]) (upds e [(0, .pointer (some ⟨p, 0, none⟩)), (9, .pointer (some ⟨b8, 0, none⟩)), (172, .int .i64 0)])) Q) (upds e [(0, .pointer (some ⟨p, 0, none⟩)), (9, .pointer (some ⟨b8, 0, none⟩)), (172, .int .i64 0)]) [sg b8 (SArr q), sg b1 (WArr S), sg p (HasherB s v n), B, G] := by
  refine EL.block ?_
  refine EL.loop [15, 172, 173, 174, 175, 176, 177, 178, 179, 180, 181, 182, 183, 184, 185, 186, 187, 188] (fun i : Nat => [(172, .int .i64 i)]) (fun m i Hs' => m + i = 8 ∧ Hs' = [sg b8 (SArr q), sg b1 (WArr S), sg p (HasherL ((s.add q).list.take i ++ s.list.drop i) v n), B, G]) 8 0 ⟨rfl, rfl⟩ ⟨rfl, trivial⟩ ?_
  rintro m i _ j ⟨hm, rfl⟩
  refine EL.seq ?_
  refine EL.region (.p 0 (.nil)) (by kernel_rfl) ?_
  refine EPL.p rfl rfl (q_lss rfl rfl) ?_
  refine EPL.nil ?_
  refine EL.go ?_
  refine EL.seq ?_
  refine EL.cond rfl (fun c5 => ?_) (fun c5 => ?_)
  ·
    have c5 := of_decide_eq_true c5
    have hi : i < 8 := by omega
    obtain ⟨x, hx⟩ : ∃ x, s.list[i]? = some x := ⟨_, List.getElem?_eq_getElem (by show i < 8; omega)⟩
    obtain ⟨y, hy⟩ : ∃ x, q.list[i]? = some x := ⟨_, List.getElem?_eq_getElem (by show i < 8; omega)⟩
    have hz : (s.add q).list[i]? = some (x + y) := add_get hx hy
    have ei : 0 + 0 + (i : Int).toNat * 1 = i := by omega
    have ei2 : 0 + (i : Int).toNat * 1 = i := by omega
    have gx := mix_get (A := (s.add q).list) (B := s.list) hx rfl [v, .int .u64 n]
    have gy : (q.list.map wV).toArray[0 + (i : Int).toNat * 1]? = some (wV y) := by rw [ei2]; simp [hy]
    have hsz : (((s.add q).list.take i ++ s.list.drop i).map wV ++ [v, .int .u64 n]).toArray.size = 10 := by simp [St.list]; omega
    refine EL.skip ?_
    refine EL.go ?_
    refine EL.seq ?_
    refine EL.block ?_
    refine EL.seq ?_
    refine EL.region (.p 0 (.p 1 (.nil))) (by kernel_rfl) ?_
    refine EPL.p rfl rfl (q_move (v := .int _ _) rfl) ?_
    refine EPL.p rfl rfl (q_assign (v := .int _ _) rfl) ?_
    refine EPL.nil ?_
    refine EL.go ?_
    refine EL.draw (.p 0 (.p 1 (.p 2 (.p 3 (.p 4 (.l 5 (.p 6 (.p 7 (.l 8 (.p 9 (.p 10 (.p 11 (.p 12 (.x 13 [] (.nil))))))))))))))) [13] [5, 8] fm (by kernel_rfl) ?_
    refine EPL.p rfl rfl (q_move (v := .pointer _) rfl) ?_
    refine EPL.p rfl rfl (q_move (v := .int _ _) rfl) ?_
    refine EPL.p rfl rfl (q_nilCheck rfl) ?_
    refine EPL.p rfl rfl (q_fieldAddr (p := ⟨_, _, none⟩) Tryz.underlying129 rfl sz102 rfl rfl) ?_
    refine EPL.p rfl rfl (q_idxArr Tryz.underlying102 sz101 rfl rfl (by omega) (by omega)) ?_
    refine EPL.ld1 (v := wV x) rfl rfl sc101 rfl (by first | (rw [ei]; exact gx) | (rw [ei2]; exact gx)) ?_
    refine EPL.p rfl rfl (q_move (v := .int _ _) rfl) ?_
    refine EPL.p rfl rfl (q_idxArr Tryz.underlying102 sz101 rfl rfl (by omega) (by omega)) ?_
    refine EPL.ld1 (v := wV y) rfl rfl sc101 rfl gy ?_
    refine EPL.p rfl rfl (q_add rfl rfl) ?_
    refine EPL.p rfl rfl (q_nilCheck rfl) ?_
    refine EPL.p rfl rfl (q_fieldAddr (p := ⟨_, _, none⟩) Tryz.underlying129 rfl sz102 rfl rfl) ?_
    refine EPL.p rfl rfl (q_idxArr Tryz.underlying102 sz101 rfl rfl (by omega) (by omega)) ?_
    refine EPL.st (v := wV (x + y)) (c' := (((s.add q).list.take (i + 1) ++ s.list.drop (i + 1)).map wV ++ [v, .int .u64 n]).toArray) rfl rfl sz101 rfl (by exact congrArg (Value.int .u32) (w_add x y)) rfl (oneV rfl) (by rw [hsz]; omega) (by show setL _ (0 + 0 + (i : Int).toNat * 1) [wV _] = _; rw [ei]; exact mix_set (A := (s.add q).list) (B := s.list) hz rfl [v, .int .u64 n]) HeldL.nil ?_
    refine EPL.nil ?_
    refine EL.go ?_
    refine EL.region (.p 0 (.p 1 (.nil))) (by kernel_rfl) ?_
    refine EPL.p rfl rfl (q_add rfl rfl) ?_
    refine EPL.p rfl rfl (q_move (v := .int _ _) rfl) ?_
    refine EPL.nil ?_
    refine RoundQ.mkP (m - 1) (i + 1) [sg b8 (SArr q), sg b1 (WArr S), sg p (HasherL ((s.add q).list.take (i + 1) ++ s.list.drop (i + 1)) v n), B, G] (by omega) ⟨by omega, rfl⟩ (by repeat first | refine Off.upd rfl ?_ | exact Off.mix | refine Off.upds rfl ?_ | refine Off.mixs rfl ?_ | exact Off.refl) ⟨congrArg (Value.int .i64) (wrap_i64_in (by omega)), trivial⟩
  ·
    have c5 := of_decide_eq_false c5
    have hi8 : i = 8 := by omega
    subst hi8
    rw [show (s.add q).list.take 8 ++ s.list.drop 8 = (s.add q).list from rfl]
    refine EL.exit ?_
    exact SegQ.mk () (by repeat first | refine Off.upd rfl ?_ | exact Off.mix | refine Off.upds rfl ?_ | refine Off.mixs rfl ?_ | exact Off.refl) rfl trivial

end Go.Proofs.YtedkoebbijpnfaaGreatDoor

namespace Go.Proofs.YtedkoebbijpnfaaGreatDoor
open Go Go.Proofs.YtedkoebbijpnfaaGreatDoor.TH
set_option maxHeartbeats 1000000
theorem Take_spec (p : Nat) (la : Option Addr) (lc : Nat) (s : St) (v : Value) (n : Int) (l : List UInt8) (B G : Hp) (hl : l.length = 64) (hB : RdS 1 (.slice la l.length lc) l.length (l.flatMap fun x => [bV x]) B) (hG : ∃ fr, G 3 = some (.cells (kW.map wV).toArray 103 fr)) : CallL Tryz.prog 93 [.pointer (some ⟨p, 0, none⟩), .slice la l.length lc] [sg p (HasherB s v n), B, G] (fun r Hs' => r = .tuple #[] ∧ Hs' = [sg p (HasherB (block kW s l) v n), B, G]) := by
  refine CallL.enter Tryz.func93 Tryz.ntmps93 rfl rfl rfl ?_
  obtain ⟨fb, foff, fcap, fc, fety, ffr, fhe, fhb, fall⟩ := hB.all1 (f := bV) (by omega)
  obtain ⟨rfl, rfl⟩ : la = some ⟨fb, foff, none⟩ ∧ lc = fcap := by simpa using fhe
  have hwl : (wordsOf l).length = 16 := by simp [wordsOf]
  refine EL.seq ?_
  refine EL.region (.x 0 [] (.nil)) (by kernel_rfl) ?_
  refine EPL.al rfl rfl el103 (fun _ => HeldL.nil) (fun b1 => ?_)
  refine EPL.hd (sg b1 (WArr [])) rfl ?_
  refine EPL.nil ?_
  refine EL.go ?_
  refine EL.seq ?_
  refine EL.seq ?_
  refine EL.region (.p 0 (.nil)) (by kernel_rfl) ?_
  refine EPL.p rfl rfl (q_move (v := .int _ _) rfl) ?_
  refine EPL.nil ?_
  refine EL.go ?_
  refine EL.base [(0, .pointer (some ⟨p, 0, none⟩)), (1, .slice (some ⟨fb, foff, none⟩) l.length lc), (4, .pointer (some ⟨b1, 0, none⟩)), (16, .int .i64 0)] ⟨rfl, rfl, rfl, rfl, trivial⟩ (fun e => ?_)
  refine EL.seg [5, 16, 17, 18, 19, 20, 21, 22, 23, 24, 25, 26, 27, 28, 29, 30, 31, 32, 33, 34, 35, 36, 37, 38, 39, 40, 41, 42, 43, 44, 45, 46, 47, 48, 49, 50, 51, 52, 53, 54] (fun _ : Unit => []) (fun _ Hs => Hs = [sg b1 (WArr (wordsOf l)), sg p (HasherB s v n), B, G]) (fun Q => Take_s0 p b1 fb foff _ s v n l B G hl fc fety ffr fhb fall hwl e Q) ?_
  rintro _ _ j rfl
  refine EL.go ?_
  refine EL.seq ?_
  refine EL.seq ?_
  refine EL.region (.p 0 (.nil)) (by kernel_rfl) ?_
  refine EPL.p rfl rfl (q_assign (v := .int _ _) rfl) ?_
  refine EPL.nil ?_
  refine EL.go ?_
  refine EL.base [(0, .pointer (some ⟨p, 0, none⟩)), (4, .pointer (some ⟨b1, 0, none⟩)), (6, .int .i64 16)] ⟨rfl, rfl, rfl, trivial⟩ (fun e => ?_)
  refine EL.seg [6, 7, 8, 55, 56, 57, 58, 59, 60, 61, 62, 63, 64, 65, 66, 67, 68, 69, 70, 71, 72, 73, 74, 75, 76, 77, 78, 79, 80, 81, 82, 83, 84, 85, 86, 87, 88, 89, 90, 91] (fun _ : Unit => []) (fun _ Hs => Hs = [sg b1 (WArr (sched (wordsOf l) 48)), sg p (HasherB s v n), B, G]) (fun Q => Take_s2 p b1 s v n l B G hwl e Q) ?_
  rintro _ _ j rfl
  have hblk : block kW s l = s.add (rounds kW (sched (wordsOf l) 48) s 64) := rfl
  have hSl : (sched (wordsOf l) 48).length = 64 := by rw [sched_len, hwl]
  generalize sched (wordsOf l) 48 = S at hblk hSl ⊢
  refine EL.go ?_
  refine EL.seq ?_
  refine EL.region (.p 0 (.p 1 (.p 2 (.l 3 (.x 4 [] (.x 5 [] (.nil))))))) (by kernel_rfl) ?_
  refine EPL.p rfl rfl (q_move (v := .pointer _) rfl) ?_
  refine EPL.p rfl rfl (q_nilCheck rfl) ?_
  refine EPL.p rfl rfl (q_fieldAddr (p := ⟨_, _, none⟩) Tryz.underlying129 rfl sz102 rfl rfl) ?_
  refine EPL.ldAp (v := (s.list.map wV).toArray) rfl rfl ag102 rfl (Nat.le_of_ble_eq_true rfl) rfl ?_
  refine EPL.al rfl rfl el102 (fun _ => HeldL.nil) (fun b8 => ?_)
  refine EPL.stA (v := (s.list.map wV).toArray) rfl rfl sz102 rfl rfl rfl (wAll _) rfl HeldL.nil ?_
  refine EPL.nil ?_
  refine EL.go ?_
  refine EL.seq ?_
  refine EL.seq ?_
  refine EL.region (.p 0 (.nil)) (by kernel_rfl) ?_
  refine EPL.p rfl rfl (q_move (v := .int _ _) rfl) ?_
  refine EPL.nil ?_
  refine EL.go ?_
  refine EL.base [(0, .pointer (some ⟨p, 0, none⟩)), (4, .pointer (some ⟨b1, 0, none⟩)), (9, .pointer (some ⟨b8, 0, none⟩)), (96, .int .i64 0)] ⟨rfl, rfl, rfl, rfl, trivial⟩ (fun e => ?_)
  refine EL.seg [10, 11, 12, 13, 14, 96, 97, 98, 99, 100, 101, 102, 103, 104, 105, 106, 107, 108, 109, 110, 111, 112, 113, 114, 115, 116, 117, 118, 119, 120, 121, 122, 123, 124, 125, 126, 127, 128, 129, 130, 131, 132, 133, 134, 135, 136, 137, 138, 139, 140, 141, 142, 143, 144, 145, 146, 147, 148, 149, 150, 151, 152, 153, 154, 155, 156, 157, 158, 159, 160, 161, 162, 163, 164, 165, 166, 167, 168, 169, 170, 171] (fun _ : Unit => []) (fun _ Hs => Hs = [sg b8 (SArr (rounds kW S s 64)), sg b1 (WArr S), sg p (HasherB s v n), B, G]) (fun Q => Take_s4 p b1 b8 s v n S B G hSl hG e Q) ?_
  rintro _ _ j rfl
  generalize rounds kW S s 64 = q at hblk ⊢
  refine EL.go ?_
  refine EL.seq ?_
  refine EL.region (.p 0 (.nil)) (by kernel_rfl) ?_
  refine EPL.p rfl rfl (q_move (v := .int _ _) rfl) ?_
  refine EPL.nil ?_
  refine EL.go ?_
  refine EL.base [(0, .pointer (some ⟨p, 0, none⟩)), (9, .pointer (some ⟨b8, 0, none⟩)), (172, .int .i64 0)] ⟨rfl, rfl, rfl, trivial⟩ (fun e => ?_)
  refine EL.seg [15, 172, 173, 174, 175, 176, 177, 178, 179, 180, 181, 182, 183, 184, 185, 186, 187, 188] (fun _ : Unit => []) (fun _ Hs => Hs = [sg b8 (SArr q), sg b1 (WArr S), sg p (HasherB (s.add q) v n), B, G]) (fun Q => Take_s6 p b1 b8 s q v n S B G e Q) ?_
  rintro _ _ j rfl
  rw [hblk]
  exact end_normalP [sg p (HasherB (s.add q) v n), B, G] (fun _ => rfl) (fun _ => ⟨rfl, rfl⟩)

end Go.Proofs.YtedkoebbijpnfaaGreatDoor

namespace Go.Proofs.YtedkoebbijpnfaaGreatDoor
open Go Go.Proofs.YtedkoebbijpnfaaGreatDoor.TH
set_option maxHeartbeats 1000000

theorem flat1 {α : Type} (f : α → Value) (l : List α) : l.flatMap (fun x => [f x]) = l.map f := by
  induction l with
  | nil => rfl
  | cons x l ih => simp [List.flatMap_cons, ih]
theorem OwnB.rdTake {a : Option Addr} {c k : Nat} {u : List UInt8} {H : Hp} (h : OwnB a c u H) (hk : k ≤ u.length) : RdS 1 (.slice a k c) k ((u.take k).flatMap fun x => [bV x]) H := by
  rw [flat1]
  have hm := h.max
  refine ⟨by simp; omega, by omega, ?_⟩
  rcases h.2 with ⟨e, e0⟩ | ⟨b, off, cap, cc, fr, e, hb, _, h1, h2, h3, h4⟩
  · simp at e
    obtain ⟨rfl, _, rfl⟩ := e
    have : k = 0 := by omega
    subst this
    exact .inl ⟨rfl, _, _, rfl⟩
  · simp at e
    obtain ⟨rfl, rfl⟩ := e
    refine .inr ⟨b, off, c, cc, _, fr, rfl, hb, by omega, ?_⟩
    rw [List.map_take, ← h4, List.take_take]
    congr 1
    omega
theorem OwnB.drop {b off c k : Nat} {u : List UInt8} {H : Hp} (h : OwnB (some ⟨b, off, none⟩) c u H) (hk : k ≤ u.length) : OwnB (some ⟨b, cutOff c k off 1, none⟩) (c - k) (u.drop k) H := by
  have hc := h.cap
  have hm := h.max
  rcases h.2 with ⟨e, e0⟩ | ⟨b', off', cap, cc, fr, e, hb, hok, h1, h2, h3, h4⟩
  · simp at e
  · simp at e
    obtain ⟨⟨rfl, rfl⟩, rfl⟩ := e
    refine ⟨by simp, .inr ⟨b, cutOff c k off 1, c - k, cc, fr, rfl, hb, hok, by simp; omega, by omega, ?_, ?_⟩⟩
    · unfold cutOff; split <;> omega
    · rw [List.length_drop]
      unfold cutOff
      by_cases he : c = k
      · rw [if_pos he]
        have : u.length - k = 0 := by omega
        rw [this]
        have : u.drop k = [] := List.drop_of_length_le (by omega)
        rw [this]; rfl
      · rw [if_neg he, List.map_drop, ← h4, List.drop_take, List.drop_drop]
        congr 1
        · omega
        · congr 1; omega
theorem Take64 (p : Nat) (la : Option Addr) (lc : Nat) (s : St) (v : Value) (n : Int) (l : List UInt8) (B G : Hp) (hl : l.length = 64) (hB : RdS 1 (.slice la 64 lc) 64 (l.flatMap fun x => [bV x]) B) (hG : ∃ fr, G 3 = some (.cells (kW.map wV).toArray 103 fr)) : CallL Tryz.prog 93 [.pointer (some ⟨p, 0, none⟩), .slice la 64 lc] [sg p (HasherB s v n), B, G] (fun r Hs' => r = .tuple #[] ∧ Hs' = [sg p (HasherB (block kW s l) v n), B, G]) := by
  have := Take_spec p la lc s v n l B G hl (by rw [hl]; exact hB) hG
  rw [hl] at this; exact this

/-- What is taken of a text: whole blocks; what is left. -/
def hst (t : List UInt8) : St := blocks kW startW t (t.length / 64)
def rst (t : List UInt8) : List UInt8 := t.drop (64 * (t.length / 64))
abbrev GS (G : Hp) : Prop := ∃ fr, G 3 = some (.cells (kW.map wV).toArray 103 fr)
theorem blocks_pre {ks : List W32} {s : St} {t u : List UInt8} : ∀ {n : Nat}, 64 * n ≤ t.length → blocks ks s (t ++ u) n = blocks ks s t n
  | 0, _ => rfl
  | n + 1, h => by
    show block ks (blocks ks s (t ++ u) n) (((t ++ u).drop (64 * n)).take 64) = block ks (blocks ks s t n) ((t.drop (64 * n)).take 64)
    rw [blocks_pre (by omega), List.drop_append_of_le_length (by omega), List.take_append_of_le_length (by simp; omega)]
theorem flat_take {ps : List (List UInt8)} {i : Nat} {x : List UInt8} (h : ps[i]? = some x) : (ps.take (i + 1)).flatten = (ps.take i).flatten ++ x := by
  obtain ⟨hi, hx⟩ := List.getElem?_eq_some_iff.1 h
  rw [List.take_succ_eq_append_getElem hi, hx]; simp
theorem flat_le {ps : List (List UInt8)} (i : Nat) : (ps.take i).flatten.length ≤ ps.flatten.length := by
  have : ps.flatten = (ps.take i).flatten ++ (ps.drop i).flatten := by rw [← List.flatten_append, List.take_append_drop]
  rw [this, List.length_append]; omega

end Go.Proofs.YtedkoebbijpnfaaGreatDoor

namespace Go.Proofs.YtedkoebbijpnfaaGreatDoor
open Go Go.Proofs.YtedkoebbijpnfaaGreatDoor.TH
set_option maxHeartbeats 1000000
theorem Write_spec (p : Nat) (a la : Option Addr) (c lc : Nat) (t : List UInt8) (ps : List (List UInt8)) (H I G : Hp) (hI : RdS 1 (.slice la ps.length lc) ps.length (ps.flatMap fun x => [str x]) I) (hO : OwnB a c (rst t) H) (hG : GS G) (hb : t.length + ps.flatten.length ≤ 1099511627776) : CallL Tryz.prog 87 [.pointer (some ⟨p, 0, none⟩), .slice la ps.length lc] [sg p (HasherB (hst t) (.slice a (rst t).length c) (t.length : Nat)), H, I, G] (fun r Hs' => r = .tuple #[] ∧ ∃ a' c' H', Hs' = [sg p (HasherB (hst (t ++ ps.flatten)) (.slice a' (rst (t ++ ps.flatten)).length c') ((t ++ ps.flatten).length : Nat)), H', I, G] ∧ OwnB a' c' (rst (t ++ ps.flatten)) H') := by
  refine CallL.enter Tryz.func87 Tryz.ntmps87 rfl rfl rfl ?_
  refine EL.seq ?_
  refine EL.seq ?_
  refine EL.region (.p 0 (.p 1 (.nil))) (by kernel_rfl) ?_
  refine EPL.p rfl rfl (q_move (v := .pointer _) rfl) ?_
  refine EPL.p rfl rfl (q_eqlSome Tryz.underlying121 rfl rfl) ?_
  refine EPL.nil ?_
  refine EL.go ?_
  refine EL.no rfl ?_
  refine EL.skip ?_
  refine EL.go ?_
  refine EL.seq ?_
  refine EL.region (.p 0 (.p 1 (.p 2 (.nil)))) (by kernel_rfl) ?_
  refine EPL.p rfl rfl (q_move (v := .slice _ _ _) rfl) ?_
  refine EPL.p rfl rfl (q_lenSl Tryz.underlying66 rfl) ?_
  refine EPL.p rfl rfl (q_move (v := .int _ _) rfl) ?_
  refine EPL.nil ?_
  refine EL.go ?_
  refine EL.block ?_
  refine EL.loop [5, 10, 11, 12, 13, 14, 15, 16, 17, 18, 19, 20, 21, 22, 23, 24, 25, 26, 27, 28, 29, 30, 31, 32, 33, 34, 35, 36, 37, 38, 39, 40, 41, 42, 43, 44, 45, 46, 47, 48, 49, 50, 51, 52, 53, 54] (fun i : Nat => [(10, .int .i64 i)]) (fun m i Hs' => m + i = ps.length ∧ ∃ T s a' c' H', T = t ++ (ps.take i).flatten ∧ s = hst T ∧ Hs' = [sg p (HasherB s (.slice a' (rst T).length c') (T.length : Nat)), H', I, G] ∧ OwnB a' c' (rst T) H') ps.length 0 ⟨by omega, t, hst t, a, c, H, by simp, rfl, rfl, hO⟩ ⟨rfl, trivial⟩ ?_
  rintro m i _ j ⟨hm, T, s, a', c', H', hT, hs, rfl, hO'⟩
  have hTl : T.length ≤ t.length + ps.flatten.length := by rw [hT, List.length_append]; have := flat_le (ps := ps) i; omega
  refine EL.seq ?_
  refine EL.region (.p 0 (.nil)) (by kernel_rfl) ?_
  refine EPL.p rfl rfl (q_lss rfl rfl) ?_
  refine EPL.nil ?_
  refine EL.go ?_
  refine EL.seq ?_
  refine EL.cond rfl (fun c1 => ?_) (fun c1 => ?_)
  ·
    have c1 := of_decide_eq_true c1
    obtain ⟨x, hx⟩ : ∃ x, ps[i]? = some x := ⟨_, List.getElem?_eq_getElem (by omega)⟩
    obtain ⟨b, off, cap, cc, ety, fr, he, hbI, hcc⟩ := hI.get1 (f := str) hx
    obtain ⟨rfl, rfl⟩ : la = some ⟨b, off, none⟩ ∧ lc = cap := by simpa using he
    have hmx := hI.max
    obtain ⟨U, hU⟩ : ∃ U, U = T ++ x := ⟨_, rfl⟩
    have hU2 : U = t ++ (ps.take (i + 1)).flatten := by rw [hU, hT, flat_take hx, List.append_assoc]
    have hUl : U.length ≤ t.length + ps.flatten.length := by rw [hU2, List.length_append]; have := flat_le (ps := ps) (i + 1); omega
    have hUx : U.length = T.length + x.length := by rw [hU, List.length_append]
    have hn : IntKind.u64.wrap (((T.length : Nat) : Int) + IntKind.u64.wrap ((x.length : Nat) : Int)) = ((U.length : Nat) : Int) := by rw [wrap_u64_in (n := ((x.length : Nat) : Int)) (by omega), wrap_u64_in (by omega), hUx]; omega
    have hru : rst T ++ x = U.drop (64 * (T.length / 64)) := by rw [hU, List.drop_append_of_le_length (by omega)]; rfl
    have hrl : (rst T).length ≤ T.length := by unfold rst; simp
    refine EL.skip ?_
    refine EL.go ?_
    refine EL.seq ?_
    refine EL.block ?_
    refine EL.seq ?_
    refine EL.region (.p 0 (.l 1 (.p 2 (.nil)))) (by kernel_rfl) ?_
    refine EPL.p rfl rfl (q_idxSl Tryz.underlying66 sz9 rfl rfl (by omega) (by omega)) ?_
    refine EPL.ld1P (v := str x) rfl rfl sc9 rfl hbI (by simpa using hcc) ?_
    refine EPL.p rfl rfl (q_assign (v := .string _) rfl) ?_
    refine EPL.nil ?_
    refine EL.go ?_
    refine EL.seq ?_
    refine EL.region (.p 0 (.p 1 (.p 2 (.l 3 (.p 4 (.p 5 (.p 6 (.p 7 (.p 8 (.p 9 (.x 10 [] (.nil)))))))))))) (by kernel_rfl) ?_
    refine EPL.p rfl rfl (q_move (v := .pointer _) rfl) ?_
    refine EPL.p rfl rfl (q_nilCheck rfl) ?_
    refine EPL.p rfl rfl (q_fieldAddr (p := ⟨_, _, none⟩) Tryz.underlying129 rfl sz85 rfl rfl) ?_
    refine EPL.ld1 (v := .int _ _) rfl rfl sc85 rfl rfl ?_
    refine EPL.p rfl rfl (q_move (v := .string _) rfl) ?_
    refine EPL.p rfl rfl (q_lenStr Tryz.underlying9 rfl) ?_
    refine EPL.p rfl rfl (q_conv Tryz.underlying3 Tryz.underlying85 rfl) ?_
    refine EPL.p rfl rfl (q_add rfl rfl) ?_
    refine EPL.p rfl rfl (q_nilCheck rfl) ?_
    refine EPL.p rfl rfl (q_fieldAddr (p := ⟨_, _, none⟩) Tryz.underlying129 rfl sz85 rfl rfl) ?_
    refine EPL.st (v := .int .u64 ((U.length : Nat) : Int)) (c' := (s.list.map wV ++ [Value.slice a' (rst T).length c', Value.int .u64 ((U.length : Nat) : Int)]).toArray) rfl rfl sz85 rfl (by exact congrArg (Value.int .u64) hn) rfl (oneV rfl) (Nat.le_of_ble_eq_true rfl) rfl HeldL.nil ?_
    refine EPL.nil ?_
    refine EL.go ?_
    refine EL.seq ?_
    refine EL.region (.p 0 (.p 1 (.p 2 (.p 3 (.l 4 (.p 5 (.x 6 [] (.p 7 (.p 8 (.x 9 [] (.nil))))))))))) (by kernel_rfl) ?_
    refine EPL.p rfl rfl (q_move (v := .pointer _) rfl) ?_
    refine EPL.p rfl rfl (q_move (v := .pointer _) rfl) ?_
    refine EPL.p rfl rfl (q_nilCheck rfl) ?_
    refine EPL.p rfl rfl (q_fieldAddr (p := ⟨_, _, none⟩) Tryz.underlying129 rfl sz71 rfl rfl) ?_
    refine EPL.ld1 (v := .slice _ _ _) rfl rfl sc71 rfl rfl ?_
    refine EPL.p rfl rfl (q_move (v := .string _) rfl) ?_
    refine EPL.app rfl rfl Tryz.underlying71 (.inl Tryz.underlying9) el5 rfl (by exact hO') rfl (by exact fun hd => Src.str) (by unfold maxLen; omega) (by omega) (fun v' H3 hv' => ?_)
    obtain ⟨a3, c3, rfl, hO3⟩ := OwnB.app hv'
    rw [hru] at hO3
    rw [hru]
    refine ⟨HeldL.nil, ?_⟩
    refine EPL.p rfl rfl (q_nilCheck rfl) ?_
    refine EPL.p rfl rfl (q_fieldAddr (p := ⟨_, _, none⟩) Tryz.underlying129 rfl sz71 rfl rfl) ?_
    refine EPL.st (v := .slice a3 (U.drop (64 * (T.length / 64))).length c3) (c' := (s.list.map wV ++ [Value.slice a3 (U.drop (64 * (T.length / 64))).length c3, Value.int .u64 ((U.length : Nat) : Int)]).toArray) rfl rfl sz71 rfl rfl rfl (oneV rfl) (Nat.le_of_ble_eq_true rfl) rfl HeldL.nil ?_
    refine EPL.nil ?_
    refine EL.go ?_
    refine EL.block ?_
    refine EL.loop [33, 34, 35, 36, 37, 38, 39, 40, 41, 42, 43, 44, 45, 46, 47, 48, 49, 50, 51, 52, 53] (fun q : Nat => []) (fun m q Hs' => m + q = U.length / 64 ∧ ∃ s a' c' H', s = blocks kW startW U q ∧ Hs' = [sg p (HasherB s (.slice a' (U.drop (64 * q)).length c') ((U.length : Nat) : Int)), H', I, G] ∧ OwnB a' c' (U.drop (64 * q)) H') (U.length / 64 - T.length / 64) (T.length / 64) ⟨by omega, s, a3, c3, H3, by rw [hs, hU]; unfold hst; rw [blocks_pre (by omega)], rfl, hO3⟩ trivial ?_
    rintro m2 q _ j2 ⟨hm2, s2, a4, c4, H4, hs2, rfl, hO4⟩
    have hdl : (U.drop (64 * q)).length = U.length - 64 * q := List.length_drop
    refine EL.seq ?_
    refine EL.seq ?_
    refine EL.region (.p 0 (.p 1 (.p 2 (.l 3 (.p 4 (.p 5 (.nil))))))) (by kernel_rfl) ?_
    refine EPL.p rfl rfl (q_move (v := .pointer _) rfl) ?_
    refine EPL.p rfl rfl (q_nilCheck rfl) ?_
    refine EPL.p rfl rfl (q_fieldAddr (p := ⟨_, _, none⟩) Tryz.underlying129 rfl sz71 rfl rfl) ?_
    refine EPL.ld1 (v := .slice _ _ _) rfl rfl sc71 rfl rfl ?_
    refine EPL.p rfl rfl (q_lenSl Tryz.underlying71 rfl) ?_
    refine EPL.p rfl rfl (q_geq rfl rfl) ?_
    refine EPL.nil ?_
    refine EL.go ?_
    refine EL.cond rfl (fun c2 => ?_) (fun c2 => ?_)
    ·
      have c2 := of_decide_eq_true c2
      obtain ⟨b5, off5, rfl⟩ := hO4.some (by omega)
      have hcap := hO4.cap
      have htk : ((U.drop (64 * q)).take 64).length = 64 := by rw [List.length_take]; omega
      have hd64 : (U.drop (64 * q)).drop 64 = U.drop (64 * (q + 1)) := by rw [List.drop_drop]; congr 1
      have hO5 := hO4.drop (k := 64) (by omega)
      rw [hd64] at hO5
      have hl5 : (U.drop (64 * q)).length - 64 = (U.drop (64 * (q + 1))).length := by have := congrArg List.length hd64; rw [List.length_drop (l := U.drop (64 * q))] at this; exact this
      refine EL.skip ?_
      refine EL.go ?_
      refine EL.block ?_
      refine EL.seq ?_
      refine EL.region (.p 0 (.p 1 (.p 2 (.p 3 (.l 4 (.p 5 (.x 6 [] (.nil)))))))) (by kernel_rfl) ?_
      refine EPL.p rfl rfl (q_move (v := .pointer _) rfl) ?_
      refine EPL.p rfl rfl (q_move (v := .pointer _) rfl) ?_
      refine EPL.p rfl rfl (q_nilCheck rfl) ?_
      refine EPL.p rfl rfl (q_fieldAddr (p := ⟨_, _, none⟩) Tryz.underlying129 rfl sz71 rfl rfl) ?_
      refine EPL.ld1 (v := .slice _ _ _) rfl rfl sc71 rfl rfl ?_
      refine EPL.p rfl rfl (q_slHi Tryz.underlying71 sz5 rfl rfl (by omega) (by omega)) ?_
      refine EPL.cl rfl rfl Tryz.func93 rfl rfl (Take64 p (some ⟨b5, off5, none⟩) c4 s2 (.slice (some ⟨b5, off5, none⟩) (U.drop (64 * q)).length c4) ((U.length : Nat) : Int) ((U.drop (64 * q)).take 64) H4 G htk (hO4.rdTake (by omega)) hG) rfl ?_
      rintro _ _ ⟨rfl, rfl⟩
      have hs3 : block kW s2 ((U.drop (64 * q)).take 64) = blocks kW startW U (q + 1) := by rw [hs2]; rfl
      generalize block kW s2 ((U.drop (64 * q)).take 64) = s3 at hs3 ⊢
      refine ⟨HeldL.nil, ?_⟩
      refine EPL.nil ?_
      refine EL.go ?_
      refine EL.region (.p 0 (.p 1 (.p 2 (.p 3 (.l 4 (.p 5 (.p 6 (.p 7 (.x 8 [] (.nil)))))))))) (by kernel_rfl) ?_
      refine EPL.p rfl rfl (q_move (v := .pointer _) rfl) ?_
      refine EPL.p rfl rfl (q_move (v := .pointer _) rfl) ?_
      refine EPL.p rfl rfl (q_nilCheck rfl) ?_
      refine EPL.p rfl rfl (q_fieldAddr (p := ⟨_, _, none⟩) Tryz.underlying129 rfl sz71 rfl rfl) ?_
      refine EPL.ld1 (v := .slice _ _ _) rfl rfl sc71 rfl rfl ?_
      refine EPL.p rfl rfl (q_slLo Tryz.underlying71 sz5 rfl rfl (by omega) (by omega)) ?_
      refine EPL.p rfl rfl (q_nilCheck rfl) ?_
      refine EPL.p rfl rfl (q_fieldAddr (p := ⟨_, _, none⟩) Tryz.underlying129 rfl sz71 rfl rfl) ?_
      refine EPL.st (v := .slice (some ⟨b5, cutOff c4 64 off5 1, none⟩) ((U.drop (64 * q)).length - 64) (c4 - 64)) (c' := (s3.list.map wV ++ [Value.slice (some ⟨b5, cutOff c4 64 off5 1, none⟩) ((U.drop (64 * q)).length - 64) (c4 - 64), Value.int .u64 ((U.length : Nat) : Int)]).toArray) rfl rfl sz71 rfl rfl rfl (oneV rfl) (Nat.le_of_ble_eq_true rfl) rfl HeldL.nil ?_
      rw [hl5]
      refine EPL.nil ?_
      refine RoundQ.mkP (m2 - 1) (q + 1) [sg p (HasherB s3 (.slice (some ⟨b5, cutOff c4 64 off5 1, none⟩) (U.drop (64 * (q + 1))).length (c4 - 64)) ((U.length : Nat) : Int)), H4, I, G] (by omega) ⟨by omega, s3, _, _, H4, hs3, rfl, hO5⟩ (by repeat first | refine Off.upd rfl ?_ | exact Off.mix | refine Off.upds rfl ?_ | refine Off.mixs rfl ?_ | exact Off.refl) trivial
    ·
      have c2 := of_decide_eq_false c2
      have hq : q = U.length / 64 := by omega
      subst hq
      have hr : U.drop (64 * (U.length / 64)) = rst U := rfl
      rw [hr] at hO4 ⊢
      refine EL.exit ?_
      refine EL.go ?_
      refine EL.region (.p 0 (.p 1 (.nil))) (by kernel_rfl) ?_
      refine EPL.p rfl rfl (q_add rfl rfl) ?_
      refine EPL.p rfl rfl (q_move (v := .int _ _) rfl) ?_
      refine EPL.nil ?_
      refine RoundQ.mkP (m - 1) (i + 1) [sg p (HasherB s2 (.slice a4 (rst U).length c4) ((U.length : Nat) : Int)), H4, I, G] (by omega) ⟨by omega, U, s2, a4, c4, H4, hU2, hs2, rfl, hO4⟩ (by repeat first | refine Off.upd rfl ?_ | exact Off.mix | refine Off.upds rfl ?_ | refine Off.mixs rfl ?_ | exact Off.refl) ⟨congrArg (Value.int .i64) (wrap_i64_in (by omega)), trivial⟩
  ·
    have c1 := of_decide_eq_false c1
    have ht : ps.take i = ps := List.take_of_length_le (by omega)
    rw [ht] at hT
    subst hT
    subst hs
    refine EL.exit ?_
    exact end_normal (fun _ => rfl) (fun _ => ⟨rfl, a', c', H', rfl, hO'⟩)

end Go.Proofs.YtedkoebbijpnfaaGreatDoor

namespace Go.Proofs.YtedkoebbijpnfaaGreatDoor
open Go Go.Proofs.YtedkoebbijpnfaaGreatDoor.TH
set_option maxHeartbeats 1000000

abbrev GT (G : Hp) : Prop := ∃ fr, G 2 = some (.cells (startW.list.map wV).toArray 102 fr)
theorem padB_len (n : Nat) : (padB n).length = 9 + (119 - n % 64) % 64 := by simp [padB]; omega
theorem pad_mod (n : Nat) : (n + (padB n).length) % 64 = 0 := by rw [padB_len]; omega
/-- A size's bytes, the highest first. -/
def szB (n : Nat) (j : Nat) : UInt8 := UInt8.ofNat (n * 8 / 2 ^ (8 * (7 - j)) % 256)
theorem szB_eq {n : Nat} (hn : n ≤ 1099511627776) {j : Nat} (hj : j < 8) : IntKind.u8.wrap (bShr .u64 (IntKind.u64.wrap (((n : Nat) : Int) * 8)) (IntKind.i64.wrap (8 * (7 - (j : Int))))) = ((szB n j).toNat : Int) := by
  rw [wrap_u64_in (by omega), wrap_i64_in (by omega)]
  unfold bShr szB
  have e : min (8 * (7 - (j : Int))).toNat IntKind.u64.bits = 8 * (7 - j) := by simp [IntKind.bits]; omega
  rw [e, Int.fdiv_eq_ediv_of_nonneg _ (Int.le_of_lt (Int.pow_pos (by decide))), IntKind.wrap_u8, UInt8.toNat_ofNat']
  have e2 : (2 : Int) ^ (8 * (7 - j)) = ((2 ^ (8 * (7 - j)) : Nat) : Int) := by push_cast; rfl
  rw [e2]
  have e3 : (((n : Nat) : Int) * 8) = ((n * 8 : Nat) : Int) := by push_cast; rfl
  rw [e3, ← Int.natCast_ediv]
  omega
theorem padB_eq (n : Nat) : padB n = ([0x80] ++ List.replicate ((119 - n % 64) % 64) 0) ++ (List.range 8).map (szB n) := rfl
theorem range_take {f : Nat → UInt8} {n j : Nat} (hj : j < n) : ((List.range n).map f).take (j + 1) = ((List.range n).map f).take j ++ [f j] := by
  rw [List.take_succ_eq_append_getElem (by simpa using hj)]
  simp
theorem rst_app (T u : List UInt8) : rst T ++ u = (T ++ u).drop (64 * (T.length / 64)) := by
  unfold rst
  rw [List.drop_append_of_le_length (by omega)]
theorem shr_byte (w : W32) (n : Nat) (h : n ≤ 24) : IntKind.u8.wrap (bShr .u32 (w.toNat : Int) (n : Int)) = ((UInt8.ofNat (w.toNat / 2 ^ n % 256)).toNat : Int) := by
  rw [w_shr w n (by omega), IntKind.wrap_u8, BitVec.toNat_ushiftRight, Nat.shiftRight_eq_div_pow, UInt8.toNat_ofNat']
  omega
theorem low_byte (w : W32) : IntKind.u8.wrap (w.toNat : Int) = ((UInt8.ofNat (w.toNat % 256)).toNat : Int) := by
  rw [IntKind.wrap_u8, UInt8.toNat_ofNat']
  omega
theorem wBytes_flat {l : List W32} {i : Nat} {x : W32} (h : l[i]? = some x) : (l.take (i + 1)).flatMap wBytes = (l.take i).flatMap wBytes ++ wBytes x := by
  obtain ⟨hi, hx⟩ := List.getElem?_eq_some_iff.1 h
  rw [List.take_succ_eq_append_getElem hi, hx]; simp
theorem wBytes_len (l : List W32) : (l.flatMap wBytes).length = 4 * l.length := by
  induction l with
  | nil => rfl
  | cons x l ih => rw [List.flatMap_cons, List.length_append, ih]; simp [wBytes]; omega
/-- Bytes that are laid one by one. -/
def upB (u : List UInt8) (n : Nat) : Array Value := ((u ++ List.replicate (n - u.length) 0).map bV).toArray
theorem upB_set {u : List UInt8} {n : Nat} {x : UInt8} (h : u.length < n) : setL (upB u n) u.length [bV x] = upB (u ++ [x]) n := by
  unfold upB
  apply Array.ext'
  rw [setL_toList (by simp; omega)]
  have e : n - u.length = (n - u.length - 1) + 1 := by omega
  have e2 : n - (u ++ [x]).length = n - u.length - 1 := by simp; omega
  rw [e2]
  generalize n - u.length - 1 = k at e ⊢
  rw [e]
  simp only [List.replicate_succ, List.map_append, List.map_cons, List.map_nil, List.length_singleton]
  have hl : (u.map bV).length = u.length := by simp
  rw [List.take_append_of_le_length (by omega), List.take_of_length_le (by omega), List.drop_append, List.drop_of_length_le (by omega), hl, Nat.add_sub_cancel_left]
  simp
theorem upB_size {u : List UInt8} {n : Nat} (h : u.length ≤ n) : (upB u n).size = n := by unfold upB; simp; omega
theorem upB_all {u : List UInt8} {n : Nat} (h : u.length = n) : upB u n = (u.map bV).toArray := by unfold upB; rw [h, Nat.sub_self]; simp
theorem by24 (w : W32) : IntKind.u8.wrap (bShr .u32 (w.toNat : Int) 24) = ((UInt8.ofNat (w.toNat / 16777216 % 256)).toNat : Int) := shr_byte w 24 (by decide)
theorem by16 (w : W32) : IntKind.u8.wrap (bShr .u32 (w.toNat : Int) 16) = ((UInt8.ofNat (w.toNat / 65536 % 256)).toNat : Int) := shr_byte w 16 (by decide)
theorem by8 (w : W32) : IntKind.u8.wrap (bShr .u32 (w.toNat : Int) 8) = ((UInt8.ofNat (w.toNat / 256 % 256)).toNat : Int) := shr_byte w 8 (by decide)
/-- What stands behind a text, as far as it was laid. -/
def tlB (T : List UInt8) (k : Nat) : List UInt8 := rst T ++ ([0x80] ++ List.replicate k 0)
abbrev zP (T : List UInt8) : Nat := (119 - T.length % 64) % 64
def szT (T : List UInt8) (j : Nat) : List UInt8 := tlB T (zP T) ++ ((List.range 8).map (szB T.length)).take j
theorem szT_all (T : List UInt8) : szT T 8 = (T ++ padB T.length).drop (64 * (T.length / 64)) := by
  unfold szT tlB
  rw [List.take_of_length_le (by simp), List.append_assoc, ← padB_eq, rst_app]
theorem shaB_len (s : List UInt8) : (shaB s).length = 32 := by unfold shaB; rw [wBytes_len]; rfl

theorem New_spec (G : Hp) (hT : GT G) : CallL Tryz.prog 86 [] [G] (fun r Hs' => ∃ b, r = .pointer (some ⟨b, 0, none⟩) ∧ Hs' = [sg b (HasherB startW (.slice none 0 0) 0), G]) := by
  refine CallL.enter Tryz.func86 Tryz.ntmps86 rfl rfl rfl ?_
  obtain ⟨fr, hG⟩ := hT
  refine EL.seq ?_
  refine EL.region (.p 0 (.nil)) (by kernel_rfl) ?_
  refine EPL.p rfl rfl (q_assign (v := .pointer _) rfl) ?_
  refine EPL.nil ?_
  refine EL.go ?_
  refine EL.seq ?_
  refine EL.region (.l 0 (.p 1 (.x 2 [] (.p 3 (.nil))))) (by kernel_rfl) ?_
  refine EPL.ldAP (v := .agg (startW.list.map wV).toArray) rfl rfl ag102 rfl hG (Nat.le_of_ble_eq_true rfl) rfl ?_
  refine EPL.p rfl rfl (q_build (cells := (startW.list.map wV ++ [Value.slice none 0 0, Value.int .u64 0]).toArray) pl129 el129 (.cons rfl rfl (Nat.le_of_ble_eq_true rfl) rfl .nil)) ?_
  refine EPL.box (c := (startW.list.map wV ++ [Value.slice none 0 0, Value.int .u64 0]).toArray) rfl rfl rfl (fun _ => HeldL.nil) (fun b1 => ?_)
  refine EPL.p rfl rfl (q_assign (v := .pointer _) rfl) ?_
  refine EPL.nil ?_
  refine EL.go ?_
  refine EL.ret ?_
  exact end_ret (fun _ => rfl) (fun _ => ⟨_, rfl, rfl⟩)

end Go.Proofs.YtedkoebbijpnfaaGreatDoor

namespace Go.Proofs.YtedkoebbijpnfaaGreatDoor
open Go Go.Proofs.YtedkoebbijpnfaaGreatDoor.TH
set_option maxHeartbeats 1000000
theorem Sum_s0 (p b1 b9 : Nat) (s : St) (a : Option Addr) (c : Nat) (T : List UInt8) (H G : Hp) (_hb : T.length ≤ 1099511627776) (a3 : Option Addr) (c3 : Nat) (H3 : Hp) (hO3 : OwnB a3 c3 (tlB T 0) H3) (e : Env) (Q : Exit → Env → Hp → Prop) : EL Tryz.prog Tryz.f88.ntmps (bodyAt Tryz.f88 [1, 1, 1, 1, 1, 0]) (thenQ (SegQ [4, 26, 27, 28, 29, 30, 31, 32] (fun x : Option Addr × Nat => [(4, .slice x.1 (szT T 0).length x.2)]) (fun x Hs => ∃ H2, Hs = [H2, sg b9 (HasherB s (.slice none 0 0) 0), sg b1 (HashB (List.replicate 32 0)), sg p (HasherB s (.slice a (rst T).length c) ((T.length : Nat) : Int)), H, G] ∧ OwnB x.1 x.2 (szT T 0) H2) (upds e [(0, .pointer (some ⟨p, 0, none⟩)), (2, .pointer (some ⟨b1, 0, none⟩)), (3, .pointer (some ⟨b9, 0, none⟩)), (4, .slice a3 (tlB T 0).length c3)])) Q) (upds e [(0, .pointer (some ⟨p, 0, none⟩)), (2, .pointer (some ⟨b1, 0, none⟩)), (3, .pointer (some ⟨b9, 0, none⟩)), (4, .slice a3 (tlB T 0).length c3)]) [H3, sg b9 (HasherB s (.slice none 0 0) 0), sg b1 (HashB (List.replicate 32 0)), sg p (HasherB s (.slice a (rst T).length c) ((T.length : Nat) : Int)), H, G] := by
  have hrl : (rst T).length = T.length % 64 := by unfold rst; rw [List.length_drop]; omega
  refine EL.block ?_
  refine EL.loop [4, 26, 27, 28, 29, 30, 31, 32] (fun x : Nat × Option Addr × Nat => [(4, .slice x.2.1 (tlB T x.1).length x.2.2)]) (fun m x Hs' => m + x.1 = zP T ∧ ∃ H2, Hs' = [H2, sg b9 (HasherB s (.slice none 0 0) 0), sg b1 (HashB (List.replicate 32 0)), sg p (HasherB s (.slice a (rst T).length c) ((T.length : Nat) : Int)), H, G] ∧ OwnB x.2.1 x.2.2 (tlB T x.1) H2) (zP T) (0, a3, c3) ⟨by omega, H3, rfl, hO3⟩ ⟨rfl, trivial⟩ ?_
  rintro m ⟨k, a2, c2⟩ _ j ⟨hm, H2, rfl, hO2⟩
  change EL _ _ _ _ (upds (Go.Proofs.YtedkoebbijpnfaaGreatDoor.TH.mix _ _ j) [(4, Value.slice a2 (tlB T k).length c2)]) _
  change m + k = zP T at hm
  change OwnB a2 c2 (tlB T k) H2 at hO2
  have hz : zP T = (119 - T.length % 64) % 64 := rfl
  have hl2 : (tlB T k).length = T.length % 64 + (1 + k) := by simp [tlB, hrl]; omega
  have hrem : (((tlB T k).length : Nat) : Int).tmod 64 = (((T.length % 64 + (1 + k)) % 64 : Nat) : Int) := by rw [hl2, Int.tmod_eq_emod_of_nonneg (by omega)]; omega
  refine EL.seq ?_
  refine EL.seq ?_
  refine EL.region (.p 0 (.p 1 (.p 2 (.p 3 (.nil))))) (by kernel_rfl) ?_
  refine EPL.p rfl rfl (q_move (v := .slice _ _ _) rfl) ?_
  refine EPL.p rfl rfl (q_lenSl Tryz.underlying71 rfl) ?_
  refine EPL.p rfl rfl (q_rem rfl rfl (by first | decide | omega)) ?_
  refine EPL.p rfl rfl (q_neq rfl rfl) ?_
  refine EPL.nil ?_
  refine EL.go ?_
  refine EL.cond rfl (fun c3 => ?_) (fun c3 => ?_)
  ·
    have c3 := of_decide_eq_true c3
    rw [hrem] at c3
    have hk : tlB T k ++ [0] = tlB T (k + 1) := by unfold tlB; rw [List.replicate_succ']; simp
    refine EL.skip ?_
    refine EL.go ?_
    refine EL.block ?_
    refine EL.region (.p 0 (.x 1 [] (.x 2 [] (.p 3 (.nil))))) (by kernel_rfl) ?_
    refine EPL.p rfl rfl (q_move (v := .slice _ _ _) rfl) ?_
    refine EPL.bs rfl rfl Tryz.underlying71 el5 rfl rfl (fill1 (u := .int _ _) rfl rfl) (fun _ => HeldL.nil) (fun b4 => ?_)
    refine EPL.app rfl rfl Tryz.underlying71 (.inr ⟨_, Tryz.underlying71⟩) el5 rfl (by exact hO2) rfl (by exact fun hd => Src.pick hd rfl rfl) (by unfold maxLen; omega) (by omega) (fun v' H3 hv' => ?_)
    
    obtain ⟨a3, c3, rfl, hO3⟩ := OwnB.app (news := [0]) hv'
    refine ⟨HeldL.nil, ?_⟩
    refine EPL.p rfl rfl (q_assign (v := .slice _ _ _) rfl) ?_
    refine EPL.nil ?_
    refine RoundQ.mkP (m - 1) (k + 1, a3, c3) [H3, sg b9 (HasherB s (.slice none 0 0) 0), sg b1 (HashB (List.replicate 32 0)), sg p (HasherB s (.slice a (rst T).length c) ((T.length : Nat) : Int)), H, G] (by omega) ⟨by show m - 1 + (k + 1) = _; omega, H3, rfl, by rw [← hk]; exact hO3⟩ (by repeat first | refine Off.upd rfl ?_ | exact Off.mix | refine Off.upds rfl ?_ | refine Off.mixs rfl ?_ | exact Off.refl) ⟨congrArg (fun l : List UInt8 => Value.slice a3 l.length c3) hk, trivial⟩
  ·
    have c3 := of_decide_eq_false c3
    rw [hrem] at c3
    obtain rfl : k = zP T := by omega
    refine EL.exit ?_
    have he : tlB T (zP T) = szT T 0 := by unfold szT; simp
    exact SegQ.mk (a2, c2) (by repeat first | refine Off.upd rfl ?_ | exact Off.mix | refine Off.upds rfl ?_ | refine Off.mixs rfl ?_ | exact Off.refl) ⟨H2, rfl, he ▸ hO2⟩ ⟨congrArg (fun l : List UInt8 => Value.slice a2 l.length c2) he, trivial⟩

theorem Sum_s2 (p b1 b9 : Nat) (s : St) (a : Option Addr) (c : Nat) (T : List UInt8) (H G : Hp) (hb : T.length ≤ 1099511627776) (a3 : Option Addr) (c3 : Nat) (H3 : Hp) (hO3 : OwnB a3 c3 (szT T 0) H3) (e : Env) (Q : Exit → Env → Hp → Prop) : EL Tryz.prog Tryz.f88.ntmps (bodyAt Tryz.f88 [1, 1, 1, 1, 1, 1, 0, 1]) (thenQ (SegQ [4, 5, 33, 34, 35, 36, 37, 38, 39, 40, 41, 42, 43, 44, 45, 46, 47, 48] (fun x : Option Addr × Nat => [(4, .slice x.1 ((T ++ padB T.length).drop (64 * (T.length / 64))).length x.2)]) (fun x Hs => ∃ H2, Hs = [H2, sg b9 (HasherB s (.slice none 0 0) 0), sg b1 (HashB (List.replicate 32 0)), sg p (HasherB s (.slice a (rst T).length c) ((T.length : Nat) : Int)), H, G] ∧ OwnB x.1 x.2 ((T ++ padB T.length).drop (64 * (T.length / 64))) H2) (upds e [(0, .pointer (some ⟨p, 0, none⟩)), (2, .pointer (some ⟨b1, 0, none⟩)), (3, .pointer (some ⟨b9, 0, none⟩)), (4, .slice a3 (szT T 0).length c3), (5, .int .i64 7)])) Q) (upds e [(0, .pointer (some ⟨p, 0, none⟩)), (2, .pointer (some ⟨b1, 0, none⟩)), (3, .pointer (some ⟨b9, 0, none⟩)), (4, .slice a3 (szT T 0).length c3), (5, .int .i64 7)]) [H3, sg b9 (HasherB s (.slice none 0 0) 0), sg b1 (HashB (List.replicate 32 0)), sg p (HasherB s (.slice a (rst T).length c) ((T.length : Nat) : Int)), H, G] := by
  have hrl : (rst T).length = T.length % 64 := by unfold rst; rw [List.length_drop]; omega
  refine EL.block ?_
  refine EL.loop [4, 5, 33, 34, 35, 36, 37, 38, 39, 40, 41, 42, 43, 44, 45, 46, 47, 48] (fun x : Nat × Option Addr × Nat => [(4, .slice x.2.1 (szT T x.1).length x.2.2), (5, .int .i64 (7 - (x.1 : Int)))]) (fun m x Hs' => m + x.1 = 8 ∧ ∃ H2, Hs' = [H2, sg b9 (HasherB s (.slice none 0 0) 0), sg b1 (HashB (List.replicate 32 0)), sg p (HasherB s (.slice a (rst T).length c) ((T.length : Nat) : Int)), H, G] ∧ OwnB x.2.1 x.2.2 (szT T x.1) H2) 8 (0, a3, c3) ⟨rfl, H3, rfl, hO3⟩ ⟨rfl, rfl, trivial⟩ ?_
  rintro m ⟨j2, a2, c2⟩ _ j ⟨hm, H2, rfl, hO2⟩
  change EL _ _ _ _ (upds (Go.Proofs.YtedkoebbijpnfaaGreatDoor.TH.mix _ _ j) [(4, Value.slice a2 (szT T j2).length c2), (5, .int .i64 (7 - (j2 : Int)))]) _
  change m + j2 = 8 at hm
  change OwnB a2 c2 (szT T j2) H2 at hO2
  have hz : zP T = (119 - T.length % 64) % 64 := rfl
  have hl2 : (szT T j2).length ≤ 200 := by simp [szT, tlB, hrl]; omega
  refine EL.seq ?_
  refine EL.seq ?_
  refine EL.region (.p 0 (.p 1 (.nil))) (by kernel_rfl) ?_
  refine EPL.p rfl rfl (q_move (v := .int _ _) rfl) ?_
  refine EPL.p rfl rfl (q_geq rfl rfl) ?_
  refine EPL.nil ?_
  refine EL.go ?_
  refine EL.cond rfl (fun c5 => ?_) (fun c5 => ?_)
  ·
    have c5 := of_decide_eq_true c5
    have hk : szT T j2 ++ [szB T.length j2] = szT T (j2 + 1) := by unfold szT; rw [range_take (by omega), List.append_assoc]
    refine EL.skip ?_
    refine EL.go ?_
    refine EL.seq ?_
    refine EL.block ?_
    refine EL.region (.p 0 (.p 1 (.p 2 (.p 3 (.l 4 (.p 5 (.p 6 (.p 7 (.p 8 (.p 9 (.x 10 [] (.x 11 [] (.p 12 (.nil)))))))))))))) (by kernel_rfl) ?_
    refine EPL.p rfl rfl (q_move (v := .slice _ _ _) rfl) ?_
    refine EPL.p rfl rfl (q_move (v := .pointer _) rfl) ?_
    refine EPL.p rfl rfl (q_nilCheck rfl) ?_
    refine EPL.p rfl rfl (q_fieldAddr (p := ⟨_, _, none⟩) Tryz.underlying129 rfl sz85 rfl rfl) ?_
    refine EPL.ld1 (v := .int _ _) rfl rfl sc85 rfl rfl ?_
    refine EPL.p rfl rfl (q_mul rfl rfl) ?_
    refine EPL.p rfl rfl (q_move (v := .int _ _) rfl) ?_
    refine EPL.p rfl rfl (q_mul rfl rfl) ?_
    refine EPL.p rfl rfl (q_shr rfl rfl (by first | decide | omega | (rw [wrap_i64_in (by omega)]; omega))) ?_
    refine EPL.p rfl rfl (q_conv Tryz.underlying85 Tryz.underlying5 rfl) ?_
    refine EPL.bs rfl rfl Tryz.underlying71 el5 rfl rfl (fill1 (u := .int _ _) rfl rfl) (fun _ => HeldL.nil) (fun b6 => ?_)
    refine EPL.app rfl rfl Tryz.underlying71 (.inr ⟨_, Tryz.underlying71⟩) el5 rfl (by exact hO2) rfl (by exact fun hd => Src.pick hd rfl rfl) (by unfold maxLen; omega) (by omega) (fun v' H3 hv' => ?_)
    rw [szB_eq hb (by omega)] at hv'
    obtain ⟨a3, c3, rfl, hO3⟩ := OwnB.app (news := [szB T.length j2]) hv'
    refine ⟨HeldL.nil, ?_⟩
    refine EPL.p rfl rfl (q_assign (v := .slice _ _ _) rfl) ?_
    refine EPL.nil ?_
    refine EL.go ?_
    refine EL.region (.p 0 (.p 1 (.p 2 (.nil)))) (by kernel_rfl) ?_
    refine EPL.p rfl rfl (q_move (v := .int _ _) rfl) ?_
    refine EPL.p rfl rfl (q_sub rfl rfl) ?_
    refine EPL.p rfl rfl (q_assign (v := .int _ _) rfl) ?_
    refine EPL.nil ?_
    refine RoundQ.mkP (m - 1) (j2 + 1, a3, c3) [H3, sg b9 (HasherB s (.slice none 0 0) 0), sg b1 (HashB (List.replicate 32 0)), sg p (HasherB s (.slice a (rst T).length c) ((T.length : Nat) : Int)), H, G] (by omega) ⟨by show m - 1 + (j2 + 1) = _; omega, H3, rfl, by rw [← hk]; exact hO3⟩ (by repeat first | refine Off.upd rfl ?_ | exact Off.mix | refine Off.upds rfl ?_ | refine Off.mixs rfl ?_ | exact Off.refl) ⟨congrArg (fun l : List UInt8 => Value.slice a3 l.length c3) hk, congrArg (Value.int .i64) (by rw [wrap_i64_in (by omega)]; omega), trivial⟩
  ·
    have c5 := of_decide_eq_false c5
    obtain rfl : j2 = 8 := by omega
    refine EL.exit ?_
    have he := szT_all T
    exact SegQ.mk (a2, c2) (by repeat first | refine Off.upd rfl ?_ | exact Off.mix | refine Off.upds rfl ?_ | refine Off.mixs rfl ?_ | exact Off.refl) ⟨H2, rfl, he ▸ hO2⟩ ⟨congrArg (fun l : List UInt8 => Value.slice a2 l.length c2) he, trivial⟩

theorem Sum_s4 (p b1 b9 : Nat) (s : St) (a : Option Addr) (c : Nat) (T : List UInt8) (H G : Hp) (_hb : T.length ≤ 1099511627776) (S : List UInt8) (hS : S = T ++ padB T.length) (hs : hst T = s) (hG : GS G) (a3 : Option Addr) (c3 : Nat) (H3 : Hp) (hO3 : OwnB a3 c3 (S.drop (64 * (T.length / 64))) H3) (e : Env) (Q : Exit → Env → Hp → Prop) : EL Tryz.prog Tryz.f88.ntmps (bodyAt Tryz.f88 [1, 1, 1, 1, 1, 1, 1, 0]) (thenQ (SegQ [4, 49, 50, 51, 52, 53, 54, 55, 56, 57] (fun _ : Unit => []) (fun _ Hs => ∃ s4, s4 = blocks kW startW S (S.length / 64) ∧ Hs = [sg b9 (HasherB s4 (.slice none 0 0) 0), sg b1 (HashB (List.replicate 32 0)), sg p (HasherB s (.slice a (rst T).length c) ((T.length : Nat) : Int)), H, G]) (upds e [(0, .pointer (some ⟨p, 0, none⟩)), (2, .pointer (some ⟨b1, 0, none⟩)), (3, .pointer (some ⟨b9, 0, none⟩)), (4, .slice a3 (S.drop (64 * (T.length / 64))).length c3)])) Q) (upds e [(0, .pointer (some ⟨p, 0, none⟩)), (2, .pointer (some ⟨b1, 0, none⟩)), (3, .pointer (some ⟨b9, 0, none⟩)), (4, .slice a3 (S.drop (64 * (T.length / 64))).length c3)]) [H3, sg b9 (HasherB s (.slice none 0 0) 0), sg b1 (HashB (List.replicate 32 0)), sg p (HasherB s (.slice a (rst T).length c) ((T.length : Nat) : Int)), H, G] := by
  have hpm := pad_mod T.length
  have hSl : S.length = T.length + (padB T.length).length := by rw [hS, List.length_append]
  refine EL.block ?_
  refine EL.loop [4, 49, 50, 51, 52, 53, 54, 55, 56, 57] (fun x : Nat × Option Addr × Nat => [(4, .slice x.2.1 (S.drop (64 * x.1)).length x.2.2)]) (fun m x Hs' => m + x.1 = S.length / 64 ∧ ∃ s2 H2, s2 = blocks kW startW S x.1 ∧ Hs' = [H2, sg b9 (HasherB s2 (.slice none 0 0) 0), sg b1 (HashB (List.replicate 32 0)), sg p (HasherB s (.slice a (rst T).length c) ((T.length : Nat) : Int)), H, G] ∧ OwnB x.2.1 x.2.2 (S.drop (64 * x.1)) H2) (S.length / 64 - T.length / 64) (T.length / 64, a3, c3) ⟨by show S.length / 64 - T.length / 64 + T.length / 64 = _; omega, s, H3, by rw [← hs, hS, blocks_pre (by show 64 * (T.length / 64) ≤ _; omega)]; rfl, rfl, hO3⟩ ⟨rfl, trivial⟩ ?_
  rintro m ⟨q, a4, c4⟩ _ j ⟨hm2, s2, H4, hs2, rfl, hO4⟩
  change EL _ _ _ _ (upds (Go.Proofs.YtedkoebbijpnfaaGreatDoor.TH.mix _ _ j) [(4, Value.slice a4 (S.drop (64 * q)).length c4)]) _
  change m + q = S.length / 64 at hm2
  change OwnB a4 c4 (S.drop (64 * q)) H4 at hO4
  change s2 = blocks kW startW S q at hs2
  have hdl : (S.drop (64 * q)).length = S.length - 64 * q := List.length_drop
  refine EL.seq ?_
  refine EL.seq ?_
  refine EL.region (.p 0 (.p 1 (.p 2 (.nil)))) (by kernel_rfl) ?_
  refine EPL.p rfl rfl (q_move (v := .slice _ _ _) rfl) ?_
  refine EPL.p rfl rfl (q_lenSl Tryz.underlying71 rfl) ?_
  refine EPL.p rfl rfl (q_gtr rfl rfl) ?_
  refine EPL.nil ?_
  refine EL.go ?_
  refine EL.cond rfl (fun c7 => ?_) (fun c7 => ?_)
  ·
    have c7 := of_decide_eq_true c7
    obtain ⟨b5, off5, rfl⟩ := hO4.some (by omega)
    have hcap := hO4.cap
    have htk : ((S.drop (64 * q)).take 64).length = 64 := by rw [List.length_take]; omega
    have hd64 : (S.drop (64 * q)).drop 64 = S.drop (64 * (q + 1)) := by rw [List.drop_drop]; congr 1
    have hO5 := hO4.drop (k := 64) (by omega)
    rw [hd64] at hO5
    have hl5 : (S.drop (64 * q)).length - 64 = (S.drop (64 * (q + 1))).length := by have := congrArg List.length hd64; rw [List.length_drop (l := S.drop (64 * q))] at this; exact this
    refine EL.skip ?_
    refine EL.go ?_
    refine EL.block ?_
    refine EL.seq ?_
    refine EL.region (.p 0 (.p 1 (.p 2 (.x 3 [] (.nil))))) (by kernel_rfl) ?_
    refine EPL.p rfl rfl (q_move (v := .pointer _) rfl) ?_
    refine EPL.p rfl rfl (q_move (v := .slice _ _ _) rfl) ?_
    refine EPL.p rfl rfl (q_slHi Tryz.underlying71 sz5 rfl rfl (by omega) (by omega)) ?_
    refine EPL.cl rfl rfl Tryz.func93 rfl rfl (Take64 b9 (some ⟨b5, off5, none⟩) c4 s2 (.slice none 0 0) 0 ((S.drop (64 * q)).take 64) H4 G htk (hO4.rdTake (by omega)) hG) rfl ?_
    rintro _ _ ⟨rfl, rfl⟩
    have hs3 : block kW s2 ((S.drop (64 * q)).take 64) = blocks kW startW S (q + 1) := by rw [hs2]; rfl
    generalize block kW s2 ((S.drop (64 * q)).take 64) = s3 at hs3 ⊢
    refine ⟨HeldL.nil, ?_⟩
    refine EPL.nil ?_
    refine EL.go ?_
    refine EL.region (.p 0 (.p 1 (.p 2 (.nil)))) (by kernel_rfl) ?_
    refine EPL.p rfl rfl (q_move (v := .slice _ _ _) rfl) ?_
    refine EPL.p rfl rfl (q_slLo Tryz.underlying71 sz5 rfl rfl (by omega) (by omega)) ?_
    refine EPL.p rfl rfl (q_assign (v := .slice _ _ _) rfl) ?_
    refine EPL.nil ?_
    refine RoundQ.mkP (m - 1) (q + 1, some ⟨b5, cutOff c4 64 off5 1, none⟩, c4 - 64) [H4, sg b9 (HasherB s3 (.slice none 0 0) 0), sg b1 (HashB (List.replicate 32 0)), sg p (HasherB s (.slice a (rst T).length c) ((T.length : Nat) : Int)), H, G] (by omega) ⟨by show m - 1 + (q + 1) = _; omega, s3, H4, hs3, rfl, hO5⟩ (by repeat first | refine Off.upd rfl ?_ | exact Off.mix | refine Off.upds rfl ?_ | refine Off.mixs rfl ?_ | exact Off.refl) ⟨congrArg (fun n : Nat => Value.slice (some ⟨b5, cutOff c4 64 off5 1, none⟩) n (c4 - 64)) hl5, trivial⟩
  ·
    have c7 := of_decide_eq_false c7
    obtain rfl : q = S.length / 64 := by omega
    refine EL.useP [sg b9 (HasherB s2 (.slice none 0 0) 0), sg b1 (HashB (List.replicate 32 0)), sg p (HasherB s (.slice a (rst T).length c) ((T.length : Nat) : Int)), H, G] ?_
    refine EL.exit ?_
    exact SegQ.mk () (by repeat first | refine Off.upd rfl ?_ | exact Off.mix | refine Off.upds rfl ?_ | refine Off.mixs rfl ?_ | exact Off.refl) ⟨s2, hs2, rfl⟩ trivial

theorem Sum_s6 (b1 b6 : Nat) (s4 : St) (R : List Hp) (e : Env) (Q : Exit → Env → Hp → Prop) : EL Tryz.prog Tryz.f88.ntmps (bodyAt Tryz.f88 [1, 1, 1, 1, 1, 1, 1, 1, 1, 0, 1]) (thenQ (SegQ [7, 8, 62, 63, 64, 65, 66, 67, 68, 69, 70, 71, 72, 73, 74, 75, 76, 77, 78, 79, 80, 81, 82, 83, 84, 85, 86, 87, 88, 89, 90, 91, 92] (fun _ : Unit => []) (fun _ Hs => Hs = sg b6 (.cells (upB (s4.list.flatMap wBytes) 32) 24 (0, 0)) :: R) (upds e [(2, .pointer (some ⟨b1, 0, none⟩)), (6, .pointer (some ⟨b6, 0, none⟩)), (61, .agg (s4.list.map wV).toArray), (62, .int .i64 0)])) Q) (upds e [(2, .pointer (some ⟨b1, 0, none⟩)), (6, .pointer (some ⟨b6, 0, none⟩)), (61, .agg (s4.list.map wV).toArray), (62, .int .i64 0)]) (sg b6 (.cells (upB [] 32) 24 (0, 0)) :: R) := by
  refine EL.block ?_
  refine EL.loop [7, 8, 62, 63, 64, 65, 66, 67, 68, 69, 70, 71, 72, 73, 74, 75, 76, 77, 78, 79, 80, 81, 82, 83, 84, 85, 86, 87, 88, 89, 90, 91, 92] (fun i : Nat => [(62, .int .i64 i)]) (fun m i Hs' => m + i = 8 ∧ Hs' = sg b6 (.cells (upB ((s4.list.take i).flatMap wBytes) 32) 24 (0, 0)) :: R) 8 0 ⟨rfl, rfl⟩ ⟨rfl, trivial⟩ ?_
  rintro m i _ j ⟨hm, rfl⟩
  refine EL.seq ?_
  refine EL.region (.p 0 (.nil)) (by kernel_rfl) ?_
  refine EPL.p rfl rfl (q_lss rfl rfl) ?_
  refine EPL.nil ?_
  refine EL.go ?_
  refine EL.seq ?_
  refine EL.cond rfl (fun c9 => ?_) (fun c9 => ?_)
  ·
    have c9 := of_decide_eq_true c9
    obtain ⟨w, hw⟩ : ∃ x, s4.list[i]? = some x := ⟨_, List.getElem?_eq_getElem (by show i < 8; omega)⟩
    have gw : (s4.list.map wV).toArray[(i : Int).toNat * 1]? = some (wV w) := by rw [show (i : Int).toNat * 1 = i from by omega]; simp [hw]
    have w0 : IntKind.i64.wrap (4 * (i : Int)) = 4 * i := wrap_i64_in (by omega)
    have w1 : IntKind.i64.wrap (IntKind.i64.wrap (4 * (i : Int)) + 1) = 4 * i + 1 := by rw [w0]; exact wrap_i64_in (by omega)
    have w2 : IntKind.i64.wrap (IntKind.i64.wrap (4 * (i : Int)) + 2) = 4 * i + 2 := by rw [w0]; exact wrap_i64_in (by omega)
    have w3 : IntKind.i64.wrap (IntKind.i64.wrap (4 * (i : Int)) + 3) = 4 * i + 3 := by rw [w0]; exact wrap_i64_in (by omega)
    have hfl := wBytes_flat hw
    have hul : ((s4.list.take i).flatMap wBytes).length = 4 * i := by rw [wBytes_len, List.length_take]; show 4 * min i 8 = _; omega
    generalize (s4.list.take i).flatMap wBytes = u at hfl hul ⊢
    refine EL.skip ?_
    refine EL.go ?_
    refine EL.seq ?_
    refine EL.block ?_
    refine EL.seq ?_
    refine EL.region (.p 0 (.p 1 (.p 2 (.p 3 (.nil))))) (by kernel_rfl) ?_
    refine EPL.p rfl rfl (q_move (v := .int _ _) rfl) ?_
    refine EPL.p rfl rfl (q_index1 (v := wV w) Tryz.underlying102 sz101 sc101 rfl rfl (by omega) (by omega) gw) ?_
    refine EPL.p rfl rfl (q_assign (v := .int _ _) rfl) ?_
    refine EPL.p rfl rfl (q_assign (v := .int _ _) rfl) ?_
    refine EPL.nil ?_
    refine EL.go ?_
    refine EL.region (.p 0 (.p 1 (.p 2 (.p 3 (.p 4 (.p 5 (.p 6 (.p 7 (.p 8 (.p 9 (.p 10 (.p 11 (.p 12 (.p 13 (.p 14 (.p 15 (.p 16 (.p 17 (.p 18 (.p 19 (.p 20 (.p 21 (.p 22 (.x 23 [] (.p 24 (.x 25 [] (.p 26 (.x 27 [] (.p 28 (.x 29 [] (.nil))))))))))))))))))))))))))))))) (by kernel_rfl) ?_
    refine EPL.p rfl rfl (q_move (v := .int _ _) rfl) ?_
    refine EPL.p rfl rfl (q_mul rfl rfl) ?_
    refine EPL.p rfl rfl (q_move (v := .int _ _) rfl) ?_
    refine EPL.p rfl rfl (q_mul rfl rfl) ?_
    refine EPL.p rfl rfl (q_add rfl rfl) ?_
    refine EPL.p rfl rfl (q_move (v := .int _ _) rfl) ?_
    refine EPL.p rfl rfl (q_mul rfl rfl) ?_
    refine EPL.p rfl rfl (q_add rfl rfl) ?_
    refine EPL.p rfl rfl (q_move (v := .int _ _) rfl) ?_
    refine EPL.p rfl rfl (q_mul rfl rfl) ?_
    refine EPL.p rfl rfl (q_add rfl rfl) ?_
    refine EPL.p rfl rfl (q_move (v := .int _ _) rfl) ?_
    refine EPL.p rfl rfl (q_shr rfl rfl (by first | decide | omega | (rw [wrap_i64_in (by omega)]; omega))) ?_
    refine EPL.p rfl rfl (q_conv Tryz.underlying101 Tryz.underlying5 rfl) ?_
    refine EPL.p rfl rfl (q_move (v := .int _ _) rfl) ?_
    refine EPL.p rfl rfl (q_shr rfl rfl (by first | decide | omega | (rw [wrap_i64_in (by omega)]; omega))) ?_
    refine EPL.p rfl rfl (q_conv Tryz.underlying101 Tryz.underlying5 rfl) ?_
    refine EPL.p rfl rfl (q_move (v := .int _ _) rfl) ?_
    refine EPL.p rfl rfl (q_shr rfl rfl (by first | decide | omega | (rw [wrap_i64_in (by omega)]; omega))) ?_
    refine EPL.p rfl rfl (q_conv Tryz.underlying101 Tryz.underlying5 rfl) ?_
    refine EPL.p rfl rfl (q_move (v := .int _ _) rfl) ?_
    refine EPL.p rfl rfl (q_conv Tryz.underlying101 Tryz.underlying5 rfl) ?_
    refine EPL.p rfl rfl (q_idxArr Tryz.underlying24 sz5 rfl rfl (by omega) (by omega)) ?_
    obtain ⟨x24, hx24⟩ : ∃ x, x = UInt8.ofNat (w.toNat / 16777216 % 256) := ⟨_, rfl⟩
    refine EPL.st (v := bV x24) (c' := upB (u ++ [x24]) 32) rfl rfl sz5 rfl (by rw [hx24]; exact congrArg (Value.int .u8) (by24 w)) rfl (oneV rfl) (by rw [upB_size (by first | (simp [hul]; omega) | (rw [hul]; omega)), w0]; omega) (by have hh := upB_set (u := u) (n := 32) (x := x24) (by first | (simp [hul]; omega) | (rw [hul]; omega)); skip; show setL _ (0 + (_ : Int).toNat * 1) [bV x24] = _; rw [w0, show 0 + (4 * (i : Int)).toNat * 1 = (u).length from by first | (simp [hul]; omega) | (rw [hul]; omega)]; exact hh) HeldL.nil ?_
    refine EPL.p rfl rfl (q_idxArr Tryz.underlying24 sz5 rfl rfl (by omega) (by omega)) ?_
    obtain ⟨x16, hx16⟩ : ∃ x, x = UInt8.ofNat (w.toNat / 65536 % 256) := ⟨_, rfl⟩
    refine EPL.st (v := bV x16) (c' := upB (u ++ [x24, x16]) 32) rfl rfl sz5 rfl (by rw [hx16]; exact congrArg (Value.int .u8) (by16 w)) rfl (oneV rfl) (by rw [upB_size (by first | (simp [hul]; omega) | (rw [hul]; omega)), w1]; omega) (by have hh := upB_set (u := u ++ [x24]) (n := 32) (x := x16) (by first | (simp [hul]; omega) | (rw [hul]; omega)); rw [List.append_assoc] at hh; show setL _ (0 + (_ : Int).toNat * 1) [bV x16] = _; rw [w1, show 0 + (4 * (i : Int) + 1).toNat * 1 = (u ++ [x24]).length from by first | (simp [hul]; omega) | (rw [hul]; omega)]; exact hh) HeldL.nil ?_
    refine EPL.p rfl rfl (q_idxArr Tryz.underlying24 sz5 rfl rfl (by omega) (by omega)) ?_
    obtain ⟨x8, hx8⟩ : ∃ x, x = UInt8.ofNat (w.toNat / 256 % 256) := ⟨_, rfl⟩
    refine EPL.st (v := bV x8) (c' := upB (u ++ [x24, x16, x8]) 32) rfl rfl sz5 rfl (by rw [hx8]; exact congrArg (Value.int .u8) (by8 w)) rfl (oneV rfl) (by rw [upB_size (by first | (simp [hul]; omega) | (rw [hul]; omega)), w2]; omega) (by have hh := upB_set (u := u ++ [x24, x16]) (n := 32) (x := x8) (by first | (simp [hul]; omega) | (rw [hul]; omega)); rw [List.append_assoc] at hh; show setL _ (0 + (_ : Int).toNat * 1) [bV x8] = _; rw [w2, show 0 + (4 * (i : Int) + 2).toNat * 1 = (u ++ [x24, x16]).length from by first | (simp [hul]; omega) | (rw [hul]; omega)]; exact hh) HeldL.nil ?_
    refine EPL.p rfl rfl (q_idxArr Tryz.underlying24 sz5 rfl rfl (by omega) (by omega)) ?_
    obtain ⟨x0, hx0⟩ : ∃ x, x = UInt8.ofNat (w.toNat % 256) := ⟨_, rfl⟩
    refine EPL.st (v := bV x0) (c' := upB (u ++ [x24, x16, x8, x0]) 32) rfl rfl sz5 rfl (by rw [hx0]; exact congrArg (Value.int .u8) (low_byte w)) rfl (oneV rfl) (by rw [upB_size (by first | (simp [hul]; omega) | (rw [hul]; omega)), w3]; omega) (by have hh := upB_set (u := u ++ [x24, x16, x8]) (n := 32) (x := x0) (by first | (simp [hul]; omega) | (rw [hul]; omega)); rw [List.append_assoc] at hh; show setL _ (0 + (_ : Int).toNat * 1) [bV x0] = _; rw [w3, show 0 + (4 * (i : Int) + 3).toNat * 1 = (u ++ [x24, x16, x8]).length from by first | (simp [hul]; omega) | (rw [hul]; omega)]; exact hh) HeldL.nil ?_
    refine EPL.nil ?_
    refine EL.go ?_
    refine EL.region (.p 0 (.p 1 (.nil))) (by kernel_rfl) ?_
    refine EPL.p rfl rfl (q_add rfl rfl) ?_
    refine EPL.p rfl rfl (q_move (v := .int _ _) rfl) ?_
    refine EPL.nil ?_
    refine RoundQ.mk (m - 1) (i + 1) (by omega) ⟨by omega, by rw [hfl, hx24, hx16, hx8, hx0]; rfl⟩ (by repeat first | refine Off.upd rfl ?_ | exact Off.mix | refine Off.upds rfl ?_ | refine Off.mixs rfl ?_ | exact Off.refl) ⟨congrArg (Value.int .i64) (wrap_i64_in (by omega)), trivial⟩
  ·
    have c9 := of_decide_eq_false c9
    obtain rfl : i = 8 := by omega
    refine EL.exit ?_
    exact SegQ.mk () (by repeat first | refine Off.upd rfl ?_ | exact Off.mix | refine Off.upds rfl ?_ | refine Off.mixs rfl ?_ | exact Off.refl) rfl trivial
theorem Sum_spec (p : Nat) (a : Option Addr) (c : Nat) (T : List UInt8) (H G : Hp) (hO : OwnB a c (rst T) H) (hG : GS G) (hb : T.length ≤ 1099511627776) : CallL Tryz.prog 88 [.pointer (some ⟨p, 0, none⟩)] [sg p (HasherB (hst T) (.slice a (rst T).length c) ((T.length : Nat) : Int)), H, G] (fun r Hs' => r = hashV (shaB T) ∧ Hs' = [sg p (HasherB (hst T) (.slice a (rst T).length c) ((T.length : Nat) : Int)), H, G]) := by
  refine CallL.enter Tryz.func88 Tryz.ntmps88 rfl rfl rfl ?_
  generalize hs : hst T = s
  have hrl : (rst T).length = T.length % 64 := by unfold rst; rw [List.length_drop]; omega
  refine EL.seq ?_
  refine EL.region (.x 0 [] (.nil)) (by kernel_rfl) ?_
  refine EPL.al rfl rfl el24 (fun _ => HeldL.nil) (fun b1 => ?_)
  refine EPL.hd (sg b1 (HashB (List.replicate 32 0))) rfl ?_
  refine EPL.nil ?_
  refine EL.go ?_
  refine EL.seq ?_
  refine EL.seq ?_
  refine EL.region (.p 0 (.p 1 (.nil))) (by kernel_rfl) ?_
  refine EPL.p rfl rfl (q_move (v := .pointer _) rfl) ?_
  refine EPL.p rfl rfl (q_eqlSome Tryz.underlying121 rfl rfl) ?_
  refine EPL.nil ?_
  refine EL.go ?_
  refine EL.no rfl ?_
  refine EL.skip ?_
  refine EL.go ?_
  refine EL.seq ?_
  refine EL.region (.p 0 (.p 1 (.p 2 (.l 3 (.p 4 (.x 5 [] (.p 6 (.nil)))))))) (by kernel_rfl) ?_
  refine EPL.p rfl rfl (q_move (v := .pointer _) rfl) ?_
  refine EPL.p rfl rfl (q_nilCheck rfl) ?_
  refine EPL.p rfl rfl (q_fieldAddr (p := ⟨_, _, none⟩) Tryz.underlying129 rfl sz102 rfl rfl) ?_
  refine EPL.ldAp (v := (s.list.map wV).toArray) rfl rfl ag102 rfl (Nat.le_of_ble_eq_true rfl) rfl ?_
  refine EPL.p rfl rfl (q_build (cells := (s.list.map wV ++ [Value.slice none 0 0, Value.int .u64 0]).toArray) pl129 el129 (.cons rfl rfl (Nat.le_of_ble_eq_true rfl) rfl .nil)) ?_
  refine EPL.box (c := (s.list.map wV ++ [Value.slice none 0 0, Value.int .u64 0]).toArray) rfl rfl rfl (fun _ => HeldL.nil) (fun b9 => ?_)
  refine EPL.p rfl rfl (q_assign (v := .pointer _) rfl) ?_
  refine EPL.nil ?_
  refine EL.go ?_
  refine EL.seq ?_
  refine EL.region (.p 0 (.p 1 (.p 2 (.l 3 (.x 4 [] (.p 5 (.nil))))))) (by kernel_rfl) ?_
  refine EPL.p rfl rfl (q_move (v := .pointer _) rfl) ?_
  refine EPL.p rfl rfl (q_nilCheck rfl) ?_
  refine EPL.p rfl rfl (q_fieldAddr (p := ⟨_, _, none⟩) Tryz.underlying129 rfl sz71 rfl rfl) ?_
  refine EPL.ld1 (v := .slice _ _ _) rfl rfl sc71 rfl rfl ?_
  refine EPL.pad ?_
  refine EPL.app rfl rfl Tryz.underlying71 (.inr ⟨_, Tryz.underlying71⟩) el5 rfl (by exact OwnS.nil _ _ Hp.nil) rfl (by exact fun hd => Src.own hO (TakeP.sub hd) (bvOne _)) (by unfold maxLen; omega) (by omega) (fun v' H3 hv' => ?_)
  obtain ⟨a0, c0, rfl, hO0⟩ := OwnB.app (out := []) (news := rst T) (by simpa using hv')
  rw [List.nil_append] at hO0 ⊢
  refine ⟨HeldL.nil, ?_⟩
  refine EPL.p rfl rfl (q_assign (v := .slice _ _ _) rfl) ?_
  refine EPL.nil ?_
  refine EL.go ?_
  refine EL.seq ?_
  refine EL.region (.p 0 (.x 1 [] (.x 2 [] (.p 3 (.nil))))) (by kernel_rfl) ?_
  refine EPL.p rfl rfl (q_move (v := .slice _ _ _) rfl) ?_
  refine EPL.bs rfl rfl Tryz.underlying71 el5 rfl rfl (fill1 (u := .int _ _) rfl rfl) (fun _ => HeldL.nil) (fun b2 => ?_)
  refine EPL.app rfl rfl Tryz.underlying71 (.inr ⟨_, Tryz.underlying71⟩) el5 rfl (by exact hO0) rfl (by exact fun hd => Src.pick hd rfl rfl) (by unfold maxLen; omega) (by omega) (fun v' H3 hv' => ?_)
  
  obtain ⟨a3, c3, rfl, hO3⟩ := OwnB.app (news := [0x80]) hv'
  refine ⟨HeldL.nil, ?_⟩
  refine EPL.p rfl rfl (q_assign (v := .slice _ _ _) rfl) ?_
  refine EPL.nil ?_
  refine EL.go ?_
  refine EL.seq ?_
  have e0 : rst T ++ [0x80] = tlB T 0 := rfl
  rw [e0] at hO3 ⊢
  refine EL.useP [H3, sg b9 (HasherB s (.slice none 0 0) 0), sg b1 (HashB (List.replicate 32 0)), sg p (HasherB s (.slice a (rst T).length c) ((T.length : Nat) : Int)), H, G] ?_
  refine EL.base [(0, .pointer (some ⟨p, 0, none⟩)), (2, .pointer (some ⟨b1, 0, none⟩)), (3, .pointer (some ⟨b9, 0, none⟩)), (4, .slice a3 (tlB T 0).length c3)] ⟨rfl, rfl, rfl, rfl, trivial⟩ (fun e => ?_)
  refine EL.seg [4, 26, 27, 28, 29, 30, 31, 32] (fun x : Option Addr × Nat => [(4, .slice x.1 (szT T 0).length x.2)]) (fun x Hs => ∃ H2, Hs = [H2, sg b9 (HasherB s (.slice none 0 0) 0), sg b1 (HashB (List.replicate 32 0)), sg p (HasherB s (.slice a (rst T).length c) ((T.length : Nat) : Int)), H, G] ∧ OwnB x.1 x.2 (szT T 0) H2) (fun Q => Sum_s0 p b1 b9 s a c T H G hb a3 c3 H3 hO3 e Q) ?_
  rintro ⟨a3, c3⟩ _ j ⟨H3, rfl, hO3⟩
  refine EL.go ?_
  refine EL.seq ?_
  refine EL.seq ?_
  refine EL.region (.p 0 (.nil)) (by kernel_rfl) ?_
  refine EPL.p rfl rfl (q_assign (v := .int _ _) rfl) ?_
  refine EPL.nil ?_
  refine EL.go ?_
  refine EL.base [(0, .pointer (some ⟨p, 0, none⟩)), (2, .pointer (some ⟨b1, 0, none⟩)), (3, .pointer (some ⟨b9, 0, none⟩)), (4, .slice a3 (szT T 0).length c3), (5, .int .i64 7)] ⟨rfl, rfl, rfl, rfl, rfl, trivial⟩ (fun e => ?_)
  refine EL.seg [4, 5, 33, 34, 35, 36, 37, 38, 39, 40, 41, 42, 43, 44, 45, 46, 47, 48] (fun x : Option Addr × Nat => [(4, .slice x.1 ((T ++ padB T.length).drop (64 * (T.length / 64))).length x.2)]) (fun x Hs => ∃ H2, Hs = [H2, sg b9 (HasherB s (.slice none 0 0) 0), sg b1 (HashB (List.replicate 32 0)), sg p (HasherB s (.slice a (rst T).length c) ((T.length : Nat) : Int)), H, G] ∧ OwnB x.1 x.2 ((T ++ padB T.length).drop (64 * (T.length / 64))) H2) (fun Q => Sum_s2 p b1 b9 s a c T H G hb a3 c3 H3 hO3 e Q) ?_
  rintro ⟨a3, c3⟩ _ j ⟨H3, rfl, hO3⟩
  refine EL.go ?_
  refine EL.seq ?_
  generalize hS : T ++ padB T.length = S at *
  refine EL.base [(0, .pointer (some ⟨p, 0, none⟩)), (2, .pointer (some ⟨b1, 0, none⟩)), (3, .pointer (some ⟨b9, 0, none⟩)), (4, .slice a3 (S.drop (64 * (T.length / 64))).length c3)] ⟨rfl, rfl, rfl, rfl, trivial⟩ (fun e => ?_)
  refine EL.seg [4, 49, 50, 51, 52, 53, 54, 55, 56, 57] (fun _ : Unit => []) (fun _ Hs => ∃ s4, s4 = blocks kW startW S (S.length / 64) ∧ Hs = [sg b9 (HasherB s4 (.slice none 0 0) 0), sg b1 (HashB (List.replicate 32 0)), sg p (HasherB s (.slice a (rst T).length c) ((T.length : Nat) : Int)), H, G]) (fun Q => Sum_s4 p b1 b9 s a c T H G hb S hS.symm hs hG a3 c3 H3 hO3 e Q) ?_
  rintro _ _ j ⟨s4, hs4, rfl⟩
  refine EL.go ?_
  refine EL.seq ?_
  refine EL.region (.x 0 [] (.nil)) (by kernel_rfl) ?_
  refine EPL.al rfl rfl el24 (fun _ => HeldL.nil) (fun b6 => ?_)
  refine EPL.hd (sg b6 (.cells (upB [] 32) 24 (0, 0))) rfl ?_
  refine EPL.nil ?_
  refine EL.go ?_
  refine EL.seq ?_
  refine EL.seq ?_
  refine EL.region (.p 0 (.p 1 (.p 2 (.l 3 (.p 4 (.nil)))))) (by kernel_rfl) ?_
  refine EPL.p rfl rfl (q_move (v := .pointer _) rfl) ?_
  refine EPL.p rfl rfl (q_nilCheck rfl) ?_
  refine EPL.p rfl rfl (q_fieldAddr (p := ⟨_, _, none⟩) Tryz.underlying129 rfl sz102 rfl rfl) ?_
  refine EPL.ldAp (v := (s4.list.map wV).toArray) rfl rfl ag102 rfl (Nat.le_of_ble_eq_true rfl) rfl ?_
  refine EPL.p rfl rfl (q_move (v := .int _ _) rfl) ?_
  refine EPL.nil ?_
  refine EL.go ?_
  obtain ⟨R, hR⟩ : ∃ R, R = [sg b9 (HasherB s4 (.slice none 0 0) 0), sg b1 (HashB (List.replicate 32 0)), sg p (HasherB s (.slice a (rst T).length c) ((T.length : Nat) : Int)), H, G] := ⟨_, rfl⟩
  rw [← hR]
  refine EL.base [(2, .pointer (some ⟨b1, 0, none⟩)), (6, .pointer (some ⟨b6, 0, none⟩)), (61, .agg (s4.list.map wV).toArray), (62, .int .i64 0)] ⟨rfl, rfl, rfl, rfl, trivial⟩ (fun e => ?_)
  refine EL.seg [7, 8, 62, 63, 64, 65, 66, 67, 68, 69, 70, 71, 72, 73, 74, 75, 76, 77, 78, 79, 80, 81, 82, 83, 84, 85, 86, 87, 88, 89, 90, 91, 92] (fun _ : Unit => []) (fun _ Hs => Hs = sg b6 (.cells (upB (s4.list.flatMap wBytes) 32) 24 (0, 0)) :: R) (fun Q => Sum_s6 b1 b6 s4 R e Q) ?_
  rintro _ _ j rfl
  subst hR
  have hsh : s4.list.flatMap wBytes = shaB T := by rw [hs4, ← hS]; rfl
  rw [hsh, upB_all (shaB_len T)]
  refine EL.go ?_
  refine EL.seq ?_
  refine EL.region (.l 0 (.x 1 [] (.nil))) (by kernel_rfl) ?_
  refine EPL.ldAw rfl rfl ag24 rfl (by simp [shaB_len]) ?_
  refine EPL.stA (v := ((shaB T).map bV).toArray) rfl rfl sz24 rfl rfl (by simp [shaB_len]) (bvAll _) rfl HeldL.nil ?_
  refine EPL.nil ?_
  refine EL.go ?_
  refine EL.ret ?_
  subst hs
  exact end_retP (vs := [hashV (shaB T)]) [sg p (HasherB (hst T) (.slice a (rst T).length c) ((T.length : Nat) : Int)), H, G] (fun hd => resL_one (rv_cellA (e := 24) (fr := (0, 0)) ag24 rfl (TakeP.sub (H := sg b1 (HashB (shaB T))) hd b1 _ sg_self) (by simp [shaB_len]))) (fun _ => ⟨rfl, rfl⟩)

end Go.Proofs.YtedkoebbijpnfaaGreatDoor

namespace Go.Proofs.YtedkoebbijpnfaaGreatDoor
open Go Go.Proofs.YtedkoebbijpnfaaGreatDoor.TH
set_option maxHeartbeats 1000000

abbrev StrB (l : List (List UInt8)) (I : Hp) (la : Option Addr) (lc : Nat) : Prop := RdS 1 (.slice la l.length lc) l.length (l.flatMap fun x => [str x]) I
theorem strB1 (b : Nat) (s : List UInt8) : StrB [s] (sg b (.cells #[str s] 9 (0, 0))) (some ⟨b, 0, none⟩) 1 := ⟨rfl, by show (1 : Nat) ≤ _; omega, .inr ⟨b, 0, 1, _, _, _, rfl, sg_self, by show 0 + 1 * 1 ≤ 1; omega, rfl⟩⟩
theorem Write0_spec (p : Nat) (la : Option Addr) (lc : Nat) (ps : List (List UInt8)) (I G : Hp) (hI : StrB ps I la lc) (hG : GS G) (hb : ps.flatten.length ≤ 1099511627776) : CallL Tryz.prog 87 [.pointer (some ⟨p, 0, none⟩), .slice la ps.length lc] [sg p (HasherB startW (.slice none 0 0) 0), Hp.nil, I, G] (fun r Hs' => r = .tuple #[] ∧ ∃ a' c' H', Hs' = [sg p (HasherB (hst ps.flatten) (.slice a' (rst ps.flatten).length c') (ps.flatten.length : Nat)), H', I, G] ∧ OwnB a' c' (rst ps.flatten) H') := by
  have := Write_spec p none la 0 lc [] ps Hp.nil I G hI (OwnS.nil _ _ _) hG (by simpa using hb)
  simp only [List.nil_append] at this
  exact this

theorem Of_spec (la : Option Addr) (lc : Nat) (ps : List (List UInt8)) (I G : Hp) (hI : StrB ps I la lc) (hG : GS G) (hT : GT G) (hb : ps.flatten.length ≤ 1099511627776) : CallL Tryz.prog 76 [.slice la ps.length lc] [I, G] (fun r Hs' => r = hashV (shaB ps.flatten) ∧ Hs' = [I, G]) := by
  refine CallL.enter Tryz.func76 Tryz.ntmps76 rfl rfl rfl ?_
  refine EL.seq ?_
  refine EL.region (.x 0 [] (.nil)) (by kernel_rfl) ?_
  refine EPL.al rfl rfl el24 (fun _ => HeldL.nil) (fun b1 => ?_)
  refine EPL.pad ?_
  refine EPL.nil ?_
  refine EL.go ?_
  refine EL.seq ?_
  refine EL.region (.x 0 [] (.p 1 (.nil))) (by kernel_rfl) ?_
  refine EPL.cl rfl rfl Tryz.func86 rfl rfl (New_spec G hT) rfl ?_
  rintro _ _ ⟨b, rfl, rfl⟩
  refine ⟨HeldL.nil, ?_⟩
  refine EPL.p rfl rfl (q_assign (v := .pointer _) rfl) ?_
  refine EPL.nil ?_
  refine EL.go ?_
  refine EL.seq ?_
  refine EL.region (.p 0 (.p 1 (.x 2 [] (.nil)))) (by kernel_rfl) ?_
  refine EPL.p rfl rfl (q_move (v := .pointer _) rfl) ?_
  refine EPL.p rfl rfl (q_move (v := .slice _ _ _) rfl) ?_
  refine EPL.cl rfl rfl Tryz.func87 rfl rfl (Write0_spec b la lc ps I G hI hG hb) rfl ?_
  rintro _ _ ⟨rfl, a1, c1, H1, rfl, hO⟩
  refine ⟨HeldL.nil, ?_⟩
  refine EPL.nil ?_
  refine EL.go ?_
  refine EL.seq ?_
  refine EL.region (.p 0 (.x 1 [] (.x 2 [] (.nil)))) (by kernel_rfl) ?_
  refine EPL.p rfl rfl (q_move (v := .pointer _) rfl) ?_
  refine EPL.cl rfl rfl Tryz.func88 rfl rfl (Sum_spec b a1 c1 ps.flatten H1 G hO hG hb) rfl ?_
  rintro _ _ ⟨rfl, rfl⟩
  refine ⟨HeldL.nil, ?_⟩
  refine EPL.stA (v := ((shaB ps.flatten).map bV).toArray) rfl rfl sz24 rfl rfl (by simp [shaB_len]) (bvAll _) rfl HeldL.nil ?_
  refine EPL.nil ?_
  refine EL.go ?_
  refine EL.ret ?_
  exact end_retP (vs := [hashV (shaB ps.flatten)]) [I, G] (fun hd => resL_one (rv_cellA (e := 24) (fr := (0, 0)) ag24 rfl (TakeP.sub (H := sg b1 (HashB (shaB ps.flatten))) hd b1 _ sg_self) (by simp [shaB_len]))) (fun _ => ⟨rfl, rfl⟩)

theorem Double_spec (la : Option Addr) (lc : Nat) (ps : List (List UInt8)) (I G : Hp) (hI : StrB ps I la lc) (hG : GS G) (hT : GT G) (hb : ps.flatten.length ≤ 1099511627776) : CallL Tryz.prog 65 [.slice la ps.length lc] [I, G] (fun r Hs' => r = hashV (shaD ps.flatten) ∧ Hs' = [I, G]) := by
  refine CallL.enter Tryz.func65 Tryz.ntmps65 rfl rfl rfl ?_
  refine EL.seq ?_
  refine EL.region (.x 0 [] (.nil)) (by kernel_rfl) ?_
  refine EPL.al rfl rfl el24 (fun _ => HeldL.nil) (fun b1 => ?_)
  refine EPL.nil ?_
  refine EL.go ?_
  refine EL.seq ?_
  refine EL.region (.p 0 (.x 1 [] (.x 2 [] (.x 3 [] (.nil))))) (by kernel_rfl) ?_
  refine EPL.p rfl rfl (q_move (v := .slice _ _ _) rfl) ?_
  refine EPL.cl rfl rfl Tryz.func76 rfl rfl (Of_spec la lc ps I G hI hG hT hb) rfl ?_
  rintro _ _ ⟨rfl, rfl⟩
  refine ⟨HeldL.nil, ?_⟩
  refine EPL.al rfl rfl el24 (fun _ => HeldL.nil) (fun b2 => ?_)
  refine EPL.stA (v := ((shaB ps.flatten).map bV).toArray) rfl rfl sz24 rfl rfl (by simp [shaB_len]) (bvAll _) rfl HeldL.nil ?_
  refine EPL.nil ?_
  refine EL.go ?_
  refine EL.seq ?_
  refine EL.region (.p 0 (.l 1 (.x 2 [] (.x 3 [] (.x 4 [] (.nil)))))) (by kernel_rfl) ?_
  refine EPL.p rfl rfl (q_slArr Tryz.underlying24 sz5 (by decide) rfl) ?_
  refine EPL.btsP (l := shaB ps.flatten) rfl rfl Tryz.underlying71 Tryz.underlying5 Tryz.underlying9 rfl (by simp [shaB_len]) ⟨Nat.le_refl _, by simp [shaB_len]⟩ (by unfold maxLen; decide) (by simp) okF.z ?_
  refine EPL.bs rfl rfl Tryz.underlying66 el9 rfl rfl (fill1 (u := str (shaB ps.flatten)) rfl rfl) (fun _ => HeldL.nil) (fun b3 => ?_)
  refine EPL.cl rfl rfl Tryz.func76 rfl rfl (Of_spec (some ⟨b3, 0, none⟩) 1 [shaB ps.flatten] (sg b3 (.cells #[str (shaB ps.flatten)] 9 (0, 0))) G (strB1 _ _) hG hT (by simp [shaB_len])) rfl ?_
  rintro _ _ ⟨rfl, rfl⟩
  have hD : shaB [shaB ps.flatten].flatten = shaD ps.flatten := by simp [shaD]
  rw [hD]
  refine ⟨HeldL.nil, ?_⟩
  refine EPL.stA (v := ((shaD ps.flatten).map bV).toArray) rfl rfl sz24 rfl rfl (by simp [shaD, shaB_len]) (bvAll _) rfl HeldL.nil ?_
  refine EPL.nil ?_
  refine EL.go ?_
  refine EL.ret ?_
  exact end_retP (vs := [hashV (shaD ps.flatten)]) [I, G] (fun hd => resL_one (rv_cellA (e := 24) (fr := (0, 0)) ag24 rfl (TakeP.sub (H := sg b1 (HashB (shaD ps.flatten))) hd b1 _ sg_self) (by simp [shaD, shaB_len]))) (fun _ => ⟨rfl, rfl⟩)

end Go.Proofs.YtedkoebbijpnfaaGreatDoor

namespace Go.Proofs.YtedkoebbijpnfaaGreatDoor
open Go Go.Proofs.YtedkoebbijpnfaaGreatDoor.TH
set_option maxHeartbeats 1000000

theorem right_or (x : W32) (n : Nat) (_h0 : 0 < n) (h : n < 32) : (x >>> n) + (x <<< (32 - n)) = rotr x n := by
  have hd : (x >>> n) &&& (x <<< (32 - n)) = 0#32 := by
    ext i hi
    simp
    intro h1 h2
    rcases Nat.lt_or_ge (n + i) 32 with h3 | h3
    · omega
    · rw [BitVec.getLsbD_of_ge _ _ h3] at h1; cases h1
  rw [BitVec.add_eq_or_of_and_eq_zero _ _ hd, BitVec.or_comm]
  exact rotr_or x n h
theorem quo_w (x : W32) (n : Nat) (_h : n < 32) : IntKind.u32.wrap ((x.toNat : Int).tdiv ((2 ^ n : Nat) : Int)) = ((x >>> n).toNat : Int) := by
  rw [Int.tdiv_eq_ediv_of_nonneg (by omega), wrap_u32, BitVec.toNat_ushiftRight, Nat.shiftRight_eq_div_pow, ← Int.natCast_ediv]
  have := x.isLt
  have h2 : x.toNat / 2 ^ n ≤ x.toNat := Nat.div_le_self _ _
  generalize x.toNat / 2 ^ n = q at h2 ⊢
  omega
theorem sub_w (x : W32) : IntKind.u32.wrap (4294967295 - (x.toNat : Int)) = ((~~~x).toNat : Int) := by
  rw [wrap_u32, BitVec.toNat_not]
  have := x.isLt
  omega

theorem Right_spec (x : W32) (n : Nat) (h0 : 0 < n) (h : n < 32) : CallL Tryz.prog 68 [wV x, .int .u64 (n : Int)] [] (fun r Hs' => r = wV (rotr x n) ∧ Hs' = []) := by
  refine CallL.enter Tryz.func68 Tryz.ntmps68 rfl rfl rfl ?_
  have e32 : IntKind.u64.wrap (32 - (n : Int)) = ((32 - n : Nat) : Int) := by rw [wrap_u64_in (by omega)]; omega
  refine EL.seq ?_
  refine EL.region (.p 0 (.nil)) (by kernel_rfl) ?_
  refine EPL.p rfl rfl (q_assign (v := .int _ _) rfl) ?_
  refine EPL.nil ?_
  refine EL.go ?_
  refine EL.seq ?_
  refine EL.region (.p 0 (.p 1 (.p 2 (.p 3 (.p 4 (.p 5 (.p 6 (.p 7 (.p 8 (.nil)))))))))) (by kernel_rfl) ?_
  refine EPL.p rfl rfl (q_move (v := .int _ _) rfl) ?_
  refine EPL.p rfl rfl (q_move (v := .int _ _) rfl) ?_
  refine EPL.p rfl rfl (q_shr rfl rfl (by first | decide | omega | (rw [e32]; omega) | (rw [wrap_i64_in (by omega)]; omega))) ?_
  refine EPL.p rfl rfl (q_move (v := .int _ _) rfl) ?_
  refine EPL.p rfl rfl (q_move (v := .int _ _) rfl) ?_
  refine EPL.p rfl rfl (q_sub rfl rfl) ?_
  refine EPL.p rfl rfl (q_shl rfl rfl (by first | decide | omega | (rw [e32]; omega) | (rw [wrap_i64_in (by omega)]; omega))) ?_
  refine EPL.p rfl rfl (q_add rfl rfl) ?_
  refine EPL.p rfl rfl (q_assign (v := .int _ _) rfl) ?_
  refine EPL.nil ?_
  refine EL.go ?_
  refine EL.ret ?_
  exact end_ret (fun _ => rfl) (fun _ => ⟨congrArg (Value.int .u32) (by rw [e32, w_shl _ _ (by omega), w_shr _ _ (by omega), w_add, right_or _ _ h0 h]), rfl⟩)

theorem K_spec (i : Nat) (hi : i < 64) : CallL Tryz.prog 69 [.int .i64 (i : Int)] [] (fun r Hs' => r = wV (kW.getD i 0) ∧ Hs' = []) := by
  refine CallL.enter Tryz.func69 Tryz.ntmps69 rfl rfl rfl ?_
  have gk : (kW.map wV).toArray[(i : Int).toNat * 1]? = some (wV (kW.getD i 0)) := by
    rw [show (i : Int).toNat * 1 = i from by omega]
    have h64 : i < kW.length := hi
    simp [List.getD_eq_getElem?_getD, h64]
  refine EL.seq ?_
  refine EL.region (.p 0 (.nil)) (by kernel_rfl) ?_
  refine EPL.p rfl rfl (q_assign (v := .int _ _) rfl) ?_
  refine EPL.nil ?_
  refine EL.go ?_
  refine EL.seq ?_
  refine EL.region (.p 0 (.p 1 (.p 2 (.p 3 (.nil))))) (by kernel_rfl) ?_
  refine EPL.p rfl rfl (q_buildA (cells := (kW.map wV).toArray) Tryz.underlying103 sz101 el103 (fillW kW rfl rfl)) ?_
  refine EPL.p rfl rfl (q_move (v := .int _ _) rfl) ?_
  refine EPL.p rfl rfl (q_index1 (v := wV (kW.getD i 0)) Tryz.underlying103 sz101 sc101 rfl rfl (by omega) (by omega) gk) ?_
  refine EPL.p rfl rfl (q_assign (v := .int _ _) rfl) ?_
  refine EPL.nil ?_
  refine EL.go ?_
  refine EL.ret ?_
  exact end_ret (fun _ => rfl) (fun _ => ⟨rfl, rfl⟩)

theorem Padded_spec (s : List UInt8) (hb : s.length ≤ 1099511627776) : CallL Tryz.prog 67 [str s] [] (fun r Hs' => r = str (s ++ padB s.length) ∧ Hs' = []) := by
  refine CallL.enter Tryz.func67 Tryz.ntmps67 rfl rfl rfl ?_
  refine EL.seq ?_
  refine EL.region (.p 0 (.nil)) (by kernel_rfl) ?_
  refine EPL.p rfl rfl (q_assign (v := .string _) rfl) ?_
  refine EPL.nil ?_
  refine EL.go ?_
  refine EL.seq ?_
  refine EL.region (.p 0 (.p 1 (.p 2 (.nil)))) (by kernel_rfl) ?_
  refine EPL.p rfl rfl (q_move (v := .string _) rfl) ?_
  refine EPL.p rfl rfl (q_lenStr Tryz.underlying9 rfl) ?_
  refine EPL.p rfl rfl (q_assign (v := .int _ _) rfl) ?_
  refine EPL.nil ?_
  refine EL.go ?_
  refine EL.seq ?_
  refine EL.region (.p 0 (.p 1 (.p 2 (.nil)))) (by kernel_rfl) ?_
  refine EPL.p rfl rfl (q_move (v := .string _) rfl) ?_
  refine EPL.p rfl rfl (q_strcat rfl rfl (by first | (simp; omega) | omega)) ?_
  refine EPL.p rfl rfl (q_assign (v := .string _) rfl) ?_
  refine EPL.nil ?_
  refine EL.go ?_
  refine EL.seq ?_
  refine EL.block ?_
  refine EL.loop [0, 10, 11, 12, 13, 14, 15] (fun k : Nat => [(0, str (s ++ ([0x80] ++ List.replicate k 0)))]) (fun m k Hs' => m + k = (119 - s.length % 64) % 64 ∧ Hs' = []) ((119 - s.length % 64) % 64) 0 ⟨by omega, rfl⟩ ⟨rfl, trivial⟩ ?_
  rintro m k _ j ⟨hm, rfl⟩
  have hl2 : (s ++ ([0x80] ++ List.replicate k 0)).length = s.length + (1 + k) := by simp; omega
  have hrem : (((s ++ ([0x80] ++ List.replicate k 0)).length : Nat) : Int).tmod 64 = (((s.length + (1 + k)) % 64 : Nat) : Int) := by rw [hl2, Int.tmod_eq_emod_of_nonneg (by omega)]; omega
  refine EL.seq ?_
  refine EL.seq ?_
  refine EL.region (.p 0 (.p 1 (.p 2 (.p 3 (.nil))))) (by kernel_rfl) ?_
  refine EPL.p rfl rfl (q_move (v := .string _) rfl) ?_
  refine EPL.p rfl rfl (q_lenStr Tryz.underlying9 rfl) ?_
  refine EPL.p rfl rfl (q_rem rfl rfl (by first | decide | omega)) ?_
  refine EPL.p rfl rfl (q_neq rfl rfl) ?_
  refine EPL.nil ?_
  refine EL.go ?_
  refine EL.cond rfl (fun c1 => ?_) (fun c1 => ?_)
  ·
    have c1 := of_decide_eq_true c1
    rw [hrem] at c1
    refine EL.skip ?_
    refine EL.go ?_
    refine EL.block ?_
    refine EL.region (.p 0 (.p 1 (.p 2 (.nil)))) (by kernel_rfl) ?_
    refine EPL.p rfl rfl (q_move (v := .string _) rfl) ?_
    refine EPL.p rfl rfl (q_strcat rfl rfl (by first | (simp; omega) | omega)) ?_
    refine EPL.p rfl rfl (q_assign (v := .string _) rfl) ?_
    refine EPL.nil ?_
    refine RoundQ.mk (m - 1) (k + 1) (by omega) ⟨by omega, rfl⟩ (by repeat first | refine Off.upd rfl ?_ | exact Off.mix | refine Off.upds rfl ?_ | refine Off.mixs rfl ?_ | exact Off.refl) ⟨congrArg (fun l => str l) (by rw [List.replicate_succ']; simp), trivial⟩
  ·
    have c1 := of_decide_eq_false c1
    rw [hrem] at c1
    obtain rfl : k = (119 - s.length % 64) % 64 := by omega
    refine EL.exit ?_
    refine EL.go ?_
    refine EL.seq ?_
    refine EL.region (.p 0 (.p 1 (.p 2 (.nil)))) (by kernel_rfl) ?_
    refine EPL.p rfl rfl (q_move (v := .int _ _) rfl) ?_
    refine EPL.p rfl rfl (q_mul rfl rfl) ?_
    refine EPL.p rfl rfl (q_assign (v := .int _ _) rfl) ?_
    refine EPL.nil ?_
    refine EL.go ?_
    refine EL.seq ?_
    refine EL.region (.p 0 (.nil)) (by kernel_rfl) ?_
    refine EPL.p rfl rfl (q_assign (v := .string _) rfl) ?_
    refine EPL.nil ?_
    refine EL.go ?_
    refine EL.seq ?_
    refine EL.seq ?_
    refine EL.region (.p 0 (.nil)) (by kernel_rfl) ?_
    refine EPL.p rfl rfl (q_assign (v := .int _ _) rfl) ?_
    refine EPL.nil ?_
    refine EL.go ?_
    refine EL.block ?_
    refine EL.loop [3, 4, 5, 18, 19, 20, 21, 22, 23, 24, 25, 26, 27, 28, 29, 30] (fun j : Nat => [(3, .int .i64 ((s.length * 8 / 256 ^ j : Nat) : Int)), (4, str (((List.range 8).map (szB s.length)).drop (8 - j))), (5, .int .i64 j)]) (fun m j Hs' => m + j = 8 ∧ Hs' = []) 8 0 ⟨rfl, rfl⟩ ⟨congrArg (Value.int .i64) (by rw [wrap_i64_in (by omega)]; omega), rfl, rfl, trivial⟩ ?_
    rintro m j2 _ j ⟨hm, rfl⟩
    refine EL.seq ?_
    refine EL.seq ?_
    refine EL.region (.p 0 (.p 1 (.nil))) (by kernel_rfl) ?_
    refine EPL.p rfl rfl (q_move (v := .int _ _) rfl) ?_
    refine EPL.p rfl rfl (q_lss rfl rfl) ?_
    refine EPL.nil ?_
    refine EL.go ?_
    refine EL.cond rfl (fun c2 => ?_) (fun c2 => ?_)
    ·
      have c2 := of_decide_eq_true c2
      have h256 : 256 ^ j2 = 2 ^ (8 * j2) := pow256 j2
      have h8 : 8 * (7 - (7 - j2)) = 8 * j2 := by omega
      have hby : IntKind.u8.wrap ((((s.length * 8 / 256 ^ j2 : Nat) : Nat) : Int).tmod 256) = ((szB s.length (7 - j2)).toNat : Int) := by
        unfold szB
        rw [h8, ← h256, Int.tmod_eq_emod_of_nonneg (Int.natCast_nonneg _), IntKind.wrap_u8, UInt8.toNat_ofNat']
        generalize s.length * 8 / 256 ^ j2 = q
        omega
      have hq : IntKind.i64.wrap ((((s.length * 8 / 256 ^ j2 : Nat) : Nat) : Int).tdiv 256) = ((s.length * 8 / 256 ^ (j2 + 1) : Nat) : Int) := by
        have e1 : s.length * 8 / 256 ^ (j2 + 1) = s.length * 8 / 256 ^ j2 / 256 := by rw [Nat.pow_succ, Nat.div_div_eq_div_mul]
        have e2 : s.length * 8 / 256 ^ j2 ≤ s.length * 8 := Nat.div_le_self _ _
        rw [e1, Int.tdiv_eq_ediv_of_nonneg (Int.natCast_nonneg _)]
        generalize s.length * 8 / 256 ^ j2 = q at e2 ⊢
        rw [wrap_i64_in (by omega)]
        omega
      have hdr : [szB s.length (7 - j2)] ++ ((List.range 8).map (szB s.length)).drop (8 - j2) = ((List.range 8).map (szB s.length)).drop (8 - (j2 + 1)) := by
        have e1 : 8 - (j2 + 1) = 7 - j2 := by omega
        have e2 : 7 - j2 + 1 = 8 - j2 := by omega
        rw [e1, List.drop_eq_getElem_cons (l := (List.range 8).map (szB s.length)) (i := 7 - j2) (by simp; omega), e2]
        simp
      refine EL.skip ?_
      refine EL.go ?_
      refine EL.seq ?_
      refine EL.block ?_
      refine EL.seq ?_
      refine EL.region (.p 0 (.p 1 (.p 2 (.x 3 [] (.l 4 (.p 5 (.p 6 (.p 7 (.nil))))))))) (by kernel_rfl) ?_
      refine EPL.p rfl rfl (q_move (v := .int _ _) rfl) ?_
      refine EPL.p rfl rfl (q_rem rfl rfl (by first | decide | omega)) ?_
      refine EPL.p rfl rfl (q_conv Tryz.underlying3 Tryz.underlying5 rfl) ?_
      refine EPL.bs rfl rfl Tryz.underlying71 el5 rfl rfl (fill1 (u := .int _ _) rfl rfl) (fun _ => HeldL.nil) (fun b3 => ?_)
      refine EPL.btsP (l := [szB s.length (7 - j2)]) rfl rfl Tryz.underlying71 Tryz.underlying5 Tryz.underlying9 rfl rfl ⟨Nat.le_refl _, Nat.le_refl _⟩ (by unfold maxLen; decide) (by exact congrArg (fun x => [Value.int .u8 x]) hby) okF.z ?_
      refine EPL.p rfl rfl (q_move (v := .string _) rfl) ?_
      refine EPL.p rfl rfl (q_strcat rfl rfl (by first | (simp; omega) | omega)) ?_
      refine EPL.p rfl rfl (q_assign (v := .string _) rfl) ?_
      refine EPL.nil ?_
      refine EL.go ?_
      refine EL.region (.p 0 (.p 1 (.p 2 (.nil)))) (by kernel_rfl) ?_
      refine EPL.p rfl rfl (q_move (v := .int _ _) rfl) ?_
      refine EPL.p rfl rfl (q_quo rfl rfl (by first | decide | omega)) ?_
      refine EPL.p rfl rfl (q_assign (v := .int _ _) rfl) ?_
      refine EPL.nil ?_
      refine EL.go ?_
      refine EL.region (.p 0 (.p 1 (.p 2 (.nil)))) (by kernel_rfl) ?_
      refine EPL.p rfl rfl (q_move (v := .int _ _) rfl) ?_
      refine EPL.p rfl rfl (q_add rfl rfl) ?_
      refine EPL.p rfl rfl (q_assign (v := .int _ _) rfl) ?_
      refine EPL.nil ?_
      refine RoundQ.mkP (m - 1) (j2 + 1) [] (by omega) ⟨by omega, rfl⟩ (by repeat first | refine Off.upd rfl ?_ | exact Off.mix | refine Off.upds rfl ?_ | refine Off.mixs rfl ?_ | exact Off.refl) ⟨congrArg (Value.int .i64) hq, congrArg (fun l => str l) hdr, congrArg (Value.int .i64) (wrap_i64_in (by omega)), trivial⟩
    ·
      have c2 := of_decide_eq_false c2
      obtain rfl : j2 = 8 := by omega
      refine EL.exit ?_
      refine EL.go ?_
      refine EL.seq ?_
      refine EL.region (.p 0 (.p 1 (.p 2 (.p 3 (.nil))))) (by kernel_rfl) ?_
      refine EPL.p rfl rfl (q_move (v := .string _) rfl) ?_
      refine EPL.p rfl rfl (q_move (v := .string _) rfl) ?_
      refine EPL.p rfl rfl (q_strcat rfl rfl (by first | (simp; omega) | omega)) ?_
      refine EPL.p rfl rfl (q_assign (v := .string _) rfl) ?_
      refine EPL.nil ?_
      refine EL.go ?_
      refine EL.ret ?_
      exact end_ret (fun _ => rfl) (fun _ => ⟨congrArg (fun l => str l) (by rw [padB_eq, ← List.append_assoc]; simp), rfl⟩)

end Go.Proofs.YtedkoebbijpnfaaGreatDoor

namespace Go.Proofs.YtedkoebbijpnfaaGreatDoor
open Go Go.Proofs.YtedkoebbijpnfaaGreatDoor.TH
set_option maxHeartbeats 1000000

theorem wArr_zero {l : List W32} (h : l.length < 64) : WArr (l ++ [0]) = WArr l := by
  have e : (l ++ [0]) ++ List.replicate (64 - (l ++ [0]).length) (0 : W32) = l ++ List.replicate (64 - l.length) 0 := by
    have e1 : 64 - l.length = (64 - (l ++ [0]).length) + 1 := by rw [List.length_append, List.length_singleton]; omega
    rw [e1, List.replicate_succ]; simp
  unfold WArr
  rw [e]
theorem wArr_put {l : List W32} {x y : W32} (_h : l.length < 64) : setL (((l ++ [x]) ++ List.replicate (64 - (l ++ [x]).length) 0).map wV).toArray l.length [wV y] = (((l ++ [y]) ++ List.replicate (64 - (l ++ [y]).length) 0).map wV).toArray := by
  apply Array.ext'
  rw [setL_toList (by simp)]
  have e : (((l ++ [x]) ++ List.replicate (64 - (l ++ [x]).length) 0).map wV) = l.map wV ++ (wV x :: (List.replicate (64 - (l ++ [x]).length) 0).map wV) := by simp
  have hA : (l.map wV).length = l.length := by simp
  simp only [List.length_singleton]
  rw [e]
  have t1 : (l.map wV ++ (wV x :: (List.replicate (64 - (l ++ [x]).length) 0).map wV)).take l.length = l.map wV := by
    have := List.take_left (l₁ := l.map wV) (l₂ := wV x :: (List.replicate (64 - (l ++ [x]).length) 0).map wV)
    rwa [hA] at this
  have t2 : (l.map wV ++ (wV x :: (List.replicate (64 - (l ++ [x]).length) 0).map wV)).drop (l.length + 1) = (List.replicate (64 - (l ++ [x]).length) 0).map wV := by
    rw [List.drop_append, hA, List.drop_of_length_le (by omega), Nat.add_sub_cancel_left]
    rfl
  rw [t1, t2]
  simp
/-- A word, from its bytes one by one. -/
def partW (l : List UInt8) : Nat → W32
  | 0 => 0
  | j + 1 => partW l j * 256 + BitVec.ofNat 32 ((l.getD j 0).toNat)
theorem partW_4 (x0 x1 x2 x3 : UInt8) : partW [x0, x1, x2, x3] 4 = beW [x0, x1, x2, x3] := by
  apply BitVec.eq_of_toNat_eq
  have h0 := x0.toNat_lt; have h1 := x1.toNat_lt; have h2 := x2.toNat_lt; have h3 := x3.toNat_lt
  have e256 : (256 : W32).toNat = 256 := rfl
  have e0 : (0 : W32).toNat = 0 := rfl
  simp only [partW, beW, BitVec.toNat_add, BitVec.toNat_mul, BitVec.toNat_ofNat, List.getD_cons_zero, List.getD_cons_succ, e256, e0]
  omega
theorem part_step (l : List UInt8) (j : Nat) {x : UInt8} (h : l[j]? = some x) : IntKind.u32.wrap (IntKind.u32.wrap (((partW l j).toNat : Int) * 256) + IntKind.u32.wrap (x.toNat : Int)) = ((partW l (j + 1)).toNat : Int) := by
  have hx : l.getD j 0 = x := by rw [List.getD_eq_getElem?_getD, h]; rfl
  have hb := x.toNat_lt
  show _ = ((partW l j * 256 + BitVec.ofNat 32 ((l.getD j 0).toNat)).toNat : Int)
  have e256 : (256 : W32).toNat = 256 := rfl
  rw [hx, wrap_u32, wrap_u32, wrap_u32, BitVec.toNat_add, BitVec.toNat_mul, BitVec.toNat_ofNat, e256]
  omega
theorem flat_at {l : List W32} {a : Nat} {w : W32} (h : l[a]? = some w) (b : Nat) (hb : b < 4) : (l.flatMap wBytes)[4 * a + b]? = (wBytes w)[b]? := by
  induction l generalizing a with
  | nil => simp at h
  | cons y l ih =>
    rw [List.flatMap_cons]
    cases a with
    | zero =>
      simp at h; subst h
      rw [List.getElem?_append_left (by simp [wBytes]; omega)]
      simp
    | succ a =>
      have h' : l[a]? = some w := by simpa using h
      rw [List.getElem?_append_right (by simp [wBytes]; omega)]
      have e : 4 * (a + 1) + b - (wBytes y).length = 4 * a + b := by simp [wBytes]; omega
      rw [e]; exact ih h'
theorem out_byte (w : W32) (i : Nat) : ∃ x, (wBytes w)[i % 4]? = some x ∧ IntKind.u8.wrap ((bShr .u32 (w.toNat : Int) (IntKind.u64.wrap (IntKind.i64.wrap (24 - IntKind.i64.wrap (8 * ((i : Nat) : Int).tmod 4))))).tmod 256) = (x.toNat : Int) := by
  have ht : ((i : Nat) : Int).tmod 4 = ((i % 4 : Nat) : Int) := by rw [Int.tmod_eq_emod_of_nonneg (Int.natCast_nonneg _)]; omega
  have hr : i % 4 < 4 := Nat.mod_lt _ (by decide)
  rw [ht]
  generalize i % 4 = r at hr
  have hw := w.isLt
  rw [wrap_i64_in (n := 8 * ((r : Nat) : Int)) (by omega), wrap_i64_in (n := 24 - 8 * ((r : Nat) : Int)) (by omega), wrap_u64_in (by omega)]
  have e : (24 - 8 * ((r : Nat) : Int)) = ((24 - 8 * r : Nat) : Int) := by omega
  rw [e, w_shr w _ (by omega), BitVec.toNat_ushiftRight, Nat.shiftRight_eq_div_pow, Int.tmod_eq_emod_of_nonneg (Int.natCast_nonneg _)]
  have key : ∀ q : Nat, IntKind.u8.wrap (((q : Nat) : Int) % 256) = ((UInt8.ofNat (q % 256)).toNat : Int) := by
    intro q
    rw [IntKind.wrap_u8, UInt8.toNat_ofNat']
    omega
  rw [key]
  match r, hr with
  | 0, _ => exact ⟨_, rfl, rfl⟩
  | 1, _ => exact ⟨_, rfl, rfl⟩
  | 2, _ => exact ⟨_, rfl, rfl⟩
  | 3, _ => exact ⟨_, rfl, by simp⟩

end Go.Proofs.YtedkoebbijpnfaaGreatDoor

namespace Go.Proofs.YtedkoebbijpnfaaGreatDoor
open Go Go.Proofs.YtedkoebbijpnfaaGreatDoor.TH
set_option maxHeartbeats 1000000
theorem ROf_s2 (b6 q : Nat) (S blk : List UInt8) (hS : S.length ≤ 2000000000000) (hq : 64 * q + 64 ≤ S.length) (hblk : blk = (S.drop (64 * q)).take 64) (hbl : blk.length = 64) (R : List Hp) (e : Env) (Q : Exit → Env → Hp → Prop) : EL Tryz.prog Tryz.f57.ntmps (bodyAt Tryz.f57 [1, 1, 1, 0, 1, 0, 0, 1, 0, 0, 1, 0, 1]) (thenQ (SegQ [7, 8, 28, 29, 30, 31, 32, 33, 34, 35, 36, 37, 38, 39, 40, 41, 42, 43, 44, 45, 46, 47, 48, 49, 50, 51] (fun _ : Unit => []) (fun _ Hs => Hs = sg b6 (WArr (wordsOf blk)) :: R) (upds e [(4, str S), (5, .int .i64 ((64 * q : Nat) : Int)), (6, .pointer (some ⟨b6, 0, none⟩)), (7, .int .i64 0)])) Q) (upds e [(4, str S), (5, .int .i64 ((64 * q : Nat) : Int)), (6, .pointer (some ⟨b6, 0, none⟩)), (7, .int .i64 0)]) (sg b6 (WArr []) :: R) := by
  refine EL.block ?_
  have hwl : (wordsOf blk).length = 16 := by simp [wordsOf]
  refine EL.loop [7, 8, 28, 29, 30, 31, 32, 33, 34, 35, 36, 37, 38, 39, 40, 41, 42, 43, 44, 45, 46, 47, 48, 49, 50, 51] (fun i : Nat => [(7, .int .i64 i)]) (fun m i Hs' => m + i = 16 ∧ Hs' = sg b6 (WArr ((wordsOf blk).take i)) :: R) 16 0 ⟨rfl, rfl⟩ ⟨rfl, trivial⟩ ?_
  rintro m i _ j ⟨hm, rfl⟩
  have hti : i ≤ 16 → ((wordsOf blk).take i).length = i := fun h => by rw [List.length_take, hwl]; omega
  refine EL.seq ?_
  refine EL.seq ?_
  refine EL.region (.p 0 (.p 1 (.nil))) (by kernel_rfl) ?_
  refine EPL.p rfl rfl (q_move (v := .int _ _) rfl) ?_
  refine EPL.p rfl rfl (q_lss rfl rfl) ?_
  refine EPL.nil ?_
  refine EL.go ?_
  refine EL.cond rfl (fun c5 => ?_) (fun c5 => ?_)
  ·
    have c5 := of_decide_eq_true c5
    have hi : i < 16 := by omega
    obtain ⟨x0, h0⟩ : ∃ x, blk[4 * i]? = some x := ⟨_, List.getElem?_eq_getElem (by omega)⟩
    obtain ⟨x1, h1⟩ : ∃ x, blk[4 * i + 1]? = some x := ⟨_, List.getElem?_eq_getElem (by omega)⟩
    obtain ⟨x2, h2⟩ : ∃ x, blk[4 * i + 2]? = some x := ⟨_, List.getElem?_eq_getElem (by omega)⟩
    obtain ⟨x3, h3⟩ : ∃ x, blk[4 * i + 3]? = some x := ⟨_, List.getElem?_eq_getElem (by omega)⟩
    have hlt : ((wordsOf blk).take i).length < 64 := by rw [hti (by omega)]; omega
    have hwt := words_take hi h0 h1 h2 h3
    rw [← wArr_zero hlt]
    refine EL.skip ?_
    refine EL.go ?_
    refine EL.seq ?_
    refine EL.block ?_
    refine EL.seq ?_
    refine EL.region (.p 0 (.nil)) (by kernel_rfl) ?_
    refine EPL.p rfl rfl (q_assign (v := .int _ _) rfl) ?_
    refine EPL.nil ?_
    refine EL.go ?_
    refine EL.block ?_
    refine EL.loop [8, 32, 33, 34, 35, 36, 37, 38, 39, 40, 41, 42, 43, 44, 45, 46, 47, 48, 49, 50, 51] (fun k : Nat => [(8, .int .i64 k)]) (fun m k Hs' => m + k = 4 ∧ Hs' = sg b6 (WArr ((wordsOf blk).take i ++ [partW [x0, x1, x2, x3] k])) :: R) 4 0 ⟨rfl, rfl⟩ ⟨rfl, trivial⟩ ?_
    rintro m2 k _ j2 ⟨hm2, rfl⟩
    refine EL.seq ?_
    refine EL.seq ?_
    refine EL.region (.p 0 (.p 1 (.nil))) (by kernel_rfl) ?_
    refine EPL.p rfl rfl (q_move (v := .int _ _) rfl) ?_
    refine EPL.p rfl rfl (q_lss rfl rfl) ?_
    refine EPL.nil ?_
    refine EL.go ?_
    refine EL.cond rfl (fun c6 => ?_) (fun c6 => ?_)
    ·
      have c6 := of_decide_eq_true c6
      have hk : k < 4 := by omega
      obtain ⟨x, hx, hbx⟩ : ∃ x, [x0, x1, x2, x3][k]? = some x ∧ blk[4 * i + k]? = some x := by
        match k, hk with
        | 0, _ => exact ⟨x0, rfl, h0⟩
        | 1, _ => exact ⟨x1, rfl, h1⟩
        | 2, _ => exact ⟨x2, rfl, h2⟩
        | 3, _ => exact ⟨x3, rfl, h3⟩
      have hps := part_step [x0, x1, x2, x3] k hx
      have hix : IntKind.i64.wrap (IntKind.i64.wrap (((64 * q : Nat) : Int) + IntKind.i64.wrap (4 * (i : Int))) + (k : Int)) = ((64 * q + (4 * i + k) : Nat) : Int) := by
        rw [wrap_i64_in (n := 4 * (i : Int)) (by omega), wrap_i64_in (n := ((64 * q : Nat) : Int) + 4 * (i : Int)) (by omega), wrap_i64_in (by omega)]; omega
      have hSx : S[(IntKind.i64.wrap (IntKind.i64.wrap (((64 * q : Nat) : Int) + IntKind.i64.wrap (4 * (i : Int))) + (k : Int))).toNat]? = some x := by
        rw [hix, Int.toNat_natCast]
        rw [hblk, List.getElem?_take_of_lt (by omega), List.getElem?_drop] at hbx
        exact hbx
      have hgw : (((wordsOf blk).take i ++ [partW [x0, x1, x2, x3] k] ++ List.replicate (64 - ((wordsOf blk).take i ++ [partW [x0, x1, x2, x3] k]).length) 0).map wV).toArray[0 + (i : Int).toNat * 1]? = some (wV (partW [x0, x1, x2, x3] k)) := by
        rw [show 0 + (i : Int).toNat * 1 = i from by omega]
        exact wArr_get (by rw [List.getElem?_append_right (by rw [hti (by omega)]; omega), hti (by omega), Nat.sub_self]; rfl)
      have hws := wArr_size (l := (wordsOf blk).take i ++ [partW [x0, x1, x2, x3] k]) (by rw [List.length_append, hti (by omega)]; simp; omega)
      refine EL.skip ?_
      refine EL.go ?_
      refine EL.seq ?_
      refine EL.block ?_
      refine EL.draw (.p 0 (.p 1 (.p 2 (.l 3 (.p 4 (.p 5 (.p 6 (.p 7 (.p 8 (.p 9 (.p 10 (.p 11 (.p 12 (.p 13 (.p 14 (.p 15 (.x 16 [] (.nil)))))))))))))))))) [16] [3] fm (by kernel_rfl) ?_
      refine EPL.p rfl rfl (q_move (v := .int _ _) rfl) ?_
      refine EPL.p rfl rfl (q_move (v := .int _ _) rfl) ?_
      refine EPL.p rfl rfl (q_idxArr Tryz.underlying103 sz101 rfl rfl (by omega) (by omega)) ?_
      refine EPL.ld1 (v := wV (partW [x0, x1, x2, x3] k)) rfl rfl sc101 rfl hgw ?_
      refine EPL.p rfl rfl (q_mul rfl rfl) ?_
      refine EPL.p rfl rfl (q_move (v := .string _) rfl) ?_
      refine EPL.p rfl rfl (q_move (v := .int _ _) rfl) ?_
      refine EPL.p rfl rfl (q_move (v := .int _ _) rfl) ?_
      refine EPL.p rfl rfl (q_mul rfl rfl) ?_
      refine EPL.p rfl rfl (q_add rfl rfl) ?_
      refine EPL.p rfl rfl (q_move (v := .int _ _) rfl) ?_
      refine EPL.p rfl rfl (q_add rfl rfl) ?_
      refine EPL.p rfl rfl (q_indexStr Tryz.underlying9 rfl rfl (by omega) (by assumption)) ?_
      refine EPL.p rfl rfl (q_conv Tryz.underlying5 Tryz.underlying101 rfl) ?_
      refine EPL.p rfl rfl (q_add rfl rfl) ?_
      refine EPL.p rfl rfl (q_idxArr Tryz.underlying103 sz101 rfl rfl (by omega) (by omega)) ?_
      refine EPL.st (v := wV (partW [x0, x1, x2, x3] (k + 1))) (c' := (((wordsOf blk).take i ++ [partW [x0, x1, x2, x3] (k + 1)] ++ List.replicate (64 - ((wordsOf blk).take i ++ [partW [x0, x1, x2, x3] (k + 1)]).length) 0).map wV).toArray) rfl rfl sz101 rfl (by exact congrArg (Value.int .u32) hps) rfl (oneV rfl) (by rw [hws]; omega) (by show setL _ (0 + (i : Int).toNat * 1) [wV _] = _; rw [show 0 + (i : Int).toNat * 1 = ((wordsOf blk).take i).length from by rw [hti (by omega)]; omega]; exact wArr_put hlt) HeldL.nil ?_
      refine EPL.nil ?_
      refine EL.go ?_
      refine EL.region (.p 0 (.p 1 (.p 2 (.nil)))) (by kernel_rfl) ?_
      refine EPL.p rfl rfl (q_move (v := .int _ _) rfl) ?_
      refine EPL.p rfl rfl (q_add rfl rfl) ?_
      refine EPL.p rfl rfl (q_assign (v := .int _ _) rfl) ?_
      refine EPL.nil ?_
      refine RoundQ.mk (m2 - 1) (k + 1) (by omega) ⟨by omega, rfl⟩ (by repeat first | refine Off.upd rfl ?_ | exact Off.mix | refine Off.upds rfl ?_ | refine Off.mixs rfl ?_ | exact Off.refl) ⟨congrArg (Value.int .i64) (wrap_i64_in (by omega)), trivial⟩
    ·
      have c6 := of_decide_eq_false c6
      obtain rfl : k = 4 := by omega
      rw [partW_4, ← hwt]
      refine EL.exit ?_
      refine EL.go ?_
      refine EL.region (.p 0 (.p 1 (.p 2 (.nil)))) (by kernel_rfl) ?_
      refine EPL.p rfl rfl (q_move (v := .int _ _) rfl) ?_
      refine EPL.p rfl rfl (q_add rfl rfl) ?_
      refine EPL.p rfl rfl (q_assign (v := .int _ _) rfl) ?_
      refine EPL.nil ?_
      refine RoundQ.mk (m - 1) (i + 1) (by omega) ⟨by omega, rfl⟩ (by repeat first | refine Off.upd rfl ?_ | exact Off.mix | refine Off.upds rfl ?_ | refine Off.mixs rfl ?_ | exact Off.refl) ⟨congrArg (Value.int .i64) (wrap_i64_in (by omega)), trivial⟩
  ·
    have c5 := of_decide_eq_false c5
    have hwt : (wordsOf blk).take i = wordsOf blk := List.take_of_length_le (by omega)
    rw [hwt]
    refine EL.exit ?_
    exact SegQ.mk () (by repeat first | refine Off.upd rfl ?_ | exact Off.mix | refine Off.upds rfl ?_ | refine Off.mixs rfl ?_ | exact Off.refl) rfl trivial


end Go.Proofs.YtedkoebbijpnfaaGreatDoor

namespace Go.Proofs.YtedkoebbijpnfaaGreatDoor
open Go Go.Proofs.YtedkoebbijpnfaaGreatDoor.TH
set_option maxHeartbeats 1000000
theorem ROf_s6 (b6 : Nat) (ws : List W32) (hwl : ws.length = 16) (R : List Hp) (e : Env) (Q : Exit → Env → Hp → Prop) : EL Tryz.prog Tryz.f57.ntmps (bodyAt Tryz.f57 [1, 1, 1, 0, 1, 0, 0, 1, 0, 0, 1, 1, 0, 1]) (thenQ (SegQ [9, 10, 11, 52, 53, 54, 55, 56, 57, 58, 59, 60, 61, 62, 63, 64, 65, 66, 67, 68, 69, 70, 71, 72, 73, 74, 75, 76, 77, 78, 79, 80, 81, 82, 83, 84, 85, 86, 87, 88, 89, 90, 91, 92, 93, 94, 95, 96, 97, 98, 99, 100, 101, 102, 103, 104] (fun _ : Unit => []) (fun _ Hs => Hs = sg b6 (WArr (sched ws 48)) :: R) (upds e [(6, .pointer (some ⟨b6, 0, none⟩)), (9, .int .i64 16)])) Q) (upds e [(6, .pointer (some ⟨b6, 0, none⟩)), (9, .int .i64 16)]) (sg b6 (WArr ws) :: R) := by
  refine EL.block ?_
  refine EL.loop [9, 10, 11, 52, 53, 54, 55, 56, 57, 58, 59, 60, 61, 62, 63, 64, 65, 66, 67, 68, 69, 70, 71, 72, 73, 74, 75, 76, 77, 78, 79, 80, 81, 82, 83, 84, 85, 86, 87, 88, 89, 90, 91, 92, 93, 94, 95, 96, 97, 98, 99, 100, 101, 102, 103, 104] (fun k : Nat => [(9, .int .i64 ((16 + k : Nat) : Int))]) (fun m k Hs' => m + k = 48 ∧ Hs' = sg b6 (WArr (sched ws k)) :: R) 48 0 ⟨rfl, rfl⟩ ⟨rfl, trivial⟩ ?_
  rintro m k _ j ⟨hm, rfl⟩
  have hsl := sched_len ws k
  refine EL.seq ?_
  refine EL.seq ?_
  refine EL.region (.p 0 (.p 1 (.nil))) (by kernel_rfl) ?_
  refine EPL.p rfl rfl (q_move (v := .int _ _) rfl) ?_
  refine EPL.p rfl rfl (q_lss rfl rfl) ?_
  refine EPL.nil ?_
  refine EL.go ?_
  refine EL.cond rfl (fun c7 => ?_) (fun c7 => ?_)
  ·
    have c7 := of_decide_eq_true c7
    have hk : k < 48 := by omega
    obtain ⟨a16, h16⟩ : ∃ x, (sched ws k)[k]? = some x := ⟨_, List.getElem?_eq_getElem (by omega)⟩
    obtain ⟨a15, h15⟩ : ∃ x, (sched ws k)[k + 1]? = some x := ⟨_, List.getElem?_eq_getElem (by omega)⟩
    obtain ⟨a7, h7⟩ : ∃ x, (sched ws k)[k + 9]? = some x := ⟨_, List.getElem?_eq_getElem (by omega)⟩
    obtain ⟨a2, h2⟩ : ∃ x, (sched ws k)[k + 14]? = some x := ⟨_, List.getElem?_eq_getElem (by omega)⟩
    have w15 : IntKind.i64.wrap (((16 + k : Nat) : Int) - 15) = ((k + 1 : Nat) : Int) := by rw [wrap_i64_in (by omega)]; omega
    have w2 : IntKind.i64.wrap (((16 + k : Nat) : Int) - 2) = ((k + 14 : Nat) : Int) := by rw [wrap_i64_in (by omega)]; omega
    have w16 : IntKind.i64.wrap (((16 + k : Nat) : Int) - 16) = (k : Int) := by rw [wrap_i64_in (by omega)]; omega
    have w7 : IntKind.i64.wrap (((16 + k : Nat) : Int) - 7) = ((k + 9 : Nat) : Int) := by rw [wrap_i64_in (by omega)]; omega
    have g15 : ((sched ws k ++ List.replicate (64 - (sched ws k).length) 0).map wV).toArray[0 + (IntKind.i64.wrap (((16 + k : Nat) : Int) - 15)).toNat * 1]? = some (wV a15) := by rw [w15, show ∀ z : Nat, 0 + ((z : Nat) : Int).toNat * 1 = z from fun z => by omega]; exact wArr_get h15
    have g2 : ((sched ws k ++ List.replicate (64 - (sched ws k).length) 0).map wV).toArray[0 + (IntKind.i64.wrap (((16 + k : Nat) : Int) - 2)).toNat * 1]? = some (wV a2) := by rw [w2, show ∀ z : Nat, 0 + ((z : Nat) : Int).toNat * 1 = z from fun z => by omega]; exact wArr_get h2
    have g16 : ((sched ws k ++ List.replicate (64 - (sched ws k).length) 0).map wV).toArray[0 + (IntKind.i64.wrap (((16 + k : Nat) : Int) - 16)).toNat * 1]? = some (wV a16) := by rw [w16, show ∀ z : Nat, 0 + ((z : Nat) : Int).toNat * 1 = z from fun z => by omega]; exact wArr_get h16
    have g7 : ((sched ws k ++ List.replicate (64 - (sched ws k).length) 0).map wV).toArray[0 + (IntKind.i64.wrap (((16 + k : Nat) : Int) - 7)).toNat * 1]? = some (wV a7) := by rw [w7, show ∀ z : Nat, 0 + ((z : Nat) : Int).toNat * 1 = z from fun z => by omega]; exact wArr_get h7
    have hsz := wArr_size (l := sched ws k) (by omega)
    have q8 := quo_w a15 3 (by decide)
    have q1024 := quo_w a2 10 (by decide)
    rw [show ((2 ^ 3 : Nat) : Int) = 8 from rfl] at q8
    rw [show ((2 ^ 10 : Nat) : Int) = 1024 from rfl] at q1024
    have hv2 : IntKind.u32.wrap (IntKind.u32.wrap (IntKind.u32.wrap ((a16.toNat : Int) + bXor .u32 (bXor .u32 ((rotr a15 7).toNat : Int) ((rotr a15 18).toNat : Int)) (IntKind.u32.wrap ((a15.toNat : Int).tdiv 8))) + a7.toNat) + bXor .u32 (bXor .u32 ((rotr a2 17).toNat : Int) ((rotr a2 19).toNat : Int)) (IntKind.u32.wrap ((a2.toNat : Int).tdiv 1024))) = ((a16 + ssig0 a15 + a7 + ssig1 a2).toNat : Int) := by
      rw [q8, q1024, w_xor, w_xor, w_xor, w_xor, w_add, w_add, w_add]; rfl
    have hnx := sched_next ws hwl h16 h15 h7 h2
    refine EL.skip ?_
    refine EL.go ?_
    refine EL.seq ?_
    refine EL.block ?_
    refine EL.seq ?_
    refine EL.draw (.p 0 (.p 1 (.p 2 (.l 3 (.p 5 (.p 6 (.p 7 (.l 8 (.p 11 (.p 12 (.p 13 (.l 14 (.p 15 (.x 4 [8, 14] (.x 9 [14] (.p 10 (.p 16 (.p 17 (.nil))))))))))))))))))) [4, 9] [3, 8, 14] fm (by kernel_rfl) ?_
    refine EPL.p rfl rfl (q_move (v := .int _ _) rfl) ?_
    refine EPL.p rfl rfl (q_sub rfl rfl) ?_
    refine EPL.p rfl rfl (q_idxArr Tryz.underlying103 sz101 rfl rfl (by omega) (by omega)) ?_
    refine EPL.ld1 (v := wV a15) rfl rfl sc101 rfl g15 ?_
    refine EPL.p rfl rfl (q_move (v := .int _ _) rfl) ?_
    refine EPL.p rfl rfl (q_sub rfl rfl) ?_
    refine EPL.p rfl rfl (q_idxArr Tryz.underlying103 sz101 rfl rfl (by omega) (by omega)) ?_
    refine EPL.ld1 (v := wV a15) rfl rfl sc101 rfl g15 ?_
    refine EPL.p rfl rfl (q_move (v := .int _ _) rfl) ?_
    refine EPL.p rfl rfl (q_sub rfl rfl) ?_
    refine EPL.p rfl rfl (q_idxArr Tryz.underlying103 sz101 rfl rfl (by omega) (by omega)) ?_
    refine EPL.ld1 (v := wV a15) rfl rfl sc101 rfl g15 ?_
    refine EPL.p rfl rfl (q_quo rfl rfl (by first | decide | omega)) ?_
    refine EPL.cl rfl rfl Tryz.func68 rfl rfl (Right_spec a15 7 (by decide) (by decide)) rfl ?_
    rintro _ _ ⟨rfl, rfl⟩
    refine ⟨(HeldL.ld1 rfl rfl sc101 rfl (by first | exact g16 | exact g7 | exact g15 | exact g2 | exact gw | rfl) (HeldL.ld1 rfl rfl sc101 rfl (by first | exact g16 | exact g7 | exact g15 | exact g2 | exact gw | rfl) HeldL.nil)), ?_⟩
    refine EPL.cl rfl rfl Tryz.func68 rfl rfl (Right_spec a15 18 (by decide) (by decide)) rfl ?_
    rintro _ _ ⟨rfl, rfl⟩
    refine ⟨(HeldL.ld1 rfl rfl sc101 rfl (by first | exact g16 | exact g7 | exact g15 | exact g2 | exact gw | rfl) HeldL.nil), ?_⟩
    refine EPL.p rfl rfl (q_xor rfl rfl) ?_
    refine EPL.p rfl rfl (q_xor rfl rfl) ?_
    refine EPL.p rfl rfl (q_assign (v := .int _ _) rfl) ?_
    refine EPL.nil ?_
    refine EL.go ?_
    refine EL.seq ?_
    refine EL.draw (.p 0 (.p 1 (.p 2 (.l 3 (.p 5 (.p 6 (.p 7 (.l 8 (.p 11 (.p 12 (.p 13 (.l 14 (.p 15 (.x 4 [8, 14] (.x 9 [14] (.p 10 (.p 16 (.p 17 (.nil))))))))))))))))))) [4, 9] [3, 8, 14] fm (by kernel_rfl) ?_
    refine EPL.p rfl rfl (q_move (v := .int _ _) rfl) ?_
    refine EPL.p rfl rfl (q_sub rfl rfl) ?_
    refine EPL.p rfl rfl (q_idxArr Tryz.underlying103 sz101 rfl rfl (by omega) (by omega)) ?_
    refine EPL.ld1 (v := wV a2) rfl rfl sc101 rfl g2 ?_
    refine EPL.p rfl rfl (q_move (v := .int _ _) rfl) ?_
    refine EPL.p rfl rfl (q_sub rfl rfl) ?_
    refine EPL.p rfl rfl (q_idxArr Tryz.underlying103 sz101 rfl rfl (by omega) (by omega)) ?_
    refine EPL.ld1 (v := wV a2) rfl rfl sc101 rfl g2 ?_
    refine EPL.p rfl rfl (q_move (v := .int _ _) rfl) ?_
    refine EPL.p rfl rfl (q_sub rfl rfl) ?_
    refine EPL.p rfl rfl (q_idxArr Tryz.underlying103 sz101 rfl rfl (by omega) (by omega)) ?_
    refine EPL.ld1 (v := wV a2) rfl rfl sc101 rfl g2 ?_
    refine EPL.p rfl rfl (q_quo rfl rfl (by first | decide | omega)) ?_
    refine EPL.cl rfl rfl Tryz.func68 rfl rfl (Right_spec a2 17 (by decide) (by decide)) rfl ?_
    rintro _ _ ⟨rfl, rfl⟩
    refine ⟨(HeldL.ld1 rfl rfl sc101 rfl (by first | exact g16 | exact g7 | exact g15 | exact g2 | exact gw | rfl) (HeldL.ld1 rfl rfl sc101 rfl (by first | exact g16 | exact g7 | exact g15 | exact g2 | exact gw | rfl) HeldL.nil)), ?_⟩
    refine EPL.cl rfl rfl Tryz.func68 rfl rfl (Right_spec a2 19 (by decide) (by decide)) rfl ?_
    rintro _ _ ⟨rfl, rfl⟩
    refine ⟨(HeldL.ld1 rfl rfl sc101 rfl (by first | exact g16 | exact g7 | exact g15 | exact g2 | exact gw | rfl) HeldL.nil), ?_⟩
    refine EPL.p rfl rfl (q_xor rfl rfl) ?_
    refine EPL.p rfl rfl (q_xor rfl rfl) ?_
    refine EPL.p rfl rfl (q_assign (v := .int _ _) rfl) ?_
    refine EPL.nil ?_
    refine EL.go ?_
    refine EL.draw (.p 0 (.p 1 (.p 2 (.p 3 (.l 4 (.p 5 (.p 6 (.p 7 (.p 8 (.p 9 (.l 10 (.p 11 (.p 12 (.p 13 (.p 14 (.x 15 [] (.nil))))))))))))))))) [15] [4, 10] fm (by kernel_rfl) ?_
    refine EPL.p rfl rfl (q_move (v := .int _ _) rfl) ?_
    refine EPL.p rfl rfl (q_move (v := .int _ _) rfl) ?_
    refine EPL.p rfl rfl (q_sub rfl rfl) ?_
    refine EPL.p rfl rfl (q_idxArr Tryz.underlying103 sz101 rfl rfl (by omega) (by omega)) ?_
    refine EPL.ld1 (v := wV a16) rfl rfl sc101 rfl g16 ?_
    refine EPL.p rfl rfl (q_move (v := .int _ _) rfl) ?_
    refine EPL.p rfl rfl (q_add rfl rfl) ?_
    refine EPL.p rfl rfl (q_move (v := .int _ _) rfl) ?_
    refine EPL.p rfl rfl (q_sub rfl rfl) ?_
    refine EPL.p rfl rfl (q_idxArr Tryz.underlying103 sz101 rfl rfl (by omega) (by omega)) ?_
    refine EPL.ld1 (v := wV a7) rfl rfl sc101 rfl g7 ?_
    refine EPL.p rfl rfl (q_add rfl rfl) ?_
    refine EPL.p rfl rfl (q_move (v := .int _ _) rfl) ?_
    refine EPL.p rfl rfl (q_add rfl rfl) ?_
    refine EPL.p rfl rfl (q_idxArr Tryz.underlying103 sz101 rfl rfl (by omega) (by omega)) ?_
    refine EPL.st (v := wV (a16 + ssig0 a15 + a7 + ssig1 a2)) (c' := (((sched ws (k + 1)) ++ List.replicate (64 - (sched ws (k + 1)).length) 0).map wV).toArray) rfl rfl sz101 rfl (by exact congrArg (Value.int .u32) hv2) rfl (oneV rfl) (by rw [hsz]; omega) (by show setL _ (0 + ((16 + k : Nat) : Int).toNat * 1) [wV _] = _; rw [show 0 + ((16 + k : Nat) : Int).toNat * 1 = (sched ws k).length from by rw [hsl, hwl]; omega, hnx]; exact wArr_set (by rw [hsl, hwl]; omega)) HeldL.nil ?_
    refine EPL.nil ?_
    refine EL.go ?_
    refine EL.region (.p 0 (.p 1 (.p 2 (.nil)))) (by kernel_rfl) ?_
    refine EPL.p rfl rfl (q_move (v := .int _ _) rfl) ?_
    refine EPL.p rfl rfl (q_add rfl rfl) ?_
    refine EPL.p rfl rfl (q_assign (v := .int _ _) rfl) ?_
    refine EPL.nil ?_
    refine RoundQ.mk (m - 1) (k + 1) (by omega) ⟨by omega, rfl⟩ (by repeat first | refine Off.upd rfl ?_ | exact Off.mix | refine Off.upds rfl ?_ | refine Off.mixs rfl ?_ | exact Off.refl) ⟨congrArg (Value.int .i64) (by rw [wrap_i64_in (by omega)]; omega), trivial⟩
  ·
    have c7 := of_decide_eq_false c7
    obtain rfl : k = 48 := by omega
    refine EL.exit ?_
    exact SegQ.mk () (by repeat first | refine Off.upd rfl ?_ | exact Off.mix | refine Off.upds rfl ?_ | refine Off.mixs rfl ?_ | exact Off.refl) rfl trivial


end Go.Proofs.YtedkoebbijpnfaaGreatDoor

namespace Go.Proofs.YtedkoebbijpnfaaGreatDoor
open Go Go.Proofs.YtedkoebbijpnfaaGreatDoor.TH
set_option maxHeartbeats 1000000
theorem ROf_s8 (b6 b12 : Nat) (st : St) (Sch : List W32) (hSl : Sch.length = 64) (R : List Hp) (e : Env) (Q : Exit → Env → Hp → Prop) : EL Tryz.prog Tryz.f57.ntmps (bodyAt Tryz.f57 [1, 1, 1, 0, 1, 0, 0, 1, 0, 0, 1, 1, 1, 1, 0, 1]) (thenQ (SegQ [13, 14, 15, 106, 107, 108, 109, 110, 111, 112, 113, 114, 115, 116, 117, 118, 119, 120, 121, 122, 123, 124, 125, 126, 127, 128, 129, 130, 131, 132, 133, 134, 135, 136, 137, 138, 139, 140, 141, 142, 143, 144, 145, 146, 147, 148, 149, 150, 151, 152, 153, 154, 155, 156, 157, 158, 159, 160, 161, 162, 163, 164, 165, 166, 167, 168, 169, 170, 171, 172, 173, 174, 175, 176, 177, 178, 179, 180, 181, 182, 183, 184, 185, 186, 187, 188, 189, 190, 191, 192] (fun _ : Unit => []) (fun _ Hs => Hs = sg b12 (SArr (rounds kW Sch st 64)) :: sg b6 (WArr Sch) :: R) (upds e [(6, .pointer (some ⟨b6, 0, none⟩)), (12, .pointer (some ⟨b12, 0, none⟩)), (13, .int .i64 0)])) Q) (upds e [(6, .pointer (some ⟨b6, 0, none⟩)), (12, .pointer (some ⟨b12, 0, none⟩)), (13, .int .i64 0)]) (sg b12 (SArr st) :: sg b6 (WArr Sch) :: R) := by
  refine EL.block ?_
  refine EL.loop [13, 14, 15, 106, 107, 108, 109, 110, 111, 112, 113, 114, 115, 116, 117, 118, 119, 120, 121, 122, 123, 124, 125, 126, 127, 128, 129, 130, 131, 132, 133, 134, 135, 136, 137, 138, 139, 140, 141, 142, 143, 144, 145, 146, 147, 148, 149, 150, 151, 152, 153, 154, 155, 156, 157, 158, 159, 160, 161, 162, 163, 164, 165, 166, 167, 168, 169, 170, 171, 172, 173, 174, 175, 176, 177, 178, 179, 180, 181, 182, 183, 184, 185, 186, 187, 188, 189, 190, 191, 192] (fun i : Nat => [(13, .int .i64 i)]) (fun m i Hs' => m + i = 64 ∧ Hs' = sg b12 (SArr (rounds kW Sch st i)) :: sg b6 (WArr Sch) :: R) 64 0 ⟨rfl, rfl⟩ ⟨rfl, trivial⟩ ?_
  rintro m i _ j ⟨hm, rfl⟩
  refine EL.seq ?_
  refine EL.seq ?_
  refine EL.region (.p 0 (.p 1 (.nil))) (by kernel_rfl) ?_
  refine EPL.p rfl rfl (q_move (v := .int _ _) rfl) ?_
  refine EPL.p rfl rfl (q_lss rfl rfl) ?_
  refine EPL.nil ?_
  refine EL.go ?_
  refine EL.cond rfl (fun c9 => ?_) (fun c9 => ?_)
  ·
    have c9 := of_decide_eq_true c9
    have hi : i < 64 := by omega
    generalize hq : rounds kW Sch st i = q
    obtain ⟨kk, hkk⟩ : ∃ x, x = kW.getD i 0 := ⟨_, rfl⟩
    obtain ⟨ww, hww⟩ : ∃ x, Sch[i]? = some x := ⟨_, List.getElem?_eq_getElem (by omega)⟩
    have hnr : rounds kW Sch st (i + 1) = q.step (kW.getD i 0) ww := by
      show (rounds kW Sch st i).step (kW.getD i 0) (Sch.getD i 0) = _
      rw [hq, List.getD_eq_getElem?_getD (l := Sch), hww]; rfl
    have gw : ((Sch ++ List.replicate (64 - Sch.length) 0).map wV).toArray[0 + (i : Int).toNat * 1]? = some (wV ww) := by rw [show 0 + (i : Int).toNat * 1 = i from by omega]; exact wArr_get hww
    have hX : IntKind.u32.wrap (IntKind.u32.wrap (IntKind.u32.wrap (IntKind.u32.wrap ((q.h.toNat : Int) + bXor .u32 (bXor .u32 ((rotr q.e 6).toNat : Int) (rotr q.e 11).toNat) (rotr q.e 25).toNat) + bOr .u32 (bAnd .u32 q.e.toNat q.f.toNat) (bAnd .u32 (IntKind.u32.wrap (4294967295 - (q.e.toNat : Int))) q.g.toNat)) + (kW.getD i 0).toNat) + ww.toNat) = ((q.h + bsig1 q.e + chW q.e q.f q.g + kW.getD i 0 + ww).toNat : Int) := by
      rw [sub_w, w_and, w_and, w_or, w_xor, w_xor, w_add, w_add, w_add, w_add, ch_or]; rfl
    have hY : IntKind.u32.wrap (bXor .u32 (bXor .u32 ((rotr q.a 2).toNat : Int) (rotr q.a 13).toNat) (rotr q.a 22).toNat + bOr .u32 (bOr .u32 (bAnd .u32 q.a.toNat q.b.toNat) (bAnd .u32 q.a.toNat q.c.toNat)) (bAnd .u32 q.b.toNat q.c.toNat)) = ((bsig0 q.a + majW q.a q.b q.c).toNat : Int) := by
      rw [w_and, w_and, w_and, w_or, w_or, w_xor, w_xor, w_add, maj_or]; rfl
    refine EL.skip ?_
    refine EL.go ?_
    refine EL.seq ?_
    refine EL.block ?_
    refine EL.seq ?_
    refine EL.draw (.p 0 (.l 1 (.p 2 (.l 3 (.p 5 (.l 6 (.p 9 (.l 10 (.p 14 (.l 15 (.p 16 (.l 17 (.p 18 (.p 19 (.l 20 (.p 21 (.p 22 (.l 23 (.p 24 (.p 25 (.p 27 (.p 30 (.p 31 (.l 32 (.x 4 [1, 6, 10, 15, 17, 20, 23, 32] (.x 7 [1, 10, 15, 17, 20, 23, 32] (.p 8 (.x 11 [1, 15, 17, 20, 23, 32] (.p 12 (.p 13 (.p 26 (.x 28 [1, 15, 17, 20, 23, 32] (.p 29 (.p 33 (.p 34 (.nil)))))))))))))))))))))))))))))))))))) [4, 7, 11, 28] [1, 3, 6, 10, 15, 17, 20, 23, 32] fm (by kernel_rfl) ?_
    refine EPL.p rfl rfl (q_idxArr Tryz.underlying102 sz101 rfl rfl (by omega) (by omega)) ?_
    refine EPL.ld1 (v := wV q.h) rfl rfl sc101 rfl rfl ?_
    refine EPL.p rfl rfl (q_idxArr Tryz.underlying102 sz101 rfl rfl (by omega) (by omega)) ?_
    refine EPL.ld1 (v := wV q.e) rfl rfl sc101 rfl rfl ?_
    refine EPL.p rfl rfl (q_idxArr Tryz.underlying102 sz101 rfl rfl (by omega) (by omega)) ?_
    refine EPL.ld1 (v := wV q.e) rfl rfl sc101 rfl rfl ?_
    refine EPL.p rfl rfl (q_idxArr Tryz.underlying102 sz101 rfl rfl (by omega) (by omega)) ?_
    refine EPL.ld1 (v := wV q.e) rfl rfl sc101 rfl rfl ?_
    refine EPL.p rfl rfl (q_idxArr Tryz.underlying102 sz101 rfl rfl (by omega) (by omega)) ?_
    refine EPL.ld1 (v := wV q.e) rfl rfl sc101 rfl rfl ?_
    refine EPL.p rfl rfl (q_idxArr Tryz.underlying102 sz101 rfl rfl (by omega) (by omega)) ?_
    refine EPL.ld1 (v := wV q.f) rfl rfl sc101 rfl rfl ?_
    refine EPL.p rfl rfl (q_and rfl rfl) ?_
    refine EPL.p rfl rfl (q_idxArr Tryz.underlying102 sz101 rfl rfl (by omega) (by omega)) ?_
    refine EPL.ld1 (v := wV q.e) rfl rfl sc101 rfl rfl ?_
    refine EPL.p rfl rfl (q_sub rfl rfl) ?_
    refine EPL.p rfl rfl (q_idxArr Tryz.underlying102 sz101 rfl rfl (by omega) (by omega)) ?_
    refine EPL.ld1 (v := wV q.g) rfl rfl sc101 rfl rfl ?_
    refine EPL.p rfl rfl (q_and rfl rfl) ?_
    refine EPL.p rfl rfl (q_or rfl rfl) ?_
    refine EPL.p rfl rfl (q_move (v := .int _ _) rfl) ?_
    refine EPL.p rfl rfl (q_move (v := .int _ _) rfl) ?_
    refine EPL.p rfl rfl (q_idxArr Tryz.underlying103 sz101 rfl rfl (by omega) (by omega)) ?_
    refine EPL.ld1 (v := wV ww) rfl rfl sc101 rfl gw ?_
    refine EPL.cl rfl rfl Tryz.func68 rfl rfl (Right_spec q.e 6 (by decide) (by decide)) rfl ?_
    rintro _ _ ⟨rfl, rfl⟩
    refine ⟨(HeldL.ld1 rfl rfl sc101 rfl (by first | exact g16 | exact g7 | exact g15 | exact g2 | exact gw | rfl) (HeldL.ld1 rfl rfl sc101 rfl (by first | exact g16 | exact g7 | exact g15 | exact g2 | exact gw | rfl) (HeldL.ld1 rfl rfl sc101 rfl (by first | exact g16 | exact g7 | exact g15 | exact g2 | exact gw | rfl) (HeldL.ld1 rfl rfl sc101 rfl (by first | exact g16 | exact g7 | exact g15 | exact g2 | exact gw | rfl) (HeldL.ld1 rfl rfl sc101 rfl (by first | exact g16 | exact g7 | exact g15 | exact g2 | exact gw | rfl) (HeldL.ld1 rfl rfl sc101 rfl (by first | exact g16 | exact g7 | exact g15 | exact g2 | exact gw | rfl) (HeldL.ld1 rfl rfl sc101 rfl (by first | exact g16 | exact g7 | exact g15 | exact g2 | exact gw | rfl) (HeldL.ld1 rfl rfl sc101 rfl (by first | exact g16 | exact g7 | exact g15 | exact g2 | exact gw | rfl) HeldL.nil)))))))), ?_⟩
    refine EPL.cl rfl rfl Tryz.func68 rfl rfl (Right_spec q.e 11 (by decide) (by decide)) rfl ?_
    rintro _ _ ⟨rfl, rfl⟩
    refine ⟨(HeldL.ld1 rfl rfl sc101 rfl (by first | exact g16 | exact g7 | exact g15 | exact g2 | exact gw | rfl) (HeldL.ld1 rfl rfl sc101 rfl (by first | exact g16 | exact g7 | exact g15 | exact g2 | exact gw | rfl) (HeldL.ld1 rfl rfl sc101 rfl (by first | exact g16 | exact g7 | exact g15 | exact g2 | exact gw | rfl) (HeldL.ld1 rfl rfl sc101 rfl (by first | exact g16 | exact g7 | exact g15 | exact g2 | exact gw | rfl) (HeldL.ld1 rfl rfl sc101 rfl (by first | exact g16 | exact g7 | exact g15 | exact g2 | exact gw | rfl) (HeldL.ld1 rfl rfl sc101 rfl (by first | exact g16 | exact g7 | exact g15 | exact g2 | exact gw | rfl) (HeldL.ld1 rfl rfl sc101 rfl (by first | exact g16 | exact g7 | exact g15 | exact g2 | exact gw | rfl) HeldL.nil))))))), ?_⟩
    refine EPL.p rfl rfl (q_xor rfl rfl) ?_
    refine EPL.cl rfl rfl Tryz.func68 rfl rfl (Right_spec q.e 25 (by decide) (by decide)) rfl ?_
    rintro _ _ ⟨rfl, rfl⟩
    refine ⟨(HeldL.ld1 rfl rfl sc101 rfl (by first | exact g16 | exact g7 | exact g15 | exact g2 | exact gw | rfl) (HeldL.ld1 rfl rfl sc101 rfl (by first | exact g16 | exact g7 | exact g15 | exact g2 | exact gw | rfl) (HeldL.ld1 rfl rfl sc101 rfl (by first | exact g16 | exact g7 | exact g15 | exact g2 | exact gw | rfl) (HeldL.ld1 rfl rfl sc101 rfl (by first | exact g16 | exact g7 | exact g15 | exact g2 | exact gw | rfl) (HeldL.ld1 rfl rfl sc101 rfl (by first | exact g16 | exact g7 | exact g15 | exact g2 | exact gw | rfl) (HeldL.ld1 rfl rfl sc101 rfl (by first | exact g16 | exact g7 | exact g15 | exact g2 | exact gw | rfl) HeldL.nil)))))), ?_⟩
    refine EPL.p rfl rfl (q_xor rfl rfl) ?_
    refine EPL.p rfl rfl (q_add rfl rfl) ?_
    refine EPL.p rfl rfl (q_add rfl rfl) ?_
    refine EPL.cl rfl rfl Tryz.func69 rfl rfl (K_spec i (by omega)) rfl ?_
    rintro _ _ ⟨rfl, rfl⟩
    refine ⟨(HeldL.ld1 rfl rfl sc101 rfl (by first | exact g16 | exact g7 | exact g15 | exact g2 | exact gw | rfl) (HeldL.ld1 rfl rfl sc101 rfl (by first | exact g16 | exact g7 | exact g15 | exact g2 | exact gw | rfl) (HeldL.ld1 rfl rfl sc101 rfl (by first | exact g16 | exact g7 | exact g15 | exact g2 | exact gw | rfl) (HeldL.ld1 rfl rfl sc101 rfl (by first | exact g16 | exact g7 | exact g15 | exact g2 | exact gw | rfl) (HeldL.ld1 rfl rfl sc101 rfl (by first | exact g16 | exact g7 | exact g15 | exact g2 | exact gw | rfl) (HeldL.ld1 rfl rfl sc101 rfl (by first | exact g16 | exact g7 | exact g15 | exact g2 | exact gw | rfl) HeldL.nil)))))), ?_⟩
    refine EPL.p rfl rfl (q_add rfl rfl) ?_
    refine EPL.p rfl rfl (q_add rfl rfl) ?_
    refine EPL.p rfl rfl (q_assign (v := .int _ _) rfl) ?_
    refine EPL.nil ?_
    refine EL.go ?_
    refine EL.seq ?_
    refine EL.draw (.p 0 (.l 1 (.p 3 (.l 4 (.p 7 (.l 8 (.p 11 (.l 12 (.p 13 (.l 14 (.p 15 (.p 16 (.l 17 (.p 18 (.l 19 (.p 20 (.p 21 (.p 22 (.l 23 (.p 24 (.l 25 (.p 26 (.p 27 (.x 2 [4, 8, 12, 14, 17, 19, 23, 25] (.x 5 [8, 12, 14, 17, 19, 23, 25] (.p 6 (.x 9 [12, 14, 17, 19, 23, 25] (.p 10 (.p 28 (.p 29 (.nil))))))))))))))))))))))))))))))) [2, 5, 9] [1, 4, 8, 12, 14, 17, 19, 23, 25] fm (by kernel_rfl) ?_
    refine EPL.p rfl rfl (q_idxArr Tryz.underlying102 sz101 rfl rfl (by omega) (by omega)) ?_
    refine EPL.ld1 (v := wV q.a) rfl rfl sc101 rfl rfl ?_
    refine EPL.p rfl rfl (q_idxArr Tryz.underlying102 sz101 rfl rfl (by omega) (by omega)) ?_
    refine EPL.ld1 (v := wV q.a) rfl rfl sc101 rfl rfl ?_
    refine EPL.p rfl rfl (q_idxArr Tryz.underlying102 sz101 rfl rfl (by omega) (by omega)) ?_
    refine EPL.ld1 (v := wV q.a) rfl rfl sc101 rfl rfl ?_
    refine EPL.p rfl rfl (q_idxArr Tryz.underlying102 sz101 rfl rfl (by omega) (by omega)) ?_
    refine EPL.ld1 (v := wV q.a) rfl rfl sc101 rfl rfl ?_
    refine EPL.p rfl rfl (q_idxArr Tryz.underlying102 sz101 rfl rfl (by omega) (by omega)) ?_
    refine EPL.ld1 (v := wV q.b) rfl rfl sc101 rfl rfl ?_
    refine EPL.p rfl rfl (q_and rfl rfl) ?_
    refine EPL.p rfl rfl (q_idxArr Tryz.underlying102 sz101 rfl rfl (by omega) (by omega)) ?_
    refine EPL.ld1 (v := wV q.a) rfl rfl sc101 rfl rfl ?_
    refine EPL.p rfl rfl (q_idxArr Tryz.underlying102 sz101 rfl rfl (by omega) (by omega)) ?_
    refine EPL.ld1 (v := wV q.c) rfl rfl sc101 rfl rfl ?_
    refine EPL.p rfl rfl (q_and rfl rfl) ?_
    refine EPL.p rfl rfl (q_or rfl rfl) ?_
    refine EPL.p rfl rfl (q_idxArr Tryz.underlying102 sz101 rfl rfl (by omega) (by omega)) ?_
    refine EPL.ld1 (v := wV q.b) rfl rfl sc101 rfl rfl ?_
    refine EPL.p rfl rfl (q_idxArr Tryz.underlying102 sz101 rfl rfl (by omega) (by omega)) ?_
    refine EPL.ld1 (v := wV q.c) rfl rfl sc101 rfl rfl ?_
    refine EPL.p rfl rfl (q_and rfl rfl) ?_
    refine EPL.p rfl rfl (q_or rfl rfl) ?_
    refine EPL.cl rfl rfl Tryz.func68 rfl rfl (Right_spec q.a 2 (by decide) (by decide)) rfl ?_
    rintro _ _ ⟨rfl, rfl⟩
    refine ⟨(HeldL.ld1 rfl rfl sc101 rfl (by first | exact g16 | exact g7 | exact g15 | exact g2 | exact gw | rfl) (HeldL.ld1 rfl rfl sc101 rfl (by first | exact g16 | exact g7 | exact g15 | exact g2 | exact gw | rfl) (HeldL.ld1 rfl rfl sc101 rfl (by first | exact g16 | exact g7 | exact g15 | exact g2 | exact gw | rfl) (HeldL.ld1 rfl rfl sc101 rfl (by first | exact g16 | exact g7 | exact g15 | exact g2 | exact gw | rfl) (HeldL.ld1 rfl rfl sc101 rfl (by first | exact g16 | exact g7 | exact g15 | exact g2 | exact gw | rfl) (HeldL.ld1 rfl rfl sc101 rfl (by first | exact g16 | exact g7 | exact g15 | exact g2 | exact gw | rfl) (HeldL.ld1 rfl rfl sc101 rfl (by first | exact g16 | exact g7 | exact g15 | exact g2 | exact gw | rfl) (HeldL.ld1 rfl rfl sc101 rfl (by first | exact g16 | exact g7 | exact g15 | exact g2 | exact gw | rfl) HeldL.nil)))))))), ?_⟩
    refine EPL.cl rfl rfl Tryz.func68 rfl rfl (Right_spec q.a 13 (by decide) (by decide)) rfl ?_
    rintro _ _ ⟨rfl, rfl⟩
    refine ⟨(HeldL.ld1 rfl rfl sc101 rfl (by first | exact g16 | exact g7 | exact g15 | exact g2 | exact gw | rfl) (HeldL.ld1 rfl rfl sc101 rfl (by first | exact g16 | exact g7 | exact g15 | exact g2 | exact gw | rfl) (HeldL.ld1 rfl rfl sc101 rfl (by first | exact g16 | exact g7 | exact g15 | exact g2 | exact gw | rfl) (HeldL.ld1 rfl rfl sc101 rfl (by first | exact g16 | exact g7 | exact g15 | exact g2 | exact gw | rfl) (HeldL.ld1 rfl rfl sc101 rfl (by first | exact g16 | exact g7 | exact g15 | exact g2 | exact gw | rfl) (HeldL.ld1 rfl rfl sc101 rfl (by first | exact g16 | exact g7 | exact g15 | exact g2 | exact gw | rfl) (HeldL.ld1 rfl rfl sc101 rfl (by first | exact g16 | exact g7 | exact g15 | exact g2 | exact gw | rfl) HeldL.nil))))))), ?_⟩
    refine EPL.p rfl rfl (q_xor rfl rfl) ?_
    refine EPL.cl rfl rfl Tryz.func68 rfl rfl (Right_spec q.a 22 (by decide) (by decide)) rfl ?_
    rintro _ _ ⟨rfl, rfl⟩
    refine ⟨(HeldL.ld1 rfl rfl sc101 rfl (by first | exact g16 | exact g7 | exact g15 | exact g2 | exact gw | rfl) (HeldL.ld1 rfl rfl sc101 rfl (by first | exact g16 | exact g7 | exact g15 | exact g2 | exact gw | rfl) (HeldL.ld1 rfl rfl sc101 rfl (by first | exact g16 | exact g7 | exact g15 | exact g2 | exact gw | rfl) (HeldL.ld1 rfl rfl sc101 rfl (by first | exact g16 | exact g7 | exact g15 | exact g2 | exact gw | rfl) (HeldL.ld1 rfl rfl sc101 rfl (by first | exact g16 | exact g7 | exact g15 | exact g2 | exact gw | rfl) (HeldL.ld1 rfl rfl sc101 rfl (by first | exact g16 | exact g7 | exact g15 | exact g2 | exact gw | rfl) HeldL.nil)))))), ?_⟩
    refine EPL.p rfl rfl (q_xor rfl rfl) ?_
    refine EPL.p rfl rfl (q_add rfl rfl) ?_
    refine EPL.p rfl rfl (q_assign (v := .int _ _) rfl) ?_
    refine EPL.nil ?_
    refine EL.go ?_
    refine EL.region (.p 0 (.p 1 (.p 2 (.p 3 (.l 4 (.p 5 (.l 6 (.p 7 (.l 8 (.p 9 (.l 10 (.p 11 (.p 12 (.p 13 (.l 14 (.p 15 (.l 16 (.p 17 (.l 18 (.p 19 (.x 20 [] (.nil)))))))))))))))))))))) (by kernel_rfl) ?_
    refine EPL.p rfl rfl (q_move (v := .int _ _) rfl) ?_
    refine EPL.p rfl rfl (q_move (v := .int _ _) rfl) ?_
    refine EPL.p rfl rfl (q_add rfl rfl) ?_
    refine EPL.p rfl rfl (q_idxArr Tryz.underlying102 sz101 rfl rfl (by omega) (by omega)) ?_
    refine EPL.ld1 (v := wV q.a) rfl rfl sc101 rfl rfl ?_
    refine EPL.p rfl rfl (q_idxArr Tryz.underlying102 sz101 rfl rfl (by omega) (by omega)) ?_
    refine EPL.ld1 (v := wV q.b) rfl rfl sc101 rfl rfl ?_
    refine EPL.p rfl rfl (q_idxArr Tryz.underlying102 sz101 rfl rfl (by omega) (by omega)) ?_
    refine EPL.ld1 (v := wV q.c) rfl rfl sc101 rfl rfl ?_
    refine EPL.p rfl rfl (q_idxArr Tryz.underlying102 sz101 rfl rfl (by omega) (by omega)) ?_
    refine EPL.ld1 (v := wV q.d) rfl rfl sc101 rfl rfl ?_
    refine EPL.p rfl rfl (q_move (v := .int _ _) rfl) ?_
    refine EPL.p rfl rfl (q_add rfl rfl) ?_
    refine EPL.p rfl rfl (q_idxArr Tryz.underlying102 sz101 rfl rfl (by omega) (by omega)) ?_
    refine EPL.ld1 (v := wV q.e) rfl rfl sc101 rfl rfl ?_
    refine EPL.p rfl rfl (q_idxArr Tryz.underlying102 sz101 rfl rfl (by omega) (by omega)) ?_
    refine EPL.ld1 (v := wV q.f) rfl rfl sc101 rfl rfl ?_
    refine EPL.p rfl rfl (q_idxArr Tryz.underlying102 sz101 rfl rfl (by omega) (by omega)) ?_
    refine EPL.ld1 (v := wV q.g) rfl rfl sc101 rfl rfl ?_
    refine EPL.p rfl rfl (q_buildA (cells := #[.int _ _, .int _ _, .int _ _, .int _ _, .int _ _, .int _ _, .int _ _, .int _ _]) Tryz.underlying102 sz101 el102 (.cons rfl rfl (Nat.le_of_ble_eq_true rfl) rfl (.cons rfl rfl (Nat.le_of_ble_eq_true rfl) rfl (.cons rfl rfl (Nat.le_of_ble_eq_true rfl) rfl (.cons rfl rfl (Nat.le_of_ble_eq_true rfl) rfl (.cons rfl rfl (Nat.le_of_ble_eq_true rfl) rfl (.cons rfl rfl (Nat.le_of_ble_eq_true rfl) rfl (.cons rfl rfl (Nat.le_of_ble_eq_true rfl) rfl (.cons rfl rfl (Nat.le_of_ble_eq_true rfl) rfl .nil))))))))) ?_
    refine EPL.stA (v := ((q.step (kW.getD i 0) ww).list.map wV).toArray) rfl rfl sz102 rfl (by
      show Value.agg #[.int .u32 (IntKind.u32.wrap (IntKind.u32.wrap _ + IntKind.u32.wrap _)), wV q.a, wV q.b, wV q.c, .int .u32 (IntKind.u32.wrap (_ + IntKind.u32.wrap _)), wV q.e, wV q.f, wV q.g] = _
      rw [hX, hY, w_add, w_add]; rfl) rfl (wAll _) rfl HeldL.nil ?_
    refine EPL.nil ?_
    refine EL.go ?_
    refine EL.region (.p 0 (.p 1 (.p 2 (.nil)))) (by kernel_rfl) ?_
    refine EPL.p rfl rfl (q_move (v := .int _ _) rfl) ?_
    refine EPL.p rfl rfl (q_add rfl rfl) ?_
    refine EPL.p rfl rfl (q_assign (v := .int _ _) rfl) ?_
    refine EPL.nil ?_
    refine RoundQ.mk (m - 1) (i + 1) (by omega) ⟨by omega, by rw [hnr]⟩ (by repeat first | refine Off.upd rfl ?_ | exact Off.mix | refine Off.upds rfl ?_ | refine Off.mixs rfl ?_ | exact Off.refl) ⟨congrArg (Value.int .i64) (wrap_i64_in (by omega)), trivial⟩
  ·
    have c9 := of_decide_eq_false c9
    obtain rfl : i = 64 := by omega
    refine EL.exit ?_
    exact SegQ.mk () (by repeat first | refine Off.upd rfl ?_ | exact Off.mix | refine Off.upds rfl ?_ | refine Off.mixs rfl ?_ | exact Off.refl) rfl trivial


end Go.Proofs.YtedkoebbijpnfaaGreatDoor

namespace Go.Proofs.YtedkoebbijpnfaaGreatDoor
open Go Go.Proofs.YtedkoebbijpnfaaGreatDoor.TH
set_option maxHeartbeats 1000000
theorem ROf_s10 (b3 b12 : Nat) (st q1 : St) (R2 : List Hp) (e : Env) (Q : Exit → Env → Hp → Prop) : EL Tryz.prog Tryz.f57.ntmps (bodyAt Tryz.f57 [1, 1, 1, 0, 1, 0, 0, 1, 0, 0, 1, 1, 1, 1, 1, 1]) (thenQ (SegQ [16, 193, 194, 195, 196, 197, 198, 199, 200, 201, 202, 203, 204, 205] (fun _ : Unit => []) (fun _ Hs => Hs = sg b12 (SArr q1) :: sg b3 (SArr (st.add q1)) :: R2) (upds e [(3, .pointer (some ⟨b3, 0, none⟩)), (12, .pointer (some ⟨b12, 0, none⟩)), (16, .int .i64 0)])) Q) (upds e [(3, .pointer (some ⟨b3, 0, none⟩)), (12, .pointer (some ⟨b12, 0, none⟩)), (16, .int .i64 0)]) (sg b12 (SArr q1) :: sg b3 (SArr st) :: R2) := by
  refine EL.block ?_
  refine EL.loop [16, 193, 194, 195, 196, 197, 198, 199, 200, 201, 202, 203, 204, 205] (fun i : Nat => [(16, .int .i64 i)]) (fun m i Hs' => m + i = 8 ∧ Hs' = sg b12 (SArr q1) :: sg b3 (.cells (((st.add q1).list.take i ++ st.list.drop i).map wV ++ []).toArray 102 (0, 0)) :: R2) 8 0 ⟨rfl, by simp⟩ ⟨rfl, trivial⟩ ?_
  rintro m i _ j ⟨hm, rfl⟩
  refine EL.seq ?_
  refine EL.seq ?_
  refine EL.region (.p 0 (.p 1 (.nil))) (by kernel_rfl) ?_
  refine EPL.p rfl rfl (q_move (v := .int _ _) rfl) ?_
  refine EPL.p rfl rfl (q_lss rfl rfl) ?_
  refine EPL.nil ?_
  refine EL.go ?_
  refine EL.cond rfl (fun c10 => ?_) (fun c10 => ?_)
  ·
    have c10 := of_decide_eq_true c10
    have hi : i < 8 := by omega
    obtain ⟨x, hx⟩ : ∃ x, st.list[i]? = some x := ⟨_, List.getElem?_eq_getElem (by show i < 8; omega)⟩
    obtain ⟨y, hy⟩ : ∃ x, q1.list[i]? = some x := ⟨_, List.getElem?_eq_getElem (by show i < 8; omega)⟩
    have hz : (st.add q1).list[i]? = some (x + y) := add_get hx hy
    have ei2 : 0 + (i : Int).toNat * 1 = i := by omega
    have gx := mix_get (A := (st.add q1).list) (B := st.list) hx rfl []
    have gy : (q1.list.map wV).toArray[0 + (i : Int).toNat * 1]? = some (wV y) := by rw [ei2]; simp [hy]
    have hsz : (((st.add q1).list.take i ++ st.list.drop i).map wV ++ []).toArray.size = 8 := by simp [St.list]; omega
    refine EL.skip ?_
    refine EL.go ?_
    refine EL.seq ?_
    refine EL.block ?_
    refine EL.draw (.p 0 (.p 1 (.p 2 (.l 3 (.p 4 (.p 5 (.l 6 (.p 7 (.p 8 (.x 9 [] (.nil))))))))))) [9] [3, 6] fm (by kernel_rfl) ?_
    refine EPL.p rfl rfl (q_move (v := .int _ _) rfl) ?_
    refine EPL.p rfl rfl (q_move (v := .int _ _) rfl) ?_
    refine EPL.p rfl rfl (q_idxArr Tryz.underlying102 sz101 rfl rfl (by omega) (by omega)) ?_
    refine EPL.ld1 (v := wV x) rfl rfl sc101 rfl (by rw [ei2]; exact gx) ?_
    refine EPL.p rfl rfl (q_move (v := .int _ _) rfl) ?_
    refine EPL.p rfl rfl (q_idxArr Tryz.underlying102 sz101 rfl rfl (by omega) (by omega)) ?_
    refine EPL.ld1 (v := wV y) rfl rfl sc101 rfl gy ?_
    refine EPL.p rfl rfl (q_add rfl rfl) ?_
    refine EPL.p rfl rfl (q_idxArr Tryz.underlying102 sz101 rfl rfl (by omega) (by omega)) ?_
    refine EPL.st (v := wV (x + y)) (c' := (((st.add q1).list.take (i + 1) ++ st.list.drop (i + 1)).map wV ++ []).toArray) rfl rfl sz101 rfl (by exact congrArg (Value.int .u32) (w_add x y)) rfl (oneV rfl) (by rw [hsz]; omega) (by show setL _ (0 + (i : Int).toNat * 1) [wV _] = _; rw [ei2]; exact mix_set (A := (st.add q1).list) (B := st.list) hz rfl []) HeldL.nil ?_
    refine EPL.nil ?_
    refine EL.go ?_
    refine EL.region (.p 0 (.p 1 (.p 2 (.nil)))) (by kernel_rfl) ?_
    refine EPL.p rfl rfl (q_move (v := .int _ _) rfl) ?_
    refine EPL.p rfl rfl (q_add rfl rfl) ?_
    refine EPL.p rfl rfl (q_assign (v := .int _ _) rfl) ?_
    refine EPL.nil ?_
    refine RoundQ.mk (m - 1) (i + 1) (by omega) ⟨by omega, rfl⟩ (by repeat first | refine Off.upd rfl ?_ | exact Off.mix | refine Off.upds rfl ?_ | refine Off.mixs rfl ?_ | exact Off.refl) ⟨congrArg (Value.int .i64) (wrap_i64_in (by omega)), trivial⟩
  ·
    have c10 := of_decide_eq_false c10
    obtain rfl : i = 8 := by omega
    rw [List.append_nil, show (st.add q1).list.take 8 ++ st.list.drop 8 = (st.add q1).list from rfl]
    refine EL.exit ?_
    exact SegQ.mk () (by repeat first | refine Off.upd rfl ?_ | exact Off.mix | refine Off.upds rfl ?_ | refine Off.mixs rfl ?_ | exact Off.refl) rfl trivial


end Go.Proofs.YtedkoebbijpnfaaGreatDoor
