/- Parts D11e, D11, D12, D13, D14, D15, D16, D17, D18, D19 of the proofs of this seat: what the functions of these layers answer, in worlds that hold their blocks. No condition beside those that each theorem names. -/
import Derived.Test.YtedkoebbijpnfaaGreatDoorPack4
import Derived.Test.YtedkoebbijpnfaaGreatDoorPack2
import Derived.Test.YtedkoebbijpnfaaGreatDoorPack3
namespace Go.Proofs.YtedkoebbijpnfaaGreatDoor
open Go Go.Proofs.YtedkoebbijpnfaaGreatDoor.TH
set_option maxHeartbeats 1000000
theorem ROf_s12 (b3 b17 : Nat) (st : St) (R2 : List Hp) (e : Env) (Q : Exit → Env → Hp → Prop) : EL Tryz.prog Tryz.f57.ntmps (bodyAt Tryz.f57 [1, 1, 1, 1, 1, 0, 1]) (thenQ (SegQ [18, 206, 207, 208, 209, 210, 211, 212, 213, 214, 215, 216, 217, 218, 219, 220, 221, 222, 223] (fun _ : Unit => []) (fun _ Hs => Hs = sg b17 (.cells (upB (st.list.flatMap wBytes) 32) 24 (0, 0)) :: sg b3 (SArr st) :: R2) (upds e [(3, .pointer (some ⟨b3, 0, none⟩)), (17, .pointer (some ⟨b17, 0, none⟩)), (18, .int .i64 0)])) Q) (upds e [(3, .pointer (some ⟨b3, 0, none⟩)), (17, .pointer (some ⟨b17, 0, none⟩)), (18, .int .i64 0)]) (sg b17 (.cells (upB [] 32) 24 (0, 0)) :: sg b3 (SArr st) :: R2) := by
  refine EL.block ?_
  have hfl : (st.list.flatMap wBytes).length = 32 := by rw [wBytes_len]; rfl
  generalize hF : st.list.flatMap wBytes = F at hfl ⊢
  refine EL.loop [18, 206, 207, 208, 209, 210, 211, 212, 213, 214, 215, 216, 217, 218, 219, 220, 221, 222, 223] (fun i : Nat => [(18, .int .i64 i)]) (fun m i Hs' => m + i = 32 ∧ Hs' = sg b17 (.cells (upB (F.take i) 32) 24 (0, 0)) :: sg b3 (SArr st) :: R2) 32 0 ⟨rfl, rfl⟩ ⟨rfl, trivial⟩ ?_
  rintro m i _ j ⟨hm, rfl⟩
  refine EL.seq ?_
  refine EL.seq ?_
  refine EL.region (.p 0 (.p 1 (.nil))) (by kernel_rfl) ?_
  refine EPL.p rfl rfl (q_move (v := .int _ _) rfl) ?_
  refine EPL.p rfl rfl (q_lss rfl rfl) ?_
  refine EPL.nil ?_
  refine EL.go ?_
  refine EL.cond rfl (fun c12 => ?_) (fun c12 => ?_)
  ·
    have c12 := of_decide_eq_true c12
    have hi : i < 32 := by omega
    obtain ⟨w, hw⟩ : ∃ x, st.list[i / 4]? = some x := ⟨_, List.getElem?_eq_getElem (by show i / 4 < 8; omega)⟩
    obtain ⟨x, hx, hxv⟩ := out_byte w i
    have hsh : IntKind.u64.wrap (IntKind.i64.wrap (24 - IntKind.i64.wrap (8 * (i : Int).tmod 4))) = ((24 - 8 * (i % 4) : Nat) : Int) := by
      rw [Int.tmod_eq_emod_of_nonneg (Int.natCast_nonneg _), wrap_i64_in (n := 8 * ((i : Int) % 4)) (by omega), wrap_i64_in (by omega), wrap_u64_in (by omega)]; omega
    have hFx : F[i]? = some x := by
      have := flat_at hw (i % 4) (Nat.mod_lt _ (by decide))
      rw [hF, hx, show 4 * (i / 4) + i % 4 = i from by omega] at this
      exact this
    have hdv : IntKind.i64.wrap ((i : Int).tdiv 4) = ((i / 4 : Nat) : Int) := by rw [Int.tdiv_eq_ediv_of_nonneg (Int.natCast_nonneg _), wrap_i64_in (by omega)]; omega
    have gw : (st.list.map wV).toArray[0 + (IntKind.i64.wrap ((i : Int).tdiv 4)).toNat * 1]? = some (wV w) := by rw [hdv, show ∀ z : Nat, 0 + ((z : Nat) : Int).toNat * 1 = z from fun z => by omega]; simp [hw]
    have htl : (F.take i).length = i := by rw [List.length_take]; omega
    have hnx : F.take (i + 1) = F.take i ++ [x] := by obtain ⟨hi2, hx2⟩ := List.getElem?_eq_some_iff.1 hFx; rw [List.take_succ_eq_append_getElem hi2, hx2]
    refine EL.skip ?_
    refine EL.go ?_
    refine EL.seq ?_
    refine EL.block ?_
    refine EL.region (.p 0 (.p 1 (.p 2 (.p 3 (.l 4 (.p 5 (.p 6 (.p 7 (.p 8 (.p 9 (.p 10 (.p 11 (.p 12 (.p 13 (.x 14 [] (.nil)))))))))))))))) (by kernel_rfl) ?_
    refine EPL.p rfl rfl (q_move (v := .int _ _) rfl) ?_
    refine EPL.p rfl rfl (q_move (v := .int _ _) rfl) ?_
    refine EPL.p rfl rfl (q_quo rfl rfl (by first | decide | omega)) ?_
    refine EPL.p rfl rfl (q_idxArr Tryz.underlying102 sz101 rfl rfl (by omega) (by omega)) ?_
    refine EPL.ld1 (v := wV w) rfl rfl sc101 rfl gw ?_
    refine EPL.p rfl rfl (q_move (v := .int _ _) rfl) ?_
    refine EPL.p rfl rfl (q_rem rfl rfl (by first | decide | omega)) ?_
    refine EPL.p rfl rfl (q_mul rfl rfl) ?_
    refine EPL.p rfl rfl (q_sub rfl rfl) ?_
    refine EPL.p rfl rfl (q_conv Tryz.underlying3 Tryz.underlying68 rfl) ?_
    refine EPL.p rfl rfl (q_shr rfl rfl (by first | decide | omega | (rw [hsh]; omega) | (rw [wrap_i64_in (by omega)]; omega))) ?_
    refine EPL.p rfl rfl (q_rem rfl rfl (by first | decide | omega)) ?_
    refine EPL.p rfl rfl (q_conv Tryz.underlying101 Tryz.underlying5 rfl) ?_
    refine EPL.p rfl rfl (q_idxArr Tryz.underlying24 sz5 rfl rfl (by omega) (by omega)) ?_
    refine EPL.st (v := bV x) (c' := upB (F.take (i + 1)) 32) rfl rfl sz5 rfl (by exact congrArg (Value.int .u8) hxv) rfl (oneV rfl) (by rw [upB_size (by omega)]; omega) (by show setL _ (0 + (i : Int).toNat * 1) [bV x] = _; rw [show 0 + (i : Int).toNat * 1 = (F.take i).length from by rw [htl]; omega, hnx]; exact upB_set (by omega)) HeldL.nil ?_
    refine EPL.nil ?_
    refine EL.go ?_
    refine EL.region (.p 0 (.p 1 (.p 2 (.nil)))) (by kernel_rfl) ?_
    refine EPL.p rfl rfl (q_move (v := .int _ _) rfl) ?_
    refine EPL.p rfl rfl (q_add rfl rfl) ?_
    refine EPL.p rfl rfl (q_assign (v := .int _ _) rfl) ?_
    refine EPL.nil ?_
    refine RoundQ.mk (m - 1) (i + 1) (by omega) ⟨by omega, rfl⟩ (by repeat first | refine Off.upd rfl ?_ | exact Off.mix | refine Off.upds rfl ?_ | refine Off.mixs rfl ?_ | exact Off.refl) ⟨congrArg (Value.int .i64) (wrap_i64_in (by omega)), trivial⟩
  ·
    have c12 := of_decide_eq_false c12
    obtain rfl : i = 32 := by omega
    rw [List.take_of_length_le (by omega), ← hF]
    refine EL.exit ?_
    exact SegQ.mk () (by repeat first | refine Off.upd rfl ?_ | exact Off.mix | refine Off.upds rfl ?_ | refine Off.mixs rfl ?_ | exact Off.refl) rfl trivial

end Go.Proofs.YtedkoebbijpnfaaGreatDoor

namespace Go.Proofs.YtedkoebbijpnfaaGreatDoor
open Go Go.Proofs.YtedkoebbijpnfaaGreatDoor.TH
set_option maxHeartbeats 1000000
theorem ROf_spec (s : List UInt8) (hb : s.length ≤ 1099511627776) : CallL Tryz.prog 57 [str s] [] (fun r Hs' => r = hashV (shaB s) ∧ Hs' = []) := by
  refine CallL.enter Tryz.func57 Tryz.ntmps57 rfl rfl rfl ?_
  have hpm := pad_mod s.length
  have hpl := padB_len s.length
  refine EL.seq ?_
  refine EL.region (.x 0 [] (.nil)) (by kernel_rfl) ?_
  refine EPL.al rfl rfl el24 (fun _ => HeldL.nil) (fun b1 => ?_)
  refine EPL.nil ?_
  refine EL.go ?_
  refine EL.seq ?_
  refine EL.region (.p 0 (.x 1 [] (.x 2 [] (.nil)))) (by kernel_rfl) ?_
  refine EPL.p rfl rfl (q_buildA (cells := (startW.list.map wV).toArray) Tryz.underlying102 sz101 el102 (fillW startW.list rfl rfl)) ?_
  refine EPL.al rfl rfl el102 (fun _ => HeldL.nil) (fun b3 => ?_)
  refine EPL.stA (v := (startW.list.map wV).toArray) rfl rfl sz102 rfl rfl rfl (wAll _) rfl HeldL.nil ?_
  refine EPL.nil ?_
  refine EL.go ?_
  refine EL.seq ?_
  refine EL.region (.p 0 (.x 1 [] (.p 2 (.nil)))) (by kernel_rfl) ?_
  refine EPL.p rfl rfl (q_move (v := .string _) rfl) ?_
  refine EPL.cl rfl rfl Tryz.func67 rfl rfl (Padded_spec s hb) rfl ?_
  rintro _ _ ⟨rfl, rfl⟩
  obtain ⟨S, hS⟩ : ∃ S, S = s ++ padB s.length := ⟨_, rfl⟩
  have hSl : S.length = s.length + (padB s.length).length := by rw [hS, List.length_append]
  rw [← hS]
  refine ⟨HeldL.nil, ?_⟩
  refine EPL.p rfl rfl (q_assign (v := .string _) rfl) ?_
  refine EPL.nil ?_
  refine EL.go ?_
  refine EL.seq ?_
  refine EL.seq ?_
  refine EL.region (.p 0 (.nil)) (by kernel_rfl) ?_
  refine EPL.p rfl rfl (q_assign (v := .int _ _) rfl) ?_
  refine EPL.nil ?_
  refine EL.go ?_
  refine EL.block ?_
  refine EL.loop [5, 6, 7, 8, 9, 10, 11, 12, 13, 14, 15, 16, 22, 23, 24, 25, 26, 27, 28, 29, 30, 31, 32, 33, 34, 35, 36, 37, 38, 39, 40, 41, 42, 43, 44, 45, 46, 47, 48, 49, 50, 51, 52, 53, 54, 55, 56, 57, 58, 59, 60, 61, 62, 63, 64, 65, 66, 67, 68, 69, 70, 71, 72, 73, 74, 75, 76, 77, 78, 79, 80, 81, 82, 83, 84, 85, 86, 87, 88, 89, 90, 91, 92, 93, 94, 95, 96, 97, 98, 99, 100, 101, 102, 103, 104, 105, 106, 107, 108, 109, 110, 111, 112, 113, 114, 115, 116, 117, 118, 119, 120, 121, 122, 123, 124, 125, 126, 127, 128, 129, 130, 131, 132, 133, 134, 135, 136, 137, 138, 139, 140, 141, 142, 143, 144, 145, 146, 147, 148, 149, 150, 151, 152, 153, 154, 155, 156, 157, 158, 159, 160, 161, 162, 163, 164, 165, 166, 167, 168, 169, 170, 171, 172, 173, 174, 175, 176, 177, 178, 179, 180, 181, 182, 183, 184, 185, 186, 187, 188, 189, 190, 191, 192, 193, 194, 195, 196, 197, 198, 199, 200, 201, 202, 203, 204, 205] (fun q : Nat => [(5, .int .i64 ((64 * q : Nat) : Int))]) (fun m q Hs' => m + q = S.length / 64 ∧ ∃ st, st = blocks kW startW S q ∧ Hs' = [sg b3 (SArr st), sg b1 (HashB (List.replicate 32 0))]) (S.length / 64) 0 ⟨by omega, startW, rfl, rfl⟩ ⟨rfl, trivial⟩ ?_
  rintro m q _ j ⟨hm, st, hst, rfl⟩
  refine EL.seq ?_
  refine EL.seq ?_
  refine EL.region (.p 0 (.p 1 (.p 2 (.p 3 (.nil))))) (by kernel_rfl) ?_
  refine EPL.p rfl rfl (q_move (v := .int _ _) rfl) ?_
  refine EPL.p rfl rfl (q_move (v := .string _) rfl) ?_
  refine EPL.p rfl rfl (q_lenStr Tryz.underlying9 rfl) ?_
  refine EPL.p rfl rfl (q_lss rfl rfl) ?_
  refine EPL.nil ?_
  refine EL.go ?_
  refine EL.cond rfl (fun c3 => ?_) (fun c3 => ?_)
  ·
    have c3 := of_decide_eq_true c3
    have hq : 64 * q + 64 ≤ S.length := by omega
    obtain ⟨blk, hblk⟩ : ∃ b, b = (S.drop (64 * q)).take 64 := ⟨_, rfl⟩
    have hbl : blk.length = 64 := by rw [hblk, List.length_take, List.length_drop]; omega
    refine EL.skip ?_
    refine EL.go ?_
    refine EL.seq ?_
    refine EL.block ?_
    refine EL.seq ?_
    refine EL.region (.x 0 [] (.nil)) (by kernel_rfl) ?_
    refine EPL.al rfl rfl el103 (fun _ => HeldL.nil) (fun b6 => ?_)
    refine EPL.hd (sg b6 (WArr [])) rfl ?_
    refine EPL.nil ?_
    refine EL.go ?_
    refine EL.seq ?_
    refine EL.seq ?_
    refine EL.region (.p 0 (.nil)) (by kernel_rfl) ?_
    refine EPL.p rfl rfl (q_assign (v := .int _ _) rfl) ?_
    refine EPL.nil ?_
    refine EL.go ?_
    obtain ⟨R, hR⟩ : ∃ R, R = [sg b3 (SArr st), sg b1 (HashB (List.replicate 32 0))] := ⟨_, rfl⟩
    rw [← hR]
    refine EL.segE [7, 8, 28, 29, 30, 31, 32, 33, 34, 35, 36, 37, 38, 39, 40, 41, 42, 43, 44, 45, 46, 47, 48, 49, 50, 51] (fun _ : Unit => []) (fun _ Hs => Hs = sg b6 (WArr (wordsOf blk)) :: R) [(4, str S), (5, .int .i64 ((64 * q : Nat) : Int)), (6, .pointer (some ⟨b6, 0, none⟩)), (7, .int .i64 0)] ⟨rfl, rfl, rfl, rfl, trivial⟩ (fun Q => ROf_s2 b6 q S blk (by omega) hq hblk hbl R _ Q) ?_
    rintro _ _ j rfl
    obtain ⟨ws, hws⟩ : ∃ x, x = wordsOf blk := ⟨_, rfl⟩
    have hwl : ws.length = 16 := by rw [hws]; simp [wordsOf]
    rw [← hws]
    refine EL.go ?_
    refine EL.seq ?_
    refine EL.seq ?_
    refine EL.region (.p 0 (.nil)) (by kernel_rfl) ?_
    refine EPL.p rfl rfl (q_assign (v := .int _ _) rfl) ?_
    refine EPL.nil ?_
    refine EL.go ?_
    refine EL.segE [9, 10, 11, 52, 53, 54, 55, 56, 57, 58, 59, 60, 61, 62, 63, 64, 65, 66, 67, 68, 69, 70, 71, 72, 73, 74, 75, 76, 77, 78, 79, 80, 81, 82, 83, 84, 85, 86, 87, 88, 89, 90, 91, 92, 93, 94, 95, 96, 97, 98, 99, 100, 101, 102, 103, 104] (fun _ : Unit => []) (fun _ Hs => Hs = sg b6 (WArr (sched ws 48)) :: R) [(6, .pointer (some ⟨b6, 0, none⟩)), (9, .int .i64 16)] ⟨rfl, rfl, trivial⟩ (fun Q => ROf_s6 b6 ws hwl R _ Q) ?_
    rintro _ _ j rfl
    obtain ⟨Sch, hSch⟩ : ∃ x, x = sched ws 48 := ⟨_, rfl⟩
    have hSchl : Sch.length = 64 := by rw [hSch, sched_len, hwl]
    rw [← hSch]
    subst hR
    refine EL.go ?_
    refine EL.seq ?_
    refine EL.region (.l 0 (.x 1 [] (.x 2 [] (.nil)))) (by kernel_rfl) ?_
    refine EPL.ldAw rfl rfl ag102 rfl rfl ?_
    refine EPL.al rfl rfl el102 (fun _ => HeldL.nil) (fun b12 => ?_)
    refine EPL.stA (v := (st.list.map wV).toArray) rfl rfl sz102 rfl rfl rfl (wAll _) rfl HeldL.nil ?_
    refine EPL.nil ?_
    refine EL.go ?_
    refine EL.seq ?_
    refine EL.seq ?_
    refine EL.region (.p 0 (.nil)) (by kernel_rfl) ?_
    refine EPL.p rfl rfl (q_assign (v := .int _ _) rfl) ?_
    refine EPL.nil ?_
    refine EL.go ?_
    obtain ⟨R, hR⟩ : ∃ R, R = [sg b3 (SArr st), sg b1 (HashB (List.replicate 32 0))] := ⟨_, rfl⟩
    rw [← hR]
    refine EL.segE [13, 14, 15, 106, 107, 108, 109, 110, 111, 112, 113, 114, 115, 116, 117, 118, 119, 120, 121, 122, 123, 124, 125, 126, 127, 128, 129, 130, 131, 132, 133, 134, 135, 136, 137, 138, 139, 140, 141, 142, 143, 144, 145, 146, 147, 148, 149, 150, 151, 152, 153, 154, 155, 156, 157, 158, 159, 160, 161, 162, 163, 164, 165, 166, 167, 168, 169, 170, 171, 172, 173, 174, 175, 176, 177, 178, 179, 180, 181, 182, 183, 184, 185, 186, 187, 188, 189, 190, 191, 192] (fun _ : Unit => []) (fun _ Hs => Hs = sg b12 (SArr (rounds kW Sch st 64)) :: sg b6 (WArr Sch) :: R) [(6, .pointer (some ⟨b6, 0, none⟩)), (12, .pointer (some ⟨b12, 0, none⟩)), (13, .int .i64 0)] ⟨rfl, rfl, rfl, trivial⟩ (fun Q => ROf_s8 b6 b12 st Sch hSchl R _ Q) ?_
    rintro _ _ j rfl
    subst hR
    obtain ⟨q1, hqr⟩ : ∃ x, x = rounds kW Sch st 64 := ⟨_, rfl⟩
    rw [← hqr]
    refine EL.go ?_
    refine EL.seq ?_
    refine EL.region (.p 0 (.nil)) (by kernel_rfl) ?_
    refine EPL.p rfl rfl (q_assign (v := .int _ _) rfl) ?_
    refine EPL.nil ?_
    refine EL.go ?_
    obtain ⟨R2, hR2⟩ : ∃ R, R = [sg b1 (HashB (List.replicate 32 0))] := ⟨_, rfl⟩
    refine EL.useP [sg b12 (SArr q1), sg b3 (SArr st), sg b1 (HashB (List.replicate 32 0))] ?_
    rw [← hR2]
    refine EL.segE [16, 193, 194, 195, 196, 197, 198, 199, 200, 201, 202, 203, 204, 205] (fun _ : Unit => []) (fun _ Hs => Hs = sg b12 (SArr q1) :: sg b3 (SArr (st.add q1)) :: R2) [(3, .pointer (some ⟨b3, 0, none⟩)), (12, .pointer (some ⟨b12, 0, none⟩)), (16, .int .i64 0)] ⟨rfl, rfl, rfl, trivial⟩ (fun Q => ROf_s10 b3 b12 st q1 R2 _ Q) ?_
    rintro _ _ j rfl
    subst hR2
    refine EL.go ?_
    refine EL.region (.p 0 (.p 1 (.p 2 (.nil)))) (by kernel_rfl) ?_
    refine EPL.p rfl rfl (q_move (v := .int _ _) rfl) ?_
    refine EPL.p rfl rfl (q_add rfl rfl) ?_
    refine EPL.p rfl rfl (q_assign (v := .int _ _) rfl) ?_
    refine EPL.nil ?_
    refine RoundQ.mkP (m - 1) (q + 1) [sg b3 (SArr (st.add q1)), sg b1 (HashB (List.replicate 32 0))] (by omega) ⟨by omega, st.add q1, by rw [hqr, hSch, hws, hblk, hst]; rfl, rfl⟩ (by repeat first | refine Off.upd rfl ?_ | exact Off.mix | refine Off.upds rfl ?_ | refine Off.mixs rfl ?_ | exact Off.refl) ⟨congrArg (Value.int .i64) (by rw [wrap_i64_in (by omega)]; omega), trivial⟩
  ·
    have c3 := of_decide_eq_false c3
    obtain rfl : q = S.length / 64 := by omega
    refine EL.exit ?_
    refine EL.go ?_
    refine EL.seq ?_
    refine EL.region (.x 0 [] (.nil)) (by kernel_rfl) ?_
    refine EPL.al rfl rfl el24 (fun _ => HeldL.nil) (fun b17 => ?_)
    refine EPL.hd (sg b17 (.cells (upB [] 32) 24 (0, 0))) rfl ?_
    refine EPL.nil ?_
    refine EL.go ?_
    refine EL.seq ?_
    refine EL.seq ?_
    refine EL.region (.p 0 (.nil)) (by kernel_rfl) ?_
    refine EPL.p rfl rfl (q_assign (v := .int _ _) rfl) ?_
    refine EPL.nil ?_
    refine EL.go ?_
    obtain ⟨R2, hR2⟩ : ∃ R, R = [sg b1 (HashB (List.replicate 32 0))] := ⟨_, rfl⟩
    refine EL.useP [sg b17 (.cells (upB [] 32) 24 (0, 0)), sg b3 (SArr st), sg b1 (HashB (List.replicate 32 0))] ?_
    rw [← hR2]
    refine EL.segE [18, 206, 207, 208, 209, 210, 211, 212, 213, 214, 215, 216, 217, 218, 219, 220, 221, 222, 223] (fun _ : Unit => []) (fun _ Hs => Hs = sg b17 (.cells (upB (st.list.flatMap wBytes) 32) 24 (0, 0)) :: sg b3 (SArr st) :: R2) [(3, .pointer (some ⟨b3, 0, none⟩)), (17, .pointer (some ⟨b17, 0, none⟩)), (18, .int .i64 0)] ⟨rfl, rfl, rfl, trivial⟩ (fun Q => ROf_s12 b3 b17 st R2 _ Q) ?_
    rintro _ _ j rfl
    subst hR2
    have hsh : st.list.flatMap wBytes = shaB s := by rw [hst, hS]; rfl
    rw [hsh, upB_all (shaB_len s)]
    refine EL.go ?_
    refine EL.seq ?_
    refine EL.region (.l 0 (.x 1 [] (.nil))) (by kernel_rfl) ?_
    refine EPL.ldAw rfl rfl ag24 rfl (by simp [shaB_len]) ?_
    refine EPL.stA (v := ((shaB s).map bV).toArray) rfl rfl sz24 rfl rfl (by simp [shaB_len]) (bvAll _) rfl HeldL.nil ?_
    refine EPL.nil ?_
    refine EL.go ?_
    refine EL.ret ?_
    exact end_retP (vs := [hashV (shaB s)]) [] (fun hd => resL_one (rv_cellA (e := 24) (fr := (0, 0)) ag24 rfl (TakeP.sub (H := sg b1 (HashB (shaB s))) hd b1 _ sg_self) (by simp [shaB_len]))) (fun _ => ⟨rfl, rfl⟩)

end Go.Proofs.YtedkoebbijpnfaaGreatDoor

namespace Go.Proofs.YtedkoebbijpnfaaGreatDoor
open Go Go.Proofs.YtedkoebbijpnfaaGreatDoor.TH
set_option maxHeartbeats 1000000
theorem RDouble_spec (s : List UInt8) (hb : s.length ≤ 1099511627776) : CallL Tryz.prog 36 [str s] [] (fun r Hs' => r = hashV (shaD s) ∧ Hs' = []) := by
  refine CallL.enter Tryz.func36 Tryz.ntmps36 rfl rfl rfl ?_
  refine EL.seq ?_
  refine EL.region (.x 0 [] (.nil)) (by kernel_rfl) ?_
  refine EPL.al rfl rfl el24 (fun _ => HeldL.nil) (fun b1 => ?_)
  refine EPL.nil ?_
  refine EL.go ?_
  refine EL.seq ?_
  refine EL.region (.p 0 (.x 1 [] (.x 2 [] (.x 3 [] (.nil))))) (by kernel_rfl) ?_
  refine EPL.p rfl rfl (q_move (v := .string _) rfl) ?_
  refine EPL.cl rfl rfl Tryz.func57 rfl rfl (ROf_spec s hb) rfl ?_
  rintro _ _ ⟨rfl, rfl⟩
  refine ⟨HeldL.nil, ?_⟩
  refine EPL.al rfl rfl el24 (fun _ => HeldL.nil) (fun b2 => ?_)
  refine EPL.stA (v := ((shaB s).map bV).toArray) rfl rfl sz24 rfl rfl (by simp [shaB_len]) (bvAll _) rfl HeldL.nil ?_
  refine EPL.nil ?_
  refine EL.go ?_
  refine EL.seq ?_
  refine EL.region (.p 0 (.nil)) (by kernel_rfl) ?_
  refine EPL.p rfl rfl (q_assign (v := .string _) rfl) ?_
  refine EPL.nil ?_
  refine EL.go ?_
  refine EL.seq ?_
  refine EL.seq ?_
  refine EL.region (.p 0 (.nil)) (by kernel_rfl) ?_
  refine EPL.p rfl rfl (q_assign (v := .int _ _) rfl) ?_
  refine EPL.nil ?_
  refine EL.go ?_
  refine EL.block ?_
  obtain ⟨h, hh⟩ : ∃ h, h = shaB s := ⟨_, rfl⟩
  have h32 : h.length = 32 := by rw [hh]; exact shaB_len s
  rw [← hh]
  obtain ⟨Z, hZ⟩ : ∃ Z, Z = sg b1 (.cells (Value.agg z24.toArray).cells 24 (0, 0)) := ⟨_, rfl⟩
  refine EL.useP [sg b2 (HashB h), sg b1 (.cells (Value.agg z24.toArray).cells 24 (0, 0))] ?_
  rw [← hZ]
  refine EL.loop [4, 5, 8, 9, 10, 11, 12, 13, 14, 15, 16, 17, 18] (fun i : Nat => [(4, str (h.take i)), (5, .int .i64 i)]) (fun m i Hs' => m + i = 32 ∧ Hs' = [sg b2 (HashB h), Z]) 32 0 ⟨by omega, rfl⟩ ⟨rfl, rfl, trivial⟩ ?_
  rintro m i _ j ⟨hm, rfl⟩
  refine EL.seq ?_
  refine EL.seq ?_
  refine EL.region (.p 0 (.p 1 (.nil))) (by kernel_rfl) ?_
  refine EPL.p rfl rfl (q_move (v := .int _ _) rfl) ?_
  refine EPL.p rfl rfl (q_lss rfl rfl) ?_
  refine EPL.nil ?_
  refine EL.go ?_
  refine EL.cond rfl (fun c3 => ?_) (fun c3 => ?_)
  ·
    have c3 := of_decide_eq_true c3
    obtain ⟨x, hx⟩ : ∃ x, h[i]? = some x := ⟨_, List.getElem?_eq_getElem (by omega)⟩
    refine EL.skip ?_
    refine EL.go ?_
    refine EL.seq ?_
    refine EL.block ?_
    refine EL.region (.p 0 (.p 1 (.p 2 (.l 3 (.x 4 [] (.l 5 (.p 6 (.p 7 (.nil))))))))) (by kernel_rfl) ?_
    refine EPL.p rfl rfl (q_move (v := .string _) rfl) ?_
    refine EPL.p rfl rfl (q_move (v := .int _ _) rfl) ?_
    refine EPL.p rfl rfl (q_idxArr Tryz.underlying24 sz5 rfl rfl (by omega) (by omega)) ?_
    refine EPL.ld1 (v := bV x) rfl rfl sc5 rfl (by simp [hx]) ?_
    refine EPL.bs rfl rfl Tryz.underlying71 el5 rfl rfl (fill1 (u := .int _ _) rfl rfl) (fun _ => HeldL.nil) (fun b4 => ?_)
    refine EPL.btsP (l := [x]) rfl rfl Tryz.underlying71 Tryz.underlying5 Tryz.underlying9 rfl rfl ⟨Nat.le_refl _, Nat.le_refl _⟩ (by unfold maxLen; decide) rfl okF.z ?_
    refine EPL.p rfl rfl (q_strcat rfl rfl (by simp; omega)) ?_
    refine EPL.p rfl rfl (q_assign (v := .string _) rfl) ?_
    refine EPL.nil ?_
    refine EL.go ?_
    refine EL.region (.p 0 (.p 1 (.p 2 (.nil)))) (by kernel_rfl) ?_
    refine EPL.p rfl rfl (q_move (v := .int _ _) rfl) ?_
    refine EPL.p rfl rfl (q_add rfl rfl) ?_
    refine EPL.p rfl rfl (q_assign (v := .int _ _) rfl) ?_
    refine EPL.nil ?_
    refine RoundQ.mkP (m - 1) (i + 1) [sg b2 (HashB h), Z] (by omega) ⟨by omega, rfl⟩ (by repeat first | refine Off.upd rfl ?_ | exact Off.mix | refine Off.upds rfl ?_ | refine Off.mixs rfl ?_ | exact Off.refl) ⟨congrArg (fun l => str l) (by obtain ⟨hi, hx2⟩ := List.getElem?_eq_some_iff.1 hx; rw [List.take_succ_eq_append_getElem hi, hx2]), congrArg (Value.int .i64) (wrap_i64_in (by omega)), trivial⟩
  ·
    have c3 := of_decide_eq_false c3
    obtain rfl : i = 32 := by omega
    rw [List.take_of_length_le (by omega), hh, hZ]
    refine EL.exit ?_
    refine EL.go ?_
    refine EL.seq ?_
    refine EL.region (.p 0 (.x 1 [] (.x 2 [] (.nil)))) (by kernel_rfl) ?_
    refine EPL.p rfl rfl (q_move (v := .string _) rfl) ?_
    refine EPL.cl rfl rfl Tryz.func57 rfl rfl (ROf_spec (shaB s) (by rw [shaB_len]; decide)) rfl ?_
    rintro _ _ ⟨rfl, rfl⟩
    refine ⟨HeldL.nil, ?_⟩
    refine EPL.stA (v := ((shaD s).map bV).toArray) rfl rfl sz24 rfl rfl (by simp [shaD, shaB_len]) (bvAll _) rfl HeldL.nil ?_
    refine EPL.nil ?_
    refine EL.go ?_
    refine EL.ret ?_
    exact end_retP (vs := [hashV (shaD s)]) [] (fun hd => resL_one (rv_cellA (e := 24) (fr := (0, 0)) ag24 rfl (TakeP.sub (H := sg b1 (HashB (shaD s))) hd b1 _ sg_self) (by simp [shaD, shaB_len]))) (fun _ => ⟨rfl, rfl⟩)


/-- A header. -/
structure Hd where
  ver : Int
  prev : List UInt8
  root : List UInt8
  time : Int
  bits : Int
  nonce : Int
def Hd.ok (h : Hd) : Prop := h.prev.length = 32 ∧ h.root.length = 32
def Hd.cells (h : Hd) : List Value := .int .i64 h.ver :: (h.prev.map bV ++ (h.root.map bV ++ [.int .i64 h.time, .int .i64 h.bits, .int .i64 h.nonce]))
abbrev hdV (h : Hd) : Value := .agg h.cells.toArray
def Hd.Good (h : Hd) : Prop := -2147483648 ≤ h.ver ∧ h.ver < 2147483648 ∧ 0 ≤ h.time ∧ h.time < 4294967296 ∧ 0 ≤ h.bits ∧ h.bits < 4294967296 ∧ 0 ≤ h.nonce ∧ h.nonce < 4294967296
instance (h : Hd) : Decidable h.Good := by unfold Hd.Good; infer_instance
def Hd.zero : Hd := ⟨0, List.replicate 32 0, List.replicate 32 0, 0, 0, 0⟩
theorem Hd.zero_ok : Hd.zero.ok := ⟨rfl, rfl⟩
theorem Hd.len {h : Hd} (hh : h.ok) : h.cells.length = 68 := by simp [Hd.cells, hh.1, hh.2]
theorem Hd.sz {h : Hd} (hh : h.ok) : h.cells.toArray.size = 68 := by simp [Hd.len hh]
theorem Hd.one (h : Hd) : ∀ u ∈ h.cells.toArray.toList, u.oneCell' = true := by
  intro u hu
  simp only [Hd.cells, List.mem_cons, List.mem_append, List.mem_map, List.not_mem_nil, or_false] at hu
  rcases hu with rfl | ⟨x, _, rfl⟩ | ⟨x, _, rfl⟩ | rfl | rfl | rfl <;> rfl
theorem Hd.c0 (h : Hd) : h.cells.toArray[0]? = some (.int .i64 h.ver) := rfl
theorem Hd.c65 {h : Hd} (hh : h.ok) : h.cells.toArray[65]? = some (.int .i64 h.time) := by
  simp only [List.getElem?_toArray, Hd.cells, List.getElem?_cons_succ]
  rw [List.getElem?_append_right (by simp [hh.1]), List.getElem?_append_right (by simp [hh.1, hh.2])]
  simp [hh.1, hh.2]
theorem Hd.c66 {h : Hd} (hh : h.ok) : h.cells.toArray[66]? = some (.int .i64 h.bits) := by
  simp only [List.getElem?_toArray, Hd.cells, List.getElem?_cons_succ]
  rw [List.getElem?_append_right (by simp [hh.1]), List.getElem?_append_right (by simp [hh.1, hh.2])]
  simp [hh.1, hh.2]
theorem Hd.c67 {h : Hd} (hh : h.ok) : h.cells.toArray[67]? = some (.int .i64 h.nonce) := by
  simp only [List.getElem?_toArray, Hd.cells, List.getElem?_cons_succ]
  rw [List.getElem?_append_right (by simp [hh.1]), List.getElem?_append_right (by simp [hh.1, hh.2])]
  simp [hh.1, hh.2]
theorem Hd.x1 {h : Hd} (hh : h.ok) : h.cells.toArray.extract 1 (1 + 32) = (h.prev.map bV).toArray := by
  refine extract_of ?_
  show ((h.prev.map bV ++ _)).take 32 = _
  have := List.take_left (l₁ := h.prev.map bV) (l₂ := h.root.map bV ++ [.int .i64 h.time, .int .i64 h.bits, .int .i64 h.nonce])
  rwa [List.length_map, hh.1] at this
theorem Hd.x33 {h : Hd} (hh : h.ok) : h.cells.toArray.extract 33 (33 + 32) = (h.root.map bV).toArray := by
  refine extract_of ?_
  have e : h.cells.toArray.toList.drop 33 = h.root.map bV ++ [.int .i64 h.time, .int .i64 h.bits, .int .i64 h.nonce] := by
    show ((h.prev.map bV ++ _)).drop 32 = _
    have := List.drop_left (l₁ := h.prev.map bV) (l₂ := h.root.map bV ++ [.int .i64 h.time, .int .i64 h.bits, .int .i64 h.nonce])
    rwa [List.length_map, hh.1] at this
  rw [e]
  have := List.take_left (l₁ := h.root.map bV) (l₂ := [.int .i64 h.time, .int .i64 h.bits, .int .i64 h.nonce])
  rwa [List.length_map, hh.2] at this

theorem CGood_spec (n : Int) : CallL Tryz.prog 51 [.int .i64 n] [] (fun r Hs' => r = .bool (decide (0 ≤ n ∧ n < 4294967296)) ∧ Hs' = []) := by
  refine CallL.enter Tryz.func51 Tryz.ntmps51 rfl rfl rfl ?_
  refine EL.seq ?_
  refine EL.region (.p 0 (.nil)) (by kernel_rfl) ?_
  refine EPL.p rfl rfl (q_assign (v := .bool _) rfl) ?_
  refine EPL.nil ?_
  refine EL.go ?_
  refine EL.seq ?_
  refine EL.region (.p 0 (.p 1 (.p 2 (.p 3 (.p 4 (.p 5 (.p 6 (.nil)))))))) (by kernel_rfl) ?_
  refine EPL.p rfl rfl (q_move (v := .int _ _) rfl) ?_
  refine EPL.p rfl rfl (q_geq rfl rfl) ?_
  refine EPL.p rfl rfl (q_move (v := .bool _) rfl) ?_
  refine EPL.bool 5 rfl (fun c1 => ?_) (fun c1 => ?_)
  ·
    have c1 := of_decide_eq_true c1
    refine EPL.p rfl rfl (q_move (v := .int _ _) rfl) ?_
    refine EPL.p rfl rfl (q_leq rfl rfl) ?_
    refine EPL.p rfl rfl (q_pickT (v := .bool _) rfl rfl) ?_
    refine EPL.p rfl rfl (q_assign (v := .bool _) rfl) ?_
    refine EPL.nil ?_
    refine EL.go ?_
    refine EL.ret ?_
    exact end_retP [] (fun _ => rfl) (fun _ => ⟨congrArg Value.bool (by first | exact (decide_eq_false (by  omega)).symm | exact (decide_eq_true (by  omega)).symm | exact decide_eq_decide.2 (by  omega)), rfl⟩)
  ·
    have c1 := of_decide_eq_false c1
    refine EPL.pno rfl rfl ?_
    refine EPL.pno rfl rfl ?_
    refine EPL.p rfl rfl (q_pickF (v := .bool _) rfl rfl) ?_
    refine EPL.p rfl rfl (q_assign (v := .bool _) rfl) ?_
    refine EPL.nil ?_
    refine EL.go ?_
    refine EL.ret ?_
    exact end_retP [] (fun _ => rfl) (fun _ => ⟨congrArg Value.bool (by first | exact (decide_eq_false (by  omega)).symm | exact (decide_eq_true (by  omega)).symm | exact decide_eq_decide.2 (by  omega)), rfl⟩)

theorem HGood_spec (h : Hd) (hh : h.ok) : CallL Tryz.prog 23 [hdV h] [] (fun r Hs' => r = .bool (decide h.Good) ∧ Hs' = []) := by
  refine CallL.enter Tryz.func23 Tryz.ntmps23 rfl rfl rfl ?_
  refine EL.seq ?_
  refine EL.region (.x 0 [] (.p 1 (.nil))) (by kernel_rfl) ?_
  refine EPL.box (c := h.cells.toArray) rfl rfl rfl (fun _ => HeldL.nil) (fun b1 => ?_)
  refine EPL.p rfl rfl (q_assign (v := .bool _) rfl) ?_
  refine EPL.nil ?_
  refine EL.go ?_
  refine EL.seq ?_
  refine EL.region (.p 0 (.l 1 (.p 2 (.p 3 (.p 4 (.l 5 (.p 6 (.p 7 (.p 8 (.p 9 (.l 10 (.p 11 (.p 12 (.p 13 (.p 14 (.l 15 (.p 16 (.p 17 (.p 18 (.p 19 (.l 20 (.x 21 [] (.p 22 (.p 23 (.p 24 (.l 25 (.p 26 (.p 27 (.p 28 (.p 29 (.l 30 (.p 31 (.p 32 (.p 33 (.nil))))))))))))))))))))))))))))))))))) (by kernel_rfl) ?_
  refine EPL.p rfl rfl (q_fieldAddr (p := ⟨_, _, none⟩) Tryz.underlying44 rfl sz3 rfl rfl) ?_
  refine EPL.ld1 (v := .int .i64 _) rfl rfl sc3 rfl (by first | exact Hd.c0 _ | exact Hd.c65 hh | exact Hd.c66 hh | exact Hd.c67 hh) ?_
  refine EPL.p rfl rfl (q_geq rfl rfl) ?_
  refine EPL.p rfl rfl (q_move (v := .bool _) rfl) ?_
  refine EPL.bool 6 rfl (fun c2 => ?_) (fun c2 => ?_)
  ·
    have c2 := of_decide_eq_true c2
    refine EPL.p rfl rfl (q_fieldAddr (p := ⟨_, _, none⟩) Tryz.underlying44 rfl sz3 rfl rfl) ?_
    refine EPL.ld1 (v := .int .i64 _) rfl rfl sc3 rfl (by first | exact Hd.c0 _ | exact Hd.c65 hh | exact Hd.c66 hh | exact Hd.c67 hh) ?_
    refine EPL.p rfl rfl (q_lss rfl rfl) ?_
    refine EPL.p rfl rfl (q_pickT (v := .bool _) rfl rfl) ?_
    refine EPL.p rfl rfl (q_move (v := .bool _) rfl) ?_
    refine EPL.bool 11 rfl (fun c3 => ?_) (fun c3 => ?_)
    ·
      have c3 := of_decide_eq_true c3
      refine EPL.p rfl rfl (q_fieldAddr (p := ⟨_, _, none⟩) Tryz.underlying44 rfl sz3 rfl rfl) ?_
      refine EPL.ld1 (v := .int .i64 _) rfl rfl sc3 rfl (by first | exact Hd.c0 _ | exact Hd.c65 hh | exact Hd.c66 hh | exact Hd.c67 hh) ?_
      refine EPL.p rfl rfl (q_geq rfl rfl) ?_
      refine EPL.p rfl rfl (q_pickT (v := .bool _) rfl rfl) ?_
      refine EPL.p rfl rfl (q_move (v := .bool _) rfl) ?_
      refine EPL.bool 16 rfl (fun c4 => ?_) (fun c4 => ?_)
      ·
        have c4 := of_decide_eq_true c4
        refine EPL.p rfl rfl (q_fieldAddr (p := ⟨_, _, none⟩) Tryz.underlying44 rfl sz3 rfl rfl) ?_
        refine EPL.ld1 (v := .int .i64 _) rfl rfl sc3 rfl (by first | exact Hd.c0 _ | exact Hd.c65 hh | exact Hd.c66 hh | exact Hd.c67 hh) ?_
        refine EPL.p rfl rfl (q_lss rfl rfl) ?_
        refine EPL.p rfl rfl (q_pickT (v := .bool _) rfl rfl) ?_
        refine EPL.p rfl rfl (q_move (v := .bool _) rfl) ?_
        refine EPL.bool 21 rfl (fun c5 => ?_) (fun c5 => ?_)
        ·
          have c5 := of_decide_eq_true c5
          refine EPL.p rfl rfl (q_fieldAddr (p := ⟨_, _, none⟩) Tryz.underlying44 rfl sz3 rfl rfl) ?_
          refine EPL.ld1 (v := .int .i64 _) rfl rfl sc3 rfl (by first | exact Hd.c0 _ | exact Hd.c65 hh | exact Hd.c66 hh | exact Hd.c67 hh) ?_
          refine EPL.cl rfl rfl Tryz.func51 rfl rfl (CGood_spec h.bits) rfl ?_
          rintro _ _ ⟨rfl, rfl⟩
          refine ⟨HeldL.nil, ?_⟩
          refine EPL.p rfl rfl (q_pickT (v := .bool _) rfl rfl) ?_
          refine EPL.p rfl rfl (q_move (v := .bool _) rfl) ?_
          refine EPL.bool 26 rfl (fun c6 => ?_) (fun c6 => ?_)
          ·
            have c6 := of_decide_eq_true c6
            refine EPL.p rfl rfl (q_fieldAddr (p := ⟨_, _, none⟩) Tryz.underlying44 rfl sz3 rfl rfl) ?_
            refine EPL.ld1 (v := .int .i64 _) rfl rfl sc3 rfl (by first | exact Hd.c0 _ | exact Hd.c65 hh | exact Hd.c66 hh | exact Hd.c67 hh) ?_
            refine EPL.p rfl rfl (q_geq rfl rfl) ?_
            refine EPL.p rfl rfl (q_pickT (v := .bool _) rfl rfl) ?_
            refine EPL.p rfl rfl (q_move (v := .bool _) rfl) ?_
            refine EPL.bool 31 rfl (fun c7 => ?_) (fun c7 => ?_)
            ·
              have c7 := of_decide_eq_true c7
              refine EPL.p rfl rfl (q_fieldAddr (p := ⟨_, _, none⟩) Tryz.underlying44 rfl sz3 rfl rfl) ?_
              refine EPL.ld1 (v := .int .i64 _) rfl rfl sc3 rfl (by first | exact Hd.c0 _ | exact Hd.c65 hh | exact Hd.c66 hh | exact Hd.c67 hh) ?_
              refine EPL.p rfl rfl (q_lss rfl rfl) ?_
              refine EPL.p rfl rfl (q_pickT (v := .bool _) rfl rfl) ?_
              refine EPL.p rfl rfl (q_assign (v := .bool _) rfl) ?_
              refine EPL.nil ?_
              refine EL.go ?_
              refine EL.ret ?_
              exact end_retP [] (fun _ => rfl) (fun _ => ⟨congrArg Value.bool (by unfold Hd.Good; first | exact (decide_eq_false (by  omega)).symm | exact (decide_eq_true (by  omega)).symm | exact decide_eq_decide.2 (by  omega)), rfl⟩)
            ·
              have c7 := of_decide_eq_false c7
              refine EPL.pno rfl rfl ?_
              refine EPL.rno rfl rfl ?_
              refine EPL.pno rfl rfl ?_
              refine EPL.p rfl rfl (q_pickF (v := .bool _) rfl rfl) ?_
              refine EPL.p rfl rfl (q_assign (v := .bool _) rfl) ?_
              refine EPL.nil ?_
              refine EL.go ?_
              refine EL.ret ?_
              exact end_retP [] (fun _ => rfl) (fun _ => ⟨congrArg Value.bool (by unfold Hd.Good; first | exact (decide_eq_false (by  omega)).symm | exact (decide_eq_true (by  omega)).symm | exact decide_eq_decide.2 (by  omega)), rfl⟩)
          ·
            have c6 := of_decide_eq_false c6
            refine EPL.pno rfl rfl ?_
            refine EPL.rno rfl rfl ?_
            refine EPL.pno rfl rfl ?_
            refine EPL.p rfl rfl (q_pickF (v := .bool _) rfl rfl) ?_
            refine EPL.p rfl rfl (q_move (v := .bool _) rfl) ?_
            refine EPL.pno rfl rfl ?_
            refine EPL.rno rfl rfl ?_
            refine EPL.pno rfl rfl ?_
            refine EPL.p rfl rfl (q_pickF (v := .bool _) rfl rfl) ?_
            refine EPL.p rfl rfl (q_assign (v := .bool _) rfl) ?_
            refine EPL.nil ?_
            refine EL.go ?_
            refine EL.ret ?_
            exact end_retP [] (fun _ => rfl) (fun _ => ⟨congrArg Value.bool (by unfold Hd.Good; first | exact (decide_eq_false (by  omega)).symm | exact (decide_eq_true (by  omega)).symm | exact decide_eq_decide.2 (by  omega)), rfl⟩)
        ·
          have c5 := of_decide_eq_false c5
          refine EPL.pno rfl rfl ?_
          refine EPL.rno rfl rfl ?_
          refine EPL.xno rfl rfl ?_
          refine EPL.p rfl rfl (q_pickF (v := .bool _) rfl rfl) ?_
          refine EPL.p rfl rfl (q_move (v := .bool _) rfl) ?_
          refine EPL.pno rfl rfl ?_
          refine EPL.rno rfl rfl ?_
          refine EPL.pno rfl rfl ?_
          refine EPL.p rfl rfl (q_pickF (v := .bool _) rfl rfl) ?_
          refine EPL.p rfl rfl (q_move (v := .bool _) rfl) ?_
          refine EPL.pno rfl rfl ?_
          refine EPL.rno rfl rfl ?_
          refine EPL.pno rfl rfl ?_
          refine EPL.p rfl rfl (q_pickF (v := .bool _) rfl rfl) ?_
          refine EPL.p rfl rfl (q_assign (v := .bool _) rfl) ?_
          refine EPL.nil ?_
          refine EL.go ?_
          refine EL.ret ?_
          exact end_retP [] (fun _ => rfl) (fun _ => ⟨congrArg Value.bool (by unfold Hd.Good; first | exact (decide_eq_false (by  omega)).symm | exact (decide_eq_true (by  omega)).symm | exact decide_eq_decide.2 (by  omega)), rfl⟩)
      ·
        have c4 := of_decide_eq_false c4
        refine EPL.pno rfl rfl ?_
        refine EPL.rno rfl rfl ?_
        refine EPL.pno rfl rfl ?_
        refine EPL.p rfl rfl (q_pickF (v := .bool _) rfl rfl) ?_
        refine EPL.p rfl rfl (q_move (v := .bool _) rfl) ?_
        refine EPL.pno rfl rfl ?_
        refine EPL.rno rfl rfl ?_
        refine EPL.xno rfl rfl ?_
        refine EPL.p rfl rfl (q_pickF (v := .bool _) rfl rfl) ?_
        refine EPL.p rfl rfl (q_move (v := .bool _) rfl) ?_
        refine EPL.pno rfl rfl ?_
        refine EPL.rno rfl rfl ?_
        refine EPL.pno rfl rfl ?_
        refine EPL.p rfl rfl (q_pickF (v := .bool _) rfl rfl) ?_
        refine EPL.p rfl rfl (q_move (v := .bool _) rfl) ?_
        refine EPL.pno rfl rfl ?_
        refine EPL.rno rfl rfl ?_
        refine EPL.pno rfl rfl ?_
        refine EPL.p rfl rfl (q_pickF (v := .bool _) rfl rfl) ?_
        refine EPL.p rfl rfl (q_assign (v := .bool _) rfl) ?_
        refine EPL.nil ?_
        refine EL.go ?_
        refine EL.ret ?_
        exact end_retP [] (fun _ => rfl) (fun _ => ⟨congrArg Value.bool (by unfold Hd.Good; first | exact (decide_eq_false (by  omega)).symm | exact (decide_eq_true (by  omega)).symm | exact decide_eq_decide.2 (by  omega)), rfl⟩)
    ·
      have c3 := of_decide_eq_false c3
      refine EPL.pno rfl rfl ?_
      refine EPL.rno rfl rfl ?_
      refine EPL.pno rfl rfl ?_
      refine EPL.p rfl rfl (q_pickF (v := .bool _) rfl rfl) ?_
      refine EPL.p rfl rfl (q_move (v := .bool _) rfl) ?_
      refine EPL.pno rfl rfl ?_
      refine EPL.rno rfl rfl ?_
      refine EPL.pno rfl rfl ?_
      refine EPL.p rfl rfl (q_pickF (v := .bool _) rfl rfl) ?_
      refine EPL.p rfl rfl (q_move (v := .bool _) rfl) ?_
      refine EPL.pno rfl rfl ?_
      refine EPL.rno rfl rfl ?_
      refine EPL.xno rfl rfl ?_
      refine EPL.p rfl rfl (q_pickF (v := .bool _) rfl rfl) ?_
      refine EPL.p rfl rfl (q_move (v := .bool _) rfl) ?_
      refine EPL.pno rfl rfl ?_
      refine EPL.rno rfl rfl ?_
      refine EPL.pno rfl rfl ?_
      refine EPL.p rfl rfl (q_pickF (v := .bool _) rfl rfl) ?_
      refine EPL.p rfl rfl (q_move (v := .bool _) rfl) ?_
      refine EPL.pno rfl rfl ?_
      refine EPL.rno rfl rfl ?_
      refine EPL.pno rfl rfl ?_
      refine EPL.p rfl rfl (q_pickF (v := .bool _) rfl rfl) ?_
      refine EPL.p rfl rfl (q_assign (v := .bool _) rfl) ?_
      refine EPL.nil ?_
      refine EL.go ?_
      refine EL.ret ?_
      exact end_retP [] (fun _ => rfl) (fun _ => ⟨congrArg Value.bool (by unfold Hd.Good; first | exact (decide_eq_false (by  omega)).symm | exact (decide_eq_true (by  omega)).symm | exact decide_eq_decide.2 (by  omega)), rfl⟩)
  ·
    have c2 := of_decide_eq_false c2
    refine EPL.pno rfl rfl ?_
    refine EPL.rno rfl rfl ?_
    refine EPL.pno rfl rfl ?_
    refine EPL.p rfl rfl (q_pickF (v := .bool _) rfl rfl) ?_
    refine EPL.p rfl rfl (q_move (v := .bool _) rfl) ?_
    refine EPL.pno rfl rfl ?_
    refine EPL.rno rfl rfl ?_
    refine EPL.pno rfl rfl ?_
    refine EPL.p rfl rfl (q_pickF (v := .bool _) rfl rfl) ?_
    refine EPL.p rfl rfl (q_move (v := .bool _) rfl) ?_
    refine EPL.pno rfl rfl ?_
    refine EPL.rno rfl rfl ?_
    refine EPL.pno rfl rfl ?_
    refine EPL.p rfl rfl (q_pickF (v := .bool _) rfl rfl) ?_
    refine EPL.p rfl rfl (q_move (v := .bool _) rfl) ?_
    refine EPL.pno rfl rfl ?_
    refine EPL.rno rfl rfl ?_
    refine EPL.xno rfl rfl ?_
    refine EPL.p rfl rfl (q_pickF (v := .bool _) rfl rfl) ?_
    refine EPL.p rfl rfl (q_move (v := .bool _) rfl) ?_
    refine EPL.pno rfl rfl ?_
    refine EPL.rno rfl rfl ?_
    refine EPL.pno rfl rfl ?_
    refine EPL.p rfl rfl (q_pickF (v := .bool _) rfl rfl) ?_
    refine EPL.p rfl rfl (q_move (v := .bool _) rfl) ?_
    refine EPL.pno rfl rfl ?_
    refine EPL.rno rfl rfl ?_
    refine EPL.pno rfl rfl ?_
    refine EPL.p rfl rfl (q_pickF (v := .bool _) rfl rfl) ?_
    refine EPL.p rfl rfl (q_assign (v := .bool _) rfl) ?_
    refine EPL.nil ?_
    refine EL.go ?_
    refine EL.ret ?_
    exact end_retP [] (fun _ => rfl) (fun _ => ⟨congrArg Value.bool (by unfold Hd.Good; first | exact (decide_eq_false (by  omega)).symm | exact (decide_eq_true (by  omega)).symm | exact decide_eq_decide.2 (by  omega)), rfl⟩)

theorem RHGood_spec (h : Hd) (hh : h.ok) : CallL Tryz.prog 16 [hdV h] [] (fun r Hs' => r = .bool (decide h.Good) ∧ Hs' = []) := by
  refine CallL.enter Tryz.func16 Tryz.ntmps16 rfl rfl rfl ?_
  refine EL.seq ?_
  refine EL.region (.x 0 [] (.p 1 (.nil))) (by kernel_rfl) ?_
  refine EPL.box (c := h.cells.toArray) rfl rfl rfl (fun _ => HeldL.nil) (fun b1 => ?_)
  refine EPL.p rfl rfl (q_assign (v := .bool _) rfl) ?_
  refine EPL.nil ?_
  refine EL.go ?_
  refine EL.seq ?_
  refine EL.region (.p 0 (.nil)) (by kernel_rfl) ?_
  refine EPL.p rfl rfl (q_assign (v := .int _ _) rfl) ?_
  refine EPL.nil ?_
  refine EL.go ?_
  refine EL.seq ?_
  refine EL.region (.p 0 (.l 1 (.p 2 (.p 3 (.p 4 (.l 5 (.p 6 (.p 7 (.p 8 (.p 9 (.l 10 (.p 11 (.p 12 (.p 13 (.p 14 (.l 15 (.p 16 (.p 17 (.p 18 (.p 19 (.p 20 (.l 21 (.p 22 (.p 23 (.p 24 (.p 25 (.l 26 (.p 27 (.p 28 (.p 29 (.p 30 (.p 31 (.l 32 (.p 33 (.p 34 (.p 35 (.p 36 (.l 37 (.p 38 (.p 39 (.p 40 (.p 41 (.nil))))))))))))))))))))))))))))))))))))))))))) (by kernel_rfl) ?_
  refine EPL.p rfl rfl (q_fieldAddr (p := ⟨_, _, none⟩) Tryz.underlying44 rfl sz3 rfl rfl) ?_
  refine EPL.ld1 (v := .int .i64 _) rfl rfl sc3 rfl (by first | exact Hd.c0 _ | exact Hd.c65 hh | exact Hd.c66 hh | exact Hd.c67 hh) ?_
  refine EPL.p rfl rfl (q_geq rfl rfl) ?_
  refine EPL.p rfl rfl (q_move (v := .bool _) rfl) ?_
  refine EPL.bool 7 rfl (fun c2 => ?_) (fun c2 => ?_)
  ·
    have c2 := of_decide_eq_true c2
    refine EPL.p rfl rfl (q_fieldAddr (p := ⟨_, _, none⟩) Tryz.underlying44 rfl sz3 rfl rfl) ?_
    refine EPL.ld1 (v := .int .i64 _) rfl rfl sc3 rfl (by first | exact Hd.c0 _ | exact Hd.c65 hh | exact Hd.c66 hh | exact Hd.c67 hh) ?_
    refine EPL.p rfl rfl (q_leq rfl rfl) ?_
    refine EPL.p rfl rfl (q_pickT (v := .bool _) rfl rfl) ?_
    refine EPL.p rfl rfl (q_move (v := .bool _) rfl) ?_
    refine EPL.bool 12 rfl (fun c3 => ?_) (fun c3 => ?_)
    ·
      have c3 := of_decide_eq_true c3
      refine EPL.p rfl rfl (q_fieldAddr (p := ⟨_, _, none⟩) Tryz.underlying44 rfl sz3 rfl rfl) ?_
      refine EPL.ld1 (v := .int .i64 _) rfl rfl sc3 rfl (by first | exact Hd.c0 _ | exact Hd.c65 hh | exact Hd.c66 hh | exact Hd.c67 hh) ?_
      refine EPL.p rfl rfl (q_geq rfl rfl) ?_
      refine EPL.p rfl rfl (q_pickT (v := .bool _) rfl rfl) ?_
      refine EPL.p rfl rfl (q_move (v := .bool _) rfl) ?_
      refine EPL.bool 17 rfl (fun c4 => ?_) (fun c4 => ?_)
      ·
        have c4 := of_decide_eq_true c4
        refine EPL.p rfl rfl (q_fieldAddr (p := ⟨_, _, none⟩) Tryz.underlying44 rfl sz3 rfl rfl) ?_
        refine EPL.ld1 (v := .int .i64 _) rfl rfl sc3 rfl (by first | exact Hd.c0 _ | exact Hd.c65 hh | exact Hd.c66 hh | exact Hd.c67 hh) ?_
        refine EPL.p rfl rfl (q_move (v := .int _ _) rfl) ?_
        refine EPL.p rfl rfl (q_lss rfl rfl) ?_
        refine EPL.p rfl rfl (q_pickT (v := .bool _) rfl rfl) ?_
        refine EPL.p rfl rfl (q_move (v := .bool _) rfl) ?_
        refine EPL.bool 23 rfl (fun c5 => ?_) (fun c5 => ?_)
        ·
          have c5 := of_decide_eq_true c5
          refine EPL.p rfl rfl (q_fieldAddr (p := ⟨_, _, none⟩) Tryz.underlying44 rfl sz3 rfl rfl) ?_
          refine EPL.ld1 (v := .int .i64 _) rfl rfl sc3 rfl (by first | exact Hd.c0 _ | exact Hd.c65 hh | exact Hd.c66 hh | exact Hd.c67 hh) ?_
          refine EPL.p rfl rfl (q_geq rfl rfl) ?_
          refine EPL.p rfl rfl (q_pickT (v := .bool _) rfl rfl) ?_
          refine EPL.p rfl rfl (q_move (v := .bool _) rfl) ?_
          refine EPL.bool 28 rfl (fun c6 => ?_) (fun c6 => ?_)
          ·
            have c6 := of_decide_eq_true c6
            refine EPL.p rfl rfl (q_fieldAddr (p := ⟨_, _, none⟩) Tryz.underlying44 rfl sz3 rfl rfl) ?_
            refine EPL.ld1 (v := .int .i64 _) rfl rfl sc3 rfl (by first | exact Hd.c0 _ | exact Hd.c65 hh | exact Hd.c66 hh | exact Hd.c67 hh) ?_
            refine EPL.p rfl rfl (q_move (v := .int _ _) rfl) ?_
            refine EPL.p rfl rfl (q_lss rfl rfl) ?_
            refine EPL.p rfl rfl (q_pickT (v := .bool _) rfl rfl) ?_
            refine EPL.p rfl rfl (q_move (v := .bool _) rfl) ?_
            refine EPL.bool 34 rfl (fun c7 => ?_) (fun c7 => ?_)
            ·
              have c7 := of_decide_eq_true c7
              refine EPL.p rfl rfl (q_fieldAddr (p := ⟨_, _, none⟩) Tryz.underlying44 rfl sz3 rfl rfl) ?_
              refine EPL.ld1 (v := .int .i64 _) rfl rfl sc3 rfl (by first | exact Hd.c0 _ | exact Hd.c65 hh | exact Hd.c66 hh | exact Hd.c67 hh) ?_
              refine EPL.p rfl rfl (q_geq rfl rfl) ?_
              refine EPL.p rfl rfl (q_pickT (v := .bool _) rfl rfl) ?_
              refine EPL.p rfl rfl (q_move (v := .bool _) rfl) ?_
              refine EPL.bool 39 rfl (fun c8 => ?_) (fun c8 => ?_)
              ·
                have c8 := of_decide_eq_true c8
                refine EPL.p rfl rfl (q_fieldAddr (p := ⟨_, _, none⟩) Tryz.underlying44 rfl sz3 rfl rfl) ?_
                refine EPL.ld1 (v := .int .i64 _) rfl rfl sc3 rfl (by first | exact Hd.c0 _ | exact Hd.c65 hh | exact Hd.c66 hh | exact Hd.c67 hh) ?_
                refine EPL.p rfl rfl (q_move (v := .int _ _) rfl) ?_
                refine EPL.p rfl rfl (q_lss rfl rfl) ?_
                refine EPL.p rfl rfl (q_pickT (v := .bool _) rfl rfl) ?_
                refine EPL.p rfl rfl (q_assign (v := .bool _) rfl) ?_
                refine EPL.nil ?_
                refine EL.go ?_
                refine EL.ret ?_
                exact end_retP [] (fun _ => rfl) (fun _ => ⟨congrArg Value.bool (by unfold Hd.Good; first | exact (decide_eq_false (by  omega)).symm | exact (decide_eq_true (by  omega)).symm | exact decide_eq_decide.2 (by  omega)), rfl⟩)
              ·
                have c8 := of_decide_eq_false c8
                refine EPL.pno rfl rfl ?_
                refine EPL.rno rfl rfl ?_
                refine EPL.pno rfl rfl ?_
                refine EPL.pno rfl rfl ?_
                refine EPL.p rfl rfl (q_pickF (v := .bool _) rfl rfl) ?_
                refine EPL.p rfl rfl (q_assign (v := .bool _) rfl) ?_
                refine EPL.nil ?_
                refine EL.go ?_
                refine EL.ret ?_
                exact end_retP [] (fun _ => rfl) (fun _ => ⟨congrArg Value.bool (by unfold Hd.Good; first | exact (decide_eq_false (by  omega)).symm | exact (decide_eq_true (by  omega)).symm | exact decide_eq_decide.2 (by  omega)), rfl⟩)
            ·
              have c7 := of_decide_eq_false c7
              refine EPL.pno rfl rfl ?_
              refine EPL.rno rfl rfl ?_
              refine EPL.pno rfl rfl ?_
              refine EPL.p rfl rfl (q_pickF (v := .bool _) rfl rfl) ?_
              refine EPL.p rfl rfl (q_move (v := .bool _) rfl) ?_
              refine EPL.pno rfl rfl ?_
              refine EPL.rno rfl rfl ?_
              refine EPL.pno rfl rfl ?_
              refine EPL.pno rfl rfl ?_
              refine EPL.p rfl rfl (q_pickF (v := .bool _) rfl rfl) ?_
              refine EPL.p rfl rfl (q_assign (v := .bool _) rfl) ?_
              refine EPL.nil ?_
              refine EL.go ?_
              refine EL.ret ?_
              exact end_retP [] (fun _ => rfl) (fun _ => ⟨congrArg Value.bool (by unfold Hd.Good; first | exact (decide_eq_false (by  omega)).symm | exact (decide_eq_true (by  omega)).symm | exact decide_eq_decide.2 (by  omega)), rfl⟩)
          ·
            have c6 := of_decide_eq_false c6
            refine EPL.pno rfl rfl ?_
            refine EPL.rno rfl rfl ?_
            refine EPL.pno rfl rfl ?_
            refine EPL.pno rfl rfl ?_
            refine EPL.p rfl rfl (q_pickF (v := .bool _) rfl rfl) ?_
            refine EPL.p rfl rfl (q_move (v := .bool _) rfl) ?_
            refine EPL.pno rfl rfl ?_
            refine EPL.rno rfl rfl ?_
            refine EPL.pno rfl rfl ?_
            refine EPL.p rfl rfl (q_pickF (v := .bool _) rfl rfl) ?_
            refine EPL.p rfl rfl (q_move (v := .bool _) rfl) ?_
            refine EPL.pno rfl rfl ?_
            refine EPL.rno rfl rfl ?_
            refine EPL.pno rfl rfl ?_
            refine EPL.pno rfl rfl ?_
            refine EPL.p rfl rfl (q_pickF (v := .bool _) rfl rfl) ?_
            refine EPL.p rfl rfl (q_assign (v := .bool _) rfl) ?_
            refine EPL.nil ?_
            refine EL.go ?_
            refine EL.ret ?_
            exact end_retP [] (fun _ => rfl) (fun _ => ⟨congrArg Value.bool (by unfold Hd.Good; first | exact (decide_eq_false (by  omega)).symm | exact (decide_eq_true (by  omega)).symm | exact decide_eq_decide.2 (by  omega)), rfl⟩)
        ·
          have c5 := of_decide_eq_false c5
          refine EPL.pno rfl rfl ?_
          refine EPL.rno rfl rfl ?_
          refine EPL.pno rfl rfl ?_
          refine EPL.p rfl rfl (q_pickF (v := .bool _) rfl rfl) ?_
          refine EPL.p rfl rfl (q_move (v := .bool _) rfl) ?_
          refine EPL.pno rfl rfl ?_
          refine EPL.rno rfl rfl ?_
          refine EPL.pno rfl rfl ?_
          refine EPL.pno rfl rfl ?_
          refine EPL.p rfl rfl (q_pickF (v := .bool _) rfl rfl) ?_
          refine EPL.p rfl rfl (q_move (v := .bool _) rfl) ?_
          refine EPL.pno rfl rfl ?_
          refine EPL.rno rfl rfl ?_
          refine EPL.pno rfl rfl ?_
          refine EPL.p rfl rfl (q_pickF (v := .bool _) rfl rfl) ?_
          refine EPL.p rfl rfl (q_move (v := .bool _) rfl) ?_
          refine EPL.pno rfl rfl ?_
          refine EPL.rno rfl rfl ?_
          refine EPL.pno rfl rfl ?_
          refine EPL.pno rfl rfl ?_
          refine EPL.p rfl rfl (q_pickF (v := .bool _) rfl rfl) ?_
          refine EPL.p rfl rfl (q_assign (v := .bool _) rfl) ?_
          refine EPL.nil ?_
          refine EL.go ?_
          refine EL.ret ?_
          exact end_retP [] (fun _ => rfl) (fun _ => ⟨congrArg Value.bool (by unfold Hd.Good; first | exact (decide_eq_false (by  omega)).symm | exact (decide_eq_true (by  omega)).symm | exact decide_eq_decide.2 (by  omega)), rfl⟩)
      ·
        have c4 := of_decide_eq_false c4
        refine EPL.pno rfl rfl ?_
        refine EPL.rno rfl rfl ?_
        refine EPL.pno rfl rfl ?_
        refine EPL.pno rfl rfl ?_
        refine EPL.p rfl rfl (q_pickF (v := .bool _) rfl rfl) ?_
        refine EPL.p rfl rfl (q_move (v := .bool _) rfl) ?_
        refine EPL.pno rfl rfl ?_
        refine EPL.rno rfl rfl ?_
        refine EPL.pno rfl rfl ?_
        refine EPL.p rfl rfl (q_pickF (v := .bool _) rfl rfl) ?_
        refine EPL.p rfl rfl (q_move (v := .bool _) rfl) ?_
        refine EPL.pno rfl rfl ?_
        refine EPL.rno rfl rfl ?_
        refine EPL.pno rfl rfl ?_
        refine EPL.pno rfl rfl ?_
        refine EPL.p rfl rfl (q_pickF (v := .bool _) rfl rfl) ?_
        refine EPL.p rfl rfl (q_move (v := .bool _) rfl) ?_
        refine EPL.pno rfl rfl ?_
        refine EPL.rno rfl rfl ?_
        refine EPL.pno rfl rfl ?_
        refine EPL.p rfl rfl (q_pickF (v := .bool _) rfl rfl) ?_
        refine EPL.p rfl rfl (q_move (v := .bool _) rfl) ?_
        refine EPL.pno rfl rfl ?_
        refine EPL.rno rfl rfl ?_
        refine EPL.pno rfl rfl ?_
        refine EPL.pno rfl rfl ?_
        refine EPL.p rfl rfl (q_pickF (v := .bool _) rfl rfl) ?_
        refine EPL.p rfl rfl (q_assign (v := .bool _) rfl) ?_
        refine EPL.nil ?_
        refine EL.go ?_
        refine EL.ret ?_
        exact end_retP [] (fun _ => rfl) (fun _ => ⟨congrArg Value.bool (by unfold Hd.Good; first | exact (decide_eq_false (by  omega)).symm | exact (decide_eq_true (by  omega)).symm | exact decide_eq_decide.2 (by  omega)), rfl⟩)
    ·
      have c3 := of_decide_eq_false c3
      refine EPL.pno rfl rfl ?_
      refine EPL.rno rfl rfl ?_
      refine EPL.pno rfl rfl ?_
      refine EPL.p rfl rfl (q_pickF (v := .bool _) rfl rfl) ?_
      refine EPL.p rfl rfl (q_move (v := .bool _) rfl) ?_
      refine EPL.pno rfl rfl ?_
      refine EPL.rno rfl rfl ?_
      refine EPL.pno rfl rfl ?_
      refine EPL.pno rfl rfl ?_
      refine EPL.p rfl rfl (q_pickF (v := .bool _) rfl rfl) ?_
      refine EPL.p rfl rfl (q_move (v := .bool _) rfl) ?_
      refine EPL.pno rfl rfl ?_
      refine EPL.rno rfl rfl ?_
      refine EPL.pno rfl rfl ?_
      refine EPL.p rfl rfl (q_pickF (v := .bool _) rfl rfl) ?_
      refine EPL.p rfl rfl (q_move (v := .bool _) rfl) ?_
      refine EPL.pno rfl rfl ?_
      refine EPL.rno rfl rfl ?_
      refine EPL.pno rfl rfl ?_
      refine EPL.pno rfl rfl ?_
      refine EPL.p rfl rfl (q_pickF (v := .bool _) rfl rfl) ?_
      refine EPL.p rfl rfl (q_move (v := .bool _) rfl) ?_
      refine EPL.pno rfl rfl ?_
      refine EPL.rno rfl rfl ?_
      refine EPL.pno rfl rfl ?_
      refine EPL.p rfl rfl (q_pickF (v := .bool _) rfl rfl) ?_
      refine EPL.p rfl rfl (q_move (v := .bool _) rfl) ?_
      refine EPL.pno rfl rfl ?_
      refine EPL.rno rfl rfl ?_
      refine EPL.pno rfl rfl ?_
      refine EPL.pno rfl rfl ?_
      refine EPL.p rfl rfl (q_pickF (v := .bool _) rfl rfl) ?_
      refine EPL.p rfl rfl (q_assign (v := .bool _) rfl) ?_
      refine EPL.nil ?_
      refine EL.go ?_
      refine EL.ret ?_
      exact end_retP [] (fun _ => rfl) (fun _ => ⟨congrArg Value.bool (by unfold Hd.Good; first | exact (decide_eq_false (by  omega)).symm | exact (decide_eq_true (by  omega)).symm | exact decide_eq_decide.2 (by  omega)), rfl⟩)
  ·
    have c2 := of_decide_eq_false c2
    refine EPL.pno rfl rfl ?_
    refine EPL.rno rfl rfl ?_
    refine EPL.pno rfl rfl ?_
    refine EPL.p rfl rfl (q_pickF (v := .bool _) rfl rfl) ?_
    refine EPL.p rfl rfl (q_move (v := .bool _) rfl) ?_
    refine EPL.pno rfl rfl ?_
    refine EPL.rno rfl rfl ?_
    refine EPL.pno rfl rfl ?_
    refine EPL.p rfl rfl (q_pickF (v := .bool _) rfl rfl) ?_
    refine EPL.p rfl rfl (q_move (v := .bool _) rfl) ?_
    refine EPL.pno rfl rfl ?_
    refine EPL.rno rfl rfl ?_
    refine EPL.pno rfl rfl ?_
    refine EPL.pno rfl rfl ?_
    refine EPL.p rfl rfl (q_pickF (v := .bool _) rfl rfl) ?_
    refine EPL.p rfl rfl (q_move (v := .bool _) rfl) ?_
    refine EPL.pno rfl rfl ?_
    refine EPL.rno rfl rfl ?_
    refine EPL.pno rfl rfl ?_
    refine EPL.p rfl rfl (q_pickF (v := .bool _) rfl rfl) ?_
    refine EPL.p rfl rfl (q_move (v := .bool _) rfl) ?_
    refine EPL.pno rfl rfl ?_
    refine EPL.rno rfl rfl ?_
    refine EPL.pno rfl rfl ?_
    refine EPL.pno rfl rfl ?_
    refine EPL.p rfl rfl (q_pickF (v := .bool _) rfl rfl) ?_
    refine EPL.p rfl rfl (q_move (v := .bool _) rfl) ?_
    refine EPL.pno rfl rfl ?_
    refine EPL.rno rfl rfl ?_
    refine EPL.pno rfl rfl ?_
    refine EPL.p rfl rfl (q_pickF (v := .bool _) rfl rfl) ?_
    refine EPL.p rfl rfl (q_move (v := .bool _) rfl) ?_
    refine EPL.pno rfl rfl ?_
    refine EPL.rno rfl rfl ?_
    refine EPL.pno rfl rfl ?_
    refine EPL.pno rfl rfl ?_
    refine EPL.p rfl rfl (q_pickF (v := .bool _) rfl rfl) ?_
    refine EPL.p rfl rfl (q_assign (v := .bool _) rfl) ?_
    refine EPL.nil ?_
    refine EL.go ?_
    refine EL.ret ?_
    exact end_retP [] (fun _ => rfl) (fun _ => ⟨congrArg Value.bool (by unfold Hd.Good; first | exact (decide_eq_false (by  omega)).symm | exact (decide_eq_true (by  omega)).symm | exact decide_eq_decide.2 (by  omega)), rfl⟩)

end Go.Proofs.YtedkoebbijpnfaaGreatDoor

namespace Go.Proofs.YtedkoebbijpnfaaGreatDoor
open Go Go.Proofs.YtedkoebbijpnfaaGreatDoor.TH
set_option maxHeartbeats 1000000

theorem shr_zero {n : Int} (h0 : 0 ≤ n) {k : Nat} (hk : k ≤ 7) : (bShr .i64 n (IntKind.u64.wrap (IntKind.i64.wrap (8 * (k : Int)))) = 0) ↔ n < 2 ^ (8 * k) := by
  rw [wrap_i64_in (by omega), wrap_u64_in (by omega)]
  unfold bShr
  have e : min (8 * (k : Int)).toNat IntKind.i64.bits = 8 * k := by simp [IntKind.bits]; omega
  rw [e, Int.fdiv_eq_ediv_of_nonneg _ (Int.le_of_lt (Int.pow_pos (by decide)))]
  have hp : (0 : Int) < 2 ^ (8 * k) := Int.pow_pos (by decide)
  constructor
  · intro h
    have h1 := Int.mul_ediv_add_emod n (2 ^ (8 * k))
    have h2 := Int.emod_lt_of_pos n hp
    rw [h] at h1; omega
  · intro h; exact Int.ediv_eq_zero_of_lt h0 h
theorem shl_one {k : Nat} (hk : k ≤ 7) : bShl .i64 1 (IntKind.i64.wrap (8 * (k : Int))) = 2 ^ (8 * k) := by
  match k, hk with
  | 0, _ => decide
  | 1, _ => decide
  | 2, _ => decide
  | 3, _ => decide
  | 4, _ => decide
  | 5, _ => decide
  | 6, _ => decide
  | 7, _ => decide

theorem In_spec (n : Int) (k : Nat) (hk : k ≤ 7) : CallL Tryz.prog 15 [.int .i64 n, .int .i64 (k : Int)] [] (fun r Hs' => r = .bool (decide (0 ≤ n ∧ n < 2 ^ (8 * k))) ∧ Hs' = []) := by
  refine CallL.enter Tryz.func15 Tryz.ntmps15 rfl rfl rfl ?_
  refine EL.seq ?_
  refine EL.region (.p 0 (.nil)) (by kernel_rfl) ?_
  refine EPL.p rfl rfl (q_assign (v := .bool _) rfl) ?_
  refine EPL.nil ?_
  refine EL.go ?_
  refine EL.seq ?_
  refine EL.region (.p 0 (.p 1 (.p 2 (.p 3 (.p 4 (.p 5 (.p 6 (.p 7 (.p 8 (.p 9 (.p 10 (.nil)))))))))))) (by kernel_rfl) ?_
  refine EPL.p rfl rfl (q_move (v := .int _ _) rfl) ?_
  refine EPL.p rfl rfl (q_geq rfl rfl) ?_
  refine EPL.p rfl rfl (q_move (v := .bool _) rfl) ?_
  refine EPL.bool 7 rfl (fun c1 => ?_) (fun c1 => ?_)
  ·
    have c1 := of_decide_eq_true c1
    refine EPL.p rfl rfl (q_move (v := .int _ _) rfl) ?_
    refine EPL.p rfl rfl (q_move (v := .int _ _) rfl) ?_
    refine EPL.p rfl rfl (q_mul rfl rfl) ?_
    refine EPL.p rfl rfl (q_conv Tryz.underlying3 Tryz.underlying68 rfl) ?_
    refine EPL.p rfl rfl (q_shr rfl rfl (by first | decide | omega | (rw [wrap_i64_in (by omega), wrap_u64_in (by omega)]; omega) | (rw [wrap_i64_in (by omega)]; omega))) ?_
    refine EPL.p rfl rfl (q_eql rfl rfl) ?_
    refine EPL.p rfl rfl (q_pickT (v := .bool _) rfl rfl) ?_
    refine EPL.p rfl rfl (q_assign (v := .bool _) rfl) ?_
    refine EPL.nil ?_
    refine EL.go ?_
    refine EL.ret ?_
    exact end_retP [] (fun _ => rfl) (fun _ => ⟨congrArg Value.bool (decide_eq_decide.2 ⟨fun h => ⟨by omega, (shr_zero (by omega) hk).1 h⟩, fun h => (shr_zero (by omega) hk).2 h.2⟩), rfl⟩)
  ·
    have c1 := of_decide_eq_false c1
    refine EPL.pno rfl rfl ?_
    refine EPL.pno rfl rfl ?_
    refine EPL.pno rfl rfl ?_
    refine EPL.pno rfl rfl ?_
    refine EPL.pno rfl rfl ?_
    refine EPL.pno rfl rfl ?_
    refine EPL.p rfl rfl (q_pickF (v := .bool _) rfl rfl) ?_
    refine EPL.p rfl rfl (q_assign (v := .bool _) rfl) ?_
    refine EPL.nil ?_
    refine EL.go ?_
    refine EL.ret ?_
    exact end_retP [] (fun _ => rfl) (fun _ => ⟨congrArg Value.bool (decide_eq_false (by omega)).symm, rfl⟩)

theorem Small_spec (k : Nat) (hk : k ≤ 7) (la : Option Addr) (lc : Nat) (ns : List Int) (I : Hp) (hI : RdS 1 (.slice la ns.length lc) ns.length (ns.flatMap fun n => [Value.int .i64 n]) I) : CallL Tryz.prog 20 [.int .i64 (k : Int), .slice la ns.length lc] [I] (fun r Hs' => r = .bool (decide (∀ n ∈ ns, 0 ≤ n ∧ n < 2 ^ (8 * k))) ∧ Hs' = [I]) := by
  refine CallL.enter Tryz.func20 Tryz.ntmps20 rfl rfl rfl ?_
  have hmx := hI.max
  have h1k := shl_one hk
  refine EL.seq ?_
  refine EL.region (.p 0 (.nil)) (by kernel_rfl) ?_
  refine EPL.p rfl rfl (q_assign (v := .bool _) rfl) ?_
  refine EPL.nil ?_
  refine EL.go ?_
  refine EL.seq ?_
  refine EL.seq ?_
  refine EL.region (.p 0 (.p 1 (.p 2 (.nil)))) (by kernel_rfl) ?_
  refine EPL.p rfl rfl (q_move (v := .slice _ _ _) rfl) ?_
  refine EPL.p rfl rfl (q_lenSl Tryz.underlying82 rfl) ?_
  refine EPL.p rfl rfl (q_move (v := .int _ _) rfl) ?_
  refine EPL.nil ?_
  refine EL.go ?_
  refine EL.block ?_
  refine EL.loop [4, 6, 9, 10, 11, 12, 13, 14, 15, 16, 17, 18, 19, 20, 21, 22] (fun i : Nat => [(9, .int .i64 i)]) (fun m i Hs' => m + i = ns.length ∧ Hs' = [I] ∧ ∀ n ∈ ns.take i, 0 ≤ n ∧ n < 2 ^ (8 * k)) ns.length 0 ⟨by omega, rfl, by simp⟩ ⟨rfl, trivial⟩ ?_
  rintro m i _ j ⟨hm, rfl, hall⟩
  refine EL.seq ?_
  refine EL.region (.p 0 (.nil)) (by kernel_rfl) ?_
  refine EPL.p rfl rfl (q_lss rfl rfl) ?_
  refine EPL.nil ?_
  refine EL.go ?_
  refine EL.seq ?_
  refine EL.cond rfl (fun c1 => ?_) (fun c1 => ?_)
  ·
    have c1 := of_decide_eq_true c1
    obtain ⟨n, hx⟩ : ∃ n, ns[i]? = some n := ⟨_, List.getElem?_eq_getElem (by omega)⟩
    have hn := List.mem_of_getElem? hx
    have hnx : ns.take (i + 1) = ns.take i ++ [n] := by obtain ⟨hi2, hx2⟩ := List.getElem?_eq_some_iff.1 hx; rw [List.take_succ_eq_append_getElem hi2, hx2]
    obtain ⟨b, off, cap, cc, ety, fr, he, hbI, hc1⟩ := hI.get1 (f := fun n : Int => Value.int .i64 n) hx
    obtain ⟨rfl, rfl⟩ : la = some ⟨b, off, none⟩ ∧ lc = cap := by simpa using he
    refine EL.skip ?_
    refine EL.go ?_
    refine EL.seq ?_
    refine EL.block ?_
    refine EL.seq ?_
    refine EL.region (.p 0 (.l 1 (.p 2 (.nil)))) (by kernel_rfl) ?_
    refine EPL.p rfl rfl (q_idxSl Tryz.underlying82 sz3 rfl rfl (by omega) (by omega)) ?_
    refine EPL.ld1P (v := .int _ _) rfl rfl sc3 rfl hbI (by rw [Nat.mul_one]; exact hc1) ?_
    refine EPL.p rfl rfl (q_assign (v := .int _ _) rfl) ?_
    refine EPL.nil ?_
    refine EL.go ?_
    refine EL.seq ?_
    refine EL.region (.p 0 (.p 1 (.p 2 (.p 3 (.p 4 (.p 5 (.p 6 (.p 7 (.p 8 (.nil)))))))))) (by kernel_rfl) ?_
    refine EPL.p rfl rfl (q_move (v := .int _ _) rfl) ?_
    refine EPL.p rfl rfl (q_lss rfl rfl) ?_
    refine EPL.p rfl rfl (q_move (v := .bool _) rfl) ?_
    refine EPL.bool 15 rfl (fun c2 => ?_) (fun c2 => ?_)
    ·
      have c2 := of_decide_eq_true c2
      refine EPL.pno rfl rfl ?_
      refine EPL.pno rfl rfl ?_
      refine EPL.pno rfl rfl ?_
      refine EPL.pno rfl rfl ?_
      refine EPL.pno rfl rfl ?_
      refine EPL.p rfl rfl (q_pickT (v := .bool _) rfl rfl) ?_
      refine EPL.nil ?_
      refine EL.go ?_
      refine EL.yes rfl ?_
      refine EL.seq ?_
      refine EL.region (.p 0 (.nil)) (by kernel_rfl) ?_
      refine EPL.p rfl rfl (q_assign (v := .bool _) rfl) ?_
      refine EPL.nil ?_
      refine EL.go ?_
      refine EL.ret ?_
      exact end_retP [I] (fun _ => rfl) (fun _ => ⟨congrArg Value.bool (decide_eq_false (fun h => by have := h n hn; omega)).symm, rfl⟩)
    ·
      have c2 := of_decide_eq_false c2
      refine EPL.p rfl rfl (q_move (v := .int _ _) rfl) ?_
      refine EPL.p rfl rfl (q_move (v := .int _ _) rfl) ?_
      refine EPL.p rfl rfl (q_mul rfl rfl) ?_
      refine EPL.p rfl rfl (q_shl rfl rfl (by first | decide | omega | (rw [wrap_i64_in (by omega)]; omega) | (rw [wrap_i64_in (by omega)]; omega))) ?_
      refine EPL.p rfl rfl (q_geq rfl rfl) ?_
      refine EPL.p rfl rfl (q_pickF (v := .bool _) rfl rfl) ?_
      refine EPL.nil ?_
      refine EL.go ?_
      refine EL.cond rfl (fun c3 => ?_) (fun c3 => ?_)
      ·
        have c3 := of_decide_eq_true c3
        refine EL.seq ?_
        refine EL.region (.p 0 (.nil)) (by kernel_rfl) ?_
        refine EPL.p rfl rfl (q_assign (v := .bool _) rfl) ?_
        refine EPL.nil ?_
        refine EL.go ?_
        refine EL.ret ?_
        rw [h1k] at c3
        exact end_retP [I] (fun _ => rfl) (fun _ => ⟨congrArg Value.bool (decide_eq_false (fun h => by have := h n hn; omega)).symm, rfl⟩)
      ·
        have c3 := of_decide_eq_false c3
        refine EL.skip ?_
        refine EL.go ?_
        refine EL.region (.p 0 (.p 1 (.nil))) (by kernel_rfl) ?_
        refine EPL.p rfl rfl (q_add rfl rfl) ?_
        refine EPL.p rfl rfl (q_move (v := .int _ _) rfl) ?_
        refine EPL.nil ?_
        refine RoundQ.mk (m - 1) (i + 1) (by omega) ⟨by omega, rfl, by rw [hnx]; intro z hz; rcases List.mem_append.1 hz with h | h; exact hall z h; (obtain rfl := List.mem_singleton.1 h); rw [h1k] at *; omega⟩ (by repeat first | refine Off.upd rfl ?_ | exact Off.mix | refine Off.upds rfl ?_ | refine Off.mixs rfl ?_ | exact Off.refl) ⟨congrArg (Value.int .i64) (wrap_i64_in (by omega)), trivial⟩
  ·
    have c1 := of_decide_eq_false c1
    have ht : ns.take i = ns := List.take_of_length_le (by omega)
    rw [ht] at hall
    refine EL.exit ?_
    refine EL.go ?_
    refine EL.seq ?_
    refine EL.region (.p 0 (.nil)) (by kernel_rfl) ?_
    refine EPL.p rfl rfl (q_assign (v := .bool _) rfl) ?_
    refine EPL.nil ?_
    refine EL.go ?_
    refine EL.ret ?_
    exact end_retP [I] (fun _ => rfl) (fun _ => ⟨congrArg Value.bool (decide_eq_true hall).symm, rfl⟩)

end Go.Proofs.YtedkoebbijpnfaaGreatDoor

namespace Go.Proofs.YtedkoebbijpnfaaGreatDoor
open Go Go.Proofs.YtedkoebbijpnfaaGreatDoor.TH
set_option maxHeartbeats 1000000

def words8 : List (List UInt8) := [[118, 101, 114, 115, 105, 111, 110], [118, 101, 114, 97, 99, 107], [103, 101, 116, 104, 101, 97, 100, 101, 114, 115], [104, 101, 97, 100, 101, 114, 115], [105, 110, 118], [112, 105, 110, 103], [112, 111, 110, 103], [115, 101, 110, 100, 104, 101, 97, 100, 101, 114, 115]]
abbrev words9 : List (List UInt8) := [] :: words8
abbrev GW (G : Hp) : Prop := ∃ fr, G 0 = some (.cells (words9.map str).toArray 67 fr)
/-- A kind's word. -/
def wordR (k : Int) : List UInt8 := if k < 1 ∨ 8 < k then [] else words8.getD (k - 1).toNat []
/-- A word's kind; 0: none. -/
def kindR (w : List UInt8) : Int := if w ∈ words8 then (words8.idxOf w : Int) + 1 else 0
theorem word_at {k : Int} (h1 : 1 ≤ k) (h8 : k ≤ 8) : words8[(k - 1).toNat]? = some (wordR k) := by
  have h : (k - 1).toNat < words8.length := by show _ < 8; omega
  unfold wordR
  rw [if_neg (by omega), List.getD_eq_getElem?_getD, List.getElem?_eq_getElem h]; rfl
theorem kind_found {i : Nat} {w : List UInt8} (h : words8[i]? = some w) : kindR w = ((i + 1 : Nat) : Int) := by
  obtain ⟨hi, hx⟩ := List.getElem?_eq_some_iff.1 h
  have hi8 : i < 8 := hi
  have hm : w ∈ words8 := List.mem_of_getElem? h
  unfold kindR
  rw [if_pos hm]
  have : words8.idxOf w = i := by
    have key : ∀ i : Fin 8, words8.idxOf (words8.getD i.val []) = i.val := by decide
    have := key ⟨i, hi8⟩
    have e : w = words8.getD i [] := by rw [List.getD_eq_getElem?_getD, h]; rfl
    rw [e]; exact this
  rw [this]; rfl
theorem kind_none {w : List UInt8} (h : w ∉ words8) : kindR w = 0 := by unfold kindR; rw [if_neg h]
theorem kind_range (w : List UInt8) : 0 ≤ kindR w ∧ kindR w ≤ 8 := by
  by_cases h : w ∈ words8
  · obtain ⟨i, hi, hx⟩ := List.getElem_of_mem h
    have := kind_found (List.getElem?_eq_some_iff.2 ⟨hi, hx⟩)
    have : i < 8 := hi
    omega
  · rw [kind_none h]; omega

theorem SWord_spec (k : Int) (G : Hp) (hW : GW G) : CallL Tryz.prog 18 [.int .i64 k] [G] (fun r Hs' => r = str (wordR k) ∧ Hs' = [G]) := by
  refine CallL.enter Tryz.func18 Tryz.ntmps18 rfl rfl rfl ?_
  obtain ⟨fr, hG⟩ := hW
  refine EL.seq ?_
  refine EL.region (.p 0 (.nil)) (by kernel_rfl) ?_
  refine EPL.p rfl rfl (q_assign (v := .string _) rfl) ?_
  refine EPL.nil ?_
  refine EL.go ?_
  refine EL.seq ?_
  refine EL.seq ?_
  refine EL.region (.p 0 (.p 1 (.p 2 (.p 3 (.p 4 (.p 5 (.nil))))))) (by kernel_rfl) ?_
  refine EPL.p rfl rfl (q_move (v := .int _ _) rfl) ?_
  refine EPL.p rfl rfl (q_lss rfl rfl) ?_
  refine EPL.p rfl rfl (q_move (v := .bool _) rfl) ?_
  refine EPL.bool 5 rfl (fun c1 => ?_) (fun c1 => ?_)
  ·
    have c1 := of_decide_eq_true c1
    refine EPL.pno rfl rfl ?_
    refine EPL.pno rfl rfl ?_
    refine EPL.p rfl rfl (q_pickT (v := .bool _) rfl rfl) ?_
    refine EPL.nil ?_
    refine EL.go ?_
    refine EL.yes rfl ?_
    refine EL.seq ?_
    refine EL.region (.p 0 (.nil)) (by kernel_rfl) ?_
    refine EPL.p rfl rfl (q_assign (v := .string _) rfl) ?_
    refine EPL.nil ?_
    refine EL.go ?_
    refine EL.ret ?_
    exact end_ret (fun _ => rfl) (fun _ => ⟨congrArg (fun l => str l) (by unfold wordR; rw [if_pos (by omega)]), rfl⟩)
  ·
    have c1 := of_decide_eq_false c1
    refine EPL.p rfl rfl (q_move (v := .int _ _) rfl) ?_
    refine EPL.p rfl rfl (q_geq rfl rfl) ?_
    refine EPL.p rfl rfl (q_pickF (v := .bool _) rfl rfl) ?_
    refine EPL.nil ?_
    refine EL.go ?_
    refine EL.cond rfl (fun c2 => ?_) (fun c2 => ?_)
    ·
      have c2 := of_decide_eq_true c2
      refine EL.seq ?_
      refine EL.region (.p 0 (.nil)) (by kernel_rfl) ?_
      refine EPL.p rfl rfl (q_assign (v := .string _) rfl) ?_
      refine EPL.nil ?_
      refine EL.go ?_
      refine EL.ret ?_
      exact end_ret (fun _ => rfl) (fun _ => ⟨congrArg (fun l => str l) (by unfold wordR; rw [if_pos (by omega)]), rfl⟩)
    ·
      have c2 := of_decide_eq_false c2
      refine EL.skip ?_
      refine EL.go ?_
      refine EL.seq ?_
      refine EL.region (.p 0 (.p 1 (.l 2 (.p 3 (.nil))))) (by kernel_rfl) ?_
      refine EPL.p rfl rfl (q_move (v := .int _ _) rfl) ?_
      refine EPL.p rfl rfl (q_idxArr Tryz.underlying67 sz9 rfl rfl (by omega) (by omega)) ?_
      refine EPL.ld1P (v := str (wordR k)) rfl rfl sc9 rfl hG (by rw [show 0 + k.toNat * 1 = (k - 1).toNat + 1 from by omega, List.getElem?_toArray, List.map_cons, List.getElem?_cons_succ, List.getElem?_map, word_at (k := k) (by omega) (by omega)]; rfl) ?_
      refine EPL.p rfl rfl (q_assign (v := .string _) rfl) ?_
      refine EPL.nil ?_
      refine EL.go ?_
      refine EL.ret ?_
      exact end_ret (fun _ => rfl) (fun _ => ⟨rfl, rfl⟩)

theorem RWord_spec (k : Int) (hk : -9223372036854775808 ≤ k ∧ k < 9223372036854775808) : CallL Tryz.prog 10 [.int .i64 k] [] (fun r Hs' => r = str (wordR k) ∧ Hs' = []) := by
  refine CallL.enter Tryz.func10 Tryz.ntmps10 rfl rfl rfl ?_
  refine EL.seq ?_
  refine EL.region (.p 0 (.nil)) (by kernel_rfl) ?_
  refine EPL.p rfl rfl (q_assign (v := .string _) rfl) ?_
  refine EPL.nil ?_
  refine EL.go ?_
  refine EL.seq ?_
  refine EL.seq ?_
  refine EL.region (.p 0 (.p 1 (.p 2 (.p 3 (.p 4 (.p 5 (.nil))))))) (by kernel_rfl) ?_
  refine EPL.p rfl rfl (q_move (v := .int _ _) rfl) ?_
  refine EPL.p rfl rfl (q_lss rfl rfl) ?_
  refine EPL.p rfl rfl (q_move (v := .bool _) rfl) ?_
  refine EPL.bool 5 rfl (fun c1 => ?_) (fun c1 => ?_)
  ·
    have c1 := of_decide_eq_true c1
    refine EPL.pno rfl rfl ?_
    refine EPL.pno rfl rfl ?_
    refine EPL.p rfl rfl (q_pickT (v := .bool _) rfl rfl) ?_
    refine EPL.nil ?_
    refine EL.go ?_
    refine EL.yes rfl ?_
    refine EL.seq ?_
    refine EL.region (.p 0 (.nil)) (by kernel_rfl) ?_
    refine EPL.p rfl rfl (q_assign (v := .string _) rfl) ?_
    refine EPL.nil ?_
    refine EL.go ?_
    refine EL.ret ?_
    exact end_ret (fun _ => rfl) (fun _ => ⟨congrArg (fun l => str l) (by unfold wordR; rw [if_pos (by omega)]), rfl⟩)
  ·
    have c1 := of_decide_eq_false c1
    refine EPL.p rfl rfl (q_move (v := .int _ _) rfl) ?_
    refine EPL.p rfl rfl (q_gtr rfl rfl) ?_
    refine EPL.p rfl rfl (q_pickF (v := .bool _) rfl rfl) ?_
    refine EPL.nil ?_
    refine EL.go ?_
    refine EL.cond rfl (fun c2 => ?_) (fun c2 => ?_)
    ·
      have c2 := of_decide_eq_true c2
      refine EL.seq ?_
      refine EL.region (.p 0 (.nil)) (by kernel_rfl) ?_
      refine EPL.p rfl rfl (q_assign (v := .string _) rfl) ?_
      refine EPL.nil ?_
      refine EL.go ?_
      refine EL.ret ?_
      exact end_ret (fun _ => rfl) (fun _ => ⟨congrArg (fun l => str l) (by unfold wordR; rw [if_pos (by omega)]), rfl⟩)
    ·
      have c2 := of_decide_eq_false c2
      refine EL.skip ?_
      refine EL.go ?_
      refine EL.seq ?_
      refine EL.region (.p 0 (.p 1 (.p 2 (.p 3 (.p 4 (.nil)))))) (by kernel_rfl) ?_
      have hw1 : IntKind.i64.wrap (k - 1) = k - 1 := wrap_i64_in (by omega)
      refine EPL.p rfl rfl (q_buildA (cells := (words8.map str).toArray) Tryz.underlying52 sz9 el52 (fillV (words8.map str) rfl (fun v hv => by obtain ⟨x, _, rfl⟩ := List.mem_map.1 hv; rfl) rfl)) ?_
      refine EPL.p rfl rfl (q_move (v := .int _ _) rfl) ?_
      refine EPL.p rfl rfl (q_sub rfl rfl) ?_
      refine EPL.p rfl rfl (q_index1 (v := str (wordR k)) Tryz.underlying52 sz9 sc9 rfl rfl (by omega) (by omega) (by rw [hw1, Nat.mul_one, List.getElem?_toArray, List.getElem?_map, word_at (k := k) (by omega) (by omega)]; rfl)) ?_
      refine EPL.p rfl rfl (q_assign (v := .string _) rfl) ?_
      refine EPL.nil ?_
      refine EL.go ?_
      refine EL.ret ?_
      exact end_ret (fun _ => rfl) (fun _ => ⟨rfl, rfl⟩)


theorem Index_spec (la : Option Addr) (lc : Nat) (l : List (List UInt8)) (w : List UInt8) (I : Hp) (hI : StrB l I la lc) : CallL Tryz.prog 40 [.slice la l.length lc, str w] [I] (fun r Hs' => (∃ z : Int, r = .int .i64 z ∧ ((z = -1 ∧ w ∉ l) ∨ ∃ i : Nat, z = i ∧ l[i]? = some w)) ∧ Hs' = [I]) := by
  refine CallL.enter Tryz.func40 Tryz.ntmps40 rfl rfl rfl ?_
  have hmx := hI.max
  refine EL.seq ?_
  refine EL.region (.p 0 (.nil)) (by kernel_rfl) ?_
  refine EPL.p rfl rfl (q_assign (v := .int _ _) rfl) ?_
  refine EPL.nil ?_
  refine EL.go ?_
  refine EL.seq ?_
  refine EL.seq ?_
  refine EL.region (.p 0 (.p 1 (.p 2 (.nil)))) (by kernel_rfl) ?_
  refine EPL.p rfl rfl (q_move (v := .slice _ _ _) rfl) ?_
  refine EPL.p rfl rfl (q_lenSl Tryz.underlying66 rfl) ?_
  refine EPL.p rfl rfl (q_move (v := .int _ _) rfl) ?_
  refine EPL.nil ?_
  refine EL.go ?_
  refine EL.block ?_
  refine EL.loop [4, 5, 8, 9, 10, 11, 12, 13, 14, 15, 16, 17, 18] (fun i : Nat => [(8, .int .i64 i)]) (fun m i Hs' => m + i = l.length ∧ Hs' = [I] ∧ w ∉ l.take i) l.length 0 ⟨by omega, rfl, by simp⟩ ⟨rfl, trivial⟩ ?_
  rintro m i _ j ⟨hm, rfl, hno⟩
  refine EL.seq ?_
  refine EL.region (.p 0 (.nil)) (by kernel_rfl) ?_
  refine EPL.p rfl rfl (q_lss rfl rfl) ?_
  refine EPL.nil ?_
  refine EL.go ?_
  refine EL.seq ?_
  refine EL.cond rfl (fun c1 => ?_) (fun c1 => ?_)
  ·
    have c1 := of_decide_eq_true c1
    obtain ⟨x, hx⟩ : ∃ x, l[i]? = some x := ⟨_, List.getElem?_eq_getElem (by omega)⟩
    have hnx : l.take (i + 1) = l.take i ++ [x] := by obtain ⟨hi2, hx2⟩ := List.getElem?_eq_some_iff.1 hx; rw [List.take_succ_eq_append_getElem hi2, hx2]
    obtain ⟨b, off, cap, cc, ety, fr, he, hbI, hc1⟩ := hI.get1 (f := str) hx
    obtain ⟨rfl, rfl⟩ : la = some ⟨b, off, none⟩ ∧ lc = cap := by simpa using he
    refine EL.skip ?_
    refine EL.go ?_
    refine EL.seq ?_
    refine EL.block ?_
    refine EL.seq ?_
    refine EL.region (.p 0 (.p 1 (.nil))) (by kernel_rfl) ?_
    refine EPL.p rfl rfl (q_move (v := .int _ _) rfl) ?_
    refine EPL.p rfl rfl (q_assign (v := .int _ _) rfl) ?_
    refine EPL.nil ?_
    refine EL.go ?_
    refine EL.seq ?_
    refine EL.region (.p 0 (.p 1 (.p 2 (.p 3 (.l 4 (.p 5 (.nil))))))) (by kernel_rfl) ?_
    refine EPL.p rfl rfl (q_move (v := .string _) rfl) ?_
    refine EPL.p rfl rfl (q_move (v := .slice _ _ _) rfl) ?_
    refine EPL.p rfl rfl (q_move (v := .int _ _) rfl) ?_
    refine EPL.p rfl rfl (q_idxSl Tryz.underlying66 sz9 rfl rfl (by omega) (by omega)) ?_
    refine EPL.ld1P (v := str x) rfl rfl sc9 rfl hbI (by rw [Nat.mul_one]; exact hc1) ?_
    refine EPL.p rfl rfl (q_streq rfl rfl) ?_
    refine EPL.nil ?_
    refine EL.go ?_
    refine EL.cond rfl (fun c2 => ?_) (fun c2 => ?_)
    ·
      have c2 := of_decide_eq_true c2
      refine EL.seq ?_
      refine EL.region (.p 0 (.p 1 (.nil))) (by kernel_rfl) ?_
      refine EPL.p rfl rfl (q_move (v := .int _ _) rfl) ?_
      refine EPL.p rfl rfl (q_assign (v := .int _ _) rfl) ?_
      refine EPL.nil ?_
      refine EL.go ?_
      refine EL.ret ?_
      exact end_ret (fun _ => rfl) (fun _ => ⟨⟨_, rfl, .inr ⟨i, rfl, by rw [c2]; exact hx⟩⟩, rfl⟩)
    ·
      have c2 := of_decide_eq_false c2
      have hno2 : w ∉ l.take (i + 1) := by rw [hnx]; intro hh; rcases List.mem_append.1 hh with h | h; exact hno h; exact c2 (List.mem_singleton.1 h)
      refine EL.skip ?_
      refine EL.go ?_
      refine EL.region (.p 0 (.p 1 (.nil))) (by kernel_rfl) ?_
      refine EPL.p rfl rfl (q_add rfl rfl) ?_
      refine EPL.p rfl rfl (q_move (v := .int _ _) rfl) ?_
      refine EPL.nil ?_
      refine RoundQ.mk (m - 1) (i + 1) (by omega) ⟨by omega, rfl, hno2⟩ (by repeat first | refine Off.upd rfl ?_ | exact Off.mix | refine Off.upds rfl ?_ | refine Off.mixs rfl ?_ | exact Off.refl) ⟨congrArg (Value.int .i64) (wrap_i64_in (by omega)), trivial⟩
  ·
    have c1 := of_decide_eq_false c1
    rw [List.take_of_length_le (by omega)] at hno
    refine EL.exit ?_
    refine EL.go ?_
    refine EL.seq ?_
    refine EL.region (.p 0 (.nil)) (by kernel_rfl) ?_
    refine EPL.p rfl rfl (q_assign (v := .int _ _) rfl) ?_
    refine EPL.nil ?_
    refine EL.go ?_
    refine EL.ret ?_
    exact end_ret (fun _ => rfl) (fun _ => ⟨⟨_, rfl, .inl ⟨rfl, hno⟩⟩, rfl⟩)

theorem SKind_spec (w : List UInt8) (G : Hp) (hW : GW G) : CallL Tryz.prog 14 [str w] [G] (fun r Hs' => r = .int .i64 (kindR w) ∧ Hs' = [G]) := by
  refine CallL.enter Tryz.func14 Tryz.ntmps14 rfl rfl rfl ?_
  obtain ⟨fr, hG⟩ := hW
  have hI : StrB words8 G (some ⟨0, 1, none⟩) 8 := ⟨rfl, by decide, .inr ⟨_, _, _, _, _, fr, rfl, hG, by decide, rfl⟩⟩
  refine EL.seq ?_
  refine EL.region (.p 0 (.nil)) (by kernel_rfl) ?_
  refine EPL.p rfl rfl (q_assign (v := .int _ _) rfl) ?_
  refine EPL.nil ?_
  refine EL.go ?_
  refine EL.seq ?_
  refine EL.region (.p 0 (.p 1 (.x 2 [] (.p 3 (.p 4 (.p 5 (.nil))))))) (by kernel_rfl) ?_
  refine EPL.p rfl rfl (q_slArrLo Tryz.underlying67 sz9 rfl rfl (by omega) (by omega)) ?_
  refine EPL.p rfl rfl (q_move (v := .string _) rfl) ?_
  refine EPL.cl rfl rfl Tryz.func40 rfl rfl (Index_spec (some ⟨0, 1, none⟩) 8 words8 w G hI) rfl ?_
  rintro _ _ ⟨⟨z, rfl, hz⟩, rfl⟩
  have hk : max (IntKind.i64.wrap (z + 1)) 0 = kindR w := by
    rcases hz with ⟨rfl, hno⟩ | ⟨i, rfl, hi⟩
    · rw [kind_none hno]; decide
    · have h8 : i < 8 := (List.getElem?_eq_some_iff.1 hi).1
      rw [kind_found hi, wrap_i64_in (by omega)]; omega
  refine ⟨HeldL.nil, ?_⟩
  refine EPL.p rfl rfl (q_add rfl rfl) ?_
  refine EPL.p rfl rfl (q_max rfl rfl) ?_
  refine EPL.p rfl rfl (q_assign (v := .int _ _) rfl) ?_
  refine EPL.nil ?_
  refine EL.go ?_
  refine EL.ret ?_
  exact end_ret (fun _ => rfl) (fun _ => ⟨congrArg (Value.int .i64) hk, rfl⟩)

end Go.Proofs.YtedkoebbijpnfaaGreatDoor

namespace Go.Proofs.YtedkoebbijpnfaaGreatDoor
open Go Go.Proofs.YtedkoebbijpnfaaGreatDoor.TH
set_option maxHeartbeats 1000000

abbrev EyB (e : Ey) : Obj := EyeB e.1 e.2
theorem GetE_spec (g : Nat) (e : Ey) (k : Nat) : CallL Tryz.prog 29 [ptr g, .int .i64 (k : Int)] [sg g (EyB e)] (fun r Hs' => r = .int .i64 (eGet k e).1 ∧ Hs' = [sg g (EyB (eGet k e).2)]) := Get_spec g e.1 e.2 k
theorem ENameE_spec (g : Nat) (e : Ey) : CallL Tryz.prog 31 [ptr g] [sg g (EyB e)] (fun r Hs' => r = hashV (eName e).1 ∧ Hs' = [sg g (EyB (eName e).2)]) := EName_spec g e.1 e.2
theorem CountE_spec (g : Nat) (e : Ey) (most : Int) : CallL Tryz.prog 53 [ptr g, .int .i64 most] [sg g (EyB e)] (fun r Hs' => r = .int .i64 (eCount most e).1 ∧ Hs' = [sg g (EyB (eCount most e).2)]) := ECount_spec g e.1 e.2 most
theorem BadE_spec (g : Nat) (e : Ey) : CallL Tryz.prog 54 [ptr g] [sg g (EyB e)] (fun r Hs' => r = .bool e.2 ∧ Hs' = [sg g (EyB e)]) := Bad_spec g e.1 e.2
theorem BlindE_spec (g : Nat) (e : Ey) : CallL Tryz.prog 56 [ptr g] [sg g (EyB e)] (fun r Hs' => r = .tuple #[] ∧ Hs' = [sg g (EyB ([], true))]) := Blind_spec g e.1 e.2
theorem DoneE_spec (g : Nat) (e : Ey) : CallL Tryz.prog 35 [ptr g] [sg g (EyB e)] (fun r Hs' => r = .bool (!e.2 && decide (e.1 = [])) ∧ Hs' = [sg g (EyB e)]) := Done_spec g e.1 e.2
def sx (v : Int) : Int := IntKind.i64.wrap (IntKind.i32.wrap v)
def mkHd (x : Int × List UInt8 × List UInt8 × Int × Int × Int) : Hd := ⟨sx x.1, x.2.1, x.2.2.1, x.2.2.2.1, x.2.2.2.2.1, x.2.2.2.2.2⟩
def eHd : Ey → (Int × List UInt8 × List UInt8 × Int × Int × Int) × Ey := eThen (eGet 4) (eThen eName (eThen eName (eThen (eGet 4) (eThen (eGet 4) (eGet 4)))))
/-- A header, read. -/
def eHead0 (e : Ey) : Hd × Ey := (if (eHd e).2.2 then Hd.zero else mkHd (eHd e).1, (eHd e).2)
/-- A header, and nothing behind it. -/
def eHead (e : Ey) : Hd × Ey := ((eHead0 e).1, (eCount 0 (eHead0 e).2).2)
/-- A name that is a block's. -/
def eThing (e : Ey) : List UInt8 × Ey := if (eGet 4 e).1 ≠ 2 then eName ([], true) else eName (eGet 4 e).2
theorem eName_len (e : Ey) : (eName e).1.length = 32 := nameR_len _ _
theorem eThing_len (e : Ey) : (eThing e).1.length = 32 := by unfold eThing; split <;> exact eName_len _
theorem eHead0_ok (e : Ey) : (eHead0 e).1.ok := by
  unfold eHead0
  show Hd.ok (if _ then _ else _)
  split
  · exact Hd.zero_ok
  · exact ⟨eName_len _, eName_len _⟩
theorem fillHd (v : Int) {p r : List UInt8} (t b n : Int) (hp : p.length = 32) (hr : r.length = 32) : FillP (([(0, 1), (1, 32), (33, 32), (65, 1), (66, 1), (67, 1)] : List (Nat × Nat))[·]?) z44.toArray [(0, .int .i64 v), (1, hashV p), (2, hashV r), (3, .int .i64 t), (4, .int .i64 b), (5, .int .i64 n)] (Hd.mk v p r t b n).cells.toArray := by
  have hZ : ((List.replicate 32 (0 : UInt8)).map bV).length = 32 := by simp
  have hP : (p.map bV).length = 32 := by simp [hp]
  have hR : (r.map bV).length = 32 := by simp [hr]
  have hz : z44.toArray = ([] ++ ([Value.int .i64 0] ++ ((List.replicate 32 (0 : UInt8)).map bV ++ ((List.replicate 32 (0 : UInt8)).map bV ++ [Value.int .i64 0, Value.int .i64 0, Value.int .i64 0])))).toArray := rfl
  rw [hz]
  refine .cons (off := 0) (size := 1) rfl rfl (by simp) (setL_mid (A := []) (B := [Value.int .i64 0]) (B' := [Value.int .i64 v]) rfl) ?_
  refine .cons (off := 1) (size := 32) rfl (show (p.map bV).toArray.size = 32 by simp [hp]) (by simp) (c2 := ([Value.int .i64 v] ++ (p.map bV ++ ((List.replicate 32 (0 : UInt8)).map bV ++ [Value.int .i64 0, Value.int .i64 0, Value.int .i64 0]))).toArray) (setL_mid (A := [Value.int .i64 v]) (B := (List.replicate 32 (0 : UInt8)).map bV) (B' := p.map bV) (by simp [hp])) ?_
  refine .cons (off := 33) (size := 32) rfl (show (r.map bV).toArray.size = 32 by simp [hr]) (by simp [hp]) (c2 := (([Value.int .i64 v] ++ p.map bV) ++ (r.map bV ++ [Value.int .i64 0, Value.int .i64 0, Value.int .i64 0])).toArray) ?_ ?_
  · have := setL_mid (A := [Value.int .i64 v] ++ p.map bV) (B := (List.replicate 32 (0 : UInt8)).map bV) (B' := r.map bV) (C := [.int .i64 0, .int .i64 0, .int .i64 0]) (by simp [hr])
    rw [List.length_append, hP] at this
    rw [List.append_assoc] at this
    exact this
  refine .cons (off := 65) (size := 1) rfl rfl (by simp [hp, hr]) (c2 := (([Value.int .i64 v] ++ p.map bV ++ r.map bV) ++ ([Value.int .i64 t] ++ [Value.int .i64 0, Value.int .i64 0])).toArray) ?_ ?_
  · have := setL_mid (A := [Value.int .i64 v] ++ p.map bV ++ r.map bV) (B := [Value.int .i64 0]) (B' := [Value.int .i64 t]) (C := [.int .i64 0, .int .i64 0]) rfl
    rw [List.length_append, List.length_append, hP, hR] at this
    rw [List.append_assoc ([Value.int .i64 v] ++ p.map bV)] at this
    exact this
  refine .cons (off := 66) (size := 1) rfl rfl (by simp [hp, hr]) (c2 := (([Value.int .i64 v] ++ p.map bV ++ r.map bV ++ [Value.int .i64 t]) ++ ([Value.int .i64 b] ++ [Value.int .i64 0])).toArray) ?_ ?_
  · have := setL_mid (A := [Value.int .i64 v] ++ p.map bV ++ r.map bV ++ [Value.int .i64 t]) (B := [Value.int .i64 0]) (B' := [Value.int .i64 b]) (C := [.int .i64 0]) rfl
    rw [List.length_append, List.length_append, List.length_append, hP, hR] at this
    rw [List.append_assoc ([Value.int .i64 v] ++ p.map bV ++ r.map bV)] at this
    exact this
  refine .cons (off := 67) (size := 1) rfl rfl (by simp [hp, hr]) (c2 := (Hd.mk v p r t b n).cells.toArray) ?_ .nil
  have := setL_mid (A := [Value.int .i64 v] ++ p.map bV ++ r.map bV ++ [Value.int .i64 t] ++ [Value.int .i64 b]) (B := [Value.int .i64 0]) (B' := [Value.int .i64 n]) (C := []) rfl
  rw [List.length_append, List.length_append, List.length_append, List.length_append, hP, hR] at this
  rw [List.append_assoc ([Value.int .i64 v] ++ p.map bV ++ r.map bV ++ [Value.int .i64 t])] at this
  rw [show (Hd.mk v p r t b n).cells.toArray = ([Value.int .i64 v] ++ p.map bV ++ r.map bV ++ [Value.int .i64 t] ++ [Value.int .i64 b] ++ ([Value.int .i64 n] ++ [])).toArray from by simp [Hd.cells]]
  exact this

theorem HRead_spec (g : Nat) (e : Ey) : CallL Tryz.prog 55 [ptr g] [sg g (EyB e)] (fun r Hs' => r = hdV (eHead0 e).1 ∧ Hs' = [sg g (EyB (eHead0 e).2)]) := by
  refine CallL.enter Tryz.func55 Tryz.ntmps55 rfl rfl rfl ?_
  refine EL.seq ?_
  refine EL.region (.x 0 [] (.nil)) (by kernel_rfl) ?_
  refine EPL.al rfl rfl el44 (fun _ => HeldL.nil) (fun b1 => ?_)
  refine EPL.nil ?_
  refine EL.go ?_
  refine EL.seq ?_
  refine EL.region (.p 0 (.x 1 [] (.p 2 (.nil)))) (by kernel_rfl) ?_
  refine EPL.p rfl rfl (q_move (v := .pointer _) rfl) ?_
  refine EPL.cl rfl rfl Tryz.func29 rfl rfl (GetE_spec g (e) 4) rfl ?_
  rintro _ _ ⟨rfl, rfl⟩
  refine ⟨HeldL.nil, ?_⟩
  refine EPL.p rfl rfl (q_assign (v := .int _ _) rfl) ?_
  refine EPL.nil ?_
  refine EL.go ?_
  refine EL.seq ?_
  refine EL.region (.p 0 (.p 1 (.p 2 (.p 3 (.x 4 [] (.p 5 (.x 6 [] (.p 7 (.x 8 [] (.p 9 (.x 10 [] (.p 11 (.x 12 [] (.p 13 (.x 14 [] (.x 15 [] (.nil))))))))))))))))) (by kernel_rfl) ?_
  refine EPL.p rfl rfl (q_move (v := .int _ _) rfl) ?_
  refine EPL.p rfl rfl (q_conv Tryz.underlying3 Tryz.underlying21 rfl) ?_
  refine EPL.p rfl rfl (q_conv Tryz.underlying21 Tryz.underlying3 rfl) ?_
  refine EPL.p rfl rfl (q_move (v := .pointer _) rfl) ?_
  refine EPL.cl rfl rfl Tryz.func31 rfl rfl (ENameE_spec g ((eGet 4 e).2)) rfl ?_
  rintro _ _ ⟨rfl, rfl⟩
  refine ⟨HeldL.nil, ?_⟩
  refine EPL.p rfl rfl (q_move (v := .pointer _) rfl) ?_
  refine EPL.cl rfl rfl Tryz.func31 rfl rfl (ENameE_spec g ((eName (eGet 4 e).2).2)) rfl ?_
  rintro _ _ ⟨rfl, rfl⟩
  refine ⟨HeldL.nil, ?_⟩
  refine EPL.p rfl rfl (q_move (v := .pointer _) rfl) ?_
  refine EPL.cl rfl rfl Tryz.func29 rfl rfl (GetE_spec g ((eName (eName (eGet 4 e).2).2).2) 4) rfl ?_
  rintro _ _ ⟨rfl, rfl⟩
  refine ⟨HeldL.nil, ?_⟩
  refine EPL.p rfl rfl (q_move (v := .pointer _) rfl) ?_
  refine EPL.cl rfl rfl Tryz.func29 rfl rfl (GetE_spec g ((eGet 4 (eName (eName (eGet 4 e).2).2).2).2) 4) rfl ?_
  rintro _ _ ⟨rfl, rfl⟩
  refine ⟨HeldL.nil, ?_⟩
  refine EPL.p rfl rfl (q_move (v := .pointer _) rfl) ?_
  refine EPL.cl rfl rfl Tryz.func29 rfl rfl (GetE_spec g ((eGet 4 (eGet 4 (eName (eName (eGet 4 e).2).2).2).2).2) 4) rfl ?_
  rintro _ _ ⟨rfl, rfl⟩
  refine ⟨HeldL.nil, ?_⟩
  refine EPL.p rfl rfl (q_build (cells := (Hd.mk (sx (eGet 4 e).1) (eName (eGet 4 e).2).1 (eName (eName (eGet 4 e).2).2).1 (eGet 4 (eName (eName (eGet 4 e).2).2).2).1 (eGet 4 (eGet 4 (eName (eName (eGet 4 e).2).2).2).2).1 (eGet 4 (eGet 4 (eGet 4 (eName (eName (eGet 4 e).2).2).2).2).2).1).cells.toArray) pl44 el44 (fillHd _ _ _ _ (eName_len _) (eName_len _))) ?_
  refine EPL.al rfl rfl el44 (fun _ => HeldL.nil) (fun b2 => ?_)
  have hok : (Hd.mk (sx (eGet 4 e).1) (eName (eGet 4 e).2).1 (eName (eName (eGet 4 e).2).2).1 (eGet 4 (eName (eName (eGet 4 e).2).2).2).1 (eGet 4 (eGet 4 (eName (eName (eGet 4 e).2).2).2).2).1 (eGet 4 (eGet 4 (eGet 4 (eName (eName (eGet 4 e).2).2).2).2).2).1).ok := ⟨eName_len _, eName_len _⟩
  have hHd : mkHd (eHd e).1 = Hd.mk (sx (eGet 4 e).1) (eName (eGet 4 e).2).1 (eName (eName (eGet 4 e).2).2).1 (eGet 4 (eName (eName (eGet 4 e).2).2).2).1 (eGet 4 (eGet 4 (eName (eName (eGet 4 e).2).2).2).2).1 (eGet 4 (eGet 4 (eGet 4 (eName (eName (eGet 4 e).2).2).2).2).2).1 := rfl
  rw [← hHd] at hok ⊢
  refine EPL.stA (v := (mkHd (eHd e).1).cells.toArray) rfl rfl sz44 rfl rfl (Hd.sz hok) (Hd.one _) rfl HeldL.nil ?_
  refine EPL.nil ?_
  refine EL.go ?_
  refine EL.seq ?_
  refine EL.seq ?_
  refine EL.region (.p 0 (.x 1 [] (.nil))) (by kernel_rfl) ?_
  refine EPL.p rfl rfl (q_move (v := .pointer _) rfl) ?_
  refine EPL.cl rfl rfl Tryz.func54 rfl rfl (BadE_spec g (eGet 4 (eGet 4 (eGet 4 (eName (eName (eGet 4 e).2).2).2).2).2).2) rfl ?_
  rintro _ _ ⟨rfl, rfl⟩
  rw [show (eGet 4 (eGet 4 (eGet 4 (eName (eName (eGet 4 e).2).2).2).2).2).2 = (eHd e).2 from rfl]
  refine ⟨HeldL.nil, ?_⟩
  refine EPL.nil ?_
  refine EL.go ?_
  refine EL.cond rfl (fun c3 => ?_) (fun c3 => ?_)
  ·
    refine EL.seq ?_
    refine EL.region (.p 0 (.x 1 [] (.nil))) (by kernel_rfl) ?_
    refine EPL.p rfl rfl (q_build (cells := Hd.zero.cells.toArray) pl44 el44 .nil) ?_
    refine EPL.stA (v := Hd.zero.cells.toArray) rfl rfl sz44 rfl rfl rfl (Hd.one _) rfl HeldL.nil ?_
    refine EPL.nil ?_
    refine EL.go ?_
    refine EL.ret ?_
    exact end_retP (vs := [hdV (Hd.zero)]) [sg g (EyB (eHd e).2)] (fun hd => resL_one (rv_cellA (e := 44) (fr := (0, 0)) ag44 rfl (TakeP.sub (H := sg b1 (.cells (Hd.zero).cells.toArray 44 (0, 0))) hd b1 _ sg_self) (Hd.sz (Hd.zero_ok)))) (fun _ => ⟨congrArg hdV (by unfold eHead0; exact (if_pos c3).symm), rfl⟩)
  ·
    refine EL.skip ?_
    refine EL.go ?_
    refine EL.seq ?_
    refine EL.region (.l 0 (.x 1 [] (.nil))) (by kernel_rfl) ?_
    refine EPL.ldAw rfl rfl ag44 rfl (Hd.sz hok) ?_
    refine EPL.stA (v := (mkHd (eHd e).1).cells.toArray) rfl rfl sz44 rfl rfl (Hd.sz hok) (Hd.one _) rfl HeldL.nil ?_
    refine EPL.nil ?_
    refine EL.go ?_
    refine EL.ret ?_
    exact end_retP (vs := [hdV (mkHd (eHd e).1)]) [sg g (EyB (eHd e).2)] (fun hd => resL_one (rv_cellA (e := 44) (fr := (0, 0)) ag44 rfl (TakeP.sub (H := sg b1 (.cells (mkHd (eHd e).1).cells.toArray 44 (0, 0))) hd b1 _ sg_self) (Hd.sz (hok)))) (fun _ => ⟨congrArg hdV (by unfold eHead0; exact (if_neg (by rw [show (eHd e).2.2 = false from c3]; decide)).symm), rfl⟩)

theorem Head_spec (g : Nat) (e : Ey) : CallL Tryz.prog 33 [ptr g] [sg g (EyB e)] (fun r Hs' => r = hdV (eHead e).1 ∧ Hs' = [sg g (EyB (eHead e).2)]) := by
  refine CallL.enter Tryz.func33 Tryz.ntmps33 rfl rfl rfl ?_
  refine EL.seq ?_
  refine EL.region (.x 0 [] (.nil)) (by kernel_rfl) ?_
  refine EPL.al rfl rfl el44 (fun _ => HeldL.nil) (fun b1 => ?_)
  refine EPL.nil ?_
  refine EL.go ?_
  refine EL.seq ?_
  refine EL.region (.p 0 (.x 1 [] (.x 2 [] (.x 3 [] (.nil))))) (by kernel_rfl) ?_
  refine EPL.p rfl rfl (q_move (v := .pointer _) rfl) ?_
  refine EPL.cl rfl rfl Tryz.func55 rfl rfl (HRead_spec g e) rfl ?_
  rintro _ _ ⟨rfl, rfl⟩
  have hok := eHead0_ok e
  refine ⟨HeldL.nil, ?_⟩
  refine EPL.al rfl rfl el44 (fun _ => HeldL.nil) (fun b2 => ?_)
  refine EPL.stA (v := (eHead0 e).1.cells.toArray) rfl rfl sz44 rfl rfl (Hd.sz hok) (Hd.one _) rfl HeldL.nil ?_
  refine EPL.nil ?_
  refine EL.go ?_
  refine EL.seq ?_
  refine EL.region (.p 0 (.x 1 [] (.nil))) (by kernel_rfl) ?_
  refine EPL.p rfl rfl (q_move (v := .pointer _) rfl) ?_
  refine EPL.cl rfl rfl Tryz.func53 rfl rfl (CountE_spec g (eHead0 e).2 0) rfl ?_
  rintro _ _ ⟨rfl, rfl⟩
  rw [show (eCount 0 (eHead0 e).2).2 = (eHead e).2 from rfl]
  refine ⟨HeldL.nil, ?_⟩
  refine EPL.nil ?_
  refine EL.go ?_
  refine EL.seq ?_
  refine EL.region (.l 0 (.x 1 [] (.nil))) (by kernel_rfl) ?_
  refine EPL.ldAw rfl rfl ag44 rfl (Hd.sz hok) ?_
  refine EPL.stA (v := (eHead0 e).1.cells.toArray) rfl rfl sz44 rfl rfl (Hd.sz hok) (Hd.one _) rfl HeldL.nil ?_
  refine EPL.nil ?_
  refine EL.go ?_
  refine EL.ret ?_
  exact end_retP (vs := [hdV ((eHead0 e).1)]) [sg g (EyB (eHead e).2)] (fun hd => resL_one (rv_cellA (e := 44) (fr := (0, 0)) ag44 rfl (TakeP.sub (H := sg b1 (.cells ((eHead0 e).1).cells.toArray 44 (0, 0))) hd b1 _ sg_self) (Hd.sz (hok)))) (fun _ => ⟨rfl, rfl⟩)

theorem Thing_spec (g : Nat) (e : Ey) : CallL Tryz.prog 34 [ptr g] [sg g (EyB e)] (fun r Hs' => r = hashV (eThing e).1 ∧ Hs' = [sg g (EyB (eThing e).2)]) := by
  refine CallL.enter Tryz.func34 Tryz.ntmps34 rfl rfl rfl ?_
  refine EL.seq ?_
  refine EL.region (.x 0 [] (.nil)) (by kernel_rfl) ?_
  refine EPL.al rfl rfl el24 (fun _ => HeldL.nil) (fun b1 => ?_)
  refine EPL.nil ?_
  refine EL.go ?_
  refine EL.seq ?_
  refine EL.seq ?_
  refine EL.region (.p 0 (.x 1 [] (.p 2 (.nil)))) (by kernel_rfl) ?_
  refine EPL.p rfl rfl (q_move (v := .pointer _) rfl) ?_
  refine EPL.cl rfl rfl Tryz.func29 rfl rfl (GetE_spec g (e) 4) rfl ?_
  rintro _ _ ⟨rfl, rfl⟩
  refine ⟨HeldL.nil, ?_⟩
  refine EPL.p rfl rfl (q_neq rfl rfl) ?_
  refine EPL.nil ?_
  refine EL.go ?_
  refine EL.cond rfl (fun c2 => ?_) (fun c2 => ?_)
  ·
    have c2 := of_decide_eq_true c2
    have ht : eThing e = eName ([], true) := by unfold eThing; exact if_pos c2
    rw [ht]
    refine EL.region (.p 0 (.x 1 [] (.nil))) (by kernel_rfl) ?_
    refine EPL.p rfl rfl (q_move (v := .pointer _) rfl) ?_
    refine EPL.cl rfl rfl Tryz.func56 rfl rfl (BlindE_spec g (eGet 4 e).2) rfl ?_
    rintro _ _ ⟨rfl, rfl⟩
    refine ⟨HeldL.nil, ?_⟩
    refine EPL.nil ?_
    refine EL.go ?_
    refine EL.seq ?_
    refine EL.region (.p 0 (.x 1 [] (.x 2 [] (.nil)))) (by kernel_rfl) ?_
    refine EPL.p rfl rfl (q_move (v := .pointer _) rfl) ?_
    refine EPL.cl rfl rfl Tryz.func31 rfl rfl (ENameE_spec g ((([], true) : Ey))) rfl ?_
    rintro _ _ ⟨rfl, rfl⟩
    refine ⟨HeldL.nil, ?_⟩
    refine EPL.stA (v := ((eName ([], true)).1.map bV).toArray) rfl rfl sz24 rfl rfl (by simp [eName_len]) (bvAll _) rfl HeldL.nil ?_
    refine EPL.nil ?_
    refine EL.go ?_
    refine EL.ret ?_
    exact end_retP (vs := [hashV ((eName ([], true)).1)]) [sg g (EyB (eName ([], true)).2)] (fun hd => resL_one (rv_cellA (e := 24) (fr := (0, 0)) ag24 rfl (TakeP.sub (H := sg b1 (HashB ((eName ([], true)).1))) hd b1 _ sg_self) (by simp [eName_len]))) (fun _ => ⟨rfl, rfl⟩)
  ·
    have c2 := of_decide_eq_false c2
    have ht : eThing e = eName (eGet 4 e).2 := by unfold eThing; exact if_neg c2
    rw [ht]
    refine EL.skip ?_
    refine EL.go ?_
    refine EL.seq ?_
    refine EL.region (.p 0 (.x 1 [] (.x 2 [] (.nil)))) (by kernel_rfl) ?_
    refine EPL.p rfl rfl (q_move (v := .pointer _) rfl) ?_
    refine EPL.cl rfl rfl Tryz.func31 rfl rfl (ENameE_spec g ((eGet 4 e).2)) rfl ?_
    rintro _ _ ⟨rfl, rfl⟩
    refine ⟨HeldL.nil, ?_⟩
    refine EPL.stA (v := ((eName (eGet 4 e).2).1.map bV).toArray) rfl rfl sz24 rfl rfl (by simp [eName_len]) (bvAll _) rfl HeldL.nil ?_
    refine EPL.nil ?_
    refine EL.go ?_
    refine EL.ret ?_
    exact end_retP (vs := [hashV ((eName (eGet 4 e).2).1)]) [sg g (EyB (eName (eGet 4 e).2).2)] (fun hd => resL_one (rv_cellA (e := 24) (fr := (0, 0)) ag24 rfl (TakeP.sub (H := sg b1 (HashB ((eName (eGet 4 e).2).1))) hd b1 _ sg_self) (by simp [eName_len]))) (fun _ => ⟨rfl, rfl⟩)

end Go.Proofs.YtedkoebbijpnfaaGreatDoor

namespace Go.Proofs.YtedkoebbijpnfaaGreatDoor
open Go Go.Proofs.YtedkoebbijpnfaaGreatDoor.TH
set_option maxHeartbeats 1000000

abbrev OwnHs (a : Option Addr) (c : Nat) (l : List Hd) (H : Hp) : Prop := OwnS 44 68 (.slice a l.length c) l.length (l.flatMap Hd.cells) H
theorem OwnN.app {v : Value} {l : List (List UInt8)} {x : List UInt8} {H : Hp} (h : OwnS 24 32 v (l.length + 1) (l.flatMap (fun h => h.map bV) ++ x.map bV) H) : ∃ a c, v = .slice a (l ++ [x]).length c ∧ OwnN a c (l ++ [x]) H := by
  rcases h.2 with ⟨rfl, h0⟩ | ⟨b, off, cap, c, fr, rfl, _⟩
  · omega
  · refine ⟨some ⟨b, off, none⟩, cap, by simp, ?_⟩
    have e : (l ++ [x]).flatMap (fun h => h.map bV) = l.flatMap (fun h => h.map bV) ++ x.map bV := by simp
    unfold OwnN
    rw [e, List.length_append, List.length_singleton]
    exact h
theorem OwnHs.app {v : Value} {l : List Hd} {x : Hd} {H : Hp} (h : OwnS 44 68 v (l.length + 1) (l.flatMap Hd.cells ++ x.cells) H) : ∃ a c, v = .slice a (l ++ [x]).length c ∧ OwnHs a c (l ++ [x]) H := by
  rcases h.2 with ⟨rfl, h0⟩ | ⟨b, off, cap, c, fr, rfl, _⟩
  · omega
  · refine ⟨some ⟨b, off, none⟩, cap, by simp, ?_⟩
    have e : (l ++ [x]).flatMap Hd.cells = l.flatMap Hd.cells ++ x.cells := by simp
    unfold OwnHs
    rw [e, List.length_append, List.length_singleton]
    exact h
theorem eTimes_bad {α : Type} {get : Ey → α × Ey} {n : Nat} {e : Ey} {o : List α} (h : (get e).2.2 = true) : eTimes get (n + 1) e o = ([], (get e).2) := by simp only [eTimes, h, if_true]
theorem eTimes_ok {α : Type} {get : Ey → α × Ey} {n : Nat} {e : Ey} {o : List α} (h : (get e).2.2 = false) : eTimes get (n + 1) e o = eTimes get n (get e).2 (o ++ [(get e).1]) := by simp only [eTimes, h, Bool.false_eq_true, if_false]

theorem SomeN_spec (g : Nat) (e : Ey) (most : Int) (hm : most < 1000000) (F : Nat) (fn : Func) (get : Ey → (List UInt8) × Ey) (hF : Tryz.prog.funcs[F]? = some fn) (hnum : (fn.name == "runtime.NumGoroutine") = false) (hbody : fn.body.isNone = false)
    (hget : ∀ e, CallL Tryz.prog F [ptr g] [sg g (EyB e)] (fun r Hs' => r = hashV (get e).1 ∧ Hs' = [sg g (EyB (get e).2)])) (hlen : ∀ e, (get e).1.length = 32) (hbnd : (eCount most e).1 ≤ most) : CallL Tryz.prog 30 [ptr g, .int .i64 most, .func (.func F) #[] #[]] [sg g (EyB e), Hp.nil] (fun r Hs' => ∃ a c H', r = .slice a (eSome most get e).1.length c ∧ Hs' = [sg g (EyB (eSome most get e).2), H'] ∧ OwnN a c (eSome most get e).1 H') := by
  refine CallL.enter Tryz.func30 Tryz.ntmps30 rfl rfl rfl ?_
  refine EL.seq ?_
  refine EL.region (.p 0 (.nil)) (by kernel_rfl) ?_
  refine EPL.p rfl rfl (q_assign (v := .slice _ _ _) rfl) ?_
  refine EPL.nil ?_
  refine EL.go ?_
  refine EL.seq ?_
  refine EL.region (.p 0 (.nil)) (by kernel_rfl) ?_
  refine EPL.p rfl rfl (q_assign (v := .slice _ _ _) rfl) ?_
  refine EPL.nil ?_
  refine EL.go ?_
  refine EL.seq ?_
  refine EL.seq ?_
  refine EL.region (.p 0 (.p 1 (.x 2 [] (.p 3 (.nil))))) (by kernel_rfl) ?_
  refine EPL.p rfl rfl (q_move (v := .pointer _) rfl) ?_
  refine EPL.p rfl rfl (q_move (v := .int _ _) rfl) ?_
  refine EPL.cl rfl rfl Tryz.func53 rfl rfl (CountE_spec g e most) rfl ?_
  rintro _ _ ⟨rfl, rfl⟩
  obtain ⟨K, hK⟩ : ∃ K, K = (eCount most e).1.toNat := ⟨_, rfl⟩
  refine ⟨HeldL.nil, ?_⟩
  refine EPL.p rfl rfl (q_move (v := .int _ _) rfl) ?_
  refine EPL.nil ?_
  refine EL.go ?_
  refine EL.block ?_
  refine EL.loop [6, 7, 8, 12, 13, 14, 15, 16, 17, 18, 19, 20, 21, 22, 23] (fun x : Nat × Option Addr × Nat × List (List UInt8) => [(7, .slice x.2.1 x.2.2.2.length x.2.2.1), (12, .int .i64 (((K - x.1 : Nat) : Nat) : Int))]) (fun m x Hs' => m = x.1 ∧ x.1 ≤ K ∧ ∃ e1 H1, Hs' = [sg g (EyB e1), H1] ∧ OwnN x.2.1 x.2.2.1 x.2.2.2 H1 ∧ x.2.2.2.length = K - x.1 ∧ eSome most get e = eTimes get x.1 e1 x.2.2.2) K (K, none, 0, []) ⟨rfl, Nat.le_refl _, (eCount most e).2, Hp.nil, rfl, OwnS.nil _ _ _, by simp, by rw [hK]; rfl⟩ ⟨rfl, congrArg (Value.int .i64) (by rw [Nat.sub_self]; rfl), trivial⟩ ?_
  rintro m ⟨k, a, c, l⟩ _ j ⟨hmk, hkK, e1, H1, rfl, hO, hl, hE⟩
  change EL _ _ _ _ (upds (Go.Proofs.YtedkoebbijpnfaaGreatDoor.TH.mix _ _ j) [(7, Value.slice a l.length c), (12, .int .i64 (((K - k : Nat) : Nat) : Int))]) _
  change k ≤ K at hkK
  change OwnN a c l H1 at hO
  change l.length = K - k at hl
  change eSome most get e = eTimes get k e1 l at hE
  change m = k at hmk
  refine EL.seq ?_
  refine EL.region (.p 0 (.nil)) (by kernel_rfl) ?_
  refine EPL.p rfl rfl (q_lss rfl rfl) ?_
  refine EPL.nil ?_
  refine EL.go ?_
  refine EL.seq ?_
  refine EL.cond rfl (fun c1 => ?_) (fun c1 => ?_)
  ·
    have c1 := of_decide_eq_true c1
    obtain ⟨k2, rfl⟩ : ∃ k2, k = k2 + 1 := ⟨k - 1, by omega⟩
    have hln := hlen e1
    refine EL.skip ?_
    refine EL.go ?_
    refine EL.seq ?_
    refine EL.block ?_
    refine EL.seq ?_
    refine EL.region (.p 0 (.p 1 (.x 2 [] (.x 3 [] (.x 4 [] (.nil)))))) (by kernel_rfl) ?_
    refine EPL.p rfl rfl (q_move (v := _) rfl) ?_
    refine EPL.p rfl rfl (q_move (v := .pointer _) rfl) ?_
    refine EPL.clV rfl rfl rfl hF hnum hbody (hget e1) rfl ?_
    rintro _ _ ⟨rfl, rfl⟩
    refine ⟨HeldL.nil, ?_⟩
    refine EPL.al rfl rfl el24 (fun _ => HeldL.nil) (fun b8 => ?_)
    refine EPL.stA (v := ((get e1).1.map bV).toArray) rfl rfl sz24 rfl rfl (by simp [hln]) (bvAll _) rfl HeldL.nil ?_
    refine EPL.nil ?_
    refine EL.go ?_
    refine EL.seq ?_
    refine EL.seq ?_
    refine EL.region (.p 0 (.x 1 [] (.nil))) (by kernel_rfl) ?_
    refine EPL.p rfl rfl (q_move (v := .pointer _) rfl) ?_
    refine EPL.cl rfl rfl Tryz.func54 rfl rfl (BadE_spec g (get e1).2) rfl ?_
    rintro _ _ ⟨rfl, rfl⟩
    refine ⟨HeldL.nil, ?_⟩
    refine EPL.nil ?_
    refine EL.go ?_
    refine EL.cond rfl (fun c2 => ?_) (fun c2 => ?_)
    ·
      have hE2 : eSome most get e = ([], (get e1).2) := hE.trans (eTimes_bad c2)
      refine EL.seq ?_
      refine EL.region (.p 0 (.nil)) (by kernel_rfl) ?_
      refine EPL.p rfl rfl (q_assign (v := .slice _ _ _) rfl) ?_
      refine EPL.nil ?_
      refine EL.go ?_
      refine EL.ret ?_
      exact end_retP [sg g (EyB (get e1).2), H1] (fun _ => rfl) (fun _ => by rw [hE2]; exact ⟨_, _, _, rfl, rfl, OwnS.nil _ _ _⟩)
    ·
      have hE2 : eSome most get e = eTimes get k2 (get e1).2 (l ++ [(get e1).1]) := hE.trans (eTimes_ok (by cases h : (get e1).2.2 <;> simp_all))
      refine EL.skip ?_
      refine EL.go ?_
      refine EL.region (.p 0 (.l 1 (.x 2 [] (.x 3 [] (.p 4 (.nil)))))) (by kernel_rfl) ?_
      refine EPL.p rfl rfl (q_move (v := .slice _ _ _) rfl) ?_
      refine EPL.ldAw rfl rfl ag24 rfl (by simp [hln]) ?_
      refine EPL.bs rfl rfl Tryz.underlying22 el24 rfl rfl (fillA (c := ((get e1).1.map bV).toArray) (by simp [hln])) (fun _ => HeldL.nil) (fun b9 => ?_)
      refine EPL.app rfl rfl Tryz.underlying22 (.inr ⟨_, Tryz.underlying22⟩) el24 rfl (by exact hO) rfl (by exact fun hd => Src.pick hd (by simp [hln]) (List.all_eq_true.2 (bvAll _))) (by unfold maxLen; omega) (by omega) (fun v' H3 hv' => ?_)
      obtain ⟨a3, c3, rfl, hO3⟩ := OwnN.app hv'
      refine ⟨HeldL.nil, ?_⟩
      refine EPL.p rfl rfl (q_assign (v := .slice _ _ _) rfl) ?_
      refine EPL.nil ?_
      refine EL.go ?_
      refine EL.region (.p 0 (.p 1 (.nil))) (by kernel_rfl) ?_
      refine EPL.p rfl rfl (q_add rfl rfl) ?_
      refine EPL.p rfl rfl (q_move (v := .int _ _) rfl) ?_
      refine EPL.nil ?_
      refine RoundQ.mkP (m - 1) (k2, a3, c3, l ++ [(get e1).1]) [sg g (EyB (get e1).2), H3] (by omega) ⟨by show m - 1 = k2; omega, by show k2 ≤ K; omega, _, H3, rfl, hO3, by show (l ++ [(get e1).1]).length = K - k2; rw [List.length_append, hl, List.length_singleton]; omega, hE2⟩ (by repeat first | refine Off.upd rfl ?_ | exact Off.mix | refine Off.upds rfl ?_ | refine Off.mixs rfl ?_ | exact Off.refl) ⟨rfl, congrArg (Value.int .i64) (by rw [wrap_i64_in (by omega)]; show _ = (((K - k2 : Nat) : Nat) : Int); omega), trivial⟩
  ·
    have c1 := of_decide_eq_false c1
    obtain rfl : k = 0 := by omega
    refine EL.exit ?_
    refine EL.go ?_
    refine EL.seq ?_
    refine EL.region (.p 0 (.p 1 (.nil))) (by kernel_rfl) ?_
    refine EPL.p rfl rfl (q_move (v := .slice _ _ _) rfl) ?_
    refine EPL.p rfl rfl (q_assign (v := .slice _ _ _) rfl) ?_
    refine EPL.nil ?_
    refine EL.go ?_
    refine EL.ret ?_
    exact end_ret (fun _ => rfl) (fun _ => by rw [hE]; exact ⟨_, _, _, rfl, rfl, hO⟩)

theorem SomeH_spec (g : Nat) (e : Ey) (most : Int) (hm : most < 1000000) (F : Nat) (fn : Func) (get : Ey → Hd × Ey) (hF : Tryz.prog.funcs[F]? = some fn) (hnum : (fn.name == "runtime.NumGoroutine") = false) (hbody : fn.body.isNone = false)
    (hget : ∀ e, CallL Tryz.prog F [ptr g] [sg g (EyB e)] (fun r Hs' => r = hdV (get e).1 ∧ Hs' = [sg g (EyB (get e).2)])) (hlen : ∀ e, (get e).1.ok) (hbnd : (eCount most e).1 ≤ most) : CallL Tryz.prog 32 [ptr g, .int .i64 most, .func (.func F) #[] #[]] [sg g (EyB e), Hp.nil] (fun r Hs' => ∃ a c H', r = .slice a (eSome most get e).1.length c ∧ Hs' = [sg g (EyB (eSome most get e).2), H'] ∧ OwnHs a c (eSome most get e).1 H') := by
  refine CallL.enter Tryz.func32 Tryz.ntmps32 rfl rfl rfl ?_
  refine EL.seq ?_
  refine EL.region (.p 0 (.nil)) (by kernel_rfl) ?_
  refine EPL.p rfl rfl (q_assign (v := .slice _ _ _) rfl) ?_
  refine EPL.nil ?_
  refine EL.go ?_
  refine EL.seq ?_
  refine EL.region (.p 0 (.nil)) (by kernel_rfl) ?_
  refine EPL.p rfl rfl (q_assign (v := .slice _ _ _) rfl) ?_
  refine EPL.nil ?_
  refine EL.go ?_
  refine EL.seq ?_
  refine EL.seq ?_
  refine EL.region (.p 0 (.p 1 (.x 2 [] (.p 3 (.nil))))) (by kernel_rfl) ?_
  refine EPL.p rfl rfl (q_move (v := .pointer _) rfl) ?_
  refine EPL.p rfl rfl (q_move (v := .int _ _) rfl) ?_
  refine EPL.cl rfl rfl Tryz.func53 rfl rfl (CountE_spec g e most) rfl ?_
  rintro _ _ ⟨rfl, rfl⟩
  obtain ⟨K, hK⟩ : ∃ K, K = (eCount most e).1.toNat := ⟨_, rfl⟩
  refine ⟨HeldL.nil, ?_⟩
  refine EPL.p rfl rfl (q_move (v := .int _ _) rfl) ?_
  refine EPL.nil ?_
  refine EL.go ?_
  refine EL.block ?_
  refine EL.loop [6, 7, 8, 12, 13, 14, 15, 16, 17, 18, 19, 20, 21, 22, 23] (fun x : Nat × Option Addr × Nat × List Hd => [(7, .slice x.2.1 x.2.2.2.length x.2.2.1), (12, .int .i64 (((K - x.1 : Nat) : Nat) : Int))]) (fun m x Hs' => m = x.1 ∧ x.1 ≤ K ∧ ∃ e1 H1, Hs' = [sg g (EyB e1), H1] ∧ OwnHs x.2.1 x.2.2.1 x.2.2.2 H1 ∧ x.2.2.2.length = K - x.1 ∧ eSome most get e = eTimes get x.1 e1 x.2.2.2) K (K, none, 0, []) ⟨rfl, Nat.le_refl _, (eCount most e).2, Hp.nil, rfl, OwnS.nil _ _ _, by simp, by rw [hK]; rfl⟩ ⟨rfl, congrArg (Value.int .i64) (by rw [Nat.sub_self]; rfl), trivial⟩ ?_
  rintro m ⟨k, a, c, l⟩ _ j ⟨hmk, hkK, e1, H1, rfl, hO, hl, hE⟩
  change EL _ _ _ _ (upds (Go.Proofs.YtedkoebbijpnfaaGreatDoor.TH.mix _ _ j) [(7, Value.slice a l.length c), (12, .int .i64 (((K - k : Nat) : Nat) : Int))]) _
  change k ≤ K at hkK
  change OwnHs a c l H1 at hO
  change l.length = K - k at hl
  change eSome most get e = eTimes get k e1 l at hE
  change m = k at hmk
  refine EL.seq ?_
  refine EL.region (.p 0 (.nil)) (by kernel_rfl) ?_
  refine EPL.p rfl rfl (q_lss rfl rfl) ?_
  refine EPL.nil ?_
  refine EL.go ?_
  refine EL.seq ?_
  refine EL.cond rfl (fun c1 => ?_) (fun c1 => ?_)
  ·
    have c1 := of_decide_eq_true c1
    obtain ⟨k2, rfl⟩ : ∃ k2, k = k2 + 1 := ⟨k - 1, by omega⟩
    have hln := hlen e1
    refine EL.skip ?_
    refine EL.go ?_
    refine EL.seq ?_
    refine EL.block ?_
    refine EL.seq ?_
    refine EL.region (.p 0 (.p 1 (.x 2 [] (.x 3 [] (.x 4 [] (.nil)))))) (by kernel_rfl) ?_
    refine EPL.p rfl rfl (q_move (v := _) rfl) ?_
    refine EPL.p rfl rfl (q_move (v := .pointer _) rfl) ?_
    refine EPL.clV rfl rfl rfl hF hnum hbody (hget e1) rfl ?_
    rintro _ _ ⟨rfl, rfl⟩
    refine ⟨HeldL.nil, ?_⟩
    refine EPL.al rfl rfl el44 (fun _ => HeldL.nil) (fun b8 => ?_)
    refine EPL.stA (v := (get e1).1.cells.toArray) rfl rfl sz44 rfl rfl (Hd.sz hln) (Hd.one _) rfl HeldL.nil ?_
    refine EPL.nil ?_
    refine EL.go ?_
    refine EL.seq ?_
    refine EL.seq ?_
    refine EL.region (.p 0 (.x 1 [] (.nil))) (by kernel_rfl) ?_
    refine EPL.p rfl rfl (q_move (v := .pointer _) rfl) ?_
    refine EPL.cl rfl rfl Tryz.func54 rfl rfl (BadE_spec g (get e1).2) rfl ?_
    rintro _ _ ⟨rfl, rfl⟩
    refine ⟨HeldL.nil, ?_⟩
    refine EPL.nil ?_
    refine EL.go ?_
    refine EL.cond rfl (fun c2 => ?_) (fun c2 => ?_)
    ·
      have hE2 : eSome most get e = ([], (get e1).2) := hE.trans (eTimes_bad c2)
      refine EL.seq ?_
      refine EL.region (.p 0 (.nil)) (by kernel_rfl) ?_
      refine EPL.p rfl rfl (q_assign (v := .slice _ _ _) rfl) ?_
      refine EPL.nil ?_
      refine EL.go ?_
      refine EL.ret ?_
      exact end_retP [sg g (EyB (get e1).2), H1] (fun _ => rfl) (fun _ => by rw [hE2]; exact ⟨_, _, _, rfl, rfl, OwnS.nil _ _ _⟩)
    ·
      have hE2 : eSome most get e = eTimes get k2 (get e1).2 (l ++ [(get e1).1]) := hE.trans (eTimes_ok (by cases h : (get e1).2.2 <;> simp_all))
      refine EL.skip ?_
      refine EL.go ?_
      refine EL.region (.p 0 (.l 1 (.x 2 [] (.x 3 [] (.p 4 (.nil)))))) (by kernel_rfl) ?_
      refine EPL.p rfl rfl (q_move (v := .slice _ _ _) rfl) ?_
      refine EPL.ldAw rfl rfl ag44 rfl (Hd.sz hln) ?_
      refine EPL.bs rfl rfl Tryz.underlying25 el44 rfl rfl (fillA (c := (get e1).1.cells.toArray) (Hd.sz hln)) (fun _ => HeldL.nil) (fun b9 => ?_)
      refine EPL.app rfl rfl Tryz.underlying25 (.inr ⟨_, Tryz.underlying25⟩) el44 rfl (by exact hO) rfl (by exact fun hd => Src.pick hd (by rw [Hd.sz hln]) (List.all_eq_true.2 (Hd.one _))) (by unfold maxLen; omega) (by omega) (fun v' H3 hv' => ?_)
      obtain ⟨a3, c3, rfl, hO3⟩ := OwnHs.app hv'
      refine ⟨HeldL.nil, ?_⟩
      refine EPL.p rfl rfl (q_assign (v := .slice _ _ _) rfl) ?_
      refine EPL.nil ?_
      refine EL.go ?_
      refine EL.region (.p 0 (.p 1 (.nil))) (by kernel_rfl) ?_
      refine EPL.p rfl rfl (q_add rfl rfl) ?_
      refine EPL.p rfl rfl (q_move (v := .int _ _) rfl) ?_
      refine EPL.nil ?_
      refine RoundQ.mkP (m - 1) (k2, a3, c3, l ++ [(get e1).1]) [sg g (EyB (get e1).2), H3] (by omega) ⟨by show m - 1 = k2; omega, by show k2 ≤ K; omega, _, H3, rfl, hO3, by show (l ++ [(get e1).1]).length = K - k2; rw [List.length_append, hl, List.length_singleton]; omega, hE2⟩ (by repeat first | refine Off.upd rfl ?_ | exact Off.mix | refine Off.upds rfl ?_ | refine Off.mixs rfl ?_ | exact Off.refl) ⟨rfl, congrArg (Value.int .i64) (by rw [wrap_i64_in (by omega)]; show _ = (((K - k2 : Nat) : Nat) : Int); omega), trivial⟩
  ·
    have c1 := of_decide_eq_false c1
    obtain rfl : k = 0 := by omega
    refine EL.exit ?_
    refine EL.go ?_
    refine EL.seq ?_
    refine EL.region (.p 0 (.p 1 (.nil))) (by kernel_rfl) ?_
    refine EPL.p rfl rfl (q_move (v := .slice _ _ _) rfl) ?_
    refine EPL.p rfl rfl (q_assign (v := .slice _ _ _) rfl) ?_
    refine EPL.nil ?_
    refine EL.go ?_
    refine EL.ret ?_
    exact end_ret (fun _ => rfl) (fun _ => by rw [hE]; exact ⟨_, _, _, rfl, rfl, hO⟩)

end Go.Proofs.YtedkoebbijpnfaaGreatDoor

namespace Go.Proofs.YtedkoebbijpnfaaGreatDoor
open Go Go.Proofs.YtedkoebbijpnfaaGreatDoor.TH
set_option maxHeartbeats 1000000

/-- A message. -/
structure Mp where
  kind : Int
  ver : Int
  serv : Int
  height : Int
  num : Int
  names : List (List UInt8)
  stop : List UInt8
  heads : List Hd
abbrev Mp.nil (k : Int) : Mp := ⟨k, 0, 0, 0, 0, [], List.replicate 32 0, []⟩
/-- Where its lists lie. -/
structure Pl where
  na : Option Addr
  nc : Nat
  ha : Option Addr
  hc : Nat
abbrev Pl.nil : Pl := ⟨none, 0, none, 0⟩
def Mp.cells (m : Mp) (p : Pl) : List Value := .int .i64 m.kind :: .int .i64 m.ver :: .int .i64 m.serv :: .int .i64 m.height :: .int .i64 m.num :: .slice p.na m.names.length p.nc :: (m.stop.map bV ++ [.slice p.ha m.heads.length p.hc])
abbrev Mp.vals (m : Mp) (p : Pl) : Array Value := (m.cells p).toArray
/-- Its lists lie there. -/
structure Mp.In (m : Mp) (p : Pl) (I : Hp) : Prop where
  stop : m.stop.length = 32
  names : ∀ h ∈ m.names, h.length = 32
  heads : ∀ h ∈ m.heads, h.ok
  rn : RdS 32 (.slice p.na m.names.length p.nc) m.names.length (m.names.flatMap fun h => h.map bV) I
  rh : RdS 68 (.slice p.ha m.heads.length p.hc) m.heads.length (m.heads.flatMap Hd.cells) I
theorem RdS.nil' {sz : Nat} {c : Nat} {a : Option Addr} {I : Hp} : RdS sz (.slice a 0 c) 0 [] I := ⟨by simp, by decide, .inl ⟨rfl, _, _, rfl⟩⟩
theorem Mp.sz {m : Mp} {p : Pl} (h : m.stop.length = 32) : (m.vals p).size = 39 := by simp [Mp.cells, h]
theorem Mp.one (m : Mp) (p : Pl) : ∀ u ∈ (m.vals p).toList, u.oneCell' = true := by
  intro u hu
  simp only [Mp.cells, List.mem_cons, List.mem_append, List.mem_map, List.not_mem_nil, or_false] at hu
  rcases hu with rfl | rfl | rfl | rfl | rfl | rfl | ⟨x, _, rfl⟩ | rfl <;> rfl
theorem Mp.set1 (m : Mp) (p : Pl) (x : Int) : setL (m.vals p) 1 [.int .i64 x] = ({ m with ver := x }.vals p) := by apply Array.ext'; rw [setL_toList (by simp [Mp.cells])]; simp [Mp.cells]
theorem Mp.set2 (m : Mp) (p : Pl) (x : Int) : setL (m.vals p) 2 [.int .i64 x] = ({ m with serv := x }.vals p) := by apply Array.ext'; rw [setL_toList (by simp [Mp.cells])]; simp [Mp.cells]
theorem Mp.set3 (m : Mp) (p : Pl) (x : Int) : setL (m.vals p) 3 [.int .i64 x] = ({ m with height := x }.vals p) := by apply Array.ext'; rw [setL_toList (by simp [Mp.cells])]; simp [Mp.cells]
theorem Mp.set4 (m : Mp) (p : Pl) (x : Int) : setL (m.vals p) 4 [.int .i64 x] = ({ m with num := x }.vals p) := by apply Array.ext'; rw [setL_toList (by simp [Mp.cells])]; simp [Mp.cells]
theorem Mp.set5 (m : Mp) (p : Pl) (l : List (List UInt8)) (a : Option Addr) (c : Nat) : setL (m.vals p) 5 [.slice a l.length c] = ({ m with names := l }.vals { p with na := a, nc := c }) := by apply Array.ext'; rw [setL_toList (by simp [Mp.cells])]; simp [Mp.cells]
theorem Mp.set6 (m : Mp) (p : Pl) (l : List UInt8) (h : m.stop.length = 32) (hl : l.length = 32) : setL (m.vals p) 6 (l.map bV) = ({ m with stop := l }.vals p) := by
  have := setL_mid (A := [Value.int .i64 m.kind, .int .i64 m.ver, .int .i64 m.serv, .int .i64 m.height, .int .i64 m.num, .slice p.na m.names.length p.nc]) (B := m.stop.map bV) (B' := l.map bV) (C := [.slice p.ha m.heads.length p.hc]) (by simp [h, hl])
  exact this
theorem Mp.set38 (m : Mp) (p : Pl) (l : List Hd) (a : Option Addr) (c : Nat) (h : m.stop.length = 32) : setL (m.vals p) 38 [.slice a l.length c] = ({ m with heads := l }.vals { p with ha := a, hc := c }) := by
  have := setL_mid (A := [Value.int .i64 m.kind, .int .i64 m.ver, .int .i64 m.serv, .int .i64 m.height, .int .i64 m.num, .slice p.na m.names.length p.nc] ++ m.stop.map bV) (B := [Value.slice p.ha m.heads.length p.hc]) (B' := [.slice a l.length c]) (C := []) rfl
  rw [List.length_append, List.length_map, h] at this
  exact this
/-- What is read of a message, by its kind. -/
def eMsg (k : Int) (e : Ey) : Mp × Ey :=
  if k = 1 then ({ Mp.nil k with ver := (eGet 4 e).1, height := (eGet 4 (eGet 4 e).2).1, serv := (eGet 7 (eGet 4 (eGet 4 e).2).2).1, num := (eGet 7 (eGet 7 (eGet 4 (eGet 4 e).2).2).2).1 }, (eGet 7 (eGet 7 (eGet 4 (eGet 4 e).2).2).2).2)
  else if k = 3 then ({ Mp.nil k with ver := (eGet 4 e).1, names := (eSome 32 eName (eGet 4 e).2).1, stop := (eName (eSome 32 eName (eGet 4 e).2).2).1 }, (eName (eSome 32 eName (eGet 4 e).2).2).2)
  else if k = 4 then ({ Mp.nil k with heads := (eSome 64 eHead e).1 }, (eSome 64 eHead e).2)
  else if k = 5 then ({ Mp.nil k with names := (eSome 32 eThing e).1 }, (eSome 32 eThing e).2)
  else if k = 6 ∨ k = 7 then ({ Mp.nil k with num := (eGet 7 e).1 }, (eGet 7 e).2)
  else (Mp.nil k, e)
/-- What is read of a message's envelope, and the error's number. -/
def readR (w p : List UInt8) : Mp × Int :=
  if kindR w = 0 then (Mp.nil 0, 5)
  else if (eMsg (kindR w) (p, false)).2 = ([], false) then ((eMsg (kindR w) (p, false)).1, 0) else (Mp.nil 0, 4)
theorem done_yes {e : Ey} (h : (!(!e.2 && decide (e.1 = []))) = false) : e = ([], false) := by
  obtain ⟨s, b⟩ := e
  cases b <;> simp_all
theorem done_no {e : Ey} (h : (!(!e.2 && decide (e.1 = []))) = true) : e ≠ ([], false) := by
  rintro rfl
  simp at h
theorem read_ok {w p : List UInt8} {k : Int} {m : Mp} {e : Ey} (hk : kindR w = k) (h0 : ¬ k = 0) (hm : eMsg k (p, false) = (m, e)) (he : e = ([], false)) : readR w p = (m, 0) := by
  unfold readR; rw [hk, if_neg h0, hm]; exact if_pos he
theorem read_no {w p : List UInt8} {k : Int} {m : Mp} {e : Ey} (hk : kindR w = k) (h0 : ¬ k = 0) (hm : eMsg k (p, false) = (m, e)) (he : e ≠ ([], false)) : readR w p = (Mp.nil 0, 4) := by
  unfold readR; rw [hk, if_neg h0, hm]; exact if_neg he
theorem eCount_le {most : Int} (h0 : 0 ≤ most) (e : Ey) : (eCount most e).1 ≤ most := by
  show (countR e.1 e.2 most).1 ≤ most
  unfold countR
  split
  · exact h0
  · rename_i h; simp only; omega
theorem eHead_ok (e : Ey) : (eHead e).1.ok := eHead0_ok e
theorem eTimes_all {α : Type} {get : Ey → α × Ey} {p : α → Prop} (h : ∀ e, p (get e).1) : ∀ (n : Nat) (e : Ey) (o : List α), (∀ x ∈ o, p x) → ∀ x ∈ (eTimes get n e o).1, p x
  | 0, e, o, ho => ho
  | n + 1, e, o, ho => by
    simp only [eTimes]
    split
    · simp
    · exact eTimes_all h n _ _ fun x hx => by
        rcases List.mem_append.1 hx with h1 | h1
        · exact ho x h1
        · rw [List.mem_singleton.1 h1]; exact h e
theorem eSome_all {α : Type} {get : Ey → α × Ey} {p : α → Prop} (h : ∀ e, p (get e).1) (most : Int) (e : Ey) : ∀ x ∈ (eSome most get e).1, p x := eTimes_all h _ _ _ (by simp)
section
variable {P : Program} {H : Hp} {env : Env}
theorem resL_two {r s : ResultVar} {v w : Value} (h1 : rv P H env r = some v) (h2 : rv P H env s = some w) : resL P H env [r, s] = some [v, w] := by simp [resL, h1, h2]
end
abbrev msgV (m : Mp) (p : Pl) : Value := .agg (m.vals p)
abbrev MsgB (m : Mp) (p : Pl) : Obj := .cells (m.vals p) 27 (0, 0)

end Go.Proofs.YtedkoebbijpnfaaGreatDoor

namespace Go.Proofs.YtedkoebbijpnfaaGreatDoor
open Go Go.Proofs.YtedkoebbijpnfaaGreatDoor.TH
set_option maxHeartbeats 1000000
theorem Read_spec (w p : List UInt8) (G : Hp) (hW : GW G) : CallL Tryz.prog 11 [.agg #[str w, str p]] [G] (fun r Hs' => ∃ pl H', r = .tuple #[msgV (readR w p).1 pl, .int .i64 (readR w p).2] ∧ Hs' = [H', G] ∧ (readR w p).1.In pl H') := by
  refine CallL.enter Tryz.func11 Tryz.ntmps11 rfl rfl rfl ?_
  refine EL.seq ?_
  refine EL.region (.x 0 [] (.x 1 [] (.p 2 (.nil)))) (by kernel_rfl) ?_
  refine EPL.pad ?_
  refine EPL.box (c := #[str w, str p]) rfl rfl rfl (fun _ => HeldL.nil) (fun b1 => ?_)
  refine EPL.al rfl rfl el27 (fun _ => HeldL.nil) (fun b2 => ?_)
  refine EPL.p rfl rfl (q_assign (v := .int _ _) rfl) ?_
  refine EPL.nil ?_
  refine EL.go ?_
  refine EL.seq ?_
  refine EL.region (.p 0 (.l 1 (.x 2 [] (.p 3 (.x 4 [] (.x 5 [] (.nil))))))) (by kernel_rfl) ?_
  refine EPL.p rfl rfl (q_fieldAddr (p := ⟨_, _, none⟩) Tryz.underlying38 rfl sz9 rfl rfl) ?_
  refine EPL.ld1 (v := str w) rfl rfl sc9 rfl rfl ?_
  refine EPL.cl rfl rfl Tryz.func14 rfl rfl (SKind_spec w G hW) rfl ?_
  rintro _ _ ⟨rfl, rfl⟩
  generalize hk : kindR w = k
  refine ⟨HeldL.nil, ?_⟩
  refine EPL.p rfl rfl (q_build (cells := (Mp.nil k).vals Pl.nil) pl27 el27 (.cons rfl rfl (Nat.le_of_ble_eq_true rfl) rfl .nil)) ?_
  refine EPL.al rfl rfl el27 (fun _ => HeldL.nil) (fun b4 => ?_)
  refine EPL.stA (v := (Mp.nil k).vals Pl.nil) rfl rfl sz27 rfl rfl rfl (Mp.one _ _) rfl HeldL.nil ?_
  refine EPL.nil ?_
  refine EL.go ?_
  refine EL.seq ?_
  refine EL.seq ?_
  refine EL.region (.p 0 (.l 1 (.p 2 (.nil)))) (by kernel_rfl) ?_
  refine EPL.p rfl rfl (q_fieldAddr (p := ⟨_, _, none⟩) Tryz.underlying27 rfl sz3 rfl rfl) ?_
  refine EPL.ld1 (v := .int _ _) rfl rfl sc3 rfl rfl ?_
  refine EPL.p rfl rfl (q_eql rfl rfl) ?_
  refine EPL.nil ?_
  refine EL.go ?_
  refine EL.cond rfl (fun c1 => ?_) (fun c1 => ?_)
  ·
    have c1 := of_decide_eq_true c1
    subst c1
    refine EL.seq ?_
    refine EL.region (.l 0 (.x 1 [] (.p 2 (.nil)))) (by kernel_rfl) ?_
    refine EPL.ldAw rfl rfl ag27 rfl rfl ?_
    refine EPL.stA (v := (Mp.nil 0).vals Pl.nil) rfl rfl sz27 rfl rfl rfl (Mp.one _ _) rfl HeldL.nil ?_
    refine EPL.p rfl rfl (q_assign (v := .int _ _) rfl) ?_
    refine EPL.nil ?_
    refine EL.go ?_
    refine EL.ret ?_
    exact end_retP (vs := [msgV (Mp.nil 0) Pl.nil, .int .i64 5]) [Hp.nil, G] (fun hd => resL_two (rv_cellA (e := 27) (fr := (0, 0)) ag27 rfl (TakeP.sub (H := sg b2 (MsgB (Mp.nil 0) Pl.nil)) hd b2 _ sg_self) rfl) rfl) (fun _ => by rw [show readR w p = (Mp.nil 0, 5) from by unfold readR; rw [hk]; exact if_pos rfl]; exact ⟨Pl.nil, Hp.nil, rfl, rfl, ⟨rfl, by simp, by simp, RdS.nil', RdS.nil'⟩⟩)
  ·
    have c1 := of_decide_eq_false c1
    have h0 := c1
    refine EL.skip ?_
    refine EL.go ?_
    refine EL.seq ?_
    refine EL.region (.p 0 (.l 1 (.x 2 [] (.p 3 (.nil))))) (by kernel_rfl) ?_
    refine EPL.p rfl rfl (q_fieldAddr (p := ⟨_, _, none⟩) Tryz.underlying38 rfl sz9 rfl rfl) ?_
    refine EPL.ld1 (v := str p) rfl rfl sc9 rfl rfl ?_
    refine EPL.cl rfl rfl Tryz.func28 rfl rfl (On_spec p) rfl ?_
    rintro _ _ ⟨g, rfl, rfl⟩
    refine ⟨HeldL.nil, ?_⟩
    refine EPL.p rfl rfl (q_assign (v := .pointer _) rfl) ?_
    refine EPL.nil ?_
    refine EL.go ?_
    refine EL.seq ?_
    refine EL.seq ?_
    refine EL.region (.p 0 (.l 1 (.nil))) (by kernel_rfl) ?_
    refine EPL.p rfl rfl (q_fieldAddr (p := ⟨_, _, none⟩) Tryz.underlying27 rfl sz3 rfl rfl) ?_
    refine EPL.ld1 (v := .int _ _) rfl rfl sc3 rfl rfl ?_
    refine EPL.nil ?_
    refine EL.go ?_
    refine EL.block ?_
    refine EL.seq ?_
    refine EL.region (.p 0 (.p 1 (.nil))) (by kernel_rfl) ?_
    refine EPL.p rfl rfl (q_eql rfl rfl) ?_
    refine EPL.p rfl rfl (q_assign (v := .bool _) rfl) ?_
    refine EPL.nil ?_
    refine EL.go ?_
    refine EL.cond rfl (fun c2 => ?_) (fun c2 => ?_)
    ·
      have c2 := of_decide_eq_true c2
      have k1 := c2
      refine EL.seq ?_
      refine EL.region (.p 0 (.x 1 [] (.p 2 (.x 3 [] (.p 4 (.x 5 [] (.p 6 (.x 7 [] (.nil))))))))) (by kernel_rfl) ?_
      refine EPL.p rfl rfl (q_move (v := .pointer _) rfl) ?_
      refine EPL.cl rfl rfl Tryz.func29 rfl rfl (GetE_spec g (((p, false) : Ey)) 4) rfl ?_
      rintro _ _ ⟨rfl, rfl⟩
      refine ⟨HeldL.nil, ?_⟩
      refine EPL.p rfl rfl (q_move (v := .pointer _) rfl) ?_
      refine EPL.cl rfl rfl Tryz.func29 rfl rfl (GetE_spec g ((eGet 4 ((p, false) : Ey)).2) 4) rfl ?_
      rintro _ _ ⟨rfl, rfl⟩
      refine ⟨HeldL.nil, ?_⟩
      refine EPL.p rfl rfl (q_fieldAddr (p := ⟨_, _, none⟩) Tryz.underlying27 rfl sz3 rfl rfl) ?_
      refine EPL.st (v := .int .i64 _) (c' := ({ Mp.nil k with ver := (eGet 4 ((p, false) : Ey)).1 }).vals Pl.nil) rfl rfl sz3 rfl rfl rfl (oneV rfl) (by rw [Mp.sz (by first | rfl | exact List.length_replicate | exact eName_len _)]; exact Nat.le_of_ble_eq_true rfl) (Mp.set1 _ _ _) HeldL.nil ?_
      refine EPL.p rfl rfl (q_fieldAddr (p := ⟨_, _, none⟩) Tryz.underlying27 rfl sz3 rfl rfl) ?_
      refine EPL.st (v := .int .i64 _) (c' := ({ Mp.nil k with ver := (eGet 4 ((p, false) : Ey)).1, height := (eGet 4 (eGet 4 ((p, false) : Ey)).2).1 }).vals Pl.nil) rfl rfl sz3 rfl rfl rfl (oneV rfl) (by rw [Mp.sz (by first | rfl | exact List.length_replicate | exact eName_len _)]; exact Nat.le_of_ble_eq_true rfl) (Mp.set3 _ _ _) HeldL.nil ?_
      refine EPL.nil ?_
      refine EL.go ?_
      refine EL.region (.p 0 (.x 1 [] (.p 2 (.x 3 [] (.p 4 (.x 5 [] (.p 6 (.x 7 [] (.nil))))))))) (by kernel_rfl) ?_
      refine EPL.p rfl rfl (q_move (v := .pointer _) rfl) ?_
      refine EPL.cl rfl rfl Tryz.func29 rfl rfl (GetE_spec g ((eGet 4 (eGet 4 ((p, false) : Ey)).2).2) 7) rfl ?_
      rintro _ _ ⟨rfl, rfl⟩
      refine ⟨HeldL.nil, ?_⟩
      refine EPL.p rfl rfl (q_move (v := .pointer _) rfl) ?_
      refine EPL.cl rfl rfl Tryz.func29 rfl rfl (GetE_spec g ((eGet 7 (eGet 4 (eGet 4 ((p, false) : Ey)).2).2).2) 7) rfl ?_
      rintro _ _ ⟨rfl, rfl⟩
      refine ⟨HeldL.nil, ?_⟩
      refine EPL.p rfl rfl (q_fieldAddr (p := ⟨_, _, none⟩) Tryz.underlying27 rfl sz3 rfl rfl) ?_
      refine EPL.st (v := .int .i64 _) (c' := ({ Mp.nil k with ver := (eGet 4 ((p, false) : Ey)).1, height := (eGet 4 (eGet 4 ((p, false) : Ey)).2).1, serv := (eGet 7 (eGet 4 (eGet 4 ((p, false) : Ey)).2).2).1 }).vals Pl.nil) rfl rfl sz3 rfl rfl rfl (oneV rfl) (by rw [Mp.sz (by first | rfl | exact List.length_replicate | exact eName_len _)]; exact Nat.le_of_ble_eq_true rfl) (Mp.set2 _ _ _) HeldL.nil ?_
      refine EPL.p rfl rfl (q_fieldAddr (p := ⟨_, _, none⟩) Tryz.underlying27 rfl sz3 rfl rfl) ?_
      refine EPL.st (v := .int .i64 _) (c' := ({ Mp.nil k with ver := (eGet 4 ((p, false) : Ey)).1, height := (eGet 4 (eGet 4 ((p, false) : Ey)).2).1, serv := (eGet 7 (eGet 4 (eGet 4 ((p, false) : Ey)).2).2).1, num := (eGet 7 (eGet 7 (eGet 4 (eGet 4 ((p, false) : Ey)).2).2).2).1 }).vals Pl.nil) rfl rfl sz3 rfl rfl rfl (oneV rfl) (by rw [Mp.sz (by first | rfl | exact List.length_replicate | exact eName_len _)]; exact Nat.le_of_ble_eq_true rfl) (Mp.set4 _ _ _) HeldL.nil ?_
      refine EPL.nil ?_
      refine EL.go ?_
      refine EL.seq ?_
      refine EL.seq ?_
      refine EL.region (.p 0 (.x 1 [] (.p 2 (.nil)))) (by kernel_rfl) ?_
      refine EPL.p rfl rfl (q_move (v := .pointer _) rfl) ?_
      refine EPL.cl rfl rfl Tryz.func35 rfl rfl (DoneE_spec g (eGet 7 (eGet 7 (eGet 4 (eGet 4 ((p, false) : Ey)).2).2).2).2) rfl ?_
      rintro _ _ ⟨rfl, rfl⟩
      refine ⟨HeldL.nil, ?_⟩
      refine EPL.p rfl rfl (q_not rfl) ?_
      refine EPL.nil ?_
      refine EL.go ?_
      refine EL.cond rfl (fun c3 => ?_) (fun c3 => ?_)
      ·
        refine EL.seq ?_
        refine EL.region (.p 0 (.x 1 [] (.p 2 (.nil)))) (by kernel_rfl) ?_
        refine EPL.p rfl rfl (q_build (cells := (Mp.nil 0).vals Pl.nil) pl27 el27 .nil) ?_
        refine EPL.stA (v := (Mp.nil 0).vals Pl.nil) rfl rfl sz27 rfl rfl rfl (Mp.one _ _) rfl HeldL.nil ?_
        refine EPL.p rfl rfl (q_assign (v := .int _ _) rfl) ?_
        refine EPL.nil ?_
        refine EL.go ?_
        refine EL.ret ?_
        exact end_retP (vs := [msgV (Mp.nil 0) Pl.nil, .int .i64 4]) [Hp.nil, G] (fun hd => resL_two (rv_cellA (e := 27) (fr := (0, 0)) ag27 rfl (TakeP.sub (H := sg b2 (MsgB (Mp.nil 0) Pl.nil)) hd b2 _ sg_self) rfl) rfl) (fun _ => by rw [read_no hk h0 (by unfold eMsg; exact if_pos k1) (done_no c3)]; exact ⟨Pl.nil, Hp.nil, rfl, rfl, ⟨rfl, by simp, by simp, RdS.nil', RdS.nil'⟩⟩)
      ·
        refine EL.skip ?_
        refine EL.go ?_
        refine EL.seq ?_
        refine EL.region (.l 0 (.x 1 [] (.p 2 (.nil)))) (by kernel_rfl) ?_
        refine EPL.ldAw rfl rfl ag27 rfl (Mp.sz (by first | rfl | exact List.length_replicate | exact eName_len _)) ?_
        refine EPL.stA (v := ({ Mp.nil k with ver := (eGet 4 ((p, false) : Ey)).1, height := (eGet 4 (eGet 4 ((p, false) : Ey)).2).1, serv := (eGet 7 (eGet 4 (eGet 4 ((p, false) : Ey)).2).2).1, num := (eGet 7 (eGet 7 (eGet 4 (eGet 4 ((p, false) : Ey)).2).2).2).1 }).vals Pl.nil) rfl rfl sz27 rfl rfl (Mp.sz (by first | rfl | exact List.length_replicate | exact eName_len _)) (Mp.one _ _) rfl HeldL.nil ?_
        refine EPL.p rfl rfl (q_assign (v := .int _ _) rfl) ?_
        refine EPL.nil ?_
        refine EL.go ?_
        refine EL.ret ?_
        exact end_retP (vs := [msgV ({ Mp.nil k with ver := (eGet 4 ((p, false) : Ey)).1, height := (eGet 4 (eGet 4 ((p, false) : Ey)).2).1, serv := (eGet 7 (eGet 4 (eGet 4 ((p, false) : Ey)).2).2).1, num := (eGet 7 (eGet 7 (eGet 4 (eGet 4 ((p, false) : Ey)).2).2).2).1 }) Pl.nil, .int .i64 0]) [Hp.nil, G] (fun hd => resL_two (rv_cellA (e := 27) (fr := (0, 0)) ag27 rfl (TakeP.sub (H := sg b2 (MsgB ({ Mp.nil k with ver := (eGet 4 ((p, false) : Ey)).1, height := (eGet 4 (eGet 4 ((p, false) : Ey)).2).1, serv := (eGet 7 (eGet 4 (eGet 4 ((p, false) : Ey)).2).2).1, num := (eGet 7 (eGet 7 (eGet 4 (eGet 4 ((p, false) : Ey)).2).2).2).1 }) Pl.nil)) hd b2 _ sg_self) (Mp.sz (by first | rfl | exact List.length_replicate | exact eName_len _))) rfl) (fun _ => by rw [read_ok hk h0 (by unfold eMsg; exact if_pos k1) (done_yes c3)]; exact ⟨Pl.nil, Hp.nil, rfl, rfl, ⟨rfl, by simp, by simp, RdS.nil', RdS.nil'⟩⟩)
    ·
      have c2 := of_decide_eq_false c2
      have k1 := c2
      refine EL.seq ?_
      refine EL.region (.p 0 (.p 1 (.nil))) (by kernel_rfl) ?_
      refine EPL.p rfl rfl (q_eql rfl rfl) ?_
      refine EPL.p rfl rfl (q_assign (v := .bool _) rfl) ?_
      refine EPL.nil ?_
      refine EL.go ?_
      refine EL.cond rfl (fun c4 => ?_) (fun c4 => ?_)
      ·
        have c4 := of_decide_eq_true c4
        have k3 := c4
        refine EL.seq ?_
        refine EL.region (.p 0 (.x 1 [] (.p 2 (.x 3 [] (.nil))))) (by kernel_rfl) ?_
        refine EPL.p rfl rfl (q_move (v := .pointer _) rfl) ?_
        refine EPL.cl rfl rfl Tryz.func29 rfl rfl (GetE_spec g (((p, false) : Ey)) 4) rfl ?_
        rintro _ _ ⟨rfl, rfl⟩
        refine ⟨HeldL.nil, ?_⟩
        refine EPL.p rfl rfl (q_fieldAddr (p := ⟨_, _, none⟩) Tryz.underlying27 rfl sz3 rfl rfl) ?_
        refine EPL.st (v := .int .i64 _) (c' := ({ Mp.nil k with ver := (eGet 4 ((p, false) : Ey)).1 }).vals Pl.nil) rfl rfl sz3 rfl rfl rfl (oneV rfl) (by rw [Mp.sz (by first | rfl | exact List.length_replicate | exact eName_len _)]; exact Nat.le_of_ble_eq_true rfl) (Mp.set1 _ _ _) HeldL.nil ?_
        refine EPL.nil ?_
        refine EL.go ?_
        refine EL.seq ?_
        refine EL.region (.p 0 (.x 1 [] (.p 2 (.x 3 [] (.nil))))) (by kernel_rfl) ?_
        refine EPL.p rfl rfl (q_move (v := .pointer _) rfl) ?_
        refine EPL.cl rfl rfl Tryz.func30 rfl rfl (SomeN_spec g ((eGet 4 ((p, false) : Ey)).2) 32 (by decide) 31 _ eName Tryz.func31 rfl rfl (fun e => ENameE_spec g e) eName_len (eCount_le (by decide) _)) rfl ?_
        rintro _ _ ⟨na, nc, HN, rfl, rfl, hO⟩
        refine ⟨HeldL.nil, ?_⟩
        refine EPL.p rfl rfl (q_fieldAddr (p := ⟨_, _, none⟩) Tryz.underlying27 rfl sz22 rfl rfl) ?_
        refine EPL.st (v := .slice na _ nc) (c' := ({ Mp.nil k with ver := (eGet 4 ((p, false) : Ey)).1, names := (eSome 32 eName (eGet 4 ((p, false) : Ey)).2).1 }).vals ⟨na, nc, none, 0⟩) rfl rfl sz22 rfl rfl rfl (oneV rfl) (by rw [Mp.sz (by first | rfl | exact List.length_replicate | exact eName_len _)]; exact Nat.le_of_ble_eq_true rfl) (Mp.set5 _ _ _ _ _) HeldL.nil ?_
        refine EPL.nil ?_
        refine EL.go ?_
        refine EL.region (.p 0 (.x 1 [] (.p 2 (.x 3 [] (.nil))))) (by kernel_rfl) ?_
        refine EPL.p rfl rfl (q_move (v := .pointer _) rfl) ?_
        refine EPL.cl rfl rfl Tryz.func31 rfl rfl (ENameE_spec g (eSome 32 eName (eGet 4 ((p, false) : Ey)).2).2) rfl ?_
        rintro _ _ ⟨rfl, rfl⟩
        refine ⟨HeldL.nil, ?_⟩
        refine EPL.p rfl rfl (q_fieldAddr (p := ⟨_, _, none⟩) Tryz.underlying27 rfl sz24 rfl rfl) ?_
        refine EPL.st (v := hashV (eName (eSome 32 eName (eGet 4 ((p, false) : Ey)).2).2).1) (c' := ({ Mp.nil k with ver := (eGet 4 ((p, false) : Ey)).1, names := (eSome 32 eName (eGet 4 ((p, false) : Ey)).2).1, stop := (eName (eSome 32 eName (eGet 4 ((p, false) : Ey)).2).2).1 }).vals ⟨na, nc, none, 0⟩) rfl rfl sz24 rfl rfl (show ((eName (eSome 32 eName (eGet 4 ((p, false) : Ey)).2).2).1.map bV).toArray.size = 32 by simp [eName_len]) (bvAll _) (by rw [Mp.sz (by first | rfl | exact List.length_replicate | exact eName_len _)]; exact Nat.le_of_ble_eq_true rfl) (Mp.set6 _ _ _ List.length_replicate (eName_len _)) HeldL.nil ?_
        refine EPL.nil ?_
        refine EL.go ?_
        refine EL.seq ?_
        refine EL.seq ?_
        refine EL.region (.p 0 (.x 1 [] (.p 2 (.nil)))) (by kernel_rfl) ?_
        refine EPL.p rfl rfl (q_move (v := .pointer _) rfl) ?_
        refine EPL.cl rfl rfl Tryz.func35 rfl rfl (DoneE_spec g (eName (eSome 32 eName (eGet 4 ((p, false) : Ey)).2).2).2) rfl ?_
        rintro _ _ ⟨rfl, rfl⟩
        refine ⟨HeldL.nil, ?_⟩
        refine EPL.p rfl rfl (q_not rfl) ?_
        refine EPL.nil ?_
        refine EL.go ?_
        refine EL.cond rfl (fun c5 => ?_) (fun c5 => ?_)
        ·
          refine EL.seq ?_
          refine EL.region (.p 0 (.x 1 [] (.p 2 (.nil)))) (by kernel_rfl) ?_
          refine EPL.p rfl rfl (q_build (cells := (Mp.nil 0).vals Pl.nil) pl27 el27 .nil) ?_
          refine EPL.stA (v := (Mp.nil 0).vals Pl.nil) rfl rfl sz27 rfl rfl rfl (Mp.one _ _) rfl HeldL.nil ?_
          refine EPL.p rfl rfl (q_assign (v := .int _ _) rfl) ?_
          refine EPL.nil ?_
          refine EL.go ?_
          refine EL.ret ?_
          exact end_retP (vs := [msgV (Mp.nil 0) Pl.nil, .int .i64 4]) [HN, G] (fun hd => resL_two (rv_cellA (e := 27) (fr := (0, 0)) ag27 rfl (TakeP.sub (H := sg b2 (MsgB (Mp.nil 0) Pl.nil)) hd b2 _ sg_self) rfl) rfl) (fun _ => by rw [read_no hk h0 (by unfold eMsg; rw [if_neg k1]; exact if_pos k3) (done_no c5)]; exact ⟨Pl.nil, HN, rfl, rfl, ⟨rfl, by simp, by simp, RdS.nil', RdS.nil'⟩⟩)
        ·
          refine EL.skip ?_
          refine EL.go ?_
          refine EL.seq ?_
          refine EL.region (.l 0 (.x 1 [] (.p 2 (.nil)))) (by kernel_rfl) ?_
          refine EPL.ldAw rfl rfl ag27 rfl (Mp.sz (by first | rfl | exact List.length_replicate | exact eName_len _)) ?_
          refine EPL.stA (v := ({ Mp.nil k with ver := (eGet 4 ((p, false) : Ey)).1, names := (eSome 32 eName (eGet 4 ((p, false) : Ey)).2).1, stop := (eName (eSome 32 eName (eGet 4 ((p, false) : Ey)).2).2).1 }).vals ⟨na, nc, none, 0⟩) rfl rfl sz27 rfl rfl (Mp.sz (by first | rfl | exact List.length_replicate | exact eName_len _)) (Mp.one _ _) rfl HeldL.nil ?_
          refine EPL.p rfl rfl (q_assign (v := .int _ _) rfl) ?_
          refine EPL.nil ?_
          refine EL.go ?_
          refine EL.ret ?_
          exact end_retP (vs := [msgV ({ Mp.nil k with ver := (eGet 4 ((p, false) : Ey)).1, names := (eSome 32 eName (eGet 4 ((p, false) : Ey)).2).1, stop := (eName (eSome 32 eName (eGet 4 ((p, false) : Ey)).2).2).1 }) ⟨na, nc, none, 0⟩, .int .i64 0]) [HN, G] (fun hd => resL_two (rv_cellA (e := 27) (fr := (0, 0)) ag27 rfl (TakeP.sub (H := sg b2 (MsgB ({ Mp.nil k with ver := (eGet 4 ((p, false) : Ey)).1, names := (eSome 32 eName (eGet 4 ((p, false) : Ey)).2).1, stop := (eName (eSome 32 eName (eGet 4 ((p, false) : Ey)).2).2).1 }) ⟨na, nc, none, 0⟩)) hd b2 _ sg_self) (Mp.sz (by first | rfl | exact List.length_replicate | exact eName_len _))) rfl) (fun _ => by rw [read_ok hk h0 (by unfold eMsg; rw [if_neg k1]; exact if_pos k3) (done_yes c5)]; exact ⟨⟨na, nc, none, 0⟩, HN, rfl, rfl, ⟨eName_len _, eSome_all eName_len _ _, by simp, hO.rd, RdS.nil'⟩⟩)
      ·
        have c4 := of_decide_eq_false c4
        have k3 := c4
        refine EL.seq ?_
        refine EL.region (.p 0 (.p 1 (.nil))) (by kernel_rfl) ?_
        refine EPL.p rfl rfl (q_eql rfl rfl) ?_
        refine EPL.p rfl rfl (q_assign (v := .bool _) rfl) ?_
        refine EPL.nil ?_
        refine EL.go ?_
        refine EL.cond rfl (fun c6 => ?_) (fun c6 => ?_)
        ·
          have c6 := of_decide_eq_true c6
          have k4 := c6
          refine EL.region (.p 0 (.x 1 [] (.p 2 (.x 3 [] (.nil))))) (by kernel_rfl) ?_
          refine EPL.p rfl rfl (q_move (v := .pointer _) rfl) ?_
          refine EPL.cl rfl rfl Tryz.func32 rfl rfl (SomeH_spec g ((p, false) : Ey) 64 (by decide) 33 _ eHead Tryz.func33 rfl rfl (fun e => Head_spec g e) eHead_ok (eCount_le (by decide) _)) rfl ?_
          rintro _ _ ⟨ha, hc, HN, rfl, rfl, hO⟩
          refine ⟨HeldL.nil, ?_⟩
          refine EPL.p rfl rfl (q_fieldAddr (p := ⟨_, _, none⟩) Tryz.underlying27 rfl sz25 rfl rfl) ?_
          refine EPL.st (v := .slice ha _ hc) (c' := ({ Mp.nil k with heads := (eSome 64 eHead ((p, false) : Ey)).1 }).vals ⟨none, 0, ha, hc⟩) rfl rfl sz25 rfl rfl rfl (oneV rfl) (by rw [Mp.sz (by first | rfl | exact List.length_replicate | exact eName_len _)]; exact Nat.le_of_ble_eq_true rfl) (Mp.set38 _ _ _ _ _ List.length_replicate) HeldL.nil ?_
          refine EPL.nil ?_
          refine EL.go ?_
          refine EL.seq ?_
          refine EL.seq ?_
          refine EL.region (.p 0 (.x 1 [] (.p 2 (.nil)))) (by kernel_rfl) ?_
          refine EPL.p rfl rfl (q_move (v := .pointer _) rfl) ?_
          refine EPL.cl rfl rfl Tryz.func35 rfl rfl (DoneE_spec g (eSome 64 eHead ((p, false) : Ey)).2) rfl ?_
          rintro _ _ ⟨rfl, rfl⟩
          refine ⟨HeldL.nil, ?_⟩
          refine EPL.p rfl rfl (q_not rfl) ?_
          refine EPL.nil ?_
          refine EL.go ?_
          refine EL.cond rfl (fun c7 => ?_) (fun c7 => ?_)
          ·
            refine EL.seq ?_
            refine EL.region (.p 0 (.x 1 [] (.p 2 (.nil)))) (by kernel_rfl) ?_
            refine EPL.p rfl rfl (q_build (cells := (Mp.nil 0).vals Pl.nil) pl27 el27 .nil) ?_
            refine EPL.stA (v := (Mp.nil 0).vals Pl.nil) rfl rfl sz27 rfl rfl rfl (Mp.one _ _) rfl HeldL.nil ?_
            refine EPL.p rfl rfl (q_assign (v := .int _ _) rfl) ?_
            refine EPL.nil ?_
            refine EL.go ?_
            refine EL.ret ?_
            exact end_retP (vs := [msgV (Mp.nil 0) Pl.nil, .int .i64 4]) [HN, G] (fun hd => resL_two (rv_cellA (e := 27) (fr := (0, 0)) ag27 rfl (TakeP.sub (H := sg b2 (MsgB (Mp.nil 0) Pl.nil)) hd b2 _ sg_self) rfl) rfl) (fun _ => by rw [read_no hk h0 (by unfold eMsg; rw [if_neg k1, if_neg k3]; exact if_pos k4) (done_no c7)]; exact ⟨Pl.nil, HN, rfl, rfl, ⟨rfl, by simp, by simp, RdS.nil', RdS.nil'⟩⟩)
          ·
            refine EL.skip ?_
            refine EL.go ?_
            refine EL.seq ?_
            refine EL.region (.l 0 (.x 1 [] (.p 2 (.nil)))) (by kernel_rfl) ?_
            refine EPL.ldAw rfl rfl ag27 rfl (Mp.sz (by first | rfl | exact List.length_replicate | exact eName_len _)) ?_
            refine EPL.stA (v := ({ Mp.nil k with heads := (eSome 64 eHead ((p, false) : Ey)).1 }).vals ⟨none, 0, ha, hc⟩) rfl rfl sz27 rfl rfl (Mp.sz (by first | rfl | exact List.length_replicate | exact eName_len _)) (Mp.one _ _) rfl HeldL.nil ?_
            refine EPL.p rfl rfl (q_assign (v := .int _ _) rfl) ?_
            refine EPL.nil ?_
            refine EL.go ?_
            refine EL.ret ?_
            exact end_retP (vs := [msgV ({ Mp.nil k with heads := (eSome 64 eHead ((p, false) : Ey)).1 }) ⟨none, 0, ha, hc⟩, .int .i64 0]) [HN, G] (fun hd => resL_two (rv_cellA (e := 27) (fr := (0, 0)) ag27 rfl (TakeP.sub (H := sg b2 (MsgB ({ Mp.nil k with heads := (eSome 64 eHead ((p, false) : Ey)).1 }) ⟨none, 0, ha, hc⟩)) hd b2 _ sg_self) (Mp.sz (by first | rfl | exact List.length_replicate | exact eName_len _))) rfl) (fun _ => by rw [read_ok hk h0 (by unfold eMsg; rw [if_neg k1, if_neg k3]; exact if_pos k4) (done_yes c7)]; exact ⟨⟨none, 0, ha, hc⟩, HN, rfl, rfl, ⟨List.length_replicate, by simp, eSome_all eHead_ok _ _, RdS.nil', hO.rd⟩⟩)
        ·
          have c6 := of_decide_eq_false c6
          have k4 := c6
          refine EL.seq ?_
          refine EL.region (.p 0 (.p 1 (.nil))) (by kernel_rfl) ?_
          refine EPL.p rfl rfl (q_eql rfl rfl) ?_
          refine EPL.p rfl rfl (q_assign (v := .bool _) rfl) ?_
          refine EPL.nil ?_
          refine EL.go ?_
          refine EL.cond rfl (fun c8 => ?_) (fun c8 => ?_)
          ·
            have c8 := of_decide_eq_true c8
            have k5 := c8
            refine EL.region (.p 0 (.x 1 [] (.p 2 (.x 3 [] (.nil))))) (by kernel_rfl) ?_
            refine EPL.p rfl rfl (q_move (v := .pointer _) rfl) ?_
            refine EPL.cl rfl rfl Tryz.func30 rfl rfl (SomeN_spec g (((p, false) : Ey)) 32 (by decide) 34 _ eThing Tryz.func34 rfl rfl (fun e => Thing_spec g e) eThing_len (eCount_le (by decide) _)) rfl ?_
            rintro _ _ ⟨na, nc, HN, rfl, rfl, hO⟩
            refine ⟨HeldL.nil, ?_⟩
            refine EPL.p rfl rfl (q_fieldAddr (p := ⟨_, _, none⟩) Tryz.underlying27 rfl sz22 rfl rfl) ?_
            refine EPL.st (v := .slice na _ nc) (c' := ({ Mp.nil k with names := (eSome 32 eThing ((p, false) : Ey)).1 }).vals ⟨na, nc, none, 0⟩) rfl rfl sz22 rfl rfl rfl (oneV rfl) (by rw [Mp.sz (by first | rfl | exact List.length_replicate | exact eName_len _)]; exact Nat.le_of_ble_eq_true rfl) (Mp.set5 _ _ _ _ _) HeldL.nil ?_
            refine EPL.nil ?_
            refine EL.go ?_
            refine EL.seq ?_
            refine EL.seq ?_
            refine EL.region (.p 0 (.x 1 [] (.p 2 (.nil)))) (by kernel_rfl) ?_
            refine EPL.p rfl rfl (q_move (v := .pointer _) rfl) ?_
            refine EPL.cl rfl rfl Tryz.func35 rfl rfl (DoneE_spec g (eSome 32 eThing ((p, false) : Ey)).2) rfl ?_
            rintro _ _ ⟨rfl, rfl⟩
            refine ⟨HeldL.nil, ?_⟩
            refine EPL.p rfl rfl (q_not rfl) ?_
            refine EPL.nil ?_
            refine EL.go ?_
            refine EL.cond rfl (fun c9 => ?_) (fun c9 => ?_)
            ·
              refine EL.seq ?_
              refine EL.region (.p 0 (.x 1 [] (.p 2 (.nil)))) (by kernel_rfl) ?_
              refine EPL.p rfl rfl (q_build (cells := (Mp.nil 0).vals Pl.nil) pl27 el27 .nil) ?_
              refine EPL.stA (v := (Mp.nil 0).vals Pl.nil) rfl rfl sz27 rfl rfl rfl (Mp.one _ _) rfl HeldL.nil ?_
              refine EPL.p rfl rfl (q_assign (v := .int _ _) rfl) ?_
              refine EPL.nil ?_
              refine EL.go ?_
              refine EL.ret ?_
              exact end_retP (vs := [msgV (Mp.nil 0) Pl.nil, .int .i64 4]) [HN, G] (fun hd => resL_two (rv_cellA (e := 27) (fr := (0, 0)) ag27 rfl (TakeP.sub (H := sg b2 (MsgB (Mp.nil 0) Pl.nil)) hd b2 _ sg_self) rfl) rfl) (fun _ => by rw [read_no hk h0 (by unfold eMsg; rw [if_neg k1, if_neg k3, if_neg k4]; exact if_pos k5) (done_no c9)]; exact ⟨Pl.nil, HN, rfl, rfl, ⟨rfl, by simp, by simp, RdS.nil', RdS.nil'⟩⟩)
            ·
              refine EL.skip ?_
              refine EL.go ?_
              refine EL.seq ?_
              refine EL.region (.l 0 (.x 1 [] (.p 2 (.nil)))) (by kernel_rfl) ?_
              refine EPL.ldAw rfl rfl ag27 rfl (Mp.sz (by first | rfl | exact List.length_replicate | exact eName_len _)) ?_
              refine EPL.stA (v := ({ Mp.nil k with names := (eSome 32 eThing ((p, false) : Ey)).1 }).vals ⟨na, nc, none, 0⟩) rfl rfl sz27 rfl rfl (Mp.sz (by first | rfl | exact List.length_replicate | exact eName_len _)) (Mp.one _ _) rfl HeldL.nil ?_
              refine EPL.p rfl rfl (q_assign (v := .int _ _) rfl) ?_
              refine EPL.nil ?_
              refine EL.go ?_
              refine EL.ret ?_
              exact end_retP (vs := [msgV ({ Mp.nil k with names := (eSome 32 eThing ((p, false) : Ey)).1 }) ⟨na, nc, none, 0⟩, .int .i64 0]) [HN, G] (fun hd => resL_two (rv_cellA (e := 27) (fr := (0, 0)) ag27 rfl (TakeP.sub (H := sg b2 (MsgB ({ Mp.nil k with names := (eSome 32 eThing ((p, false) : Ey)).1 }) ⟨na, nc, none, 0⟩)) hd b2 _ sg_self) (Mp.sz (by first | rfl | exact List.length_replicate | exact eName_len _))) rfl) (fun _ => by rw [read_ok hk h0 (by unfold eMsg; rw [if_neg k1, if_neg k3, if_neg k4]; exact if_pos k5) (done_yes c9)]; exact ⟨⟨na, nc, none, 0⟩, HN, rfl, rfl, ⟨List.length_replicate, eSome_all eThing_len _ _, by simp, hO.rd, RdS.nil'⟩⟩)
          ·
            have c8 := of_decide_eq_false c8
            have k5 := c8
            refine EL.seq ?_
            refine EL.seq ?_
            refine EL.region (.p 0 (.p 1 (.nil))) (by kernel_rfl) ?_
            refine EPL.p rfl rfl (q_eql rfl rfl) ?_
            refine EPL.p rfl rfl (q_assign (v := .bool _) rfl) ?_
            refine EPL.nil ?_
            refine EL.go ?_
            refine EL.cond rfl (fun c10 => ?_) (fun c10 => ?_)
            ·
              have c10 := of_decide_eq_true c10
              have k6 := c10
              refine EL.skip ?_
              refine EL.go ?_
              refine EL.yes (congrArg Value.bool (decide_eq_true c10)) ?_
              refine EL.region (.p 0 (.x 1 [] (.p 2 (.x 3 [] (.nil))))) (by kernel_rfl) ?_
              refine EPL.p rfl rfl (q_move (v := .pointer _) rfl) ?_
              refine EPL.cl rfl rfl Tryz.func29 rfl rfl (GetE_spec g (((p, false) : Ey)) 7) rfl ?_
              rintro _ _ ⟨rfl, rfl⟩
              refine ⟨HeldL.nil, ?_⟩
              refine EPL.p rfl rfl (q_fieldAddr (p := ⟨_, _, none⟩) Tryz.underlying27 rfl sz3 rfl rfl) ?_
              refine EPL.st (v := .int .i64 _) (c' := ({ Mp.nil k with num := (eGet 7 ((p, false) : Ey)).1 }).vals Pl.nil) rfl rfl sz3 rfl rfl rfl (oneV rfl) (by rw [Mp.sz (by first | rfl | exact List.length_replicate | exact eName_len _)]; exact Nat.le_of_ble_eq_true rfl) (Mp.set4 _ _ _) HeldL.nil ?_
              refine EPL.nil ?_
              refine EL.go ?_
              refine EL.seq ?_
              refine EL.seq ?_
              refine EL.region (.p 0 (.x 1 [] (.p 2 (.nil)))) (by kernel_rfl) ?_
              refine EPL.p rfl rfl (q_move (v := .pointer _) rfl) ?_
              refine EPL.cl rfl rfl Tryz.func35 rfl rfl (DoneE_spec g (eGet 7 ((p, false) : Ey)).2) rfl ?_
              rintro _ _ ⟨rfl, rfl⟩
              refine ⟨HeldL.nil, ?_⟩
              refine EPL.p rfl rfl (q_not rfl) ?_
              refine EPL.nil ?_
              refine EL.go ?_
              refine EL.cond rfl (fun c11 => ?_) (fun c11 => ?_)
              ·
                refine EL.seq ?_
                refine EL.region (.p 0 (.x 1 [] (.p 2 (.nil)))) (by kernel_rfl) ?_
                refine EPL.p rfl rfl (q_build (cells := (Mp.nil 0).vals Pl.nil) pl27 el27 .nil) ?_
                refine EPL.stA (v := (Mp.nil 0).vals Pl.nil) rfl rfl sz27 rfl rfl rfl (Mp.one _ _) rfl HeldL.nil ?_
                refine EPL.p rfl rfl (q_assign (v := .int _ _) rfl) ?_
                refine EPL.nil ?_
                refine EL.go ?_
                refine EL.ret ?_
                exact end_retP (vs := [msgV (Mp.nil 0) Pl.nil, .int .i64 4]) [Hp.nil, G] (fun hd => resL_two (rv_cellA (e := 27) (fr := (0, 0)) ag27 rfl (TakeP.sub (H := sg b2 (MsgB (Mp.nil 0) Pl.nil)) hd b2 _ sg_self) rfl) rfl) (fun _ => by rw [read_no hk h0 (by unfold eMsg; rw [if_neg k1, if_neg k3, if_neg k4, if_neg k5]; exact if_pos (.inl k6)) (done_no c11)]; exact ⟨Pl.nil, Hp.nil, rfl, rfl, ⟨rfl, by simp, by simp, RdS.nil', RdS.nil'⟩⟩)
              ·
                refine EL.skip ?_
                refine EL.go ?_
                refine EL.seq ?_
                refine EL.region (.l 0 (.x 1 [] (.p 2 (.nil)))) (by kernel_rfl) ?_
                refine EPL.ldAw rfl rfl ag27 rfl (Mp.sz (by first | rfl | exact List.length_replicate | exact eName_len _)) ?_
                refine EPL.stA (v := ({ Mp.nil k with num := (eGet 7 ((p, false) : Ey)).1 }).vals Pl.nil) rfl rfl sz27 rfl rfl (Mp.sz (by first | rfl | exact List.length_replicate | exact eName_len _)) (Mp.one _ _) rfl HeldL.nil ?_
                refine EPL.p rfl rfl (q_assign (v := .int _ _) rfl) ?_
                refine EPL.nil ?_
                refine EL.go ?_
                refine EL.ret ?_
                exact end_retP (vs := [msgV ({ Mp.nil k with num := (eGet 7 ((p, false) : Ey)).1 }) Pl.nil, .int .i64 0]) [Hp.nil, G] (fun hd => resL_two (rv_cellA (e := 27) (fr := (0, 0)) ag27 rfl (TakeP.sub (H := sg b2 (MsgB ({ Mp.nil k with num := (eGet 7 ((p, false) : Ey)).1 }) Pl.nil)) hd b2 _ sg_self) (Mp.sz (by first | rfl | exact List.length_replicate | exact eName_len _))) rfl) (fun _ => by rw [read_ok hk h0 (by unfold eMsg; rw [if_neg k1, if_neg k3, if_neg k4, if_neg k5]; exact if_pos (.inl k6)) (done_yes c11)]; exact ⟨Pl.nil, Hp.nil, rfl, rfl, ⟨rfl, by simp, by simp, RdS.nil', RdS.nil'⟩⟩)
            ·
              have c10 := of_decide_eq_false c10
              have k6 := c10
              refine EL.region (.p 0 (.p 1 (.nil))) (by kernel_rfl) ?_
              refine EPL.p rfl rfl (q_eql rfl rfl) ?_
              refine EPL.p rfl rfl (q_assign (v := .bool _) rfl) ?_
              refine EPL.nil ?_
              refine EL.go ?_
              refine EL.cond rfl (fun c12 => ?_) (fun c12 => ?_)
              ·
                have c12 := of_decide_eq_true c12
                have k7 := c12
                refine EL.region (.p 0 (.x 1 [] (.p 2 (.x 3 [] (.nil))))) (by kernel_rfl) ?_
                refine EPL.p rfl rfl (q_move (v := .pointer _) rfl) ?_
                refine EPL.cl rfl rfl Tryz.func29 rfl rfl (GetE_spec g (((p, false) : Ey)) 7) rfl ?_
                rintro _ _ ⟨rfl, rfl⟩
                refine ⟨HeldL.nil, ?_⟩
                refine EPL.p rfl rfl (q_fieldAddr (p := ⟨_, _, none⟩) Tryz.underlying27 rfl sz3 rfl rfl) ?_
                refine EPL.st (v := .int .i64 _) (c' := ({ Mp.nil k with num := (eGet 7 ((p, false) : Ey)).1 }).vals Pl.nil) rfl rfl sz3 rfl rfl rfl (oneV rfl) (by rw [Mp.sz (by first | rfl | exact List.length_replicate | exact eName_len _)]; exact Nat.le_of_ble_eq_true rfl) (Mp.set4 _ _ _) HeldL.nil ?_
                refine EPL.nil ?_
                refine EL.go ?_
                refine EL.seq ?_
                refine EL.seq ?_
                refine EL.region (.p 0 (.x 1 [] (.p 2 (.nil)))) (by kernel_rfl) ?_
                refine EPL.p rfl rfl (q_move (v := .pointer _) rfl) ?_
                refine EPL.cl rfl rfl Tryz.func35 rfl rfl (DoneE_spec g (eGet 7 ((p, false) : Ey)).2) rfl ?_
                rintro _ _ ⟨rfl, rfl⟩
                refine ⟨HeldL.nil, ?_⟩
                refine EPL.p rfl rfl (q_not rfl) ?_
                refine EPL.nil ?_
                refine EL.go ?_
                refine EL.cond rfl (fun c13 => ?_) (fun c13 => ?_)
                ·
                  refine EL.seq ?_
                  refine EL.region (.p 0 (.x 1 [] (.p 2 (.nil)))) (by kernel_rfl) ?_
                  refine EPL.p rfl rfl (q_build (cells := (Mp.nil 0).vals Pl.nil) pl27 el27 .nil) ?_
                  refine EPL.stA (v := (Mp.nil 0).vals Pl.nil) rfl rfl sz27 rfl rfl rfl (Mp.one _ _) rfl HeldL.nil ?_
                  refine EPL.p rfl rfl (q_assign (v := .int _ _) rfl) ?_
                  refine EPL.nil ?_
                  refine EL.go ?_
                  refine EL.ret ?_
                  exact end_retP (vs := [msgV (Mp.nil 0) Pl.nil, .int .i64 4]) [Hp.nil, G] (fun hd => resL_two (rv_cellA (e := 27) (fr := (0, 0)) ag27 rfl (TakeP.sub (H := sg b2 (MsgB (Mp.nil 0) Pl.nil)) hd b2 _ sg_self) rfl) rfl) (fun _ => by rw [read_no hk h0 (by unfold eMsg; rw [if_neg k1, if_neg k3, if_neg k4, if_neg k5]; exact if_pos (.inr k7)) (done_no c13)]; exact ⟨Pl.nil, Hp.nil, rfl, rfl, ⟨rfl, by simp, by simp, RdS.nil', RdS.nil'⟩⟩)
                ·
                  refine EL.skip ?_
                  refine EL.go ?_
                  refine EL.seq ?_
                  refine EL.region (.l 0 (.x 1 [] (.p 2 (.nil)))) (by kernel_rfl) ?_
                  refine EPL.ldAw rfl rfl ag27 rfl (Mp.sz (by first | rfl | exact List.length_replicate | exact eName_len _)) ?_
                  refine EPL.stA (v := ({ Mp.nil k with num := (eGet 7 ((p, false) : Ey)).1 }).vals Pl.nil) rfl rfl sz27 rfl rfl (Mp.sz (by first | rfl | exact List.length_replicate | exact eName_len _)) (Mp.one _ _) rfl HeldL.nil ?_
                  refine EPL.p rfl rfl (q_assign (v := .int _ _) rfl) ?_
                  refine EPL.nil ?_
                  refine EL.go ?_
                  refine EL.ret ?_
                  exact end_retP (vs := [msgV ({ Mp.nil k with num := (eGet 7 ((p, false) : Ey)).1 }) Pl.nil, .int .i64 0]) [Hp.nil, G] (fun hd => resL_two (rv_cellA (e := 27) (fr := (0, 0)) ag27 rfl (TakeP.sub (H := sg b2 (MsgB ({ Mp.nil k with num := (eGet 7 ((p, false) : Ey)).1 }) Pl.nil)) hd b2 _ sg_self) (Mp.sz (by first | rfl | exact List.length_replicate | exact eName_len _))) rfl) (fun _ => by rw [read_ok hk h0 (by unfold eMsg; rw [if_neg k1, if_neg k3, if_neg k4, if_neg k5]; exact if_pos (.inr k7)) (done_yes c13)]; exact ⟨Pl.nil, Hp.nil, rfl, rfl, ⟨rfl, by simp, by simp, RdS.nil', RdS.nil'⟩⟩)
              ·
                have c12 := of_decide_eq_false c12
                have k7 := c12
                refine EL.skip ?_
                refine EL.go ?_
                refine EL.seq ?_
                refine EL.seq ?_
                refine EL.region (.p 0 (.x 1 [] (.p 2 (.nil)))) (by kernel_rfl) ?_
                refine EPL.p rfl rfl (q_move (v := .pointer _) rfl) ?_
                refine EPL.cl rfl rfl Tryz.func35 rfl rfl (DoneE_spec g ((p, false) : Ey)) rfl ?_
                rintro _ _ ⟨rfl, rfl⟩
                refine ⟨HeldL.nil, ?_⟩
                refine EPL.p rfl rfl (q_not rfl) ?_
                refine EPL.nil ?_
                refine EL.go ?_
                refine EL.cond rfl (fun c14 => ?_) (fun c14 => ?_)
                ·
                  refine EL.seq ?_
                  refine EL.region (.p 0 (.x 1 [] (.p 2 (.nil)))) (by kernel_rfl) ?_
                  refine EPL.p rfl rfl (q_build (cells := (Mp.nil 0).vals Pl.nil) pl27 el27 .nil) ?_
                  refine EPL.stA (v := (Mp.nil 0).vals Pl.nil) rfl rfl sz27 rfl rfl rfl (Mp.one _ _) rfl HeldL.nil ?_
                  refine EPL.p rfl rfl (q_assign (v := .int _ _) rfl) ?_
                  refine EPL.nil ?_
                  refine EL.go ?_
                  refine EL.ret ?_
                  exact end_retP (vs := [msgV (Mp.nil 0) Pl.nil, .int .i64 4]) [Hp.nil, G] (fun hd => resL_two (rv_cellA (e := 27) (fr := (0, 0)) ag27 rfl (TakeP.sub (H := sg b2 (MsgB (Mp.nil 0) Pl.nil)) hd b2 _ sg_self) rfl) rfl) (fun _ => by rw [read_no hk h0 (by unfold eMsg; rw [if_neg k1, if_neg k3, if_neg k4, if_neg k5]; exact if_neg (fun h => h.elim k6 k7)) (done_no c14)]; exact ⟨Pl.nil, Hp.nil, rfl, rfl, ⟨rfl, by simp, by simp, RdS.nil', RdS.nil'⟩⟩)
                ·
                  refine EL.skip ?_
                  refine EL.go ?_
                  refine EL.seq ?_
                  refine EL.region (.l 0 (.x 1 [] (.p 2 (.nil)))) (by kernel_rfl) ?_
                  refine EPL.ldAw rfl rfl ag27 rfl (Mp.sz (by first | rfl | exact List.length_replicate | exact eName_len _)) ?_
                  refine EPL.stA (v := (Mp.nil k).vals Pl.nil) rfl rfl sz27 rfl rfl (Mp.sz (by first | rfl | exact List.length_replicate | exact eName_len _)) (Mp.one _ _) rfl HeldL.nil ?_
                  refine EPL.p rfl rfl (q_assign (v := .int _ _) rfl) ?_
                  refine EPL.nil ?_
                  refine EL.go ?_
                  refine EL.ret ?_
                  exact end_retP (vs := [msgV (Mp.nil k) Pl.nil, .int .i64 0]) [Hp.nil, G] (fun hd => resL_two (rv_cellA (e := 27) (fr := (0, 0)) ag27 rfl (TakeP.sub (H := sg b2 (MsgB (Mp.nil k) Pl.nil)) hd b2 _ sg_self) (Mp.sz (by first | rfl | exact List.length_replicate | exact eName_len _))) rfl) (fun _ => by rw [read_ok hk h0 (by unfold eMsg; rw [if_neg k1, if_neg k3, if_neg k4, if_neg k5]; exact if_neg (fun h => h.elim k6 k7)) (done_yes c14)]; exact ⟨Pl.nil, Hp.nil, rfl, rfl, ⟨rfl, by simp, by simp, RdS.nil', RdS.nil'⟩⟩)

end Go.Proofs.YtedkoebbijpnfaaGreatDoor

namespace Go.Proofs.YtedkoebbijpnfaaGreatDoor
open Go Go.Proofs.YtedkoebbijpnfaaGreatDoor.TH
set_option maxHeartbeats 1000000

/-- A header's bytes. -/
def hdB (h : Hd) : List UInt8 := leB 4 h.ver ++ h.prev ++ h.root ++ leB 4 h.time ++ leB 4 h.bits ++ leB 4 h.nonce
theorem hdB_len {h : Hd} (hh : h.ok) : (hdB h).length = 80 := by simp [hdB, leB_length, hh.1, hh.2]
theorem Num4_spec (n : Int) : CallL Tryz.prog 24 [.int .i64 4, .int .i64 n] [] (fun r Hs' => r = str (leB 4 n) ∧ Hs' = []) := Number_spec 4 n
theorem Num7_spec (n : Int) : CallL Tryz.prog 24 [.int .i64 7, .int .i64 n] [] (fun r Hs' => r = str (leB 7 n) ∧ Hs' = []) := Number_spec 7 n
def Mp.Good (m : Mp) : Prop :=
  if m.kind = 1 then (0 ≤ m.ver ∧ m.ver < 2 ^ (8 * 4)) ∧ (0 ≤ m.height ∧ m.height < 2 ^ (8 * 4)) ∧ (0 ≤ m.serv ∧ m.serv < 2 ^ (8 * 7)) ∧ (0 ≤ m.num ∧ m.num < 2 ^ (8 * 7))
  else if m.kind = 3 then (0 ≤ m.ver ∧ m.ver < 2 ^ (8 * 4)) ∧ m.names.length ≤ 32
  else if m.kind = 4 then m.heads.length ≤ 64 ∧ ∀ h ∈ m.heads, h.Good
  else if m.kind = 5 then m.names.length ≤ 32
  else if m.kind = 6 ∨ m.kind = 7 then 0 ≤ m.num ∧ m.num < 2 ^ (8 * 7)
  else m.kind = 2 ∨ m.kind = 8
instance (m : Mp) : Decidable m.Good := by unfold Mp.Good; infer_instance
section
variable {m : Mp}
theorem Mp.g1 (k1 : m.kind = 1) : m.Good ↔ (0 ≤ m.ver ∧ m.ver < 2 ^ (8 * 4)) ∧ (0 ≤ m.height ∧ m.height < 2 ^ (8 * 4)) ∧ (0 ≤ m.serv ∧ m.serv < 2 ^ (8 * 7)) ∧ (0 ≤ m.num ∧ m.num < 2 ^ (8 * 7)) := by unfold Mp.Good; rw [if_pos k1]
theorem Mp.g3 (k1 : ¬ m.kind = 1) (k3 : m.kind = 3) : m.Good ↔ (0 ≤ m.ver ∧ m.ver < 2 ^ (8 * 4)) ∧ m.names.length ≤ 32 := by unfold Mp.Good; rw [if_neg k1, if_pos k3]
theorem Mp.g4 (k1 : ¬ m.kind = 1) (k3 : ¬ m.kind = 3) (k4 : m.kind = 4) : m.Good ↔ m.heads.length ≤ 64 ∧ ∀ h ∈ m.heads, h.Good := by unfold Mp.Good; rw [if_neg k1, if_neg k3, if_pos k4]
theorem Mp.g5 (k1 : ¬ m.kind = 1) (k3 : ¬ m.kind = 3) (k4 : ¬ m.kind = 4) (k5 : m.kind = 5) : m.Good ↔ m.names.length ≤ 32 := by unfold Mp.Good; rw [if_neg k1, if_neg k3, if_neg k4, if_pos k5]
theorem Mp.g6 (k1 : ¬ m.kind = 1) (k3 : ¬ m.kind = 3) (k4 : ¬ m.kind = 4) (k5 : ¬ m.kind = 5) (k6 : m.kind = 6 ∨ m.kind = 7) : m.Good ↔ 0 ≤ m.num ∧ m.num < 2 ^ (8 * 7) := by unfold Mp.Good; rw [if_neg k1, if_neg k3, if_neg k4, if_neg k5, if_pos k6]
theorem Mp.g0 (k1 : ¬ m.kind = 1) (k3 : ¬ m.kind = 3) (k4 : ¬ m.kind = 4) (k5 : ¬ m.kind = 5) (k6 : ¬ (m.kind = 6 ∨ m.kind = 7)) : m.Good ↔ m.kind = 2 ∨ m.kind = 8 := by unfold Mp.Good; rw [if_neg k1, if_neg k3, if_neg k4, if_neg k5, if_neg k6]
end
/-- A message's payload. -/
def Mp.pay (m : Mp) : List UInt8 :=
  if m.kind = 1 then leB 4 m.ver ++ leB 4 m.height ++ leB 7 m.serv ++ leB 7 m.num
  else if m.kind = 3 then leB 4 m.ver ++ refCnt m.names.length ++ m.names.flatten ++ m.stop
  else if m.kind = 4 then refCnt m.heads.length ++ m.heads.flatMap (fun h => hdB h ++ [0])
  else if m.kind = 5 then refCnt m.names.length ++ m.names.flatMap (fun h => [2, 0, 0, 0] ++ h)
  else if m.kind = 6 ∨ m.kind = 7 then leB 7 m.num
  else []
theorem Mp.c38 {m : Mp} {p : Pl} (h : m.stop.length = 32) : (m.vals p)[38]? = some (.slice p.ha m.heads.length p.hc) := by
  simp only [List.getElem?_toArray, Mp.cells, List.getElem?_cons_succ]
  rw [List.getElem?_append_right (by simp [h])]
  simp [h]
theorem Mp.x6 {m : Mp} {p : Pl} (h : m.stop.length = 32) : (m.vals p).extract 6 (6 + 32) = (m.stop.map bV).toArray := by
  refine extract_of ?_
  show (m.stop.map bV ++ _).take 32 = _
  have := List.take_left (l₁ := m.stop.map bV) (l₂ := [Value.slice p.ha m.heads.length p.hc])
  rwa [List.length_map, h] at this
theorem flat_snoc {α : Type} {f : α → List UInt8} {l : List α} {i : Nat} {x : α} (h : l[i]? = some x) : (l.take (i + 1)).flatMap f = (l.take i).flatMap f ++ f x := by
  obtain ⟨hi, hx⟩ := List.getElem?_eq_some_iff.1 h
  rw [List.take_succ_eq_append_getElem hi, hx]; simp
theorem flat_bnd {α : Type} {f : α → List UInt8} {k : Nat} : ∀ {l : List α}, (∀ x ∈ l, (f x).length ≤ k) → (l.flatMap f).length ≤ k * l.length
  | [], _ => by simp
  | x :: l, h => by
    have h1 := h x List.mem_cons_self
    have h2 := flat_bnd (f := f) (k := k) (l := l) fun y hy => h y (List.mem_cons_of_mem _ hy)
    rw [List.flatMap_cons, List.length_append, List.length_cons, Nat.mul_add, Nat.mul_one]; omega
theorem flat_id {l : List (List UInt8)} : l.flatMap (fun h => h) = l.flatten := by induction l with
  | nil => rfl
  | cons x l ih => rw [List.flatMap_cons, ih]; rfl

theorem RHBytes_spec (h : Hd) (hh : h.ok) : CallL Tryz.prog 27 [hdV h] [] (fun r Hs' => r = str (hdB h) ∧ Hs' = []) := by
  refine CallL.enter Tryz.func27 Tryz.ntmps27 rfl rfl rfl ?_
  refine EL.seq ?_
  refine EL.region (.x 0 [] (.p 1 (.nil))) (by kernel_rfl) ?_
  refine EPL.box (c := h.cells.toArray) rfl rfl rfl (fun _ => HeldL.nil) (fun b1 => ?_)
  refine EPL.p rfl rfl (q_assign (v := .string _) rfl) ?_
  refine EPL.nil ?_
  refine EL.go ?_
  refine EL.seq ?_
  refine EL.draw (.p 0 (.l 1 (.p 3 (.l 4 (.p 7 (.l 8 (.x 2 [4, 8] (.x 5 [8] (.p 6 (.x 9 [] (.p 10 (.p 11 (.nil))))))))))))) [2, 5, 9] [1, 4, 8] fm (by kernel_rfl) ?_
  refine EPL.p rfl rfl (q_fieldAddr (p := ⟨_, _, none⟩) Tryz.underlying44 rfl sz3 rfl rfl) ?_
  refine EPL.ld1 (v := .int .i64 _) rfl rfl sc3 rfl (by first | exact Hd.c0 _ | exact Hd.c65 hh | exact Hd.c66 hh | exact Hd.c67 hh) ?_
  refine EPL.p rfl rfl (q_fieldAddr (p := ⟨_, _, none⟩) Tryz.underlying44 rfl sz24 rfl rfl) ?_
  refine EPL.ldAp (v := (h.prev.map bV).toArray) rfl rfl ag24 rfl (by rw [Hd.sz hh]; exact Nat.le_of_ble_eq_true rfl) (Hd.x1 hh) ?_
  refine EPL.p rfl rfl (q_fieldAddr (p := ⟨_, _, none⟩) Tryz.underlying44 rfl sz24 rfl rfl) ?_
  refine EPL.ldAp (v := (h.root.map bV).toArray) rfl rfl ag24 rfl (by rw [Hd.sz hh]; exact Nat.le_of_ble_eq_true rfl) (Hd.x33 hh) ?_
  refine EPL.cl rfl rfl Tryz.func24 rfl rfl (Num4_spec h.ver) rfl ?_
  rintro _ _ ⟨rfl, rfl⟩
  refine ⟨(HeldL.ldAp rfl rfl ag24 rfl (by rw [Hd.sz hh]; exact Nat.le_of_ble_eq_true rfl) (congrArg Value.agg (Hd.x1 hh)) (HeldL.ldAp rfl rfl ag24 rfl (by rw [Hd.sz hh]; exact Nat.le_of_ble_eq_true rfl) (congrArg Value.agg (Hd.x33 hh)) HeldL.nil)), ?_⟩
  refine EPL.cl rfl rfl Tryz.func26 rfl rfl (RName_spec h.prev hh.1) rfl ?_
  rintro _ _ ⟨rfl, rfl⟩
  refine ⟨(HeldL.ldAp rfl rfl ag24 rfl (by rw [Hd.sz hh]; exact Nat.le_of_ble_eq_true rfl) (congrArg Value.agg (Hd.x33 hh)) HeldL.nil), ?_⟩
  refine EPL.p rfl rfl (q_strcat rfl rfl (by simp only [List.length_append, leB_length, hh.1, hh.2]; omega)) ?_
  refine EPL.cl rfl rfl Tryz.func26 rfl rfl (RName_spec h.root hh.2) rfl ?_
  rintro _ _ ⟨rfl, rfl⟩
  refine ⟨HeldL.nil, ?_⟩
  refine EPL.p rfl rfl (q_strcat rfl rfl (by simp only [List.length_append, leB_length, hh.1, hh.2]; omega)) ?_
  refine EPL.p rfl rfl (q_assign (v := .string _) rfl) ?_
  refine EPL.nil ?_
  refine EL.go ?_
  refine EL.seq ?_
  refine EL.draw (.p 0 (.p 1 (.l 2 (.p 5 (.l 6 (.p 9 (.l 10 (.x 3 [6, 10] (.p 4 (.x 7 [10] (.p 8 (.x 11 [] (.p 12 (.p 13 (.nil))))))))))))))) [3, 7, 11] [2, 6, 10] fm (by kernel_rfl) ?_
  refine EPL.p rfl rfl (q_move (v := .string _) rfl) ?_
  refine EPL.p rfl rfl (q_fieldAddr (p := ⟨_, _, none⟩) Tryz.underlying44 rfl sz3 rfl rfl) ?_
  refine EPL.ld1 (v := .int .i64 _) rfl rfl sc3 rfl (by first | exact Hd.c0 _ | exact Hd.c65 hh | exact Hd.c66 hh | exact Hd.c67 hh) ?_
  refine EPL.p rfl rfl (q_fieldAddr (p := ⟨_, _, none⟩) Tryz.underlying44 rfl sz3 rfl rfl) ?_
  refine EPL.ld1 (v := .int .i64 _) rfl rfl sc3 rfl (by first | exact Hd.c0 _ | exact Hd.c65 hh | exact Hd.c66 hh | exact Hd.c67 hh) ?_
  refine EPL.p rfl rfl (q_fieldAddr (p := ⟨_, _, none⟩) Tryz.underlying44 rfl sz3 rfl rfl) ?_
  refine EPL.ld1 (v := .int .i64 _) rfl rfl sc3 rfl (by first | exact Hd.c0 _ | exact Hd.c65 hh | exact Hd.c66 hh | exact Hd.c67 hh) ?_
  refine EPL.cl rfl rfl Tryz.func24 rfl rfl (Num4_spec h.time) rfl ?_
  rintro _ _ ⟨rfl, rfl⟩
  refine ⟨(HeldL.ld1 rfl rfl sc3 rfl (by first | exact Hd.c0 _ | exact Hd.c65 hh | exact Hd.c66 hh | exact Hd.c67 hh) (HeldL.ld1 rfl rfl sc3 rfl (by first | exact Hd.c0 _ | exact Hd.c65 hh | exact Hd.c66 hh | exact Hd.c67 hh) HeldL.nil)), ?_⟩
  refine EPL.p rfl rfl (q_strcat rfl rfl (by simp only [List.length_append, leB_length, hh.1, hh.2]; omega)) ?_
  refine EPL.cl rfl rfl Tryz.func24 rfl rfl (Num4_spec h.bits) rfl ?_
  rintro _ _ ⟨rfl, rfl⟩
  refine ⟨(HeldL.ld1 rfl rfl sc3 rfl (by first | exact Hd.c0 _ | exact Hd.c65 hh | exact Hd.c66 hh | exact Hd.c67 hh) HeldL.nil), ?_⟩
  refine EPL.p rfl rfl (q_strcat rfl rfl (by simp only [List.length_append, leB_length, hh.1, hh.2]; omega)) ?_
  refine EPL.cl rfl rfl Tryz.func24 rfl rfl (Num4_spec h.nonce) rfl ?_
  rintro _ _ ⟨rfl, rfl⟩
  refine ⟨HeldL.nil, ?_⟩
  refine EPL.p rfl rfl (q_strcat rfl rfl (by simp only [List.length_append, leB_length, hh.1, hh.2]; omega)) ?_
  refine EPL.p rfl rfl (q_assign (v := .string _) rfl) ?_
  refine EPL.nil ?_
  refine EL.go ?_
  refine EL.ret ?_
  exact end_retP [] (fun _ => rfl) (fun _ => ⟨congrArg (fun l => str l) (by simp [hdB]), rfl⟩)

end Go.Proofs.YtedkoebbijpnfaaGreatDoor
