/- Parts D20, D21, D22, D23, D24, L3, D26, D27 of the proofs of this seat: what the functions of these layers answer, in worlds that hold their blocks. No condition beside those that each theorem names. -/
import Derived.Test.YtedkoebbijpnfaaGreatDoorPack5
import Derived.Test.YtedkoebbijpnfaaGreatDoorPack2
import Derived.Test.YtedkoebbijpnfaaGreatDoorPack3
namespace Go.Proofs.YtedkoebbijpnfaaGreatDoor
open Go Go.Proofs.YtedkoebbijpnfaaGreatDoor.TH
set_option maxHeartbeats 1000000
theorem RMGood_spec (m : Mp) (p : Pl) (I : Hp) (hI : m.In p I) : CallL Tryz.prog 6 [msgV m p] [I] (fun r Hs' => r = .bool (decide m.Good) ∧ Hs' = [I]) := by
  refine CallL.enter Tryz.func6 Tryz.ntmps6 rfl rfl rfl ?_
  obtain ⟨na, nc, ha, hc⟩ := p
  refine EL.seq ?_
  refine EL.region (.x 0 [] (.p 1 (.nil))) (by kernel_rfl) ?_
  refine EPL.box (c := m.vals ⟨na, nc, ha, hc⟩) rfl rfl rfl (fun _ => HeldL.nil) (fun b1 => ?_)
  refine EPL.p rfl rfl (q_assign (v := .bool _) rfl) ?_
  refine EPL.nil ?_
  refine EL.go ?_
  refine EL.seq ?_
  refine EL.seq ?_
  refine EL.region (.p 0 (.l 1 (.nil))) (by kernel_rfl) ?_
  refine EPL.p rfl rfl (q_fieldAddr (p := ⟨_, _, none⟩) Tryz.underlying27 rfl sz3 rfl rfl) ?_
  refine EPL.ld1 (v := .int _ _) rfl rfl sc3 rfl rfl ?_
  refine EPL.nil ?_
  refine EL.go ?_
  refine EL.block ?_
  refine EL.seq ?_
  refine EL.region (.p 0 (.p 1 (.nil))) (by kernel_rfl) ?_
  refine EPL.p rfl rfl (q_eql rfl rfl) ?_
  refine EPL.p rfl rfl (q_assign (v := .bool _) rfl) ?_
  refine EPL.nil ?_
  refine EL.go ?_
  refine EL.cond rfl (fun c2 => ?_) (fun c2 => ?_)
  ·
    have c2 := of_decide_eq_true c2
    have k1 := c2
    refine EL.seq ?_
    refine EL.region (.p 0 (.l 1 (.x 2 [] (.p 3 (.p 4 (.l 5 (.x 6 [] (.p 7 (.p 8 (.p 9 (.l 10 (.x 11 [] (.p 12 (.p 13 (.p 14 (.l 15 (.x 16 [] (.p 17 (.p 18 (.nil)))))))))))))))))))) (by kernel_rfl) ?_
    refine EPL.p rfl rfl (q_fieldAddr (p := ⟨_, _, none⟩) Tryz.underlying27 rfl sz3 rfl rfl) ?_
    refine EPL.ld1 (v := .int _ _) rfl rfl sc3 rfl rfl ?_
    refine EPL.cl rfl rfl Tryz.func15 rfl rfl (In_spec m.ver 4 (by decide)) rfl ?_
    rintro _ _ ⟨rfl, rfl⟩
    refine ⟨HeldL.nil, ?_⟩
    refine EPL.p rfl rfl (q_move (v := .bool _) rfl) ?_
    refine EPL.bool 12 rfl (fun c3 => ?_) (fun c3 => ?_)
    ·
      have c3 := of_decide_eq_true c3
      refine EPL.p rfl rfl (q_fieldAddr (p := ⟨_, _, none⟩) Tryz.underlying27 rfl sz3 rfl rfl) ?_
      refine EPL.ld1 (v := .int _ _) rfl rfl sc3 rfl rfl ?_
      refine EPL.cl rfl rfl Tryz.func15 rfl rfl (In_spec m.height 4 (by decide)) rfl ?_
      rintro _ _ ⟨rfl, rfl⟩
      refine ⟨HeldL.nil, ?_⟩
      refine EPL.p rfl rfl (q_pickT (v := .bool _) rfl rfl) ?_
      refine EPL.p rfl rfl (q_move (v := .bool _) rfl) ?_
      refine EPL.bool 17 rfl (fun c4 => ?_) (fun c4 => ?_)
      ·
        have c4 := of_decide_eq_true c4
        refine EPL.p rfl rfl (q_fieldAddr (p := ⟨_, _, none⟩) Tryz.underlying27 rfl sz3 rfl rfl) ?_
        refine EPL.ld1 (v := .int _ _) rfl rfl sc3 rfl rfl ?_
        refine EPL.cl rfl rfl Tryz.func15 rfl rfl (In_spec m.serv 7 (by decide)) rfl ?_
        rintro _ _ ⟨rfl, rfl⟩
        refine ⟨HeldL.nil, ?_⟩
        refine EPL.p rfl rfl (q_pickT (v := .bool _) rfl rfl) ?_
        refine EPL.p rfl rfl (q_move (v := .bool _) rfl) ?_
        refine EPL.bool 22 rfl (fun c5 => ?_) (fun c5 => ?_)
        ·
          have c5 := of_decide_eq_true c5
          refine EPL.p rfl rfl (q_fieldAddr (p := ⟨_, _, none⟩) Tryz.underlying27 rfl sz3 rfl rfl) ?_
          refine EPL.ld1 (v := .int _ _) rfl rfl sc3 rfl rfl ?_
          refine EPL.cl rfl rfl Tryz.func15 rfl rfl (In_spec m.num 7 (by decide)) rfl ?_
          rintro _ _ ⟨rfl, rfl⟩
          refine ⟨HeldL.nil, ?_⟩
          refine EPL.p rfl rfl (q_pickT (v := .bool _) rfl rfl) ?_
          refine EPL.p rfl rfl (q_assign (v := .bool _) rfl) ?_
          refine EPL.nil ?_
          refine EL.go ?_
          refine EL.ret ?_
          exact end_retP [I] (fun _ => rfl) (fun _ => ⟨congrArg Value.bool (by first | exact (decide_eq_false (fun h => by have := (Mp.g1 k1).1 h; omega)).symm | exact (decide_eq_true ((Mp.g1 k1).2 (by omega))).symm | exact decide_eq_decide.2 ⟨fun h => (Mp.g1 k1).2 (by omega), fun h => by have := (Mp.g1 k1).1 h; omega⟩), rfl⟩)
        ·
          have c5 := of_decide_eq_false c5
          refine EPL.pno rfl rfl ?_
          refine EPL.rno rfl rfl ?_
          refine EPL.xno rfl rfl ?_
          refine EPL.p rfl rfl (q_pickF (v := .bool _) rfl rfl) ?_
          refine EPL.p rfl rfl (q_assign (v := .bool _) rfl) ?_
          refine EPL.nil ?_
          refine EL.go ?_
          refine EL.ret ?_
          exact end_retP [I] (fun _ => rfl) (fun _ => ⟨congrArg Value.bool (by first | exact (decide_eq_false (fun h => by have := (Mp.g1 k1).1 h; omega)).symm | exact (decide_eq_true ((Mp.g1 k1).2 (by omega))).symm | exact decide_eq_decide.2 ⟨fun h => (Mp.g1 k1).2 (by omega), fun h => by have := (Mp.g1 k1).1 h; omega⟩), rfl⟩)
      ·
        have c4 := of_decide_eq_false c4
        refine EPL.pno rfl rfl ?_
        refine EPL.rno rfl rfl ?_
        refine EPL.xno rfl rfl ?_
        refine EPL.p rfl rfl (q_pickF (v := .bool _) rfl rfl) ?_
        refine EPL.p rfl rfl (q_move (v := .bool _) rfl) ?_
        refine EPL.pno rfl rfl ?_
        refine EPL.rno rfl rfl ?_
        refine EPL.xno rfl rfl ?_
        refine EPL.p rfl rfl (q_pickF (v := .bool _) rfl rfl) ?_
        refine EPL.p rfl rfl (q_assign (v := .bool _) rfl) ?_
        refine EPL.nil ?_
        refine EL.go ?_
        refine EL.ret ?_
        exact end_retP [I] (fun _ => rfl) (fun _ => ⟨congrArg Value.bool (by first | exact (decide_eq_false (fun h => by have := (Mp.g1 k1).1 h; omega)).symm | exact (decide_eq_true ((Mp.g1 k1).2 (by omega))).symm | exact decide_eq_decide.2 ⟨fun h => (Mp.g1 k1).2 (by omega), fun h => by have := (Mp.g1 k1).1 h; omega⟩), rfl⟩)
    ·
      have c3 := of_decide_eq_false c3
      refine EPL.pno rfl rfl ?_
      refine EPL.rno rfl rfl ?_
      refine EPL.xno rfl rfl ?_
      refine EPL.p rfl rfl (q_pickF (v := .bool _) rfl rfl) ?_
      refine EPL.p rfl rfl (q_move (v := .bool _) rfl) ?_
      refine EPL.pno rfl rfl ?_
      refine EPL.rno rfl rfl ?_
      refine EPL.xno rfl rfl ?_
      refine EPL.p rfl rfl (q_pickF (v := .bool _) rfl rfl) ?_
      refine EPL.p rfl rfl (q_move (v := .bool _) rfl) ?_
      refine EPL.pno rfl rfl ?_
      refine EPL.rno rfl rfl ?_
      refine EPL.xno rfl rfl ?_
      refine EPL.p rfl rfl (q_pickF (v := .bool _) rfl rfl) ?_
      refine EPL.p rfl rfl (q_assign (v := .bool _) rfl) ?_
      refine EPL.nil ?_
      refine EL.go ?_
      refine EL.ret ?_
      exact end_retP [I] (fun _ => rfl) (fun _ => ⟨congrArg Value.bool (by first | exact (decide_eq_false (fun h => by have := (Mp.g1 k1).1 h; omega)).symm | exact (decide_eq_true ((Mp.g1 k1).2 (by omega))).symm | exact decide_eq_decide.2 ⟨fun h => (Mp.g1 k1).2 (by omega), fun h => by have := (Mp.g1 k1).1 h; omega⟩), rfl⟩)
  ·
    have c2 := of_decide_eq_false c2
    have k1 := c2
    refine EL.seq ?_
    refine EL.region (.p 0 (.p 1 (.nil))) (by kernel_rfl) ?_
    refine EPL.p rfl rfl (q_eql rfl rfl) ?_
    refine EPL.p rfl rfl (q_assign (v := .bool _) rfl) ?_
    refine EPL.nil ?_
    refine EL.go ?_
    refine EL.cond rfl (fun c6 => ?_) (fun c6 => ?_)
    ·
      have c6 := of_decide_eq_true c6
      have k3 := c6
      refine EL.seq ?_
      refine EL.region (.p 0 (.l 1 (.x 2 [] (.p 3 (.p 4 (.l 5 (.p 6 (.p 7 (.p 8 (.p 9 (.nil))))))))))) (by kernel_rfl) ?_
      refine EPL.p rfl rfl (q_fieldAddr (p := ⟨_, _, none⟩) Tryz.underlying27 rfl sz3 rfl rfl) ?_
      refine EPL.ld1 (v := .int _ _) rfl rfl sc3 rfl rfl ?_
      refine EPL.cl rfl rfl Tryz.func15 rfl rfl (In_spec m.ver 4 (by decide)) rfl ?_
      rintro _ _ ⟨rfl, rfl⟩
      refine ⟨HeldL.nil, ?_⟩
      refine EPL.p rfl rfl (q_move (v := .bool _) rfl) ?_
      refine EPL.bool 32 rfl (fun c7 => ?_) (fun c7 => ?_)
      ·
        have c7 := of_decide_eq_true c7
        refine EPL.p rfl rfl (q_fieldAddr (p := ⟨_, _, none⟩) Tryz.underlying27 rfl sz22 rfl rfl) ?_
        refine EPL.ld1 (v := .slice na m.names.length nc) rfl rfl sc22 rfl rfl ?_
        refine EPL.p rfl rfl (q_lenSl Tryz.underlying22 rfl) ?_
        refine EPL.p rfl rfl (q_leq rfl rfl) ?_
        refine EPL.p rfl rfl (q_pickT (v := .bool _) rfl rfl) ?_
        refine EPL.p rfl rfl (q_assign (v := .bool _) rfl) ?_
        refine EPL.nil ?_
        refine EL.go ?_
        refine EL.ret ?_
        exact end_retP [I] (fun _ => rfl) (fun _ => ⟨congrArg Value.bool (by first | exact (decide_eq_false (fun h => by have := (Mp.g3 k1 k3).1 h; omega)).symm | exact (decide_eq_true ((Mp.g3 k1 k3).2 (by omega))).symm | exact decide_eq_decide.2 ⟨fun h => (Mp.g3 k1 k3).2 (by omega), fun h => by have := (Mp.g3 k1 k3).1 h; omega⟩), rfl⟩)
      ·
        have c7 := of_decide_eq_false c7
        refine EPL.pno rfl rfl ?_
        refine EPL.rno rfl rfl ?_
        refine EPL.pno rfl rfl ?_
        refine EPL.pno rfl rfl ?_
        refine EPL.p rfl rfl (q_pickF (v := .bool _) rfl rfl) ?_
        refine EPL.p rfl rfl (q_assign (v := .bool _) rfl) ?_
        refine EPL.nil ?_
        refine EL.go ?_
        refine EL.ret ?_
        exact end_retP [I] (fun _ => rfl) (fun _ => ⟨congrArg Value.bool (by first | exact (decide_eq_false (fun h => by have := (Mp.g3 k1 k3).1 h; omega)).symm | exact (decide_eq_true ((Mp.g3 k1 k3).2 (by omega))).symm | exact decide_eq_decide.2 ⟨fun h => (Mp.g3 k1 k3).2 (by omega), fun h => by have := (Mp.g3 k1 k3).1 h; omega⟩), rfl⟩)
    ·
      have c6 := of_decide_eq_false c6
      have k3 := c6
      refine EL.seq ?_
      refine EL.region (.p 0 (.p 1 (.nil))) (by kernel_rfl) ?_
      refine EPL.p rfl rfl (q_eql rfl rfl) ?_
      refine EPL.p rfl rfl (q_assign (v := .bool _) rfl) ?_
      refine EPL.nil ?_
      refine EL.go ?_
      refine EL.cond rfl (fun c8 => ?_) (fun c8 => ?_)
      ·
        have c8 := of_decide_eq_true c8
        have k4 := c8
        refine EL.seq ?_
        refine EL.seq ?_
        refine EL.region (.p 0 (.l 1 (.p 2 (.p 3 (.nil))))) (by kernel_rfl) ?_
        refine EPL.p rfl rfl (q_fieldAddr (p := ⟨_, _, none⟩) Tryz.underlying27 rfl sz25 rfl rfl) ?_
        refine EPL.ld1 (v := .slice ha m.heads.length hc) rfl rfl sc25 rfl (Mp.c38 hI.stop) ?_
        refine EPL.p rfl rfl (q_lenSl Tryz.underlying25 rfl) ?_
        refine EPL.p rfl rfl (q_move (v := .int _ _) rfl) ?_
        refine EPL.nil ?_
        refine EL.go ?_
        refine EL.block ?_
        have hmx := hI.rh.2.1
        obtain ⟨B, hB⟩ : ∃ B, B = sg b1 (.cells (m.vals ⟨na, nc, ha, hc⟩) 27 (0, 0)) := ⟨_, rfl⟩
        rw [← hB]
        refine EL.loop [2, 4, 43, 44, 45, 46, 47, 48, 49, 50] (fun i : Nat => [(43, .int .i64 i)]) (fun n i Hs' => n + i = m.heads.length ∧ Hs' = [B, I] ∧ ∀ h ∈ m.heads.take i, h.Good) m.heads.length 0 ⟨by omega, rfl, by simp⟩ ⟨rfl, trivial⟩ ?_
        rintro n i _ j ⟨hm, rfl, hall⟩
        refine EL.seq ?_
        refine EL.region (.p 0 (.nil)) (by kernel_rfl) ?_
        refine EPL.p rfl rfl (q_lss rfl rfl) ?_
        refine EPL.nil ?_
        refine EL.go ?_
        refine EL.seq ?_
        refine EL.cond rfl (fun c9 => ?_) (fun c9 => ?_)
        ·
          have c9 := of_decide_eq_true c9
          obtain ⟨x, hx⟩ : ∃ x, m.heads[i]? = some x := ⟨_, List.getElem?_eq_getElem (by omega)⟩
          have hxm := List.mem_of_getElem? hx
          have hxo : x.ok := hI.heads x hxm
          obtain ⟨b, off, cap, cc, ety, fr, he, hbI, hcs, hcc⟩ := hI.rh.getA (fun y hy => Hd.len (hI.heads y hy)) hx
          obtain ⟨rfl, rfl⟩ : ha = some ⟨b, off, none⟩ ∧ hc = cap := by simpa using he
          have hnx : m.heads.take (i + 1) = m.heads.take i ++ [x] := by obtain ⟨hi2, hx2⟩ := List.getElem?_eq_some_iff.1 hx; rw [List.take_succ_eq_append_getElem hi2, hx2]
          refine EL.skip ?_
          refine EL.go ?_
          refine EL.seq ?_
          refine EL.block ?_
          refine EL.seq ?_
          refine EL.region (.p 0 (.l 1 (.x 2 [] (.x 3 [] (.nil))))) (by kernel_rfl) ?_
          refine EPL.p rfl rfl (q_idxSl Tryz.underlying25 sz44 rfl rfl (by omega) (by omega)) ?_
          refine EPL.ldAP (v := .agg x.cells.toArray) rfl rfl ag44 rfl hbI (by simpa using hcs) (congrArg Value.agg (by simpa using hcc)) ?_
          refine EPL.al rfl rfl el44 (fun _ => HeldL.nil) (fun b10 => ?_)
          refine EPL.stA (v := x.cells.toArray) rfl rfl sz44 rfl rfl (Hd.sz hxo) (Hd.one x) rfl HeldL.nil ?_
          refine EPL.nil ?_
          refine EL.go ?_
          refine EL.seq ?_
          refine EL.region (.l 0 (.x 1 [] (.p 2 (.nil)))) (by kernel_rfl) ?_
          refine EPL.ldAw rfl rfl ag44 rfl (Hd.sz hxo) ?_
          refine EPL.cl rfl rfl Tryz.func16 rfl rfl (RHGood_spec x hxo) rfl ?_
          rintro _ _ ⟨rfl, rfl⟩
          refine ⟨HeldL.nil, ?_⟩
          refine EPL.p rfl rfl (q_not rfl) ?_
          refine EPL.nil ?_
          refine EL.go ?_
          refine EL.cond rfl (fun c11 => ?_) (fun c11 => ?_)
          ·
            refine EL.seq ?_
            refine EL.region (.p 0 (.nil)) (by kernel_rfl) ?_
            refine EPL.p rfl rfl (q_assign (v := .bool _) rfl) ?_
            refine EPL.nil ?_
            refine EL.go ?_
            refine EL.ret ?_
            exact end_retP [I] (fun _ => rfl) (fun _ => ⟨congrArg Value.bool (by exact (decide_eq_false (fun h => absurd (((Mp.g4 k1 k3 k4).1 h).2 x hxm) (by simpa using c11))).symm), rfl⟩)
          ·
            have hall2 : ∀ h ∈ m.heads.take (i + 1), h.Good := by rw [hnx]; intro h hh; rcases List.mem_append.1 hh with h1 | h1; exact hall h h1; (obtain rfl := List.mem_singleton.1 h1); simpa using c11
            refine EL.skip ?_
            refine EL.go ?_
            refine EL.region (.p 0 (.p 1 (.nil))) (by kernel_rfl) ?_
            refine EPL.p rfl rfl (q_add rfl rfl) ?_
            refine EPL.p rfl rfl (q_move (v := .int _ _) rfl) ?_
            refine EPL.nil ?_
            refine RoundQ.mkP (n - 1) (i + 1) [B, I] (by omega) ⟨by omega, rfl, hall2⟩ (by repeat first | refine Off.upd rfl ?_ | exact Off.mix | refine Off.upds rfl ?_ | refine Off.mixs rfl ?_ | exact Off.refl) ⟨congrArg (Value.int .i64) (wrap_i64_in (by omega)), trivial⟩
        ·
          have c9 := of_decide_eq_false c9
          rw [List.take_of_length_le (by omega)] at hall
          subst hB
          refine EL.exit ?_
          refine EL.go ?_
          refine EL.seq ?_
          refine EL.region (.p 0 (.l 1 (.p 2 (.p 3 (.p 4 (.nil)))))) (by kernel_rfl) ?_
          refine EPL.p rfl rfl (q_fieldAddr (p := ⟨_, _, none⟩) Tryz.underlying27 rfl sz25 rfl rfl) ?_
          refine EPL.ld1 (v := .slice ha m.heads.length hc) rfl rfl sc25 rfl (Mp.c38 hI.stop) ?_
          refine EPL.p rfl rfl (q_lenSl Tryz.underlying25 rfl) ?_
          refine EPL.p rfl rfl (q_leq rfl rfl) ?_
          refine EPL.p rfl rfl (q_assign (v := .bool _) rfl) ?_
          refine EPL.nil ?_
          refine EL.go ?_
          refine EL.ret ?_
          exact end_retP [I] (fun _ => rfl) (fun _ => ⟨congrArg Value.bool (by exact decide_eq_decide.2 ⟨fun h => (Mp.g4 k1 k3 k4).2 ⟨by omega, hall⟩, fun h => by have := ((Mp.g4 k1 k3 k4).1 h).1; omega⟩), rfl⟩)
      ·
        have c8 := of_decide_eq_false c8
        have k4 := c8
        refine EL.seq ?_
        refine EL.region (.p 0 (.p 1 (.nil))) (by kernel_rfl) ?_
        refine EPL.p rfl rfl (q_eql rfl rfl) ?_
        refine EPL.p rfl rfl (q_assign (v := .bool _) rfl) ?_
        refine EPL.nil ?_
        refine EL.go ?_
        refine EL.cond rfl (fun c12 => ?_) (fun c12 => ?_)
        ·
          have c12 := of_decide_eq_true c12
          have k5 := c12
          refine EL.seq ?_
          refine EL.region (.p 0 (.l 1 (.p 2 (.p 3 (.p 4 (.nil)))))) (by kernel_rfl) ?_
          refine EPL.p rfl rfl (q_fieldAddr (p := ⟨_, _, none⟩) Tryz.underlying27 rfl sz22 rfl rfl) ?_
          refine EPL.ld1 (v := .slice na m.names.length nc) rfl rfl sc22 rfl rfl ?_
          refine EPL.p rfl rfl (q_lenSl Tryz.underlying22 rfl) ?_
          refine EPL.p rfl rfl (q_leq rfl rfl) ?_
          refine EPL.p rfl rfl (q_assign (v := .bool _) rfl) ?_
          refine EPL.nil ?_
          refine EL.go ?_
          refine EL.ret ?_
          exact end_retP [I] (fun _ => rfl) (fun _ => ⟨congrArg Value.bool (by first | exact (decide_eq_false (fun h => by have := (Mp.g5 k1 k3 k4 k5).1 h; omega)).symm | exact (decide_eq_true ((Mp.g5 k1 k3 k4 k5).2 (by omega))).symm | exact decide_eq_decide.2 ⟨fun h => (Mp.g5 k1 k3 k4 k5).2 (by omega), fun h => by have := (Mp.g5 k1 k3 k4 k5).1 h; omega⟩), rfl⟩)
        ·
          have c12 := of_decide_eq_false c12
          have k5 := c12
          refine EL.seq ?_
          refine EL.seq ?_
          refine EL.region (.p 0 (.p 1 (.nil))) (by kernel_rfl) ?_
          refine EPL.p rfl rfl (q_eql rfl rfl) ?_
          refine EPL.p rfl rfl (q_assign (v := .bool _) rfl) ?_
          refine EPL.nil ?_
          refine EL.go ?_
          refine EL.cond rfl (fun c13 => ?_) (fun c13 => ?_)
          ·
            have c13 := of_decide_eq_true c13
            have k6 := c13
            refine EL.skip ?_
            refine EL.go ?_
            refine EL.yes (congrArg Value.bool (decide_eq_true c13)) ?_
            refine EL.seq ?_
            refine EL.region (.p 0 (.l 1 (.x 2 [] (.p 3 (.nil))))) (by kernel_rfl) ?_
            refine EPL.p rfl rfl (q_fieldAddr (p := ⟨_, _, none⟩) Tryz.underlying27 rfl sz3 rfl rfl) ?_
            refine EPL.ld1 (v := .int _ _) rfl rfl sc3 rfl rfl ?_
            refine EPL.cl rfl rfl Tryz.func15 rfl rfl (In_spec m.num 7 (by decide)) rfl ?_
            rintro _ _ ⟨rfl, rfl⟩
            refine ⟨HeldL.nil, ?_⟩
            refine EPL.p rfl rfl (q_assign (v := .bool _) rfl) ?_
            refine EPL.nil ?_
            refine EL.go ?_
            refine EL.ret ?_
            exact end_retP [I] (fun _ => rfl) (fun _ => ⟨congrArg Value.bool (by first | exact (decide_eq_false (fun h => by have := (Mp.g6 k1 k3 k4 k5 (.inl k6)).1 h; omega)).symm | exact (decide_eq_true ((Mp.g6 k1 k3 k4 k5 (.inl k6)).2 (by omega))).symm | exact decide_eq_decide.2 ⟨fun h => (Mp.g6 k1 k3 k4 k5 (.inl k6)).2 (by omega), fun h => by have := (Mp.g6 k1 k3 k4 k5 (.inl k6)).1 h; omega⟩), rfl⟩)
          ·
            have c13 := of_decide_eq_false c13
            have k6 := c13
            refine EL.region (.p 0 (.p 1 (.nil))) (by kernel_rfl) ?_
            refine EPL.p rfl rfl (q_eql rfl rfl) ?_
            refine EPL.p rfl rfl (q_assign (v := .bool _) rfl) ?_
            refine EPL.nil ?_
            refine EL.go ?_
            refine EL.cond rfl (fun c14 => ?_) (fun c14 => ?_)
            ·
              have c14 := of_decide_eq_true c14
              have k7 := c14
              refine EL.seq ?_
              refine EL.region (.p 0 (.l 1 (.x 2 [] (.p 3 (.nil))))) (by kernel_rfl) ?_
              refine EPL.p rfl rfl (q_fieldAddr (p := ⟨_, _, none⟩) Tryz.underlying27 rfl sz3 rfl rfl) ?_
              refine EPL.ld1 (v := .int _ _) rfl rfl sc3 rfl rfl ?_
              refine EPL.cl rfl rfl Tryz.func15 rfl rfl (In_spec m.num 7 (by decide)) rfl ?_
              rintro _ _ ⟨rfl, rfl⟩
              refine ⟨HeldL.nil, ?_⟩
              refine EPL.p rfl rfl (q_assign (v := .bool _) rfl) ?_
              refine EPL.nil ?_
              refine EL.go ?_
              refine EL.ret ?_
              exact end_retP [I] (fun _ => rfl) (fun _ => ⟨congrArg Value.bool (by first | exact (decide_eq_false (fun h => by have := (Mp.g6 k1 k3 k4 k5 (.inr k7)).1 h; omega)).symm | exact (decide_eq_true ((Mp.g6 k1 k3 k4 k5 (.inr k7)).2 (by omega))).symm | exact decide_eq_decide.2 ⟨fun h => (Mp.g6 k1 k3 k4 k5 (.inr k7)).2 (by omega), fun h => by have := (Mp.g6 k1 k3 k4 k5 (.inr k7)).1 h; omega⟩), rfl⟩)
            ·
              have c14 := of_decide_eq_false c14
              have k7 := c14
              refine EL.skip ?_
              refine EL.go ?_
              refine EL.seq ?_
              refine EL.region (.p 0 (.l 1 (.p 2 (.p 3 (.p 4 (.l 5 (.p 6 (.p 7 (.p 8 (.nil)))))))))) (by kernel_rfl) ?_
              refine EPL.p rfl rfl (q_fieldAddr (p := ⟨_, _, none⟩) Tryz.underlying27 rfl sz3 rfl rfl) ?_
              refine EPL.ld1 (v := .int _ _) rfl rfl sc3 rfl rfl ?_
              refine EPL.p rfl rfl (q_eql rfl rfl) ?_
              refine EPL.p rfl rfl (q_move (v := .bool _) rfl) ?_
              refine EPL.bool 70 rfl (fun c15 => ?_) (fun c15 => ?_)
              ·
                have c15 := of_decide_eq_true c15
                refine EPL.pno rfl rfl ?_
                refine EPL.rno rfl rfl ?_
                refine EPL.pno rfl rfl ?_
                refine EPL.p rfl rfl (q_pickT (v := .bool _) rfl rfl) ?_
                refine EPL.p rfl rfl (q_assign (v := .bool _) rfl) ?_
                refine EPL.nil ?_
                refine EL.go ?_
                refine EL.ret ?_
                exact end_retP [I] (fun _ => rfl) (fun _ => ⟨congrArg Value.bool (by first | exact (decide_eq_false (fun h => by have := (Mp.g0 k1 k3 k4 k5 (fun h => h.elim k6 k7)).1 h; omega)).symm | exact (decide_eq_true ((Mp.g0 k1 k3 k4 k5 (fun h => h.elim k6 k7)).2 (by omega))).symm | exact decide_eq_decide.2 ⟨fun h => (Mp.g0 k1 k3 k4 k5 (fun h => h.elim k6 k7)).2 (by omega), fun h => by have := (Mp.g0 k1 k3 k4 k5 (fun h => h.elim k6 k7)).1 h; omega⟩), rfl⟩)
              ·
                have c15 := of_decide_eq_false c15
                refine EPL.p rfl rfl (q_fieldAddr (p := ⟨_, _, none⟩) Tryz.underlying27 rfl sz3 rfl rfl) ?_
                refine EPL.ld1 (v := .int _ _) rfl rfl sc3 rfl rfl ?_
                refine EPL.p rfl rfl (q_eql rfl rfl) ?_
                refine EPL.p rfl rfl (q_pickF (v := .bool _) rfl rfl) ?_
                refine EPL.p rfl rfl (q_assign (v := .bool _) rfl) ?_
                refine EPL.nil ?_
                refine EL.go ?_
                refine EL.ret ?_
                exact end_retP [I] (fun _ => rfl) (fun _ => ⟨congrArg Value.bool (by first | exact (decide_eq_false (fun h => by have := (Mp.g0 k1 k3 k4 k5 (fun h => h.elim k6 k7)).1 h; omega)).symm | exact (decide_eq_true ((Mp.g0 k1 k3 k4 k5 (fun h => h.elim k6 k7)).2 (by omega))).symm | exact decide_eq_decide.2 ⟨fun h => (Mp.g0 k1 k3 k4 k5 (fun h => h.elim k6 k7)).2 (by omega), fun h => by have := (Mp.g0 k1 k3 k4 k5 (fun h => h.elim k6 k7)).1 h; omega⟩), rfl⟩)

end Go.Proofs.YtedkoebbijpnfaaGreatDoor

namespace Go.Proofs.YtedkoebbijpnfaaGreatDoor
open Go Go.Proofs.YtedkoebbijpnfaaGreatDoor.TH
set_option maxHeartbeats 1000000

theorem refCnt_le (n : Int) : (refCnt n).length ≤ 20 := refCnt_len n
section
variable {m : Mp}
theorem Mp.p1 (k1 : m.kind = 1) : m.pay = leB 4 m.ver ++ leB 4 m.height ++ leB 7 m.serv ++ leB 7 m.num := by unfold Mp.pay; rw [if_pos k1]
theorem Mp.p3 (k1 : ¬ m.kind = 1) (k3 : m.kind = 3) : m.pay = leB 4 m.ver ++ refCnt m.names.length ++ m.names.flatten ++ m.stop := by unfold Mp.pay; rw [if_neg k1, if_pos k3]
theorem Mp.p4 (k1 : ¬ m.kind = 1) (k3 : ¬ m.kind = 3) (k4 : m.kind = 4) : m.pay = refCnt m.heads.length ++ m.heads.flatMap (fun h => hdB h ++ [0]) := by unfold Mp.pay; rw [if_neg k1, if_neg k3, if_pos k4]
theorem Mp.p5 (k1 : ¬ m.kind = 1) (k3 : ¬ m.kind = 3) (k4 : ¬ m.kind = 4) (k5 : m.kind = 5) : m.pay = refCnt m.names.length ++ m.names.flatMap (fun h => [2, 0, 0, 0] ++ h) := by unfold Mp.pay; rw [if_neg k1, if_neg k3, if_neg k4, if_pos k5]
theorem Mp.p6 (k1 : ¬ m.kind = 1) (k3 : ¬ m.kind = 3) (k4 : ¬ m.kind = 4) (k5 : ¬ m.kind = 5) (k6 : m.kind = 6 ∨ m.kind = 7) : m.pay = leB 7 m.num := by unfold Mp.pay; rw [if_neg k1, if_neg k3, if_neg k4, if_neg k5, if_pos k6]
theorem Mp.p0 (k1 : ¬ m.kind = 1) (k3 : ¬ m.kind = 3) (k4 : ¬ m.kind = 4) (k5 : ¬ m.kind = 5) (k6 : ¬ (m.kind = 6 ∨ m.kind = 7)) : m.pay = [] := by unfold Mp.pay; rw [if_neg k1, if_neg k3, if_neg k4, if_neg k5, if_neg k6]
end

theorem RPay_spec (m : Mp) (p : Pl) (I : Hp) (hI : m.In p I) (hbn : m.names.length ≤ 1000) (hbh : m.heads.length ≤ 1000) : CallL Tryz.prog 9 [msgV m p] [I] (fun r Hs' => r = str m.pay ∧ Hs' = [I]) := by
  refine CallL.enter Tryz.func9 Tryz.ntmps9 rfl rfl rfl ?_
  obtain ⟨na, nc, ha, hc⟩ := p
  refine EL.seq ?_
  refine EL.region (.x 0 [] (.p 1 (.nil))) (by kernel_rfl) ?_
  refine EPL.box (c := m.vals ⟨na, nc, ha, hc⟩) rfl rfl rfl (fun _ => HeldL.nil) (fun b1 => ?_)
  refine EPL.p rfl rfl (q_assign (v := .string _) rfl) ?_
  refine EPL.nil ?_
  refine EL.go ?_
  refine EL.seq ?_
  refine EL.region (.p 0 (.nil)) (by kernel_rfl) ?_
  refine EPL.p rfl rfl (q_assign (v := .string _) rfl) ?_
  refine EPL.nil ?_
  refine EL.go ?_
  refine EL.seq ?_
  refine EL.seq ?_
  refine EL.region (.p 0 (.l 1 (.nil))) (by kernel_rfl) ?_
  refine EPL.p rfl rfl (q_fieldAddr (p := ⟨_, _, none⟩) Tryz.underlying27 rfl sz3 rfl rfl) ?_
  refine EPL.ld1 (v := .int _ _) rfl rfl sc3 rfl rfl ?_
  refine EPL.nil ?_
  refine EL.go ?_
  refine EL.block ?_
  refine EL.seq ?_
  refine EL.region (.p 0 (.p 1 (.nil))) (by kernel_rfl) ?_
  refine EPL.p rfl rfl (q_eql rfl rfl) ?_
  refine EPL.p rfl rfl (q_assign (v := .bool _) rfl) ?_
  refine EPL.nil ?_
  refine EL.go ?_
  refine EL.cond rfl (fun c2 => ?_) (fun c2 => ?_)
  ·
    have c2 := of_decide_eq_true c2
    have k1 := c2
    refine EL.draw (.p 0 (.l 1 (.p 3 (.l 4 (.p 7 (.l 8 (.p 11 (.l 12 (.x 2 [4, 8, 12] (.x 5 [8, 12] (.p 6 (.x 9 [12] (.p 10 (.x 13 [] (.p 14 (.p 15 (.nil))))))))))))))))) [2, 5, 9, 13] [1, 4, 8, 12] fm (by kernel_rfl) ?_
    refine EPL.p rfl rfl (q_fieldAddr (p := ⟨_, _, none⟩) Tryz.underlying27 rfl sz3 rfl rfl) ?_
    refine EPL.ld1 (v := .int _ _) rfl rfl sc3 rfl rfl ?_
    refine EPL.p rfl rfl (q_fieldAddr (p := ⟨_, _, none⟩) Tryz.underlying27 rfl sz3 rfl rfl) ?_
    refine EPL.ld1 (v := .int _ _) rfl rfl sc3 rfl rfl ?_
    refine EPL.p rfl rfl (q_fieldAddr (p := ⟨_, _, none⟩) Tryz.underlying27 rfl sz3 rfl rfl) ?_
    refine EPL.ld1 (v := .int _ _) rfl rfl sc3 rfl rfl ?_
    refine EPL.p rfl rfl (q_fieldAddr (p := ⟨_, _, none⟩) Tryz.underlying27 rfl sz3 rfl rfl) ?_
    refine EPL.ld1 (v := .int _ _) rfl rfl sc3 rfl rfl ?_
    refine EPL.cl rfl rfl Tryz.func24 rfl rfl (Num4_spec m.ver) rfl ?_
    rintro _ _ ⟨rfl, rfl⟩
    refine ⟨(HeldL.ld1 rfl rfl sc3 rfl rfl (HeldL.ld1 rfl rfl sc3 rfl rfl (HeldL.ld1 rfl rfl sc3 rfl rfl HeldL.nil))), ?_⟩
    refine EPL.cl rfl rfl Tryz.func24 rfl rfl (Num4_spec m.height) rfl ?_
    rintro _ _ ⟨rfl, rfl⟩
    refine ⟨(HeldL.ld1 rfl rfl sc3 rfl rfl (HeldL.ld1 rfl rfl sc3 rfl rfl HeldL.nil)), ?_⟩
    refine EPL.p rfl rfl (q_strcat rfl rfl (by first | (simp only [List.length_append, leB_length]; omega) | (have hrc0 := refCnt_le m.names.length; simp only [List.length_append, leB_length]; omega) | (simp only [List.length_append, leB_length, hxo, List.length_cons, List.length_nil]; omega) | (simp only [List.length_append, leB_length, hdB_len hxo, List.length_cons, List.length_nil]; omega) | (simp only [List.length_append, leB_length, hI.stop]; omega))) ?_
    refine EPL.cl rfl rfl Tryz.func24 rfl rfl (Num7_spec m.serv) rfl ?_
    rintro _ _ ⟨rfl, rfl⟩
    refine ⟨(HeldL.ld1 rfl rfl sc3 rfl rfl HeldL.nil), ?_⟩
    refine EPL.p rfl rfl (q_strcat rfl rfl (by first | (simp only [List.length_append, leB_length]; omega) | (have hrc0 := refCnt_le m.names.length; simp only [List.length_append, leB_length]; omega) | (simp only [List.length_append, leB_length, hxo, List.length_cons, List.length_nil]; omega) | (simp only [List.length_append, leB_length, hdB_len hxo, List.length_cons, List.length_nil]; omega) | (simp only [List.length_append, leB_length, hI.stop]; omega))) ?_
    refine EPL.cl rfl rfl Tryz.func24 rfl rfl (Num7_spec m.num) rfl ?_
    rintro _ _ ⟨rfl, rfl⟩
    refine ⟨HeldL.nil, ?_⟩
    refine EPL.p rfl rfl (q_strcat rfl rfl (by first | (simp only [List.length_append, leB_length]; omega) | (have hrc0 := refCnt_le m.names.length; simp only [List.length_append, leB_length]; omega) | (simp only [List.length_append, leB_length, hxo, List.length_cons, List.length_nil]; omega) | (simp only [List.length_append, leB_length, hdB_len hxo, List.length_cons, List.length_nil]; omega) | (simp only [List.length_append, leB_length, hI.stop]; omega))) ?_
    refine EPL.p rfl rfl (q_assign (v := .string _) rfl) ?_
    refine EPL.nil ?_
    refine EL.go ?_
    refine EL.seq ?_
    refine EL.region (.p 0 (.p 1 (.nil))) (by kernel_rfl) ?_
    refine EPL.p rfl rfl (q_move (v := .string _) rfl) ?_
    refine EPL.p rfl rfl (q_assign (v := .string _) rfl) ?_
    refine EPL.nil ?_
    refine EL.go ?_
    refine EL.ret ?_
    exact end_retP [I] (fun _ => rfl) (fun _ => ⟨congrArg (fun l => str l) (by rw [Mp.p1 k1]), rfl⟩)
  ·
    have c2 := of_decide_eq_false c2
    have k1 := c2
    refine EL.seq ?_
    refine EL.region (.p 0 (.p 1 (.nil))) (by kernel_rfl) ?_
    refine EPL.p rfl rfl (q_eql rfl rfl) ?_
    refine EPL.p rfl rfl (q_assign (v := .bool _) rfl) ?_
    refine EPL.nil ?_
    refine EL.go ?_
    refine EL.cond rfl (fun c3 => ?_) (fun c3 => ?_)
    ·
      have c3 := of_decide_eq_true c3
      have k3 := c3
      refine EL.seq ?_
      refine EL.draw (.p 0 (.l 1 (.p 3 (.l 4 (.p 5 (.x 2 [4] (.x 6 [] (.p 7 (.p 8 (.nil)))))))))) [2, 6] [1, 4] fm (by kernel_rfl) ?_
      refine EPL.p rfl rfl (q_fieldAddr (p := ⟨_, _, none⟩) Tryz.underlying27 rfl sz3 rfl rfl) ?_
      refine EPL.ld1 (v := .int _ _) rfl rfl sc3 rfl rfl ?_
      refine EPL.p rfl rfl (q_fieldAddr (p := ⟨_, _, none⟩) Tryz.underlying27 rfl sz22 rfl rfl) ?_
      refine EPL.ld1 (v := .slice na m.names.length nc) rfl rfl sc22 rfl rfl ?_
      refine EPL.p rfl rfl (q_lenSl Tryz.underlying22 rfl) ?_
      refine EPL.cl rfl rfl Tryz.func24 rfl rfl (Num4_spec m.ver) rfl ?_
      rintro _ _ ⟨rfl, rfl⟩
      refine ⟨(HeldL.ld1 rfl rfl sc22 rfl rfl HeldL.nil), ?_⟩
      refine EPL.cl rfl rfl Tryz.func25 rfl rfl (RCount_spec m.names.length) rfl ?_
      rintro _ _ ⟨rfl, rfl⟩
      refine ⟨HeldL.nil, ?_⟩
      refine EPL.p rfl rfl (q_strcat rfl rfl (by first | (simp only [List.length_append, leB_length]; omega) | (have hrc0 := refCnt_le m.names.length; simp only [List.length_append, leB_length]; omega) | (simp only [List.length_append, leB_length, hxo, List.length_cons, List.length_nil]; omega) | (simp only [List.length_append, leB_length, hdB_len hxo, List.length_cons, List.length_nil]; omega) | (simp only [List.length_append, leB_length, hI.stop]; omega))) ?_
      refine EPL.p rfl rfl (q_assign (v := .string _) rfl) ?_
      refine EPL.nil ?_
      refine EL.go ?_
      refine EL.seq ?_
      refine EL.seq ?_
      refine EL.region (.p 0 (.l 1 (.p 2 (.p 3 (.nil))))) (by kernel_rfl) ?_
      refine EPL.p rfl rfl (q_fieldAddr (p := ⟨_, _, none⟩) Tryz.underlying27 rfl sz22 rfl rfl) ?_
      refine EPL.ld1 (v := .slice na m.names.length nc) rfl rfl sc22 rfl rfl ?_
      refine EPL.p rfl rfl (q_lenSl Tryz.underlying22 rfl) ?_
      refine EPL.p rfl rfl (q_move (v := .int _ _) rfl) ?_
      refine EPL.nil ?_
      refine EL.go ?_
      refine EL.block ?_
      obtain ⟨B, hB⟩ : ∃ B, B = sg b1 (.cells (m.vals ⟨na, nc, ha, hc⟩) 27 (0, 0)) := ⟨_, rfl⟩
      rw [← hB]
      refine EL.base [(1, .pointer (some ⟨b1, 0, none⟩)), (3, str ((leB 4 m.ver ++ refCnt m.names.length))), (40, .slice na m.names.length nc), (41, .int .i64 (m.names.length : Nat)), (42, .int .i64 0)] ⟨rfl, rfl, rfl, rfl, rfl, trivial⟩ (fun e => ?_)
      refine EL.loop [3, 5, 42, 43, 44, 45, 46, 47, 48, 49, 50] (fun i : Nat => [(3, str ((leB 4 m.ver ++ refCnt m.names.length) ++ (m.names.take i).flatMap (fun h => h))), (42, .int .i64 i)]) (fun n i Hs' => n + i = m.names.length ∧ Hs' = [B, I]) m.names.length 0 ⟨by omega, rfl⟩ ⟨congrArg (fun l => str l) (by simp), rfl, trivial⟩ ?_
      rintro n i _ j ⟨hm, rfl⟩
      have hlen := flat_bnd (f := (fun h => h)) (k := 100) (l := m.names.take i) (fun y hy => by rw [hI.names y (List.mem_of_mem_take hy)]; omega)
      have htl : (m.names.take i).length ≤ m.names.length := by rw [List.length_take]; omega
      have hrc := refCnt_le m.names.length
      refine EL.seq ?_
      refine EL.region (.p 0 (.nil)) (by kernel_rfl) ?_
      refine EPL.p rfl rfl (q_lss rfl rfl) ?_
      refine EPL.nil ?_
      refine EL.go ?_
      refine EL.seq ?_
      refine EL.cond rfl (fun c4 => ?_) (fun c4 => ?_)
      ·
        have c4 := of_decide_eq_true c4
        obtain ⟨x, hx⟩ : ∃ x, m.names[i]? = some x := ⟨_, List.getElem?_eq_getElem (by omega)⟩
        have hxm := List.mem_of_getElem? hx
        have hxo : x.length = 32 := hI.names x hxm
        obtain ⟨b, off, cap, cc, ety, fr, he, hbI, hcs, hcc⟩ := hI.rn.getA (f := fun h : List UInt8 => h.map bV) (fun y hy => by rw [List.length_map]; exact hI.names y hy) hx
        obtain ⟨rfl, rfl⟩ : na = some ⟨b, off, none⟩ ∧ nc = cap := by simpa using he
        refine EL.skip ?_
        refine EL.go ?_
        refine EL.seq ?_
        refine EL.block ?_
        refine EL.seq ?_
        refine EL.region (.p 0 (.l 1 (.x 2 [] (.x 3 [] (.nil))))) (by kernel_rfl) ?_
        refine EPL.p rfl rfl (q_idxSl Tryz.underlying22 sz24 rfl rfl (by omega) (by omega)) ?_
        refine EPL.ldAP (v := .agg (x.map bV).toArray) rfl rfl ag24 rfl hbI (by simpa using hcs) (congrArg Value.agg (by simpa using hcc)) ?_
        refine EPL.al rfl rfl el24 (fun _ => HeldL.nil) (fun b5 => ?_)
        refine EPL.stA (v := (x.map bV).toArray) rfl rfl sz24 rfl rfl (by simp [hxo]) (bvAll x) rfl HeldL.nil ?_
        refine EPL.nil ?_
        refine EL.go ?_
        refine EL.region (.p 0 (.l 1 (.x 2 [] (.p 3 (.p 4 (.nil)))))) (by kernel_rfl) ?_
        refine EPL.p rfl rfl (q_move (v := .string _) rfl) ?_
        refine EPL.ldAw rfl rfl ag24 rfl (by simp [hxo]) ?_
        refine EPL.cl rfl rfl Tryz.func26 rfl rfl (RName_spec x hxo) rfl ?_
        rintro _ _ ⟨rfl, rfl⟩
        refine ⟨HeldL.nil, ?_⟩
        refine EPL.p rfl rfl (q_strcat rfl rfl (by first | (simp only [List.length_append, leB_length]; omega) | (have hrc0 := refCnt_le m.names.length; simp only [List.length_append, leB_length]; omega) | (simp only [List.length_append, leB_length, hxo, List.length_cons, List.length_nil]; omega) | (simp only [List.length_append, leB_length, hdB_len hxo, List.length_cons, List.length_nil]; omega) | (simp only [List.length_append, leB_length, hI.stop]; omega))) ?_
        refine EPL.p rfl rfl (q_assign (v := .string _) rfl) ?_
        refine EPL.nil ?_
        refine EL.go ?_
        refine EL.region (.p 0 (.p 1 (.nil))) (by kernel_rfl) ?_
        refine EPL.p rfl rfl (q_add rfl rfl) ?_
        refine EPL.p rfl rfl (q_move (v := .int _ _) rfl) ?_
        refine EPL.nil ?_
        refine RoundQ.mkP (n - 1) (i + 1) [B, I] (by omega) ⟨by omega, rfl⟩ (by repeat first | refine Off.upd rfl ?_ | exact Off.mix | refine Off.upds rfl ?_ | refine Off.mixs rfl ?_ | exact Off.refl) ⟨congrArg (fun l => str l) (by rw [flat_snoc (f := (fun h => h)) hx]; simp only [List.append_assoc]), congrArg (Value.int .i64) (wrap_i64_in (by omega)), trivial⟩
      ·
        have c4 := of_decide_eq_false c4
        rw [List.take_of_length_le (by omega)] at hlen
        have ht : m.names.take i = m.names := List.take_of_length_le (by omega)
        rw [ht]
        subst hB
        refine EL.exit ?_
        refine EL.go ?_
        refine EL.region (.p 0 (.p 1 (.l 2 (.x 3 [] (.p 4 (.p 5 (.nil))))))) (by kernel_rfl) ?_
        refine EPL.p rfl rfl (q_move (v := .string _) rfl) ?_
        refine EPL.p rfl rfl (q_fieldAddr (p := ⟨_, _, none⟩) Tryz.underlying27 rfl sz24 rfl rfl) ?_
        refine EPL.ldAp (v := (m.stop.map bV).toArray) rfl rfl ag24 rfl (by rw [Mp.sz hI.stop]; exact Nat.le_of_ble_eq_true rfl) (Mp.x6 hI.stop) ?_
        refine EPL.cl rfl rfl Tryz.func26 rfl rfl (RName_spec m.stop hI.stop) rfl ?_
        rintro _ _ ⟨rfl, rfl⟩
        refine ⟨HeldL.nil, ?_⟩
        refine EPL.p rfl rfl (q_strcat rfl rfl (by first | (simp only [List.length_append, leB_length]; omega) | (have hrc0 := refCnt_le m.names.length; simp only [List.length_append, leB_length]; omega) | (simp only [List.length_append, leB_length, hxo, List.length_cons, List.length_nil]; omega) | (simp only [List.length_append, leB_length, hdB_len hxo, List.length_cons, List.length_nil]; omega) | (simp only [List.length_append, leB_length, hI.stop]; omega))) ?_
        refine EPL.p rfl rfl (q_assign (v := .string _) rfl) ?_
        refine EPL.nil ?_
        refine EL.go ?_
        refine EL.seq ?_
        refine EL.region (.p 0 (.p 1 (.nil))) (by kernel_rfl) ?_
        refine EPL.p rfl rfl (q_move (v := .string _) rfl) ?_
        refine EPL.p rfl rfl (q_assign (v := .string _) rfl) ?_
        refine EPL.nil ?_
        refine EL.go ?_
        refine EL.ret ?_
        exact end_retP [I] (fun _ => rfl) (fun _ => ⟨congrArg (fun l => str l) (by rw [Mp.p3 k1 k3]; simp [flat_id]), rfl⟩)
    ·
      have c3 := of_decide_eq_false c3
      have k3 := c3
      refine EL.seq ?_
      refine EL.region (.p 0 (.p 1 (.nil))) (by kernel_rfl) ?_
      refine EPL.p rfl rfl (q_eql rfl rfl) ?_
      refine EPL.p rfl rfl (q_assign (v := .bool _) rfl) ?_
      refine EPL.nil ?_
      refine EL.go ?_
      refine EL.cond rfl (fun c6 => ?_) (fun c6 => ?_)
      ·
        have c6 := of_decide_eq_true c6
        have k4 := c6
        refine EL.seq ?_
        refine EL.region (.p 0 (.l 1 (.p 2 (.x 3 [] (.p 4 (.nil)))))) (by kernel_rfl) ?_
        refine EPL.p rfl rfl (q_fieldAddr (p := ⟨_, _, none⟩) Tryz.underlying27 rfl sz25 rfl rfl) ?_
        refine EPL.ld1 (v := .slice ha m.heads.length hc) rfl rfl sc25 rfl (Mp.c38 hI.stop) ?_
        refine EPL.p rfl rfl (q_lenSl Tryz.underlying25 rfl) ?_
        refine EPL.cl rfl rfl Tryz.func25 rfl rfl (RCount_spec m.heads.length) rfl ?_
        rintro _ _ ⟨rfl, rfl⟩
        refine ⟨HeldL.nil, ?_⟩
        refine EPL.p rfl rfl (q_assign (v := .string _) rfl) ?_
        refine EPL.nil ?_
        refine EL.go ?_
        refine EL.seq ?_
        refine EL.region (.p 0 (.l 1 (.p 2 (.p 3 (.nil))))) (by kernel_rfl) ?_
        refine EPL.p rfl rfl (q_fieldAddr (p := ⟨_, _, none⟩) Tryz.underlying27 rfl sz25 rfl rfl) ?_
        refine EPL.ld1 (v := .slice ha m.heads.length hc) rfl rfl sc25 rfl (Mp.c38 hI.stop) ?_
        refine EPL.p rfl rfl (q_lenSl Tryz.underlying25 rfl) ?_
        refine EPL.p rfl rfl (q_move (v := .int _ _) rfl) ?_
        refine EPL.nil ?_
        refine EL.go ?_
        refine EL.block ?_
        obtain ⟨B, hB⟩ : ∃ B, B = sg b1 (.cells (m.vals ⟨na, nc, ha, hc⟩) 27 (0, 0)) := ⟨_, rfl⟩
        rw [← hB]
        refine EL.base [(1, .pointer (some ⟨b1, 0, none⟩)), (3, str (refCnt m.heads.length)), (63, .slice ha m.heads.length hc), (64, .int .i64 (m.heads.length : Nat)), (65, .int .i64 0)] ⟨rfl, rfl, rfl, rfl, rfl, trivial⟩ (fun e => ?_)
        refine EL.loop [3, 7, 65, 66, 67, 68, 69, 70, 71, 72, 73, 74] (fun i : Nat => [(3, str (refCnt m.heads.length ++ (m.heads.take i).flatMap (fun h => hdB h ++ [0]))), (65, .int .i64 i)]) (fun n i Hs' => n + i = m.heads.length ∧ Hs' = [B, I]) m.heads.length 0 ⟨by omega, rfl⟩ ⟨congrArg (fun l => str l) (by simp), rfl, trivial⟩ ?_
        rintro n i _ j ⟨hm, rfl⟩
        have hlen := flat_bnd (f := (fun h => hdB h ++ [0])) (k := 100) (l := m.heads.take i) (fun y hy => by rw [List.length_append, hdB_len (hI.heads y (List.mem_of_mem_take hy))]; decide)
        have htl : (m.heads.take i).length ≤ m.heads.length := by rw [List.length_take]; omega
        have hrc := refCnt_le m.heads.length
        refine EL.seq ?_
        refine EL.region (.p 0 (.nil)) (by kernel_rfl) ?_
        refine EPL.p rfl rfl (q_lss rfl rfl) ?_
        refine EPL.nil ?_
        refine EL.go ?_
        refine EL.seq ?_
        refine EL.cond rfl (fun c7 => ?_) (fun c7 => ?_)
        ·
          have c7 := of_decide_eq_true c7
          obtain ⟨x, hx⟩ : ∃ x, m.heads[i]? = some x := ⟨_, List.getElem?_eq_getElem (by omega)⟩
          have hxm := List.mem_of_getElem? hx
          have hxo : x.ok := hI.heads x hxm
          obtain ⟨b, off, cap, cc, ety, fr, he, hbI, hcs, hcc⟩ := hI.rh.getA (fun y hy => Hd.len (hI.heads y hy)) hx
          obtain ⟨rfl, rfl⟩ : ha = some ⟨b, off, none⟩ ∧ hc = cap := by simpa using he
          refine EL.skip ?_
          refine EL.go ?_
          refine EL.seq ?_
          refine EL.block ?_
          refine EL.seq ?_
          refine EL.region (.p 0 (.l 1 (.x 2 [] (.x 3 [] (.nil))))) (by kernel_rfl) ?_
          refine EPL.p rfl rfl (q_idxSl Tryz.underlying25 sz44 rfl rfl (by omega) (by omega)) ?_
          refine EPL.ldAP (v := .agg x.cells.toArray) rfl rfl ag44 rfl hbI (by simpa using hcs) (congrArg Value.agg (by simpa using hcc)) ?_
          refine EPL.al rfl rfl el44 (fun _ => HeldL.nil) (fun b8 => ?_)
          refine EPL.stA (v := x.cells.toArray) rfl rfl sz44 rfl rfl (Hd.sz hxo) (Hd.one x) rfl HeldL.nil ?_
          refine EPL.nil ?_
          refine EL.go ?_
          refine EL.region (.p 0 (.l 1 (.x 2 [] (.p 3 (.p 4 (.p 5 (.nil))))))) (by kernel_rfl) ?_
          refine EPL.p rfl rfl (q_move (v := .string _) rfl) ?_
          refine EPL.ldAw rfl rfl ag44 rfl (Hd.sz hxo) ?_
          refine EPL.cl rfl rfl Tryz.func27 rfl rfl (RHBytes_spec x hxo) rfl ?_
          rintro _ _ ⟨rfl, rfl⟩
          refine ⟨HeldL.nil, ?_⟩
          refine EPL.p rfl rfl (q_strcat rfl rfl (by first | (simp only [List.length_append, leB_length]; omega) | (have hrc0 := refCnt_le m.names.length; simp only [List.length_append, leB_length]; omega) | (simp only [List.length_append, leB_length, hxo, List.length_cons, List.length_nil]; omega) | (simp only [List.length_append, leB_length, hdB_len hxo, List.length_cons, List.length_nil]; omega) | (simp only [List.length_append, leB_length, hI.stop]; omega))) ?_
          refine EPL.p rfl rfl (q_strcat rfl rfl (by first | (simp only [List.length_append, leB_length]; omega) | (have hrc0 := refCnt_le m.names.length; simp only [List.length_append, leB_length]; omega) | (simp only [List.length_append, leB_length, hxo, List.length_cons, List.length_nil]; omega) | (simp only [List.length_append, leB_length, hdB_len hxo, List.length_cons, List.length_nil]; omega) | (simp only [List.length_append, leB_length, hI.stop]; omega))) ?_
          refine EPL.p rfl rfl (q_assign (v := .string _) rfl) ?_
          refine EPL.nil ?_
          refine EL.go ?_
          refine EL.region (.p 0 (.p 1 (.nil))) (by kernel_rfl) ?_
          refine EPL.p rfl rfl (q_add rfl rfl) ?_
          refine EPL.p rfl rfl (q_move (v := .int _ _) rfl) ?_
          refine EPL.nil ?_
          refine RoundQ.mkP (n - 1) (i + 1) [B, I] (by omega) ⟨by omega, rfl⟩ (by repeat first | refine Off.upd rfl ?_ | exact Off.mix | refine Off.upds rfl ?_ | refine Off.mixs rfl ?_ | exact Off.refl) ⟨congrArg (fun l => str l) (by rw [flat_snoc (f := (fun h => hdB h ++ [0])) hx]; simp only [List.append_assoc]), congrArg (Value.int .i64) (wrap_i64_in (by omega)), trivial⟩
        ·
          have c7 := of_decide_eq_false c7
          have ht : m.heads.take i = m.heads := List.take_of_length_le (by omega)
          rw [ht]
          subst hB
          refine EL.exit ?_
          refine EL.go ?_
          refine EL.seq ?_
          refine EL.region (.p 0 (.p 1 (.nil))) (by kernel_rfl) ?_
          refine EPL.p rfl rfl (q_move (v := .string _) rfl) ?_
          refine EPL.p rfl rfl (q_assign (v := .string _) rfl) ?_
          refine EPL.nil ?_
          refine EL.go ?_
          refine EL.ret ?_
          exact end_retP [I] (fun _ => rfl) (fun _ => ⟨congrArg (fun l => str l) (by rw [Mp.p4 k1 k3 k4]), rfl⟩)
      ·
        have c6 := of_decide_eq_false c6
        have k4 := c6
        refine EL.seq ?_
        refine EL.region (.p 0 (.p 1 (.nil))) (by kernel_rfl) ?_
        refine EPL.p rfl rfl (q_eql rfl rfl) ?_
        refine EPL.p rfl rfl (q_assign (v := .bool _) rfl) ?_
        refine EPL.nil ?_
        refine EL.go ?_
        refine EL.cond rfl (fun c9 => ?_) (fun c9 => ?_)
        ·
          have c9 := of_decide_eq_true c9
          have k5 := c9
          refine EL.seq ?_
          refine EL.region (.p 0 (.l 1 (.p 2 (.x 3 [] (.p 4 (.nil)))))) (by kernel_rfl) ?_
          refine EPL.p rfl rfl (q_fieldAddr (p := ⟨_, _, none⟩) Tryz.underlying27 rfl sz22 rfl rfl) ?_
          refine EPL.ld1 (v := .slice na m.names.length nc) rfl rfl sc22 rfl rfl ?_
          refine EPL.p rfl rfl (q_lenSl Tryz.underlying22 rfl) ?_
          refine EPL.cl rfl rfl Tryz.func25 rfl rfl (RCount_spec m.names.length) rfl ?_
          rintro _ _ ⟨rfl, rfl⟩
          refine ⟨HeldL.nil, ?_⟩
          refine EPL.p rfl rfl (q_assign (v := .string _) rfl) ?_
          refine EPL.nil ?_
          refine EL.go ?_
          refine EL.seq ?_
          refine EL.region (.p 0 (.l 1 (.p 2 (.p 3 (.nil))))) (by kernel_rfl) ?_
          refine EPL.p rfl rfl (q_fieldAddr (p := ⟨_, _, none⟩) Tryz.underlying27 rfl sz22 rfl rfl) ?_
          refine EPL.ld1 (v := .slice na m.names.length nc) rfl rfl sc22 rfl rfl ?_
          refine EPL.p rfl rfl (q_lenSl Tryz.underlying22 rfl) ?_
          refine EPL.p rfl rfl (q_move (v := .int _ _) rfl) ?_
          refine EPL.nil ?_
          refine EL.go ?_
          refine EL.block ?_
          obtain ⟨B, hB⟩ : ∃ B, B = sg b1 (.cells (m.vals ⟨na, nc, ha, hc⟩) 27 (0, 0)) := ⟨_, rfl⟩
          rw [← hB]
          refine EL.base [(1, .pointer (some ⟨b1, 0, none⟩)), (3, str (refCnt m.names.length)), (82, .slice na m.names.length nc), (83, .int .i64 (m.names.length : Nat)), (84, .int .i64 0)] ⟨rfl, rfl, rfl, rfl, rfl, trivial⟩ (fun e => ?_)
          refine EL.loop [3, 9, 84, 85, 86, 87, 88, 89, 90, 91, 92, 93] (fun i : Nat => [(3, str (refCnt m.names.length ++ (m.names.take i).flatMap (fun h => [2, 0, 0, 0] ++ h))), (84, .int .i64 i)]) (fun n i Hs' => n + i = m.names.length ∧ Hs' = [B, I]) m.names.length 0 ⟨by omega, rfl⟩ ⟨congrArg (fun l => str l) (by simp), rfl, trivial⟩ ?_
          rintro n i _ j ⟨hm, rfl⟩
          have hlen := flat_bnd (f := (fun h => [2, 0, 0, 0] ++ h)) (k := 100) (l := m.names.take i) (fun y hy => by rw [List.length_append, hI.names y (List.mem_of_mem_take hy)]; decide)
          have htl : (m.names.take i).length ≤ m.names.length := by rw [List.length_take]; omega
          have hrc := refCnt_le m.names.length
          refine EL.seq ?_
          refine EL.region (.p 0 (.nil)) (by kernel_rfl) ?_
          refine EPL.p rfl rfl (q_lss rfl rfl) ?_
          refine EPL.nil ?_
          refine EL.go ?_
          refine EL.seq ?_
          refine EL.cond rfl (fun c10 => ?_) (fun c10 => ?_)
          ·
            have c10 := of_decide_eq_true c10
            obtain ⟨x, hx⟩ : ∃ x, m.names[i]? = some x := ⟨_, List.getElem?_eq_getElem (by omega)⟩
            have hxm := List.mem_of_getElem? hx
            have hxo : x.length = 32 := hI.names x hxm
            obtain ⟨b, off, cap, cc, ety, fr, he, hbI, hcs, hcc⟩ := hI.rn.getA (f := fun h : List UInt8 => h.map bV) (fun y hy => by rw [List.length_map]; exact hI.names y hy) hx
            obtain ⟨rfl, rfl⟩ : na = some ⟨b, off, none⟩ ∧ nc = cap := by simpa using he
            refine EL.skip ?_
            refine EL.go ?_
            refine EL.seq ?_
            refine EL.block ?_
            refine EL.seq ?_
            refine EL.region (.p 0 (.l 1 (.x 2 [] (.x 3 [] (.nil))))) (by kernel_rfl) ?_
            refine EPL.p rfl rfl (q_idxSl Tryz.underlying22 sz24 rfl rfl (by omega) (by omega)) ?_
            refine EPL.ldAP (v := .agg (x.map bV).toArray) rfl rfl ag24 rfl hbI (by simpa using hcs) (congrArg Value.agg (by simpa using hcc)) ?_
            refine EPL.al rfl rfl el24 (fun _ => HeldL.nil) (fun b11 => ?_)
            refine EPL.stA (v := (x.map bV).toArray) rfl rfl sz24 rfl rfl (by simp [hxo]) (bvAll x) rfl HeldL.nil ?_
            refine EPL.nil ?_
            refine EL.go ?_
            refine EL.region (.p 0 (.p 1 (.l 2 (.x 3 [] (.p 4 (.p 5 (.nil))))))) (by kernel_rfl) ?_
            refine EPL.p rfl rfl (q_move (v := .string _) rfl) ?_
            refine EPL.p rfl rfl (q_strcat rfl rfl (by first | (simp only [List.length_append, leB_length]; omega) | (have hrc0 := refCnt_le m.names.length; simp only [List.length_append, leB_length]; omega) | (simp only [List.length_append, leB_length, hxo, List.length_cons, List.length_nil]; omega) | (simp only [List.length_append, leB_length, hdB_len hxo, List.length_cons, List.length_nil]; omega) | (simp only [List.length_append, leB_length, hI.stop]; omega))) ?_
            refine EPL.ldAw rfl rfl ag24 rfl (by simp [hxo]) ?_
            refine EPL.cl rfl rfl Tryz.func26 rfl rfl (RName_spec x hxo) rfl ?_
            rintro _ _ ⟨rfl, rfl⟩
            refine ⟨HeldL.nil, ?_⟩
            refine EPL.p rfl rfl (q_strcat rfl rfl (by first | (simp only [List.length_append, leB_length]; omega) | (have hrc0 := refCnt_le m.names.length; simp only [List.length_append, leB_length]; omega) | (simp only [List.length_append, leB_length, hxo, List.length_cons, List.length_nil]; omega) | (simp only [List.length_append, leB_length, hdB_len hxo, List.length_cons, List.length_nil]; omega) | (simp only [List.length_append, leB_length, hI.stop]; omega))) ?_
            refine EPL.p rfl rfl (q_assign (v := .string _) rfl) ?_
            refine EPL.nil ?_
            refine EL.go ?_
            refine EL.region (.p 0 (.p 1 (.nil))) (by kernel_rfl) ?_
            refine EPL.p rfl rfl (q_add rfl rfl) ?_
            refine EPL.p rfl rfl (q_move (v := .int _ _) rfl) ?_
            refine EPL.nil ?_
            refine RoundQ.mkP (n - 1) (i + 1) [B, I] (by omega) ⟨by omega, rfl⟩ (by repeat first | refine Off.upd rfl ?_ | exact Off.mix | refine Off.upds rfl ?_ | refine Off.mixs rfl ?_ | exact Off.refl) ⟨congrArg (fun l => str l) (by rw [flat_snoc (f := (fun h => [2, 0, 0, 0] ++ h)) hx]; simp only [List.append_assoc]), congrArg (Value.int .i64) (wrap_i64_in (by omega)), trivial⟩
          ·
            have c10 := of_decide_eq_false c10
            have ht : m.names.take i = m.names := List.take_of_length_le (by omega)
            rw [ht]
            subst hB
            refine EL.exit ?_
            refine EL.go ?_
            refine EL.seq ?_
            refine EL.region (.p 0 (.p 1 (.nil))) (by kernel_rfl) ?_
            refine EPL.p rfl rfl (q_move (v := .string _) rfl) ?_
            refine EPL.p rfl rfl (q_assign (v := .string _) rfl) ?_
            refine EPL.nil ?_
            refine EL.go ?_
            refine EL.ret ?_
            exact end_retP [I] (fun _ => rfl) (fun _ => ⟨congrArg (fun l => str l) (by rw [Mp.p5 k1 k3 k4 k5]), rfl⟩)
        ·
          have c9 := of_decide_eq_false c9
          have k5 := c9
          refine EL.seq ?_
          refine EL.seq ?_
          refine EL.region (.p 0 (.p 1 (.nil))) (by kernel_rfl) ?_
          refine EPL.p rfl rfl (q_eql rfl rfl) ?_
          refine EPL.p rfl rfl (q_assign (v := .bool _) rfl) ?_
          refine EPL.nil ?_
          refine EL.go ?_
          refine EL.cond rfl (fun c12 => ?_) (fun c12 => ?_)
          ·
            have c12 := of_decide_eq_true c12
            have k6 := c12
            refine EL.skip ?_
            refine EL.go ?_
            refine EL.yes (congrArg Value.bool (decide_eq_true c12)) ?_
            refine EL.region (.p 0 (.l 1 (.x 2 [] (.p 3 (.nil))))) (by kernel_rfl) ?_
            refine EPL.p rfl rfl (q_fieldAddr (p := ⟨_, _, none⟩) Tryz.underlying27 rfl sz3 rfl rfl) ?_
            refine EPL.ld1 (v := .int _ _) rfl rfl sc3 rfl rfl ?_
            refine EPL.cl rfl rfl Tryz.func24 rfl rfl (Num7_spec m.num) rfl ?_
            rintro _ _ ⟨rfl, rfl⟩
            refine ⟨HeldL.nil, ?_⟩
            refine EPL.p rfl rfl (q_assign (v := .string _) rfl) ?_
            refine EPL.nil ?_
            refine EL.go ?_
            refine EL.seq ?_
            refine EL.region (.p 0 (.p 1 (.nil))) (by kernel_rfl) ?_
            refine EPL.p rfl rfl (q_move (v := .string _) rfl) ?_
            refine EPL.p rfl rfl (q_assign (v := .string _) rfl) ?_
            refine EPL.nil ?_
            refine EL.go ?_
            refine EL.ret ?_
            exact end_retP [I] (fun _ => rfl) (fun _ => ⟨congrArg (fun l => str l) (by rw [Mp.p6 k1 k3 k4 k5 (.inl k6)]), rfl⟩)
          ·
            have c12 := of_decide_eq_false c12
            have k6 := c12
            refine EL.region (.p 0 (.p 1 (.nil))) (by kernel_rfl) ?_
            refine EPL.p rfl rfl (q_eql rfl rfl) ?_
            refine EPL.p rfl rfl (q_assign (v := .bool _) rfl) ?_
            refine EPL.nil ?_
            refine EL.go ?_
            refine EL.cond rfl (fun c13 => ?_) (fun c13 => ?_)
            ·
              have c13 := of_decide_eq_true c13
              have k7 := c13
              refine EL.region (.p 0 (.l 1 (.x 2 [] (.p 3 (.nil))))) (by kernel_rfl) ?_
              refine EPL.p rfl rfl (q_fieldAddr (p := ⟨_, _, none⟩) Tryz.underlying27 rfl sz3 rfl rfl) ?_
              refine EPL.ld1 (v := .int _ _) rfl rfl sc3 rfl rfl ?_
              refine EPL.cl rfl rfl Tryz.func24 rfl rfl (Num7_spec m.num) rfl ?_
              rintro _ _ ⟨rfl, rfl⟩
              refine ⟨HeldL.nil, ?_⟩
              refine EPL.p rfl rfl (q_assign (v := .string _) rfl) ?_
              refine EPL.nil ?_
              refine EL.go ?_
              refine EL.seq ?_
              refine EL.region (.p 0 (.p 1 (.nil))) (by kernel_rfl) ?_
              refine EPL.p rfl rfl (q_move (v := .string _) rfl) ?_
              refine EPL.p rfl rfl (q_assign (v := .string _) rfl) ?_
              refine EPL.nil ?_
              refine EL.go ?_
              refine EL.ret ?_
              exact end_retP [I] (fun _ => rfl) (fun _ => ⟨congrArg (fun l => str l) (by rw [Mp.p6 k1 k3 k4 k5 (.inr k7)]), rfl⟩)
            ·
              have c13 := of_decide_eq_false c13
              have k7 := c13
              refine EL.skip ?_
              refine EL.go ?_
              refine EL.seq ?_
              refine EL.region (.p 0 (.p 1 (.nil))) (by kernel_rfl) ?_
              refine EPL.p rfl rfl (q_move (v := .string _) rfl) ?_
              refine EPL.p rfl rfl (q_assign (v := .string _) rfl) ?_
              refine EPL.nil ?_
              refine EL.go ?_
              refine EL.ret ?_
              exact end_retP [I] (fun _ => rfl) (fun _ => ⟨congrArg (fun l => str l) (by rw [Mp.p0 k1 k3 k4 k5 (fun h => h.elim k6 k7)]), rfl⟩)

theorem SGreat_spec (m : Mp) (p : Pl) (I : Hp) (hI : m.In p I) : CallL Tryz.prog 5 [msgV m p] [I] (fun r Hs' => r = .bool (decide (200 < m.names.length ∨ 100 < m.heads.length)) ∧ Hs' = [I]) := by
  refine CallL.enter Tryz.func5 Tryz.ntmps5 rfl rfl rfl ?_
  obtain ⟨na, nc, ha, hc⟩ := p
  refine EL.seq ?_
  refine EL.region (.x 0 [] (.p 1 (.nil))) (by kernel_rfl) ?_
  refine EPL.box (c := m.vals ⟨na, nc, ha, hc⟩) rfl rfl rfl (fun _ => HeldL.nil) (fun b1 => ?_)
  refine EPL.p rfl rfl (q_assign (v := .bool _) rfl) ?_
  refine EPL.nil ?_
  refine EL.go ?_
  refine EL.seq ?_
  refine EL.region (.p 0 (.l 1 (.p 2 (.p 3 (.p 4 (.p 5 (.l 6 (.p 7 (.p 8 (.p 9 (.p 10 (.nil)))))))))))) (by kernel_rfl) ?_
  refine EPL.p rfl rfl (q_fieldAddr (p := ⟨_, _, none⟩) Tryz.underlying27 rfl sz22 rfl rfl) ?_
  refine EPL.ld1 (v := .slice na m.names.length nc) rfl rfl sc22 rfl rfl ?_
  refine EPL.p rfl rfl (q_lenSl Tryz.underlying22 rfl) ?_
  refine EPL.p rfl rfl (q_gtr rfl rfl) ?_
  refine EPL.p rfl rfl (q_move (v := .bool _) rfl) ?_
  refine EPL.bool 7 rfl (fun c2 => ?_) (fun c2 => ?_)
  ·
    have c2 := of_decide_eq_true c2
    refine EPL.pno rfl rfl ?_
    refine EPL.rno rfl rfl ?_
    refine EPL.pno rfl rfl ?_
    refine EPL.pno rfl rfl ?_
    refine EPL.p rfl rfl (q_pickT (v := .bool _) rfl rfl) ?_
    refine EPL.p rfl rfl (q_assign (v := .bool _) rfl) ?_
    refine EPL.nil ?_
    refine EL.go ?_
    refine EL.ret ?_
    exact end_retP [I] (fun _ => rfl) (fun _ => ⟨congrArg Value.bool (by first | exact (decide_eq_false (by omega)).symm | exact (decide_eq_true (by omega)).symm | exact decide_eq_decide.2 (by omega)), rfl⟩)
  ·
    have c2 := of_decide_eq_false c2
    refine EPL.p rfl rfl (q_fieldAddr (p := ⟨_, _, none⟩) Tryz.underlying27 rfl sz25 rfl rfl) ?_
    refine EPL.ld1 (v := .slice ha m.heads.length hc) rfl rfl sc25 rfl (Mp.c38 hI.stop) ?_
    refine EPL.p rfl rfl (q_lenSl Tryz.underlying25 rfl) ?_
    refine EPL.p rfl rfl (q_gtr rfl rfl) ?_
    refine EPL.p rfl rfl (q_pickF (v := .bool _) rfl rfl) ?_
    refine EPL.p rfl rfl (q_assign (v := .bool _) rfl) ?_
    refine EPL.nil ?_
    refine EL.go ?_
    refine EL.ret ?_
    exact end_retP [I] (fun _ => rfl) (fun _ => ⟨congrArg Value.bool (by first | exact (decide_eq_false (by omega)).symm | exact (decide_eq_true (by omega)).symm | exact decide_eq_decide.2 (by omega)), rfl⟩)

end Go.Proofs.YtedkoebbijpnfaaGreatDoor

namespace Go.Proofs.YtedkoebbijpnfaaGreatDoor
open Go Go.Proofs.YtedkoebbijpnfaaGreatDoor.TH
set_option maxHeartbeats 1000000

open Go.Shelf
theorem str_list (s : List UInt8) : (ByteArray.mk s.toArray).data.toList = s := rfl
theorem Repeat_spec (s : List UInt8) (c : Nat) (hc : c ≤ 9223372036854775807) (hl : s.length * c ≤ 140737488355328) : CallL Tryz.prog 44 [str s, .int .i64 (c : Int)] [] (fun r Hs' => r = str (Go.Lib.repeatL s c) ∧ Hs' = []) :=
  CallL.of_calls fun w => (Any.strings_Repeat sh105 shX ⟨s.toArray⟩ c w hc (by rw [len_str]; exact hl)).mono fun e w' ⟨he, hb⟩ => ⟨_, he, rfl, hb⟩
theorem Trim_spec (s cs : List UInt8) (hs : s.length ≤ 9223372036854775807) (hc : cs.length < 4294967281) (ha : cs.all (fun b => decide (b.toNat < 128)) = true) : CallL Tryz.prog 70 [str s, str cs] [] (fun r Hs' => r = str (Go.Lib.trimS s cs) ∧ Hs' = []) :=
  CallL.of_calls fun w => (Any.strings_Trim_laid sh160 (by kernel_rfl) ⟨s.toArray⟩ ⟨cs.toArray⟩ w (by rw [len_str]; exact hs) (by rw [len_str]; exact hc) (ascii_of_all ha)).mono fun e w' ⟨he, hb⟩ => ⟨_, he, rfl, hb⟩
/-- Letters and digits. -/
def wordCs : List UInt8 := [97, 98, 99, 100, 101, 102, 103, 104, 105, 106, 107, 108, 109, 110, 111, 112, 113, 114, 115, 116, 117, 118, 119, 120, 121, 122, 48, 49, 50, 51, 52, 53, 54, 55, 56, 57]
def wordOK (w : List UInt8) : Prop := w ≠ [] ∧ w.length ≤ 12 ∧ Go.Lib.trimS w wordCs = []
instance (w : List UInt8) : Decidable (wordOK w) := by unfold wordOK; infer_instance
theorem rep0 (c : Nat) : Go.Lib.repeatL [0] c = List.replicate c 0 := by
  induction c with
  | zero => rfl
  | succ c ih => show [0] ++ Go.Lib.repeatL [0] c = _; rw [ih]; rfl
/-- An envelope's bytes. -/
def envB (w p : List UInt8) : List UInt8 := leB 4 1279869268 ++ (w ++ List.replicate (12 - w.length) 0) ++ leB 4 (p.length : Nat) ++ (shaD p).take 4 ++ p
theorem shaD_len (s : List UInt8) : (shaD s).length = 32 := shaB_len _

theorem EWord_spec (w : List UInt8) (hw : w.length ≤ 9223372036854775807) : CallL Tryz.prog 58 [str w] [] (fun r Hs' => r = .bool (decide (wordOK w)) ∧ Hs' = []) := by
  refine CallL.enter Tryz.func58 Tryz.ntmps58 rfl rfl rfl ?_
  refine EL.seq ?_
  refine EL.region (.p 0 (.nil)) (by kernel_rfl) ?_
  refine EPL.p rfl rfl (q_assign (v := .bool _) rfl) ?_
  refine EPL.nil ?_
  refine EL.go ?_
  refine EL.seq ?_
  refine EL.region (.p 0 (.p 1 (.p 2 (.p 3 (.p 4 (.p 5 (.p 6 (.p 7 (.p 8 (.x 9 [] (.p 10 (.p 11 (.p 12 (.nil)))))))))))))) (by kernel_rfl) ?_
  refine EPL.p rfl rfl (q_move (v := .string _) rfl) ?_
  refine EPL.p rfl rfl (q_strneq rfl rfl) ?_
  refine EPL.p rfl rfl (q_move (v := .bool _) rfl) ?_
  refine EPL.bool 5 rfl (fun c1 => ?_) (fun c1 => ?_)
  ·
    have c1 := of_decide_eq_true c1
    refine EPL.p rfl rfl (q_move (v := .string _) rfl) ?_
    refine EPL.p rfl rfl (q_lenStr Tryz.underlying9 rfl) ?_
    refine EPL.p rfl rfl (q_leq rfl rfl) ?_
    refine EPL.p rfl rfl (q_pickT (v := .bool _) rfl rfl) ?_
    refine EPL.p rfl rfl (q_move (v := .bool _) rfl) ?_
    refine EPL.bool 10 rfl (fun c2 => ?_) (fun c2 => ?_)
    ·
      have c2 := of_decide_eq_true c2
      refine EPL.p rfl rfl (q_move (v := .string _) rfl) ?_
      refine EPL.cl rfl rfl Tryz.func70 rfl rfl (Trim_spec w wordCs hw (by decide) (by decide)) rfl ?_
      rintro _ _ ⟨rfl, rfl⟩
      refine ⟨HeldL.nil, ?_⟩
      refine EPL.p rfl rfl (q_streq rfl rfl) ?_
      refine EPL.p rfl rfl (q_pickT (v := .bool _) rfl rfl) ?_
      refine EPL.p rfl rfl (q_assign (v := .bool _) rfl) ?_
      refine EPL.nil ?_
      refine EL.go ?_
      refine EL.ret ?_
      exact end_ret (fun _ => rfl) (fun _ => ⟨congrArg Value.bool (decide_eq_decide.2 ⟨fun h => ⟨by assumption, by omega, h⟩, fun h => h.2.2⟩), rfl⟩)
    ·
      have c2 := of_decide_eq_false c2
      refine EPL.pno rfl rfl ?_
      refine EPL.xno rfl rfl ?_
      refine EPL.pno rfl rfl ?_
      refine EPL.p rfl rfl (q_pickF (v := .bool _) rfl rfl) ?_
      refine EPL.p rfl rfl (q_assign (v := .bool _) rfl) ?_
      refine EPL.nil ?_
      refine EL.go ?_
      refine EL.ret ?_
      exact end_ret (fun _ => rfl) (fun _ => ⟨congrArg Value.bool (decide_eq_false (fun h => by have := h.2.1; omega)).symm, rfl⟩)
  ·
    have c1 := of_decide_eq_false c1
    refine EPL.pno rfl rfl ?_
    refine EPL.pno rfl rfl ?_
    refine EPL.pno rfl rfl ?_
    refine EPL.p rfl rfl (q_pickF (v := .bool _) rfl rfl) ?_
    refine EPL.p rfl rfl (q_move (v := .bool _) rfl) ?_
    refine EPL.pno rfl rfl ?_
    refine EPL.xno rfl rfl ?_
    refine EPL.pno rfl rfl ?_
    refine EPL.p rfl rfl (q_pickF (v := .bool _) rfl rfl) ?_
    refine EPL.p rfl rfl (q_assign (v := .bool _) rfl) ?_
    refine EPL.nil ?_
    refine EL.go ?_
    refine EL.ret ?_
    exact end_ret (fun _ => rfl) (fun _ => ⟨congrArg Value.bool (decide_eq_false (fun h => absurd h.1 (by assumption))).symm, rfl⟩)

theorem EGood_spec (w p : List UInt8) (hw : w.length ≤ 9223372036854775807) : CallL Tryz.prog 41 [.agg #[str w, str p]] [] (fun r Hs' => r = .bool (decide (wordOK w ∧ p.length ≤ 16384)) ∧ Hs' = []) := by
  refine CallL.enter Tryz.func41 Tryz.ntmps41 rfl rfl rfl ?_
  refine EL.seq ?_
  refine EL.region (.x 0 [] (.p 1 (.nil))) (by kernel_rfl) ?_
  refine EPL.box (c := #[str w, str p]) rfl rfl rfl (fun _ => HeldL.nil) (fun b1 => ?_)
  refine EPL.p rfl rfl (q_assign (v := .bool _) rfl) ?_
  refine EPL.nil ?_
  refine EL.go ?_
  refine EL.seq ?_
  refine EL.region (.p 0 (.l 1 (.x 2 [] (.p 3 (.p 4 (.l 5 (.p 6 (.p 7 (.p 8 (.p 9 (.nil))))))))))) (by kernel_rfl) ?_
  refine EPL.p rfl rfl (q_fieldAddr (p := ⟨_, _, none⟩) Tryz.underlying38 rfl sz9 rfl rfl) ?_
  refine EPL.ld1 (v := str w) rfl rfl sc9 rfl rfl ?_
  refine EPL.cl rfl rfl Tryz.func58 rfl rfl (EWord_spec w hw) rfl ?_
  rintro _ _ ⟨rfl, rfl⟩
  refine ⟨HeldL.nil, ?_⟩
  refine EPL.p rfl rfl (q_move (v := .bool _) rfl) ?_
  refine EPL.bool 6 rfl (fun c2 => ?_) (fun c2 => ?_)
  ·
    have c2 := of_decide_eq_true c2
    refine EPL.p rfl rfl (q_fieldAddr (p := ⟨_, _, none⟩) Tryz.underlying38 rfl sz9 rfl rfl) ?_
    refine EPL.ld1 (v := str p) rfl rfl sc9 rfl rfl ?_
    refine EPL.p rfl rfl (q_lenStr Tryz.underlying9 rfl) ?_
    refine EPL.p rfl rfl (q_leq rfl rfl) ?_
    refine EPL.p rfl rfl (q_pickT (v := .bool _) rfl rfl) ?_
    refine EPL.p rfl rfl (q_assign (v := .bool _) rfl) ?_
    refine EPL.nil ?_
    refine EL.go ?_
    refine EL.ret ?_
    exact end_retP [] (fun _ => rfl) (fun _ => ⟨congrArg Value.bool (decide_eq_decide.2 ⟨fun h => ⟨by assumption, by omega⟩, fun h => by have := h.2; omega⟩), rfl⟩)
  ·
    have c2 := of_decide_eq_false c2
    refine EPL.pno rfl rfl ?_
    refine EPL.rno rfl rfl ?_
    refine EPL.pno rfl rfl ?_
    refine EPL.pno rfl rfl ?_
    refine EPL.p rfl rfl (q_pickF (v := .bool _) rfl rfl) ?_
    refine EPL.p rfl rfl (q_assign (v := .bool _) rfl) ?_
    refine EPL.nil ?_
    refine EL.go ?_
    refine EL.ret ?_
    exact end_retP [] (fun _ => rfl) (fun _ => ⟨congrArg Value.bool (decide_eq_false (fun h => absurd h.1 (by assumption))).symm, rfl⟩)


theorem own4 (b : Nat) {l : List UInt8} (h : l.length = 32) : OwnS 24 1 (.slice (some ⟨b, 0, none⟩) 4 32) 4 ((l.take 4).map bV) (sg b (.cells (l.map bV).toArray 24 (0, 0))) := by
  refine ⟨by simp [h], .inr ⟨b, 0, 32, _, (0, 0), rfl, sg_self, okF.z, by decide, by decide, by simp [h], ?_⟩⟩
  show ((l.map bV).drop 0).take (4 * 1) = _
  rw [List.drop_zero, Nat.mul_one, List.map_take]

theorem ESum_spec (p : List UInt8) (G : Hp) (hG : GS G) (hT : GT G) (hp : p.length ≤ 1000000) : CallL Tryz.prog 45 [str p] [G] (fun r Hs' => r = str ((shaD p).take 4) ∧ Hs' = [G]) := by
  refine CallL.enter Tryz.func45 Tryz.ntmps45 rfl rfl rfl ?_
  refine EL.seq ?_
  refine EL.region (.p 0 (.nil)) (by kernel_rfl) ?_
  refine EPL.p rfl rfl (q_assign (v := .string _) rfl) ?_
  refine EPL.nil ?_
  refine EL.go ?_
  refine EL.seq ?_
  refine EL.region (.p 0 (.x 1 [] (.x 2 [] (.x 3 [] (.x 4 [] (.nil)))))) (by kernel_rfl) ?_
  refine EPL.p rfl rfl (q_move (v := .string _) rfl) ?_
  refine EPL.bs rfl rfl Tryz.underlying66 el9 rfl rfl (fill1 (u := str p) rfl rfl) (fun _ => HeldL.nil) (fun b3 => ?_)
  refine EPL.cl rfl rfl Tryz.func65 rfl rfl (Double_spec (some ⟨b3, 0, none⟩) 1 [p] (sg b3 (.cells #[str p] 9 (0, 0))) G (strB1 _ _) hG hT (by simp; omega)) rfl ?_
  rintro _ _ ⟨rfl, rfl⟩
  rw [show [p].flatten = p from by simp]
  refine ⟨HeldL.nil, ?_⟩
  refine EPL.al rfl rfl el24 (fun _ => HeldL.nil) (fun b5 => ?_)
  refine EPL.stA (v := ((shaD p).map bV).toArray) rfl rfl sz24 rfl rfl (by simp [shaD_len]) (bvAll _) rfl HeldL.nil ?_
  refine EPL.nil ?_
  refine EL.go ?_
  refine EL.seq ?_
  refine EL.region (.p 0 (.l 1 (.p 2 (.nil)))) (by kernel_rfl) ?_
  refine EPL.p rfl rfl (q_slArrHi Tryz.underlying24 sz5 (by decide) rfl rfl (by omega) (by omega)) ?_
  refine EPL.bts rfl rfl Tryz.underlying71 Tryz.underlying5 Tryz.underlying9 rfl (T := 24) (n := 4) (Hj := sg b5 (HashB (shaD p))) (l := (shaD p).take 4) (own4 _ (by simp [shaD_len])) ?_
  refine EPL.p rfl rfl (q_assign (v := .string _) rfl) ?_
  refine EPL.nil ?_
  refine EL.go ?_
  refine EL.ret ?_
  exact end_retP [G] (fun _ => rfl) (fun _ => ⟨rfl, rfl⟩)

end Go.Proofs.YtedkoebbijpnfaaGreatDoor

namespace Go.Proofs.YtedkoebbijpnfaaGreatDoor
open Go Go.Proofs.YtedkoebbijpnfaaGreatDoor.TH
set_option maxHeartbeats 1000000
theorem EBytes_spec (w p : List UInt8) (G : Hp) (hG : GS G) (hT : GT G) (hw : wordOK w) (hp : p.length ≤ 16384) : CallL Tryz.prog 17 [.agg #[str w, str p]] [G] (fun r Hs' => r = .tuple #[str (envB w p), .int .i64 0] ∧ Hs' = [G]) := by
  refine CallL.enter Tryz.func17 Tryz.ntmps17 rfl rfl rfl ?_
  have hw12 := hw.2.1
  refine EL.seq ?_
  refine EL.region (.x 0 [] (.p 1 (.p 2 (.nil)))) (by kernel_rfl) ?_
  refine EPL.box (c := #[str w, str p]) rfl rfl rfl (fun _ => HeldL.nil) (fun b1 => ?_)
  refine EPL.p rfl rfl (q_assign (v := .string _) rfl) ?_
  refine EPL.p rfl rfl (q_assign (v := .int _ _) rfl) ?_
  refine EPL.nil ?_
  refine EL.go ?_
  refine EL.seq ?_
  refine EL.seq ?_
  refine EL.region (.l 0 (.x 1 [] (.p 2 (.nil)))) (by kernel_rfl) ?_
  refine EPL.ldAw rfl rfl ag38 rfl rfl ?_
  refine EPL.cl rfl rfl Tryz.func41 rfl rfl (EGood_spec w p (by omega)) rfl ?_
  rintro _ _ ⟨rfl, rfl⟩
  refine ⟨HeldL.nil, ?_⟩
  refine EPL.p rfl rfl (q_not rfl) ?_
  refine EPL.nil ?_
  refine EL.go ?_
  refine EL.cond rfl (fun c1 => ?_) (fun c1 => ?_)
  ·
    rw [decide_eq_true (show wordOK w ∧ p.length ≤ 16384 from ⟨hw, hp⟩)] at c1
    cases c1
  ·
    refine EL.skip ?_
    refine EL.go ?_
    refine EL.seq ?_
    refine EL.region (.p 0 (.x 1 [] (.p 2 (.nil)))) (by kernel_rfl) ?_
    refine EPL.pad ?_
    refine EPL.p rfl rfl (q_build (cells := #[.slice none 0 0]) pl73 el73 .nil) ?_
    refine EPL.box (c := #[.slice none 0 0]) rfl rfl rfl (fun _ => HeldL.nil) (fun b99 => ?_)
    refine EPL.p rfl rfl (q_assign (v := .pointer _) rfl) ?_
    refine EPL.nil ?_
    refine EL.go ?_
    refine EL.seq ?_
    refine EL.region (.p 0 (.x 1 [] (.x 2 [] (.nil)))) (by kernel_rfl) ?_
    refine EPL.p rfl rfl (q_move (v := .pointer _) rfl) ?_
    refine EPL.bs rfl rfl Tryz.underlying82 el3 rfl rfl (fill1 (u := .int _ _) rfl rfl) (fun _ => HeldL.nil) (fun b2 => ?_)
    refine EPL.cl rfl rfl Tryz.func42 rfl rfl (Put1_spec b99 none b2 0 [] 1279869268 Hp.nil 4 (OwnS.nil _ _ _) (by decide)) rfl ?_
    rintro _ _ ⟨rfl, a1, c1, H1, rfl, hO1⟩
    refine ⟨HeldL.nil, ?_⟩
    refine EPL.nil ?_
    refine EL.go ?_
    refine EL.seq ?_
    refine EL.draw (.p 0 (.p 1 (.l 2 (.p 3 (.l 4 (.p 5 (.p 6 (.x 7 [2] (.p 8 (.x 9 [] (.nil))))))))))) [7, 9] [2, 4] fm (by kernel_rfl) ?_
    refine EPL.p rfl rfl (q_move (v := .pointer _) rfl) ?_
    refine EPL.p rfl rfl (q_fieldAddr (p := ⟨_, _, none⟩) Tryz.underlying38 rfl sz9 rfl rfl) ?_
    refine EPL.ld1 (v := str w) rfl rfl sc9 rfl rfl ?_
    refine EPL.p rfl rfl (q_fieldAddr (p := ⟨_, _, none⟩) Tryz.underlying38 rfl sz9 rfl rfl) ?_
    refine EPL.ld1 (v := str w) rfl rfl sc9 rfl rfl ?_
    refine EPL.p rfl rfl (q_lenStr Tryz.underlying9 rfl) ?_
    have h12 : IntKind.i64.wrap (12 - ((w.length : Nat) : Int)) = ((12 - w.length : Nat) : Int) := by rw [wrap_i64_in (by omega)]; omega
    refine EPL.p rfl rfl (q_sub (k := .i64) rfl rfl) ?_
    refine EPL.cl rfl rfl Tryz.func44 rfl rfl ((by rw [h12]; exact Repeat_spec [0] (12 - w.length) (by omega) (by simp; omega))) rfl ?_
    rintro _ _ ⟨rfl, rfl⟩
    rw [rep0]
    refine ⟨(HeldL.ld1 rfl rfl sc9 rfl rfl HeldL.nil), ?_⟩
    refine EPL.p rfl rfl (q_strcat rfl rfl (by simp only [List.length_replicate]; omega)) ?_
    refine EPL.cl rfl rfl Tryz.func43 rfl rfl (PRaw_spec b99 a1 c1 ([] ++ leB (putK 4) 1279869268) (w ++ List.replicate (12 - w.length) 0) H1 hO1 (by have e4 : putK 4 = 4 := rfl; simp only [List.length_append, leB_length, List.length_replicate, List.length_take, shaD_len, List.length_nil, e4]; omega)) rfl ?_
    rintro _ _ ⟨rfl, a2, c2, H2, rfl, hO2⟩
    refine ⟨HeldL.nil, ?_⟩
    refine EPL.nil ?_
    refine EL.go ?_
    refine EL.seq ?_
    refine EL.region (.p 0 (.p 1 (.l 2 (.p 3 (.x 4 [] (.x 5 [] (.nil))))))) (by kernel_rfl) ?_
    refine EPL.p rfl rfl (q_move (v := .pointer _) rfl) ?_
    refine EPL.p rfl rfl (q_fieldAddr (p := ⟨_, _, none⟩) Tryz.underlying38 rfl sz9 rfl rfl) ?_
    refine EPL.ld1 (v := str p) rfl rfl sc9 rfl rfl ?_
    refine EPL.p rfl rfl (q_lenStr Tryz.underlying9 rfl) ?_
    refine EPL.bs rfl rfl Tryz.underlying82 el3 rfl rfl (fill1 (u := .int _ _) rfl rfl) (fun _ => HeldL.nil) (fun b3 => ?_)
    refine EPL.cl rfl rfl Tryz.func42 rfl rfl (Put1_spec b99 a2 b3 c2 ([] ++ leB (putK 4) 1279869268 ++ (w ++ List.replicate (12 - w.length) 0)) (p.length : Nat) H2 4 hO2 (by have e4 : putK 4 = 4 := rfl; simp only [List.length_append, leB_length, List.length_replicate, List.length_take, shaD_len, List.length_nil, e4]; omega)) rfl ?_
    rintro _ _ ⟨rfl, a3, c3, H3, rfl, hO3⟩
    refine ⟨HeldL.nil, ?_⟩
    refine EPL.nil ?_
    refine EL.go ?_
    refine EL.seq ?_
    refine EL.region (.p 0 (.p 1 (.l 2 (.x 3 [] (.x 4 [] (.nil)))))) (by kernel_rfl) ?_
    refine EPL.p rfl rfl (q_move (v := .pointer _) rfl) ?_
    refine EPL.p rfl rfl (q_fieldAddr (p := ⟨_, _, none⟩) Tryz.underlying38 rfl sz9 rfl rfl) ?_
    refine EPL.ld1 (v := str p) rfl rfl sc9 rfl rfl ?_
    refine EPL.cl rfl rfl Tryz.func45 rfl rfl (ESum_spec p G hG hT (by omega)) rfl ?_
    rintro _ _ ⟨rfl, rfl⟩
    refine ⟨HeldL.nil, ?_⟩
    refine EPL.cl rfl rfl Tryz.func43 rfl rfl (PRaw_spec b99 a3 c3 ([] ++ leB (putK 4) 1279869268 ++ (w ++ List.replicate (12 - w.length) 0) ++ leB (putK 4) (p.length : Nat)) ((shaD p).take 4) H3 hO3 (by have e4 : putK 4 = 4 := rfl; simp only [List.length_append, leB_length, List.length_replicate, List.length_take, shaD_len, List.length_nil, e4]; omega)) rfl ?_
    rintro _ _ ⟨rfl, a4, c4, H4, rfl, hO4⟩
    refine ⟨HeldL.nil, ?_⟩
    refine EPL.nil ?_
    refine EL.go ?_
    refine EL.seq ?_
    refine EL.region (.p 0 (.p 1 (.l 2 (.x 3 [] (.nil))))) (by kernel_rfl) ?_
    refine EPL.p rfl rfl (q_move (v := .pointer _) rfl) ?_
    refine EPL.p rfl rfl (q_fieldAddr (p := ⟨_, _, none⟩) Tryz.underlying38 rfl sz9 rfl rfl) ?_
    refine EPL.ld1 (v := str p) rfl rfl sc9 rfl rfl ?_
    refine EPL.cl rfl rfl Tryz.func43 rfl rfl (PRaw_spec b99 a4 c4 ([] ++ leB (putK 4) 1279869268 ++ (w ++ List.replicate (12 - w.length) 0) ++ leB (putK 4) (p.length : Nat) ++ (shaD p).take 4) (p) H4 hO4 (by have e4 : putK 4 = 4 := rfl; simp only [List.length_append, leB_length, List.length_replicate, List.length_take, shaD_len, List.length_nil, e4]; omega)) rfl ?_
    rintro _ _ ⟨rfl, a5, c5, H5, rfl, hO5⟩
    refine ⟨HeldL.nil, ?_⟩
    refine EPL.nil ?_
    refine EL.go ?_
    refine EL.seq ?_
    refine EL.region (.p 0 (.x 1 [] (.p 2 (.p 3 (.nil))))) (by kernel_rfl) ?_
    refine EPL.p rfl rfl (q_move (v := .pointer _) rfl) ?_
    refine EPL.cl rfl rfl Tryz.func46 rfl rfl (Text_spec b99 a5 c5 ([] ++ leB (putK 4) 1279869268 ++ (w ++ List.replicate (12 - w.length) 0) ++ leB (putK 4) (p.length : Nat) ++ (shaD p).take 4 ++ p) H5 hO5) rfl ?_
    rintro _ _ ⟨rfl, rfl⟩
    refine ⟨HeldL.nil, ?_⟩
    refine EPL.p rfl rfl (q_assign (v := .string _) rfl) ?_
    refine EPL.p rfl rfl (q_assign (v := .int _ _) rfl) ?_
    refine EPL.nil ?_
    refine EL.go ?_
    refine EL.ret ?_
    exact end_retP [G] (fun _ => rfl) (fun _ => ⟨congrArg (fun l => Value.tuple #[str l, .int .i64 0]) (by simp [envB, putK4]), rfl⟩)

end Go.Proofs.YtedkoebbijpnfaaGreatDoor

namespace Go.Proofs.YtedkoebbijpnfaaGreatDoor
open Go Go.Proofs.YtedkoebbijpnfaaGreatDoor.TH
set_option maxHeartbeats 1000000
theorem RBytes_spec (w p : List UInt8) (hw : w.length ≤ 12) (hp : p.length ≤ 1000000) : CallL Tryz.prog 12 [str w, str p] [] (fun r Hs' => r = str (envB w p) ∧ Hs' = []) := by
  refine CallL.enter Tryz.func12 Tryz.ntmps12 rfl rfl rfl ?_
  refine EL.seq ?_
  refine EL.region (.p 0 (.nil)) (by kernel_rfl) ?_
  refine EPL.p rfl rfl (q_assign (v := .string _) rfl) ?_
  refine EPL.nil ?_
  refine EL.go ?_
  refine EL.seq ?_
  refine EL.region (.p 0 (.p 1 (.nil))) (by kernel_rfl) ?_
  refine EPL.p rfl rfl (q_move (v := .string _) rfl) ?_
  refine EPL.p rfl rfl (q_assign (v := .string _) rfl) ?_
  refine EPL.nil ?_
  refine EL.go ?_
  refine EL.seq ?_
  refine EL.block ?_
  refine EL.loop [5, 8, 9, 10, 11, 12] (fun k : Nat => [(5, str (w ++ List.replicate k 0))]) (fun m k Hs' => m + k = 12 - w.length ∧ Hs' = []) (12 - w.length) 0 ⟨by omega, rfl⟩ ⟨congrArg (fun l => str l) (by simp), trivial⟩ ?_
  rintro m k _ j ⟨hm, rfl⟩
  have hl : (w ++ List.replicate k 0).length = w.length + k := by simp
  refine EL.seq ?_
  refine EL.seq ?_
  refine EL.region (.p 0 (.p 1 (.p 2 (.nil)))) (by kernel_rfl) ?_
  refine EPL.p rfl rfl (q_move (v := .string _) rfl) ?_
  refine EPL.p rfl rfl (q_lenStr Tryz.underlying9 rfl) ?_
  refine EPL.p rfl rfl (q_lss rfl rfl) ?_
  refine EPL.nil ?_
  refine EL.go ?_
  refine EL.cond rfl (fun c1 => ?_) (fun c1 => ?_)
  ·
    have c1 := of_decide_eq_true c1
    refine EL.skip ?_
    refine EL.go ?_
    refine EL.block ?_
    refine EL.region (.p 0 (.p 1 (.p 2 (.nil)))) (by kernel_rfl) ?_
    refine EPL.p rfl rfl (q_move (v := .string _) rfl) ?_
    refine EPL.p rfl rfl (q_strcat rfl rfl (by first | (simp only [List.length_append, List.length_replicate, leB_length, List.length_cons, List.length_nil, List.length_take, shaD_len]; omega) | (simp; omega))) ?_
    refine EPL.p rfl rfl (q_assign (v := .string _) rfl) ?_
    refine EPL.nil ?_
    refine RoundQ.mk (m - 1) (k + 1) (by omega) ⟨by omega, rfl⟩ (by repeat first | refine Off.upd rfl ?_ | exact Off.mix | refine Off.upds rfl ?_ | refine Off.mixs rfl ?_ | exact Off.refl) ⟨congrArg (fun l => str l) (by rw [List.replicate_succ']; simp), trivial⟩
  ·
    have c1 := of_decide_eq_false c1
    obtain rfl : k = 12 - w.length := by omega
    refine EL.exit ?_
    refine EL.go ?_
    refine EL.seq ?_
    refine EL.region (.p 0 (.x 1 [] (.x 2 [] (.p 3 (.nil))))) (by kernel_rfl) ?_
    refine EPL.p rfl rfl (q_move (v := .string _) rfl) ?_
    refine EPL.cl rfl rfl Tryz.func36 rfl rfl (RDouble_spec p (by omega)) rfl ?_
    rintro _ _ ⟨rfl, rfl⟩
    refine ⟨HeldL.nil, ?_⟩
    refine EPL.cl rfl rfl Tryz.func26 rfl rfl (RName_spec (shaD p) (shaD_len p)) rfl ?_
    rintro _ _ ⟨rfl, rfl⟩
    refine ⟨HeldL.nil, ?_⟩
    refine EPL.p rfl rfl (q_assign (v := .string _) rfl) ?_
    refine EPL.nil ?_
    refine EL.go ?_
    refine EL.seq ?_
    refine EL.draw (.p 0 (.p 1 (.p 2 (.p 3 (.p 6 (.p 7 (.p 9 (.x 4 [] (.p 5 (.p 8 (.p 10 (.p 11 (.nil))))))))))))) [4] [] fm (by kernel_rfl) ?_
    refine EPL.p rfl rfl (q_move (v := .string _) rfl) ?_
    refine EPL.p rfl rfl (q_strcat rfl rfl (by first | (simp only [List.length_append, List.length_replicate, leB_length, List.length_cons, List.length_nil, List.length_take, shaD_len]; omega) | (simp; omega))) ?_
    refine EPL.p rfl rfl (q_move (v := .string _) rfl) ?_
    refine EPL.p rfl rfl (q_lenStr Tryz.underlying9 rfl) ?_
    refine EPL.p rfl rfl (q_move (v := .string _) rfl) ?_
    have hd32 := shaD_len p
    refine EPL.p rfl rfl (q_ssHi Tryz.underlying9 rfl rfl (by omega) (by omega)) ?_
    refine EPL.p rfl rfl (q_move (v := .string _) rfl) ?_
    refine EPL.cl rfl rfl Tryz.func24 rfl rfl (Num4_spec (p.length : Nat)) rfl ?_
    rintro _ _ ⟨rfl, rfl⟩
    refine ⟨HeldL.nil, ?_⟩
    refine EPL.p rfl rfl (q_strcat rfl rfl (by first | (simp only [List.length_append, List.length_replicate, leB_length, List.length_cons, List.length_nil, List.length_take, shaD_len]; omega) | (simp; omega))) ?_
    refine EPL.p rfl rfl (q_strcat rfl rfl (by first | (simp only [List.length_append, List.length_replicate, leB_length, List.length_cons, List.length_nil, List.length_take, shaD_len]; omega) | (simp; omega))) ?_
    refine EPL.p rfl rfl (q_strcat rfl rfl (by first | (simp only [List.length_append, List.length_replicate, leB_length, List.length_cons, List.length_nil, List.length_take, shaD_len]; omega) | (simp; omega))) ?_
    refine EPL.p rfl rfl (q_assign (v := .string _) rfl) ?_
    refine EPL.nil ?_
    refine EL.go ?_
    refine EL.ret ?_
    exact end_ret (fun _ => rfl) (fun _ => ⟨congrArg (fun l => str l) (by rw [envB, show leB 4 1279869268 = [84, 65, 73, 76] from by decide]; rfl), rfl⟩)

theorem SGoodV_spec : CallL Tryz.prog 8 [msgV (Mp.nil 2) Pl.nil] [] (fun r Hs' => r = .bool true ∧ Hs' = []) := by
  refine CallL.enter Tryz.func8 Tryz.ntmps8 rfl rfl rfl ?_
  refine EL.seq ?_
  refine EL.region (.x 0 [] (.p 1 (.nil))) (by kernel_rfl) ?_
  refine EPL.box (c := (Mp.nil 2).vals Pl.nil) rfl rfl rfl (fun _ => HeldL.nil) (fun b1 => ?_)
  refine EPL.p rfl rfl (q_assign (v := .bool _) rfl) ?_
  refine EPL.nil ?_
  refine EL.go ?_
  refine EL.seq ?_
  refine EL.seq ?_
  refine EL.region (.p 0 (.l 1 (.nil))) (by kernel_rfl) ?_
  refine EPL.p rfl rfl (q_fieldAddr (p := ⟨_, _, none⟩) Tryz.underlying27 rfl sz3 rfl rfl) ?_
  refine EPL.ld1 (v := .int .i64 2) rfl rfl sc3 rfl rfl ?_
  refine EPL.nil ?_
  refine EL.go ?_
  refine EL.block ?_
  refine EL.seq ?_
  refine EL.region (.p 0 (.p 1 (.nil))) (by kernel_rfl) ?_
  refine EPL.p rfl rfl (q_eql rfl rfl) ?_
  refine EPL.p rfl rfl (q_assign (v := .bool _) rfl) ?_
  refine EPL.nil ?_
  refine EL.go ?_
  refine EL.cond rfl (fun c2 => ?_) (fun c2 => ?_)
  ·
    have c2 := of_decide_eq_true c2
    exact absurd c2 (by decide)
  ·
    have c2 := of_decide_eq_false c2
    refine EL.seq ?_
    refine EL.region (.p 0 (.p 1 (.nil))) (by kernel_rfl) ?_
    refine EPL.p rfl rfl (q_eql rfl rfl) ?_
    refine EPL.p rfl rfl (q_assign (v := .bool _) rfl) ?_
    refine EPL.nil ?_
    refine EL.go ?_
    refine EL.cond rfl (fun c3 => ?_) (fun c3 => ?_)
    ·
      have c3 := of_decide_eq_true c3
      exact absurd c3 (by decide)
    ·
      have c3 := of_decide_eq_false c3
      refine EL.seq ?_
      refine EL.region (.p 0 (.p 1 (.nil))) (by kernel_rfl) ?_
      refine EPL.p rfl rfl (q_eql rfl rfl) ?_
      refine EPL.p rfl rfl (q_assign (v := .bool _) rfl) ?_
      refine EPL.nil ?_
      refine EL.go ?_
      refine EL.cond rfl (fun c4 => ?_) (fun c4 => ?_)
      ·
        have c4 := of_decide_eq_true c4
        exact absurd c4 (by decide)
      ·
        have c4 := of_decide_eq_false c4
        refine EL.seq ?_
        refine EL.region (.p 0 (.p 1 (.nil))) (by kernel_rfl) ?_
        refine EPL.p rfl rfl (q_eql rfl rfl) ?_
        refine EPL.p rfl rfl (q_assign (v := .bool _) rfl) ?_
        refine EPL.nil ?_
        refine EL.go ?_
        refine EL.cond rfl (fun c5 => ?_) (fun c5 => ?_)
        ·
          have c5 := of_decide_eq_true c5
          exact absurd c5 (by decide)
        ·
          have c5 := of_decide_eq_false c5
          refine EL.seq ?_
          refine EL.seq ?_
          refine EL.region (.p 0 (.p 1 (.nil))) (by kernel_rfl) ?_
          refine EPL.p rfl rfl (q_eql rfl rfl) ?_
          refine EPL.p rfl rfl (q_assign (v := .bool _) rfl) ?_
          refine EPL.nil ?_
          refine EL.go ?_
          refine EL.cond rfl (fun c6 => ?_) (fun c6 => ?_)
          ·
            have c6 := of_decide_eq_true c6
            exact absurd c6 (by decide)
          ·
            have c6 := of_decide_eq_false c6
            refine EL.region (.p 0 (.p 1 (.nil))) (by kernel_rfl) ?_
            refine EPL.p rfl rfl (q_eql rfl rfl) ?_
            refine EPL.p rfl rfl (q_assign (v := .bool _) rfl) ?_
            refine EPL.nil ?_
            refine EL.go ?_
            refine EL.cond rfl (fun c7 => ?_) (fun c7 => ?_)
            ·
              have c7 := of_decide_eq_true c7
              exact absurd c7 (by decide)
            ·
              have c7 := of_decide_eq_false c7
              refine EL.skip ?_
              refine EL.go ?_
              refine EL.seq ?_
              refine EL.region (.p 0 (.l 1 (.p 2 (.p 3 (.p 4 (.l 5 (.p 6 (.p 7 (.p 8 (.nil)))))))))) (by kernel_rfl) ?_
              refine EPL.p rfl rfl (q_fieldAddr (p := ⟨_, _, none⟩) Tryz.underlying27 rfl sz3 rfl rfl) ?_
              refine EPL.ld1 (v := .int .i64 2) rfl rfl sc3 rfl rfl ?_
              refine EPL.p rfl rfl (q_eql rfl rfl) ?_
              refine EPL.p rfl rfl (q_move (v := .bool _) rfl) ?_
              refine EPL.bool 61 rfl (fun c8 => ?_) (fun c8 => ?_)
              ·
                have c8 := of_decide_eq_true c8
                refine EPL.pno rfl rfl ?_
                refine EPL.rno rfl rfl ?_
                refine EPL.pno rfl rfl ?_
                refine EPL.p rfl rfl (q_pickT (v := .bool _) rfl rfl) ?_
                refine EPL.p rfl rfl (q_assign (v := .bool _) rfl) ?_
                refine EPL.nil ?_
                refine EL.go ?_
                refine EL.ret ?_
                exact end_retP [] (fun _ => rfl) (fun _ => ⟨rfl, rfl⟩)
              ·
                have c8 := of_decide_eq_false c8
                refine EPL.p rfl rfl (q_fieldAddr (p := ⟨_, _, none⟩) Tryz.underlying27 rfl sz3 rfl rfl) ?_
                refine EPL.ld1 (v := .int .i64 2) rfl rfl sc3 rfl rfl ?_
                refine EPL.p rfl rfl (q_eql rfl rfl) ?_
                refine EPL.p rfl rfl (q_pickF (v := .bool _) rfl rfl) ?_
                refine EPL.p rfl rfl (q_assign (v := .bool _) rfl) ?_
                refine EPL.nil ?_
                refine EL.go ?_
                refine EL.ret ?_
                rename_i hcc
                first | exact absurd rfl hcc | exact absurd rfl c8

theorem SPayV_spec : CallL Tryz.prog 19 [msgV (Mp.nil 2) Pl.nil] [] (fun r Hs' => r = str [] ∧ Hs' = []) := by
  refine CallL.enter Tryz.func19 Tryz.ntmps19 rfl rfl rfl ?_
  refine EL.seq ?_
  refine EL.region (.x 0 [] (.p 1 (.nil))) (by kernel_rfl) ?_
  refine EPL.box (c := (Mp.nil 2).vals Pl.nil) rfl rfl rfl (fun _ => HeldL.nil) (fun b1 => ?_)
  refine EPL.p rfl rfl (q_assign (v := .string _) rfl) ?_
  refine EPL.nil ?_
  refine EL.go ?_
  refine EL.seq ?_
  refine EL.region (.p 0 (.x 1 [] (.p 2 (.nil)))) (by kernel_rfl) ?_
  refine EPL.pad ?_
  refine EPL.p rfl rfl (q_build (cells := #[.slice none 0 0]) pl73 el73 .nil) ?_
  refine EPL.box (c := #[.slice none 0 0]) rfl rfl rfl (fun _ => HeldL.nil) (fun b99 => ?_)
  refine EPL.p rfl rfl (q_assign (v := .pointer _) rfl) ?_
  refine EPL.nil ?_
  refine EL.go ?_
  refine EL.seq ?_
  refine EL.seq ?_
  refine EL.region (.p 0 (.l 1 (.nil))) (by kernel_rfl) ?_
  refine EPL.p rfl rfl (q_fieldAddr (p := ⟨_, _, none⟩) Tryz.underlying27 rfl sz3 rfl rfl) ?_
  refine EPL.ld1 (v := .int .i64 2) rfl rfl sc3 rfl rfl ?_
  refine EPL.nil ?_
  refine EL.go ?_
  refine EL.block ?_
  refine EL.seq ?_
  refine EL.region (.p 0 (.p 1 (.nil))) (by kernel_rfl) ?_
  refine EPL.p rfl rfl (q_eql rfl rfl) ?_
  refine EPL.p rfl rfl (q_assign (v := .bool _) rfl) ?_
  refine EPL.nil ?_
  refine EL.go ?_
  refine EL.cond rfl (fun c1 => ?_) (fun c1 => ?_)
  ·
    have c1 := of_decide_eq_true c1
    exact absurd c1 (by decide)
  ·
    have c1 := of_decide_eq_false c1
    refine EL.seq ?_
    refine EL.region (.p 0 (.p 1 (.nil))) (by kernel_rfl) ?_
    refine EPL.p rfl rfl (q_eql rfl rfl) ?_
    refine EPL.p rfl rfl (q_assign (v := .bool _) rfl) ?_
    refine EPL.nil ?_
    refine EL.go ?_
    refine EL.cond rfl (fun c2 => ?_) (fun c2 => ?_)
    ·
      have c2 := of_decide_eq_true c2
      exact absurd c2 (by decide)
    ·
      have c2 := of_decide_eq_false c2
      refine EL.seq ?_
      refine EL.region (.p 0 (.p 1 (.nil))) (by kernel_rfl) ?_
      refine EPL.p rfl rfl (q_eql rfl rfl) ?_
      refine EPL.p rfl rfl (q_assign (v := .bool _) rfl) ?_
      refine EPL.nil ?_
      refine EL.go ?_
      refine EL.cond rfl (fun c3 => ?_) (fun c3 => ?_)
      ·
        have c3 := of_decide_eq_true c3
        exact absurd c3 (by decide)
      ·
        have c3 := of_decide_eq_false c3
        refine EL.seq ?_
        refine EL.region (.p 0 (.p 1 (.nil))) (by kernel_rfl) ?_
        refine EPL.p rfl rfl (q_eql rfl rfl) ?_
        refine EPL.p rfl rfl (q_assign (v := .bool _) rfl) ?_
        refine EPL.nil ?_
        refine EL.go ?_
        refine EL.cond rfl (fun c4 => ?_) (fun c4 => ?_)
        ·
          have c4 := of_decide_eq_true c4
          exact absurd c4 (by decide)
        ·
          have c4 := of_decide_eq_false c4
          refine EL.seq ?_
          refine EL.seq ?_
          refine EL.region (.p 0 (.p 1 (.nil))) (by kernel_rfl) ?_
          refine EPL.p rfl rfl (q_eql rfl rfl) ?_
          refine EPL.p rfl rfl (q_assign (v := .bool _) rfl) ?_
          refine EPL.nil ?_
          refine EL.go ?_
          refine EL.cond rfl (fun c5 => ?_) (fun c5 => ?_)
          ·
            have c5 := of_decide_eq_true c5
            exact absurd c5 (by decide)
          ·
            have c5 := of_decide_eq_false c5
            refine EL.region (.p 0 (.p 1 (.nil))) (by kernel_rfl) ?_
            refine EPL.p rfl rfl (q_eql rfl rfl) ?_
            refine EPL.p rfl rfl (q_assign (v := .bool _) rfl) ?_
            refine EPL.nil ?_
            refine EL.go ?_
            refine EL.cond rfl (fun c6 => ?_) (fun c6 => ?_)
            ·
              have c6 := of_decide_eq_true c6
              exact absurd c6 (by decide)
            ·
              have c6 := of_decide_eq_false c6
              refine EL.skip ?_
              refine EL.go ?_
              refine EL.seq ?_
              refine EL.region (.p 0 (.x 1 [] (.p 2 (.nil)))) (by kernel_rfl) ?_
              refine EPL.p rfl rfl (q_move (v := .pointer _) rfl) ?_
              refine EPL.cl rfl rfl Tryz.func46 rfl rfl (Text_spec b99 none 0 [] Hp.nil (OwnS.nil _ _ _)) rfl ?_
              rintro _ _ ⟨rfl, rfl⟩
              refine ⟨HeldL.nil, ?_⟩
              refine EPL.p rfl rfl (q_assign (v := .string _) rfl) ?_
              refine EPL.nil ?_
              refine EL.go ?_
              refine EL.ret ?_
              exact end_retP [] (fun _ => rfl) (fun _ => ⟨rfl, rfl⟩)

theorem SBytesV_spec (G : Hp) (hG : GS G) (hT : GT G) (hW : GW G) : CallL Tryz.prog 7 [msgV (Mp.nil 2) Pl.nil] [G] (fun r Hs' => r = .tuple #[str (envB (wordR 2) []), .int .i64 0] ∧ Hs' = [G]) := by
  refine CallL.enter Tryz.func7 Tryz.ntmps7 rfl rfl rfl ?_
  refine EL.seq ?_
  refine EL.region (.x 0 [] (.p 1 (.p 2 (.nil)))) (by kernel_rfl) ?_
  refine EPL.box (c := (Mp.nil 2).vals Pl.nil) rfl rfl rfl (fun _ => HeldL.nil) (fun b1 => ?_)
  refine EPL.p rfl rfl (q_assign (v := .string _) rfl) ?_
  refine EPL.p rfl rfl (q_assign (v := .int _ _) rfl) ?_
  refine EPL.nil ?_
  refine EL.go ?_
  refine EL.seq ?_
  refine EL.seq ?_
  refine EL.region (.l 0 (.x 1 [] (.p 2 (.nil)))) (by kernel_rfl) ?_
  refine EPL.ldAw rfl rfl ag27 rfl rfl ?_
  refine EPL.cl rfl rfl Tryz.func8 rfl rfl (SGoodV_spec) rfl ?_
  rintro _ _ ⟨rfl, rfl⟩
  refine ⟨HeldL.nil, ?_⟩
  refine EPL.p rfl rfl (q_not rfl) ?_
  refine EPL.nil ?_
  refine EL.go ?_
  refine EL.cond rfl (fun c1 => ?_) (fun c1 => ?_)
  ·
    cases c1
  ·
    refine EL.skip ?_
    refine EL.go ?_
    refine EL.seq ?_
    refine EL.draw (.p 0 (.l 1 (.l 3 (.x 2 [3] (.x 4 [] (.p 5 (.x 6 [] (.p 7 (.p 8 (.p 9 (.p 10 (.nil)))))))))))) [2, 4, 6] [1, 3] fm (by kernel_rfl) ?_
    refine EPL.p rfl rfl (q_fieldAddr (p := ⟨_, _, none⟩) Tryz.underlying27 rfl sz3 rfl rfl) ?_
    refine EPL.ld1 (v := .int _ _) rfl rfl sc3 rfl rfl ?_
    refine EPL.ldAw rfl rfl ag27 rfl rfl ?_
    refine EPL.cl rfl rfl Tryz.func18 rfl rfl (SWord_spec 2 G hW) rfl ?_
    rintro _ _ ⟨rfl, rfl⟩
    refine ⟨(HeldL.ldAp rfl rfl ag27 rfl (Nat.le_of_ble_eq_true rfl) rfl HeldL.nil), ?_⟩
    refine EPL.cl rfl rfl Tryz.func19 rfl rfl (SPayV_spec) rfl ?_
    rintro _ _ ⟨rfl, rfl⟩
    refine ⟨HeldL.nil, ?_⟩
    refine EPL.p rfl rfl (q_build (cells := #[str (wordR 2), str []]) pl38 el38 (.cons rfl rfl (Nat.le_of_ble_eq_true rfl) rfl (.cons rfl rfl (Nat.le_of_ble_eq_true rfl) rfl .nil))) ?_
    refine EPL.cl rfl rfl Tryz.func17 rfl rfl (EBytes_spec (wordR 2) [] G hG hT (by decide) (by decide)) rfl ?_
    rintro _ _ ⟨rfl, rfl⟩
    refine ⟨HeldL.nil, ?_⟩
    refine EPL.p rfl rfl (q_extract (v := .string _) rfl rfl) ?_
    refine EPL.p rfl rfl (q_extract (v := .int _ _) rfl rfl) ?_
    refine EPL.p rfl rfl (q_assign (v := .string _) rfl) ?_
    refine EPL.p rfl rfl (q_assign (v := .int _ _) rfl) ?_
    refine EPL.nil ?_
    refine EL.go ?_
    refine EL.ret ?_
    exact end_retP [G] (fun _ => rfl) (fun _ => ⟨rfl, rfl⟩)

theorem alive_spec (G : Hp) (hG : GS G) (hT : GT G) (hW : GW G) : CallL Tryz.prog 4 [] [G] (fun r Hs' => r = .bool true ∧ Hs' = [G]) := by
  refine CallL.enter Tryz.func4 Tryz.ntmps4 rfl rfl rfl ?_
  refine EL.seq ?_
  refine EL.region (.p 0 (.nil)) (by kernel_rfl) ?_
  refine EPL.p rfl rfl (q_assign (v := .bool _) rfl) ?_
  refine EPL.nil ?_
  refine EL.go ?_
  refine EL.seq ?_
  refine EL.region (.p 0 (.x 1 [] (.p 2 (.p 3 (.p 4 (.p 5 (.p 6 (.nil)))))))) (by kernel_rfl) ?_
  refine EPL.p rfl rfl (q_build (cells := (Mp.nil 2).vals Pl.nil) pl27 el27 (.cons rfl rfl (Nat.le_of_ble_eq_true rfl) rfl .nil)) ?_
  refine EPL.cl rfl rfl Tryz.func7 rfl rfl (SBytesV_spec G hG hT hW) rfl ?_
  rintro _ _ ⟨rfl, rfl⟩
  refine ⟨HeldL.nil, ?_⟩
  refine EPL.p rfl rfl (q_move (v := _) rfl) ?_
  refine EPL.p rfl rfl (q_extract (v := .string _) rfl rfl) ?_
  refine EPL.p rfl rfl (q_extract (v := .int _ _) rfl rfl) ?_
  refine EPL.p rfl rfl (q_assign (v := .string _) rfl) ?_
  refine EPL.p rfl rfl (q_assign (v := .int _ _) rfl) ?_
  refine EPL.nil ?_
  refine EL.go ?_
  refine EL.seq ?_
  refine EL.region (.p 0 (.p 1 (.p 2 (.p 3 (.x 4 [] (.p 5 (.p 6 (.p 7 (.x 8 [] (.p 9 (.p 10 (.p 11 (.nil))))))))))))) (by kernel_rfl) ?_
  refine EPL.p rfl rfl (q_move (v := .int _ _) rfl) ?_
  refine EPL.p rfl rfl (q_eql rfl rfl) ?_
  refine EPL.p rfl rfl (q_move (v := .bool _) rfl) ?_
  refine EPL.bool 10 rfl (fun c1 => ?_) (fun c1 => ?_)
  ·
    have c1 := of_decide_eq_true c1
    refine EPL.p rfl rfl (q_move (v := .string _) rfl) ?_
    refine EPL.cl rfl rfl Tryz.func12 rfl rfl (RBytes_spec (wordR 2) [] (by decide) (by decide)) rfl ?_
    rintro _ _ ⟨rfl, rfl⟩
    refine ⟨HeldL.nil, ?_⟩
    refine EPL.p rfl rfl (q_streq rfl rfl) ?_
    refine EPL.p rfl rfl (q_pickT (v := .bool _) rfl rfl) ?_
    refine EPL.p rfl rfl (q_move (v := .bool _) rfl) ?_
    refine EPL.bool 15 rfl (fun c2 => ?_) (fun c2 => ?_)
    ·
      have c2 := of_decide_eq_true c2
      refine EPL.cl rfl rfl Tryz.func14 rfl rfl (SKind_spec [105, 110, 118] G hW) rfl ?_
      rintro _ _ ⟨rfl, rfl⟩
      refine ⟨HeldL.nil, ?_⟩
      refine EPL.p rfl rfl (q_eql rfl rfl) ?_
      refine EPL.p rfl rfl (q_pickT (v := .bool _) rfl rfl) ?_
      refine EPL.p rfl rfl (q_assign (v := .bool _) rfl) ?_
      refine EPL.nil ?_
      refine EL.go ?_
      refine EL.ret ?_
      exact end_ret (fun _ => rfl) (fun _ => ⟨rfl, rfl⟩)
    ·
      have c2 := of_decide_eq_false c2
      exact absurd rfl c2
  ·
    have c1 := of_decide_eq_false c1
    exact absurd rfl c1

end Go.Proofs.YtedkoebbijpnfaaGreatDoor

/- What is read of a message is just what is written of one. Plain. -/
namespace Go.Proofs.YtedkoebbijpnfaaGreatDoor
open Go Go.Proofs.YtedkoebbijpnfaaGreatDoor.TH

theorem byte_mod (n : Int) {i : Nat} (hi : i < 4) : byteAt (n % 4294967296) i = byteAt n i := by
  unfold byteAt
  congr 2
  have e0 : (2 : Int) ^ (8 * 0) = 1 := by decide
  have e1 : (2 : Int) ^ (8 * 1) = 256 := by decide
  have e2 : (2 : Int) ^ (8 * 2) = 65536 := by decide
  have e3 : (2 : Int) ^ (8 * 3) = 16777216 := by decide
  match i, hi with
  | 0, _ => rw [e0]; omega
  | 1, _ => rw [e1]; omega
  | 2, _ => rw [e2]; omega
  | 3, _ => rw [e3]; omega
theorem leB4_mod (n : Int) : leB 4 (n % 4294967296) = leB 4 n := by
  unfold leB
  apply List.map_congr_left
  intro i hi
  exact byte_mod n (by simpa using hi)
theorem sx_mod {v : Int} (h : 0 ≤ v ∧ v < 4294967296) : sx v % 4294967296 = v ∧ -2147483648 ≤ sx v ∧ sx v < 2147483648 := by
  have e : sx v = if v < 2147483648 then v else v - 4294967296 := by
    unfold sx
    simp only [IntKind.wrap, IntKind.bits, IntKind.signed]
    simp
    split <;> omega
  rw [e]
  split <;> omega
theorem sx_back {n : Int} (h : -2147483648 ≤ n ∧ n < 2147483648) : sx (n % 4294967296) = n := by
  have := sx_mod (v := n % 4294967296) (by omega)
  omega
theorem p32 : (2 : Int) ^ (8 * 4) = 4294967296 := by decide

theorem Fits.head0 : Fits eHead0 hdB (fun h => h.ok ∧ h.Good) := by
  have g4 := Fits.get (k := 4) (by decide) (by decide)
  have hF := g4.andThen (Fits.name.andThen (Fits.name.andThen (g4.andThen (g4.andThen g4))))
  have hM := hF.map mkHd (fun h => (h.ver % 4294967296, h.prev, h.root, h.time, h.bits, h.nonce)) (fun h => h.ok ∧ h.Good)
    (fun x hx => by
      obtain ⟨v, p, r, t, b, n⟩ := x
      obtain ⟨h1, h2, h3, h4, h5, h6⟩ := hx
      simp only [p32] at h1 h2 h3 h4 h5 h6
      have := sx_mod h1
      refine ⟨by simp only [mkHd, this.1], ⟨h2, h3⟩, ?_⟩
      simp only [mkHd, Hd.Good]
      omega)
    (fun y hy => by
      obtain ⟨⟨h1, h2⟩, h3⟩ := hy
      simp only [Hd.Good] at h3
      refine ⟨by simp only [mkHd, sx_back (n := y.ver) (by omega)], ?_⟩
      simp only [p32]
      refine ⟨by omega, h1, h2, by omega, by omega, by omega⟩)
  refine hM.like ?_ (fun s => ⟨rfl, fun hn => ?_⟩) (fun x hx => ?_) (fun x => Iff.rfl)
  · exact hF.bad
  · show (if (eHd (s, false)).2.2 then Hd.zero else mkHd (eHd (s, false)).1) = mkHd (eHd (s, false)).1
    rcases hF.out s with h | ⟨r, h, _⟩
    · exact absurd h hn
    · have : (eHd (s, false)).2 = (r, false) := h
      rw [this]; rfl
  · show hdB x = leB 4 (x.ver % 4294967296) ++ (x.prev ++ (x.root ++ (leB 4 x.time ++ (leB 4 x.bits ++ leB 4 x.nonce))))
    rw [leB4_mod]
    simp [hdB]
theorem Fits.head : Fits eHead (fun h => hdB h ++ [0]) (fun h => h.ok ∧ h.Good) := by
  have hF := Fits.head0.andThen (Fits.count (most := 0) (by decide) (by decide))
  have hM := hF.map (fun x => x.1) (fun h => (h, (0 : Int))) (fun h => h.ok ∧ h.Good)
    (fun x hx => ⟨by obtain ⟨h, n⟩ := x; have h2 := hx.2; simp only at h2; have : n = 0 := by omega
                     subst this; rfl, hx.1⟩)
    (fun y hy => ⟨rfl, hy, by show (0 : Int) ≤ 0 ∧ (0 : Int) ≤ 0; decide⟩)
  exact hM
theorem Fits.thing : Fits eThing (fun h => [2, 0, 0, 0] ++ h) (fun h => h.length = 32) := by
  have g4 := Fits.get (k := 4) (by decide) (by decide)
  have e2 : leB 4 2 = [2, 0, 0, 0] := by decide
  have hbad : ∀ e : Ey, e = Ey.no → (eName e).2 = Ey.no := fun e h => by rw [h]; exact Fits.name.bad
  refine ⟨?_, fun s => ?_, fun x r hx => ?_⟩
  · unfold eThing
    split
    · exact Fits.name.bad
    · exact hbad _ g4.bad
  · rcases g4.out s with h | ⟨r, h1, h2, h3⟩
    · left
      unfold eThing
      split
      · exact Fits.name.bad
      · exact hbad _ h
    · by_cases hn : (eGet 4 (s, false)).1 ≠ 2
      · left
        unfold eThing
        rw [if_pos hn]
        exact Fits.name.bad
      · have hn' : (eGet 4 (s, false)).1 = 2 := by simpa using hn
        have e : eThing (s, false) = eName (r, false) := by
          unfold eThing
          rw [if_neg hn, h1]
        rw [e]
        rcases Fits.name.out r with k | ⟨r2, k1, k2, k3⟩
        · exact .inl k
        · refine .inr ⟨r2, k1, ?_, k3⟩
          rw [hn', e2] at h2
          rw [List.append_assoc, ← k2]; exact h2
  · have h1 := g4.inn 2 (x ++ r) (by decide)
    rw [e2, ← List.append_assoc] at h1
    unfold eThing
    rw [h1, if_neg (by simp)]
    exact Fits.name.inn x r hx

/-- A message's parts have the lengths that they have. -/
def Wf (m : Mp) : Prop := m.stop.length = 32 ∧ (∀ h ∈ m.names, h.length = 32) ∧ ∀ h ∈ m.heads, h.ok
theorem Mp.In.wf {m : Mp} {p : Pl} {I : Hp} (h : m.In p I) : Wf m := ⟨h.stop, h.names, h.heads⟩

def F1 : Ey → (Int × Int × Int × Int) × Ey := eThen (eGet 4) (eThen (eGet 4) (eThen (eGet 7) (eGet 7)))
def F3 : Ey → (Int × List (List UInt8) × List UInt8) × Ey := eThen (eGet 4) (eThen (eSome 32 eName) eName)
theorem mfits1 : Fits F1 (fun x => leB 4 x.1 ++ (leB 4 x.2.1 ++ (leB 7 x.2.2.1 ++ leB 7 x.2.2.2))) (fun x => (0 ≤ x.1 ∧ x.1 < 2 ^ (8 * 4)) ∧ (0 ≤ x.2.1 ∧ x.2.1 < 2 ^ (8 * 4)) ∧ (0 ≤ x.2.2.1 ∧ x.2.2.1 < 2 ^ (8 * 7)) ∧ (0 ≤ x.2.2.2 ∧ x.2.2.2 < 2 ^ (8 * 7))) := by
  have h := (Fits.get (k := 4) (by decide) (by decide)).andThen ((Fits.get (k := 4) (by decide) (by decide)).andThen ((Fits.get (k := 7) (by decide) (by decide)).andThen (Fits.get (k := 7) (by decide) (by decide))))
  exact h
theorem mfits3 : Fits F3 (fun x => leB 4 x.1 ++ (fun y : List (List UInt8) × List UInt8 => (fun l : List (List UInt8) => refCnt l.length ++ l.flatMap fun h => h) y.1 ++ (fun h : List UInt8 => h) y.2) x.2) (fun x => (fun n : Int => 0 ≤ n ∧ n < 2 ^ (8 * 4)) x.1 ∧ (fun y : List (List UInt8) × List UInt8 => (fun l : List (List UInt8) => (l.length : Int) ≤ 32 ∧ ∀ h ∈ l, (fun h : List UInt8 => h.length = 32) h) y.1 ∧ (fun h : List UInt8 => h.length = 32) y.2) x.2) := by
  have h := (Fits.get (k := 4) (by decide) (by decide)).andThen ((Fits.some (most := 32) (by decide) (by decide) Fits.name).andThen Fits.name)
  exact h
theorem mfits4 : Fits (eSome 64 eHead) (fun l => refCnt l.length ++ l.flatMap fun h => hdB h ++ [0]) (fun l => ((l.length : Nat) : Int) ≤ 64 ∧ ∀ h ∈ l, h.ok ∧ h.Good) := by
  have h := Fits.some (most := 64) (by decide) (by decide) Fits.head
  exact h
theorem mfits5 : Fits (eSome 32 eThing) (fun l => refCnt l.length ++ l.flatMap fun h => [2, 0, 0, 0] ++ h) (fun l => ((l.length : Nat) : Int) ≤ 32 ∧ ∀ h ∈ l, h.length = 32) := by
  have h := Fits.some (most := 32) (by decide) (by decide) Fits.thing
  exact h
theorem mfits6 : Fits (eGet 7) (leB 7) (fun n => 0 ≤ n ∧ n < 2 ^ (8 * 7)) := by
  have h := Fits.get (k := 7) (by decide) (by decide)
  exact h

theorem eMsg1 (e : Ey) : eMsg 1 e = ({ Mp.nil 1 with ver := (F1 e).1.1, height := (F1 e).1.2.1, serv := (F1 e).1.2.2.1, num := (F1 e).1.2.2.2 }, (F1 e).2) := by unfold eMsg; rw [if_pos rfl]; rfl
theorem eMsg3 (e : Ey) : eMsg 3 e = ({ Mp.nil 3 with ver := (F3 e).1.1, names := (F3 e).1.2.1, stop := (F3 e).1.2.2 }, (F3 e).2) := by unfold eMsg; rw [if_neg (by decide), if_pos rfl]; rfl
theorem eMsg4 (e : Ey) : eMsg 4 e = ({ Mp.nil 4 with heads := (eSome 64 eHead e).1 }, (eSome 64 eHead e).2) := by unfold eMsg; rw [if_neg (by decide), if_neg (by decide), if_pos rfl]
theorem eMsg5 (e : Ey) : eMsg 5 e = ({ Mp.nil 5 with names := (eSome 32 eThing e).1 }, (eSome 32 eThing e).2) := by unfold eMsg; rw [if_neg (by decide), if_neg (by decide), if_neg (by decide), if_pos rfl]
theorem eMsg6 {k : Int} (hk : k = 6 ∨ k = 7) (e : Ey) : eMsg k e = ({ Mp.nil k with num := (eGet 7 e).1 }, (eGet 7 e).2) := by unfold eMsg; rw [if_neg (by omega), if_neg (by omega), if_neg (by omega), if_neg (by omega), if_pos hk]
theorem eMsg0 {k : Int} (hk : k = 2 ∨ k = 8) (e : Ey) : eMsg k e = (Mp.nil k, e) := by unfold eMsg; rw [if_neg (by omega), if_neg (by omega), if_neg (by omega), if_neg (by omega), if_neg (by omega)]

theorem kinds {k : Int} (h : 1 ≤ k ∧ k ≤ 8) : k = 1 ∨ k = 3 ∨ k = 4 ∨ k = 5 ∨ (k = 6 ∨ k = 7) ∨ (k = 2 ∨ k = 8) := by omega
theorem good_kind {m : Mp} (h : m.Good) : 1 ≤ m.kind ∧ m.kind ≤ 8 := by
  unfold Mp.Good at h
  by_cases h1 : m.kind = 1
  · omega
  · rw [if_neg h1] at h
    by_cases h3 : m.kind = 3
    · omega
    · rw [if_neg h3] at h
      by_cases h4 : m.kind = 4
      · omega
      · rw [if_neg h4] at h
        by_cases h5 : m.kind = 5
        · omega
        · rw [if_neg h5] at h
          by_cases h6 : m.kind = 6 ∨ m.kind = 7
          · omega
          · rw [if_neg h6] at h
            omega

/-- What is read is just what is written of it. -/
theorem msg_out {k : Int} (hk : 1 ≤ k ∧ k ≤ 8) (s : List UInt8) : (eMsg k (s, false)).2 = Ey.no ∨ ∃ r, (eMsg k (s, false)).2 = (r, false) ∧ s = (eMsg k (s, false)).1.pay ++ r ∧ (eMsg k (s, false)).1.kind = k ∧ (eMsg k (s, false)).1.Good ∧ Wf (eMsg k (s, false)).1 ∧ (eMsg k (s, false)).1.names.length ≤ 32 ∧ (eMsg k (s, false)).1.heads.length ≤ 64 := by
  have z32 : (List.replicate 32 (0 : UInt8)).length = 32 := List.length_replicate
  rcases kinds hk with rfl | rfl | rfl | rfl | hk | hk
  · rw [eMsg1]
    rcases mfits1.out s with h | ⟨r, h1, h2, h3⟩
    · exact .inl h
    · refine .inr ⟨r, h1, ?_, rfl, (Mp.g1 rfl).2 ⟨h3.1, h3.2.1, h3.2.2.1, h3.2.2.2⟩, ⟨z32, by simp, by simp⟩, Nat.zero_le 32, Nat.zero_le 64⟩
      rw [Mp.p1 rfl]
      simp only [List.append_assoc] at h2 ⊢
      exact h2
  · rw [eMsg3]
    rcases mfits3.out s with h | ⟨r, h1, h2, h3⟩
    · exact .inl h
    · have hn : ((F3 (s, false)).1.2.1.length : Int) ≤ 32 := h3.2.1.1
      refine .inr ⟨r, h1, ?_, rfl, (Mp.g3 (show ¬ (3 : Int) = 1 by decide) rfl).2 ⟨h3.1, by show (F3 (s, false)).1.2.1.length ≤ 32; omega⟩, ⟨h3.2.2, h3.2.1.2, by simp⟩, by show (F3 (s, false)).1.2.1.length ≤ 32; omega, Nat.zero_le 64⟩
      rw [Mp.p3 (show ¬ (3 : Int) = 1 by decide) rfl]
      simp only [flat_id, List.append_assoc] at h2 ⊢
      exact h2
  · rw [eMsg4]
    rcases mfits4.out s with h | ⟨r, h1, h2, h3⟩
    · exact .inl h
    · refine .inr ⟨r, h1, ?_, rfl, (Mp.g4 (show ¬ (4 : Int) = 1 by decide) (show ¬ (4 : Int) = 3 by decide) rfl).2 ⟨by have := h3.1; show (eSome 64 eHead (s, false)).1.length ≤ 64; omega, fun h hh => (h3.2 h hh).2⟩, ⟨z32, by simp, fun h hh => (h3.2 h hh).1⟩, Nat.zero_le 32, by have := h3.1; show (eSome 64 eHead (s, false)).1.length ≤ 64; omega⟩
      rw [Mp.p4 (show ¬ (4 : Int) = 1 by decide) (show ¬ (4 : Int) = 3 by decide) rfl]
      exact h2
  · rw [eMsg5]
    rcases mfits5.out s with h | ⟨r, h1, h2, h3⟩
    · exact .inl h
    · refine .inr ⟨r, h1, ?_, rfl, (Mp.g5 (show ¬ (5 : Int) = 1 by decide) (show ¬ (5 : Int) = 3 by decide) (show ¬ (5 : Int) = 4 by decide) rfl).2 (by have := h3.1; show (eSome 32 eThing (s, false)).1.length ≤ 32; omega), ⟨z32, h3.2, by simp⟩, by have := h3.1; show (eSome 32 eThing (s, false)).1.length ≤ 32; omega, Nat.zero_le 64⟩
      rw [Mp.p5 (show ¬ (5 : Int) = 1 by decide) (show ¬ (5 : Int) = 3 by decide) (show ¬ (5 : Int) = 4 by decide) rfl]
      exact h2
  · rw [eMsg6 hk]
    rcases mfits6.out s with h | ⟨r, h1, h2, h3⟩
    · exact .inl h
    · refine .inr ⟨r, h1, ?_, rfl, (Mp.g6 (by show ¬ k = 1; omega) (by show ¬ k = 3; omega) (by show ¬ k = 4; omega) (by show ¬ k = 5; omega) hk).2 h3, ⟨z32, by simp, by simp⟩, Nat.zero_le 32, Nat.zero_le 64⟩
      rw [Mp.p6 (by show ¬ k = 1; omega) (by show ¬ k = 3; omega) (by show ¬ k = 4; omega) (by show ¬ k = 5; omega) hk]
      exact h2
  · rw [eMsg0 hk]
    refine .inr ⟨s, rfl, ?_, rfl, (Mp.g0 (by show ¬ k = 1; omega) (by show ¬ k = 3; omega) (by show ¬ k = 4; omega) (by show ¬ k = 5; omega) (by show ¬ (k = 6 ∨ k = 7); omega)).2 hk, ⟨z32, by simp, by simp⟩, Nat.zero_le 32, Nat.zero_le 64⟩
    rw [Mp.p0 (by show ¬ k = 1; omega) (by show ¬ k = 3; omega) (by show ¬ k = 4; omega) (by show ¬ k = 5; omega) (by show ¬ (k = 6 ∨ k = 7); omega)]
    rfl

/-- What is written is read, and what stands behind it is left. -/
theorem msg_inn {m : Mp} (hw : Wf m) (hg : m.Good) (r : List UInt8) : (eMsg m.kind (m.pay ++ r, false)).2 = (r, false) := by
  rcases kinds (good_kind hg) with h | h | h | h | h | h
  · have g := (Mp.g1 h).1 hg
    have := mfits1.inn (m.ver, m.height, m.serv, m.num) r ⟨g.1, g.2.1, g.2.2.1, g.2.2.2⟩
    rw [Mp.p1 h, h, eMsg1]
    simp only [List.append_assoc] at this ⊢
    exact congrArg Prod.snd this
  · have g := (Mp.g3 (by omega) h).1 hg
    have := mfits3.inn (m.ver, m.names, m.stop) r ⟨g.1, ⟨by have := g.2; show ((m.names.length : Nat) : Int) ≤ 32; omega, hw.2.1⟩, hw.1⟩
    rw [Mp.p3 (by omega) h, h, eMsg3]
    simp only [flat_id, List.append_assoc] at this ⊢
    exact congrArg Prod.snd this
  · have g := (Mp.g4 (by omega) (by omega) h).1 hg
    have := mfits4.inn m.heads r ⟨by have := g.1; show ((m.heads.length : Nat) : Int) ≤ 64; omega, fun x hx => ⟨hw.2.2 x hx, g.2 x hx⟩⟩
    rw [Mp.p4 (by omega) (by omega) h, h, eMsg4]
    dsimp only
    rw [this]
  · have g := (Mp.g5 (by omega) (by omega) (by omega) h).1 hg
    have := mfits5.inn m.names r ⟨by show ((m.names.length : Nat) : Int) ≤ 32; omega, hw.2.1⟩
    rw [Mp.p5 (by omega) (by omega) (by omega) h, h, eMsg5]
    dsimp only
    rw [this]
  · have g := (Mp.g6 (by omega) (by omega) (by omega) (by omega) h).1 hg
    have := mfits6.inn m.num r g
    rw [Mp.p6 (by omega) (by omega) (by omega) (by omega) h, eMsg6 h]
    exact congrArg Prod.snd this
  · rw [Mp.p0 (by omega) (by omega) (by omega) (by omega) (by omega), eMsg0 h]
    rfl

theorem kind_word {k : Int} (h : 1 ≤ k ∧ k ≤ 8) : kindR (wordR k) = k := by
  have := kind_found (word_at h.1 h.2)
  rw [this]; omega
/-- What is read whole. -/
theorem read_law (w p : List UInt8) : ((readR w p).2 = 0 → kindR w ≠ 0 ∧ (readR w p).1.kind = kindR w ∧ (readR w p).1.Good ∧ (readR w p).1.pay = p ∧ (readR w p).1.names.length ≤ 1000 ∧ (readR w p).1.heads.length ≤ 1000) ∧
    ((readR w p).2 ≠ 0 → (readR w p).1 = Mp.nil 0 ∧ (readR w p).2 = if kindR w = 0 then 5 else 4) := by
  unfold readR
  by_cases hk : kindR w = 0
  · rw [if_pos hk, if_pos hk]
    exact ⟨fun h => (by cases h), fun _ => ⟨rfl, rfl⟩⟩
  · rw [if_neg hk, if_neg hk]
    by_cases he : (eMsg (kindR w) (p, false)).2 = ([], false)
    · rw [if_pos he]
      refine ⟨fun _ => ?_, fun h => absurd rfl h⟩
      have hr := kind_range w
      rcases msg_out (k := kindR w) (by omega) p with h | ⟨r, h1, h2, h3, h4, h5⟩
      · rw [he] at h; cases h
      · rw [he] at h1
        have : r = [] := by simpa using (congrArg Prod.fst h1).symm
        subst this
        rw [List.append_nil] at h2
        exact ⟨hk, h3, h4, h2.symm, Nat.le_trans h5.2.1 (by decide), Nat.le_trans h5.2.2 (by decide)⟩
    · rw [if_neg he]
      exact ⟨fun h => (by cases h), fun _ => ⟨rfl, rfl⟩⟩
/-- What stands behind, or is cut off. -/
theorem cuts_law {m : Mp} (hw : Wf m) (hg : m.Good) {more : List UInt8} (hm : more ≠ []) : (readR (wordR m.kind) (m.pay ++ more)).2 = 4 ∧ ∀ c, c < m.pay.length → (readR (wordR m.kind) (m.pay.take c)).2 = 4 := by
  have hk := kind_word (good_kind hg)
  have hk0 : m.kind ≠ 0 := by have := good_kind hg; omega
  constructor
  · unfold readR
    rw [hk, if_neg hk0, msg_inn hw hg more, if_neg (by intro h; exact hm (congrArg Prod.fst h))]
  · intro c hc
    unfold readR
    rw [hk, if_neg hk0]
    by_cases he : (eMsg m.kind (m.pay.take c, false)).2 = ([], false)
    · exfalso
      rcases msg_out (k := m.kind) (good_kind hg) (m.pay.take c) with h | ⟨r, h1, h2, h3, h4, h5⟩
      · rw [he] at h; cases h
      · rw [he] at h1
        have : r = [] := by simpa using (congrArg Prod.fst h1).symm
        subst this
        rw [List.append_nil] at h2
        generalize (eMsg m.kind (m.pay.take c, false)).1 = m' at h2 h3 h4 h5
        have h6 := msg_inn h5.1 h4 (m.pay.drop c)
        rw [h3, ← h2, List.take_append_drop] at h6
        have h7 := msg_inn hw hg []
        rw [List.append_nil, h6] at h7
        have h8 : m.pay.drop c = [] := congrArg Prod.fst h7
        have h9 := congrArg List.length h8
        rw [List.length_drop, List.length_nil] at h9
        omega
    · rw [if_neg he]
end Go.Proofs.YtedkoebbijpnfaaGreatDoor

namespace Go.Proofs.YtedkoebbijpnfaaGreatDoor
open Go Go.Proofs.YtedkoebbijpnfaaGreatDoor.TH
set_option maxHeartbeats 1000000

theorem rdZ1 (b : Nat) (x : Int) : RdS 1 (.slice (some ⟨b, 0, none⟩) 1 1) 1 ([x].flatMap fun n => [Value.int .i64 n]) (sg b (.cells #[.int .i64 x] 3 (0, 0))) := ⟨rfl, by show (1 : Nat) ≤ _; omega, .inr ⟨b, 0, 1, _, _, _, rfl, sg_self, by show 0 + 1 * 1 ≤ 1; omega, rfl⟩⟩
theorem rdZ2 (b : Nat) (x y : Int) : RdS 1 (.slice (some ⟨b, 0, none⟩) 2 2) 2 ([x, y].flatMap fun n => [Value.int .i64 n]) (sg b (.cells #[.int .i64 x, .int .i64 y] 3 (0, 0))) := ⟨rfl, by show (2 : Nat) ≤ _; omega, .inr ⟨b, 0, 2, _, _, _, rfl, sg_self, by show 0 + 2 * 1 ≤ 2; omega, rfl⟩⟩
theorem Small1_spec (k : Nat) (hk : k ≤ 7) (b : Nat) (x : Int) : CallL Tryz.prog 20 [.int .i64 (k : Int), .slice (some ⟨b, 0, none⟩) 1 1] [sg b (.cells #[.int .i64 x] 3 (0, 0))] (fun r Hs' => r = .bool (decide (0 ≤ x ∧ x < 2 ^ (8 * k))) ∧ Hs' = [sg b (.cells #[.int .i64 x] 3 (0, 0))]) :=
  (Small_spec k hk (some ⟨b, 0, none⟩) 1 [x] _ (rdZ1 b x)).mono fun v Hs' h => ⟨h.1.trans (congrArg Value.bool (decide_eq_decide.2 (by simp))), h.2⟩
theorem Small2_spec (k : Nat) (hk : k ≤ 7) (b : Nat) (x y : Int) : CallL Tryz.prog 20 [.int .i64 (k : Int), .slice (some ⟨b, 0, none⟩) 2 2] [sg b (.cells #[.int .i64 x, .int .i64 y] 3 (0, 0))] (fun r Hs' => r = .bool (decide ((0 ≤ x ∧ x < 2 ^ (8 * k)) ∧ (0 ≤ y ∧ y < 2 ^ (8 * k)))) ∧ Hs' = [sg b (.cells #[.int .i64 x, .int .i64 y] 3 (0, 0))]) :=
  (Small_spec k hk (some ⟨b, 0, none⟩) 2 [x, y] _ (rdZ2 b x y)).mono fun v Hs' h => ⟨h.1.trans (congrArg Value.bool (decide_eq_decide.2 (by simp))), h.2⟩

theorem GoodC_spec (h : Hd) (hh : h.ok) : CallL Tryz.prog 22 [hdV h] [] (fun r Hs' => r = .bool (!decide h.Good) ∧ Hs' = []) := by
  refine CallL.enter Tryz.func22 Tryz.ntmps22 rfl rfl rfl ?_
  refine EL.seq ?_
  refine EL.region (.x 0 [] (.p 1 (.nil))) (by kernel_rfl) ?_
  refine EPL.box (c := h.cells.toArray) rfl rfl rfl (fun _ => HeldL.nil) (fun b1 => ?_)
  refine EPL.p rfl rfl (q_assign (v := .bool _) rfl) ?_
  refine EPL.nil ?_
  refine EL.go ?_
  refine EL.seq ?_
  refine EL.region (.l 0 (.x 1 [] (.p 2 (.p 3 (.nil))))) (by kernel_rfl) ?_
  refine EPL.ldAw rfl rfl ag44 rfl (Hd.sz hh) ?_
  refine EPL.cl rfl rfl Tryz.func23 rfl rfl (HGood_spec h hh) rfl ?_
  rintro _ _ ⟨rfl, rfl⟩
  refine ⟨HeldL.nil, ?_⟩
  refine EPL.p rfl rfl (q_not rfl) ?_
  refine EPL.p rfl rfl (q_assign (v := .bool _) rfl) ?_
  refine EPL.nil ?_
  refine EL.go ?_
  refine EL.ret ?_
  exact end_retP [] (fun _ => rfl) (fun _ => ⟨rfl, rfl⟩)

theorem IndexFunc_spec (la : Option Addr) (lc : Nat) (l : List Hd) (I : Hp) (hw : ∀ h ∈ l, h.ok) (hI : RdS 68 (.slice la l.length lc) l.length (l.flatMap Hd.cells) I) : CallL Tryz.prog 50 [.slice la l.length lc, .func (.func 22) #[] #[]] [I] (fun r Hs' => (∃ z : Int, r = .int .i64 z ∧ ((z = -1 ∧ ∀ h ∈ l, h.Good) ∨ (0 ≤ z ∧ ∃ h ∈ l, ¬ h.Good))) ∧ Hs' = [I]) := by
  refine CallL.enter Tryz.func50 Tryz.ntmps50 rfl rfl rfl ?_
  have hmx := hI.2.1
  refine EL.seq ?_
  refine EL.region (.p 0 (.nil)) (by kernel_rfl) ?_
  refine EPL.p rfl rfl (q_assign (v := .int _ _) rfl) ?_
  refine EPL.nil ?_
  refine EL.go ?_
  refine EL.seq ?_
  refine EL.seq ?_
  refine EL.region (.p 0 (.p 1 (.p 2 (.nil)))) (by kernel_rfl) ?_
  refine EPL.p rfl rfl (q_move (v := .slice _ _ _) rfl) ?_
  refine EPL.p rfl rfl (q_lenSl Tryz.underlying25 rfl) ?_
  refine EPL.p rfl rfl (q_move (v := .int _ _) rfl) ?_
  refine EPL.nil ?_
  refine EL.go ?_
  refine EL.block ?_
  refine EL.loop [4, 5, 8, 9, 10, 11, 12, 13, 14, 15, 16, 17, 18] (fun i : Nat => [(8, .int .i64 i)]) (fun m i Hs' => m + i = l.length ∧ Hs' = [I] ∧ ∀ h ∈ l.take i, h.Good) l.length 0 ⟨by omega, rfl, by simp⟩ ⟨rfl, trivial⟩ ?_
  rintro m i _ j ⟨hm, rfl, hall⟩
  refine EL.seq ?_
  refine EL.region (.p 0 (.nil)) (by kernel_rfl) ?_
  refine EPL.p rfl rfl (q_lss rfl rfl) ?_
  refine EPL.nil ?_
  refine EL.go ?_
  refine EL.seq ?_
  refine EL.cond rfl (fun c1 => ?_) (fun c1 => ?_)
  ·
    have c1 := of_decide_eq_true c1
    obtain ⟨x, hx⟩ : ∃ x, l[i]? = some x := ⟨_, List.getElem?_eq_getElem (by omega)⟩
    have hxm := List.mem_of_getElem? hx
    have hxo : x.ok := hw x hxm
    have hnx : l.take (i + 1) = l.take i ++ [x] := by obtain ⟨hi2, hx2⟩ := List.getElem?_eq_some_iff.1 hx; rw [List.take_succ_eq_append_getElem hi2, hx2]
    obtain ⟨b, off, cap, cc, ety, fr, he, hbI, hcs, hcc⟩ := hI.getA (fun y hy => Hd.len (hw y hy)) hx
    obtain ⟨rfl, rfl⟩ : la = some ⟨b, off, none⟩ ∧ lc = cap := by simpa using he
    refine EL.skip ?_
    refine EL.go ?_
    refine EL.seq ?_
    refine EL.block ?_
    refine EL.seq ?_
    refine EL.region (.p 0 (.p 1 (.nil))) (by kernel_rfl) ?_
    refine EPL.p rfl rfl (q_move (v := .int _ _) rfl) ?_
    refine EPL.p rfl rfl (q_assign (v := .int _ _) rfl) ?_
    refine EPL.nil ?_
    refine EL.go ?_
    refine EL.seq ?_
    refine EL.region (.p 0 (.p 1 (.p 2 (.p 3 (.l 4 (.x 5 [] (.nil))))))) (by kernel_rfl) ?_
    refine EPL.p rfl rfl (q_move (v := _) rfl) ?_
    refine EPL.p rfl rfl (q_move (v := .slice _ _ _) rfl) ?_
    refine EPL.p rfl rfl (q_move (v := .int _ _) rfl) ?_
    refine EPL.p rfl rfl (q_idxSl Tryz.underlying25 sz44 rfl rfl (by omega) (by omega)) ?_
    refine EPL.ldAP (v := .agg x.cells.toArray) rfl rfl ag44 rfl hbI (by simpa using hcs) (congrArg Value.agg (by simpa using hcc)) ?_
    refine EPL.clV rfl rfl rfl Tryz.func22 rfl rfl (GoodC_spec x hxo) rfl ?_
    rintro _ _ ⟨rfl, rfl⟩
    refine ⟨HeldL.nil, ?_⟩
    refine EPL.nil ?_
    refine EL.go ?_
    refine EL.cond rfl (fun c2 => ?_) (fun c2 => ?_)
    ·
      have hbad : ¬ x.Good := by simpa using c2
      refine EL.seq ?_
      refine EL.region (.p 0 (.p 1 (.nil))) (by kernel_rfl) ?_
      refine EPL.p rfl rfl (q_move (v := .int _ _) rfl) ?_
      refine EPL.p rfl rfl (q_assign (v := .int _ _) rfl) ?_
      refine EPL.nil ?_
      refine EL.go ?_
      refine EL.ret ?_
      exact end_ret (fun _ => rfl) (fun _ => ⟨⟨_, rfl, .inr ⟨by omega, x, hxm, hbad⟩⟩, rfl⟩)
    ·
      have hgx : x.Good := by simpa using c2
      have hall2 : ∀ h ∈ l.take (i + 1), h.Good := by rw [hnx]; intro h hh; rcases List.mem_append.1 hh with h1 | h1; exact hall h h1; (obtain rfl := List.mem_singleton.1 h1); exact hgx
      refine EL.skip ?_
      refine EL.go ?_
      refine EL.region (.p 0 (.p 1 (.nil))) (by kernel_rfl) ?_
      refine EPL.p rfl rfl (q_add rfl rfl) ?_
      refine EPL.p rfl rfl (q_move (v := .int _ _) rfl) ?_
      refine EPL.nil ?_
      refine RoundQ.mk (m - 1) (i + 1) (by omega) ⟨by omega, rfl, hall2⟩ (by repeat first | refine Off.upd rfl ?_ | exact Off.mix | refine Off.upds rfl ?_ | refine Off.mixs rfl ?_ | exact Off.refl) ⟨congrArg (Value.int .i64) (wrap_i64_in (by omega)), trivial⟩
  ·
    have c1 := of_decide_eq_false c1
    rw [List.take_of_length_le (by omega)] at hall
    refine EL.exit ?_
    refine EL.go ?_
    refine EL.seq ?_
    refine EL.region (.p 0 (.nil)) (by kernel_rfl) ?_
    refine EPL.p rfl rfl (q_assign (v := .int _ _) rfl) ?_
    refine EPL.nil ?_
    refine EL.go ?_
    refine EL.ret ?_
    exact end_ret (fun _ => rfl) (fun _ => ⟨⟨_, rfl, .inl ⟨rfl, hall⟩⟩, rfl⟩)

theorem Contains_spec (la : Option Addr) (lc : Nat) (l : List Hd) (I : Hp) (hw : ∀ h ∈ l, h.ok) (hI : RdS 68 (.slice la l.length lc) l.length (l.flatMap Hd.cells) I) : CallL Tryz.prog 21 [.slice la l.length lc, .func (.func 22) #[] #[]] [I] (fun r Hs' => r = .bool (decide (¬ ∀ h ∈ l, h.Good)) ∧ Hs' = [I]) := by
  refine CallL.enter Tryz.func21 Tryz.ntmps21 rfl rfl rfl ?_
  refine EL.seq ?_
  refine EL.region (.p 0 (.nil)) (by kernel_rfl) ?_
  refine EPL.p rfl rfl (q_assign (v := .bool _) rfl) ?_
  refine EPL.nil ?_
  refine EL.go ?_
  refine EL.seq ?_
  refine EL.region (.p 0 (.p 1 (.x 2 [] (.p 3 (.p 4 (.nil)))))) (by kernel_rfl) ?_
  refine EPL.p rfl rfl (q_move (v := .slice _ _ _) rfl) ?_
  refine EPL.p rfl rfl (q_move (v := .func (.func 22) #[] #[]) rfl) ?_
  refine EPL.cl rfl rfl Tryz.func50 rfl rfl (IndexFunc_spec la lc l I hw hI) rfl ?_
  rintro _ _ ⟨⟨z, rfl, hz⟩, rfl⟩
  refine ⟨HeldL.nil, ?_⟩
  refine EPL.p rfl rfl (q_geq rfl rfl) ?_
  refine EPL.p rfl rfl (q_assign (v := .bool _) rfl) ?_
  refine EPL.nil ?_
  refine EL.go ?_
  refine EL.ret ?_
  exact end_ret (fun _ => rfl) (fun _ => ⟨congrArg Value.bool (decide_eq_decide.2 ⟨fun h hall => by rcases hz with ⟨rfl, _⟩ | ⟨_, x, hx, hb⟩; omega; exact hb (hall x hx), fun h => by rcases hz with ⟨_, h2⟩ | ⟨h2, _⟩; exact absurd h2 h; exact h2⟩), rfl⟩)

theorem SGood_spec (m : Mp) (p : Pl) (I : Hp) (hI : m.In p I) : CallL Tryz.prog 8 [msgV m p] [I] (fun r Hs' => r = .bool (decide m.Good) ∧ Hs' = [I]) := by
  refine CallL.enter Tryz.func8 Tryz.ntmps8 rfl rfl rfl ?_
  obtain ⟨na, nc, ha, hc⟩ := p
  refine EL.seq ?_
  refine EL.region (.x 0 [] (.p 1 (.nil))) (by kernel_rfl) ?_
  refine EPL.box (c := m.vals ⟨na, nc, ha, hc⟩) rfl rfl rfl (fun _ => HeldL.nil) (fun b1 => ?_)
  refine EPL.p rfl rfl (q_assign (v := .bool _) rfl) ?_
  refine EPL.nil ?_
  refine EL.go ?_
  refine EL.seq ?_
  refine EL.seq ?_
  refine EL.region (.p 0 (.l 1 (.nil))) (by kernel_rfl) ?_
  refine EPL.p rfl rfl (q_fieldAddr (p := ⟨_, _, none⟩) Tryz.underlying27 rfl sz3 rfl rfl) ?_
  refine EPL.ld1 (v := .int _ _) rfl rfl sc3 rfl rfl ?_
  refine EPL.nil ?_
  refine EL.go ?_
  refine EL.block ?_
  refine EL.seq ?_
  refine EL.region (.p 0 (.p 1 (.nil))) (by kernel_rfl) ?_
  refine EPL.p rfl rfl (q_eql rfl rfl) ?_
  refine EPL.p rfl rfl (q_assign (v := .bool _) rfl) ?_
  refine EPL.nil ?_
  refine EL.go ?_
  refine EL.cond rfl (fun c2 => ?_) (fun c2 => ?_)
  ·
    have c2 := of_decide_eq_true c2
    have k1 := c2
    refine EL.seq ?_
    refine EL.region (.p 0 (.l 1 (.p 2 (.l 3 (.x 4 [] (.x 5 [] (.p 6 (.p 7 (.l 8 (.p 9 (.l 10 (.x 11 [] (.x 12 [] (.p 13 (.p 14 (.nil)))))))))))))))) (by kernel_rfl) ?_
    refine EPL.p rfl rfl (q_fieldAddr (p := ⟨_, _, none⟩) Tryz.underlying27 rfl sz3 rfl rfl) ?_
    refine EPL.ld1 (v := .int _ _) rfl rfl sc3 rfl rfl ?_
    refine EPL.p rfl rfl (q_fieldAddr (p := ⟨_, _, none⟩) Tryz.underlying27 rfl sz3 rfl rfl) ?_
    refine EPL.ld1 (v := .int _ _) rfl rfl sc3 rfl rfl ?_
    refine EPL.bs rfl rfl Tryz.underlying82 el3 rfl rfl (fill2 (u := .int _ _) (w := .int _ _) rfl rfl rfl) (fun _ => HeldL.nil) (fun b51 => ?_)
    refine EPL.cl rfl rfl Tryz.func20 rfl rfl (Small2_spec 4 (by decide) b51 m.ver m.height) rfl ?_
    rintro _ _ ⟨rfl, rfl⟩
    refine ⟨HeldL.nil, ?_⟩
    refine EPL.p rfl rfl (q_move (v := .bool _) rfl) ?_
    refine EPL.bool 13 rfl (fun c3 => ?_) (fun c3 => ?_)
    ·
      have c3 := of_decide_eq_true c3
      refine EPL.p rfl rfl (q_fieldAddr (p := ⟨_, _, none⟩) Tryz.underlying27 rfl sz3 rfl rfl) ?_
      refine EPL.ld1 (v := .int _ _) rfl rfl sc3 rfl rfl ?_
      refine EPL.p rfl rfl (q_fieldAddr (p := ⟨_, _, none⟩) Tryz.underlying27 rfl sz3 rfl rfl) ?_
      refine EPL.ld1 (v := .int _ _) rfl rfl sc3 rfl rfl ?_
      refine EPL.bs rfl rfl Tryz.underlying82 el3 rfl rfl (fill2 (u := .int _ _) (w := .int _ _) rfl rfl rfl) (fun _ => HeldL.nil) (fun b52 => ?_)
      refine EPL.cl rfl rfl Tryz.func20 rfl rfl (Small2_spec 7 (by decide) b52 m.serv m.num) rfl ?_
      rintro _ _ ⟨rfl, rfl⟩
      refine ⟨HeldL.nil, ?_⟩
      refine EPL.p rfl rfl (q_pickT (v := .bool _) rfl rfl) ?_
      refine EPL.p rfl rfl (q_assign (v := .bool _) rfl) ?_
      refine EPL.nil ?_
      refine EL.go ?_
      refine EL.ret ?_
      exact end_retP [I] (fun _ => rfl) (fun _ => ⟨congrArg Value.bool (by first | exact (decide_eq_false (fun h => by have := (Mp.g1 k1).1 h; omega)).symm | exact (decide_eq_true ((Mp.g1 k1).2 (by omega))).symm | exact decide_eq_decide.2 ⟨fun h => (Mp.g1 k1).2 (by omega), fun h => by have := (Mp.g1 k1).1 h; omega⟩), rfl⟩)
    ·
      have c3 := of_decide_eq_false c3
      refine EPL.pno rfl rfl ?_
      refine EPL.rno rfl rfl ?_
      refine EPL.pno rfl rfl ?_
      refine EPL.rno rfl rfl ?_
      refine EPL.xno rfl rfl ?_
      refine EPL.xno rfl rfl ?_
      refine EPL.p rfl rfl (q_pickF (v := .bool _) rfl rfl) ?_
      refine EPL.p rfl rfl (q_assign (v := .bool _) rfl) ?_
      refine EPL.nil ?_
      refine EL.go ?_
      refine EL.ret ?_
      exact end_retP [I] (fun _ => rfl) (fun _ => ⟨congrArg Value.bool (by first | exact (decide_eq_false (fun h => by have := (Mp.g1 k1).1 h; omega)).symm | exact (decide_eq_true ((Mp.g1 k1).2 (by omega))).symm | exact decide_eq_decide.2 ⟨fun h => (Mp.g1 k1).2 (by omega), fun h => by have := (Mp.g1 k1).1 h; omega⟩), rfl⟩)
  ·
    have c2 := of_decide_eq_false c2
    have k1 := c2
    refine EL.seq ?_
    refine EL.region (.p 0 (.p 1 (.nil))) (by kernel_rfl) ?_
    refine EPL.p rfl rfl (q_eql rfl rfl) ?_
    refine EPL.p rfl rfl (q_assign (v := .bool _) rfl) ?_
    refine EPL.nil ?_
    refine EL.go ?_
    refine EL.cond rfl (fun c4 => ?_) (fun c4 => ?_)
    ·
      have c4 := of_decide_eq_true c4
      have k3 := c4
      refine EL.seq ?_
      refine EL.region (.p 0 (.l 1 (.x 2 [] (.x 3 [] (.p 4 (.p 5 (.l 6 (.p 7 (.p 8 (.p 9 (.p 10 (.nil)))))))))))) (by kernel_rfl) ?_
      refine EPL.p rfl rfl (q_fieldAddr (p := ⟨_, _, none⟩) Tryz.underlying27 rfl sz3 rfl rfl) ?_
      refine EPL.ld1 (v := .int _ _) rfl rfl sc3 rfl rfl ?_
      refine EPL.bs rfl rfl Tryz.underlying82 el3 rfl rfl (fill1 (u := .int _ _) rfl rfl) (fun _ => HeldL.nil) (fun b53 => ?_)
      refine EPL.cl rfl rfl Tryz.func20 rfl rfl (Small1_spec 4 (by decide) b53 m.ver) rfl ?_
      rintro _ _ ⟨rfl, rfl⟩
      refine ⟨HeldL.nil, ?_⟩
      refine EPL.p rfl rfl (q_move (v := .bool _) rfl) ?_
      refine EPL.bool 27 rfl (fun c5 => ?_) (fun c5 => ?_)
      ·
        have c5 := of_decide_eq_true c5
        refine EPL.p rfl rfl (q_fieldAddr (p := ⟨_, _, none⟩) Tryz.underlying27 rfl sz22 rfl rfl) ?_
        refine EPL.ld1 (v := .slice na m.names.length nc) rfl rfl sc22 rfl rfl ?_
        refine EPL.p rfl rfl (q_lenSl Tryz.underlying22 rfl) ?_
        refine EPL.p rfl rfl (q_leq rfl rfl) ?_
        refine EPL.p rfl rfl (q_pickT (v := .bool _) rfl rfl) ?_
        refine EPL.p rfl rfl (q_assign (v := .bool _) rfl) ?_
        refine EPL.nil ?_
        refine EL.go ?_
        refine EL.ret ?_
        exact end_retP [I] (fun _ => rfl) (fun _ => ⟨congrArg Value.bool (by first | exact (decide_eq_false (fun h => by have := (Mp.g3 k1 k3).1 h; omega)).symm | exact (decide_eq_true ((Mp.g3 k1 k3).2 (by omega))).symm | exact decide_eq_decide.2 ⟨fun h => (Mp.g3 k1 k3).2 (by omega), fun h => by have := (Mp.g3 k1 k3).1 h; omega⟩), rfl⟩)
      ·
        have c5 := of_decide_eq_false c5
        refine EPL.pno rfl rfl ?_
        refine EPL.rno rfl rfl ?_
        refine EPL.pno rfl rfl ?_
        refine EPL.pno rfl rfl ?_
        refine EPL.p rfl rfl (q_pickF (v := .bool _) rfl rfl) ?_
        refine EPL.p rfl rfl (q_assign (v := .bool _) rfl) ?_
        refine EPL.nil ?_
        refine EL.go ?_
        refine EL.ret ?_
        exact end_retP [I] (fun _ => rfl) (fun _ => ⟨congrArg Value.bool (by first | exact (decide_eq_false (fun h => by have := (Mp.g3 k1 k3).1 h; omega)).symm | exact (decide_eq_true ((Mp.g3 k1 k3).2 (by omega))).symm | exact decide_eq_decide.2 ⟨fun h => (Mp.g3 k1 k3).2 (by omega), fun h => by have := (Mp.g3 k1 k3).1 h; omega⟩), rfl⟩)
    ·
      have c4 := of_decide_eq_false c4
      have k3 := c4
      refine EL.seq ?_
      refine EL.region (.p 0 (.p 1 (.nil))) (by kernel_rfl) ?_
      refine EPL.p rfl rfl (q_eql rfl rfl) ?_
      refine EPL.p rfl rfl (q_assign (v := .bool _) rfl) ?_
      refine EPL.nil ?_
      refine EL.go ?_
      refine EL.cond rfl (fun c6 => ?_) (fun c6 => ?_)
      ·
        have c6 := of_decide_eq_true c6
        have k4 := c6
        refine EL.seq ?_
        refine EL.region (.p 0 (.l 1 (.p 2 (.p 3 (.p 4 (.p 5 (.l 6 (.x 7 [] (.p 8 (.p 9 (.p 10 (.nil)))))))))))) (by kernel_rfl) ?_
        refine EPL.p rfl rfl (q_fieldAddr (p := ⟨_, _, none⟩) Tryz.underlying27 rfl sz25 rfl rfl) ?_
        refine EPL.ld1 (v := .slice ha m.heads.length hc) rfl rfl sc25 rfl (Mp.c38 hI.stop) ?_
        refine EPL.p rfl rfl (q_lenSl Tryz.underlying25 rfl) ?_
        refine EPL.p rfl rfl (q_leq rfl rfl) ?_
        refine EPL.p rfl rfl (q_move (v := .bool _) rfl) ?_
        refine EPL.bool 39 rfl (fun c7 => ?_) (fun c7 => ?_)
        ·
          have c7 := of_decide_eq_true c7
          refine EPL.p rfl rfl (q_fieldAddr (p := ⟨_, _, none⟩) Tryz.underlying27 rfl sz25 rfl rfl) ?_
          refine EPL.ld1 (v := .slice ha m.heads.length hc) rfl rfl sc25 rfl (Mp.c38 hI.stop) ?_
          refine EPL.cl rfl rfl Tryz.func21 rfl rfl (Contains_spec ha hc m.heads I hI.heads hI.rh) rfl ?_
          rintro _ _ ⟨rfl, rfl⟩
          refine ⟨HeldL.nil, ?_⟩
          refine EPL.p rfl rfl (q_not rfl) ?_
          refine EPL.p rfl rfl (q_pickT (v := .bool _) rfl rfl) ?_
          refine EPL.p rfl rfl (q_assign (v := .bool _) rfl) ?_
          refine EPL.nil ?_
          refine EL.go ?_
          refine EL.ret ?_
          exact end_retP [I] (fun _ => rfl) (fun _ => ⟨congrArg Value.bool (by exact Bool.eq_iff_iff.2 (by simp [Mp.g4 k1 k3 k4]; omega)), rfl⟩)
        ·
          have c7 := of_decide_eq_false c7
          refine EPL.pno rfl rfl ?_
          refine EPL.rno rfl rfl ?_
          refine EPL.xno rfl rfl ?_
          refine EPL.pno rfl rfl ?_
          refine EPL.p rfl rfl (q_pickF (v := .bool _) rfl rfl) ?_
          refine EPL.p rfl rfl (q_assign (v := .bool _) rfl) ?_
          refine EPL.nil ?_
          refine EL.go ?_
          refine EL.ret ?_
          exact end_retP [I] (fun _ => rfl) (fun _ => ⟨congrArg Value.bool (by first | exact (decide_eq_false (fun h => by have := (Mp.g4 k1 k3 k4).1 h; omega)).symm | exact (decide_eq_true ((Mp.g4 k1 k3 k4).2 (by omega))).symm | exact decide_eq_decide.2 ⟨fun h => (Mp.g4 k1 k3 k4).2 (by omega), fun h => by have := (Mp.g4 k1 k3 k4).1 h; omega⟩), rfl⟩)
      ·
        have c6 := of_decide_eq_false c6
        have k4 := c6
        refine EL.seq ?_
        refine EL.region (.p 0 (.p 1 (.nil))) (by kernel_rfl) ?_
        refine EPL.p rfl rfl (q_eql rfl rfl) ?_
        refine EPL.p rfl rfl (q_assign (v := .bool _) rfl) ?_
        refine EPL.nil ?_
        refine EL.go ?_
        refine EL.cond rfl (fun c8 => ?_) (fun c8 => ?_)
        ·
          have c8 := of_decide_eq_true c8
          have k5 := c8
          refine EL.seq ?_
          refine EL.region (.p 0 (.l 1 (.p 2 (.p 3 (.p 4 (.nil)))))) (by kernel_rfl) ?_
          refine EPL.p rfl rfl (q_fieldAddr (p := ⟨_, _, none⟩) Tryz.underlying27 rfl sz22 rfl rfl) ?_
          refine EPL.ld1 (v := .slice na m.names.length nc) rfl rfl sc22 rfl rfl ?_
          refine EPL.p rfl rfl (q_lenSl Tryz.underlying22 rfl) ?_
          refine EPL.p rfl rfl (q_leq rfl rfl) ?_
          refine EPL.p rfl rfl (q_assign (v := .bool _) rfl) ?_
          refine EPL.nil ?_
          refine EL.go ?_
          refine EL.ret ?_
          exact end_retP [I] (fun _ => rfl) (fun _ => ⟨congrArg Value.bool (by first | exact (decide_eq_false (fun h => by have := (Mp.g5 k1 k3 k4 k5).1 h; omega)).symm | exact (decide_eq_true ((Mp.g5 k1 k3 k4 k5).2 (by omega))).symm | exact decide_eq_decide.2 ⟨fun h => (Mp.g5 k1 k3 k4 k5).2 (by omega), fun h => by have := (Mp.g5 k1 k3 k4 k5).1 h; omega⟩), rfl⟩)
        ·
          have c8 := of_decide_eq_false c8
          have k5 := c8
          refine EL.seq ?_
          refine EL.seq ?_
          refine EL.region (.p 0 (.p 1 (.nil))) (by kernel_rfl) ?_
          refine EPL.p rfl rfl (q_eql rfl rfl) ?_
          refine EPL.p rfl rfl (q_assign (v := .bool _) rfl) ?_
          refine EPL.nil ?_
          refine EL.go ?_
          refine EL.cond rfl (fun c9 => ?_) (fun c9 => ?_)
          ·
            have c9 := of_decide_eq_true c9
            have k6 := c9
            refine EL.skip ?_
            refine EL.go ?_
            refine EL.yes (congrArg Value.bool (decide_eq_true c9)) ?_
            refine EL.seq ?_
            refine EL.region (.p 0 (.l 1 (.x 2 [] (.x 3 [] (.p 4 (.nil)))))) (by kernel_rfl) ?_
            refine EPL.p rfl rfl (q_fieldAddr (p := ⟨_, _, none⟩) Tryz.underlying27 rfl sz3 rfl rfl) ?_
            refine EPL.ld1 (v := .int _ _) rfl rfl sc3 rfl rfl ?_
            refine EPL.bs rfl rfl Tryz.underlying82 el3 rfl rfl (fill1 (u := .int _ _) rfl rfl) (fun _ => HeldL.nil) (fun b54 => ?_)
            refine EPL.cl rfl rfl Tryz.func20 rfl rfl (Small1_spec 7 (by decide) b54 m.num) rfl ?_
            rintro _ _ ⟨rfl, rfl⟩
            refine ⟨HeldL.nil, ?_⟩
            refine EPL.p rfl rfl (q_assign (v := .bool _) rfl) ?_
            refine EPL.nil ?_
            refine EL.go ?_
            refine EL.ret ?_
            exact end_retP [I] (fun _ => rfl) (fun _ => ⟨congrArg Value.bool (by first | exact (decide_eq_false (fun h => by have := (Mp.g6 k1 k3 k4 k5 (.inl k6)).1 h; omega)).symm | exact (decide_eq_true ((Mp.g6 k1 k3 k4 k5 (.inl k6)).2 (by omega))).symm | exact decide_eq_decide.2 ⟨fun h => (Mp.g6 k1 k3 k4 k5 (.inl k6)).2 (by omega), fun h => by have := (Mp.g6 k1 k3 k4 k5 (.inl k6)).1 h; omega⟩), rfl⟩)
          ·
            have c9 := of_decide_eq_false c9
            have k6 := c9
            refine EL.region (.p 0 (.p 1 (.nil))) (by kernel_rfl) ?_
            refine EPL.p rfl rfl (q_eql rfl rfl) ?_
            refine EPL.p rfl rfl (q_assign (v := .bool _) rfl) ?_
            refine EPL.nil ?_
            refine EL.go ?_
            refine EL.cond rfl (fun c10 => ?_) (fun c10 => ?_)
            ·
              have c10 := of_decide_eq_true c10
              have k7 := c10
              refine EL.seq ?_
              refine EL.region (.p 0 (.l 1 (.x 2 [] (.x 3 [] (.p 4 (.nil)))))) (by kernel_rfl) ?_
              refine EPL.p rfl rfl (q_fieldAddr (p := ⟨_, _, none⟩) Tryz.underlying27 rfl sz3 rfl rfl) ?_
              refine EPL.ld1 (v := .int _ _) rfl rfl sc3 rfl rfl ?_
              refine EPL.bs rfl rfl Tryz.underlying82 el3 rfl rfl (fill1 (u := .int _ _) rfl rfl) (fun _ => HeldL.nil) (fun b54 => ?_)
              refine EPL.cl rfl rfl Tryz.func20 rfl rfl (Small1_spec 7 (by decide) b54 m.num) rfl ?_
              rintro _ _ ⟨rfl, rfl⟩
              refine ⟨HeldL.nil, ?_⟩
              refine EPL.p rfl rfl (q_assign (v := .bool _) rfl) ?_
              refine EPL.nil ?_
              refine EL.go ?_
              refine EL.ret ?_
              exact end_retP [I] (fun _ => rfl) (fun _ => ⟨congrArg Value.bool (by first | exact (decide_eq_false (fun h => by have := (Mp.g6 k1 k3 k4 k5 (.inr k7)).1 h; omega)).symm | exact (decide_eq_true ((Mp.g6 k1 k3 k4 k5 (.inr k7)).2 (by omega))).symm | exact decide_eq_decide.2 ⟨fun h => (Mp.g6 k1 k3 k4 k5 (.inr k7)).2 (by omega), fun h => by have := (Mp.g6 k1 k3 k4 k5 (.inr k7)).1 h; omega⟩), rfl⟩)
            ·
              have c10 := of_decide_eq_false c10
              have k7 := c10
              refine EL.skip ?_
              refine EL.go ?_
              refine EL.seq ?_
              refine EL.region (.p 0 (.l 1 (.p 2 (.p 3 (.p 4 (.l 5 (.p 6 (.p 7 (.p 8 (.nil)))))))))) (by kernel_rfl) ?_
              refine EPL.p rfl rfl (q_fieldAddr (p := ⟨_, _, none⟩) Tryz.underlying27 rfl sz3 rfl rfl) ?_
              refine EPL.ld1 (v := .int _ _) rfl rfl sc3 rfl rfl ?_
              refine EPL.p rfl rfl (q_eql rfl rfl) ?_
              refine EPL.p rfl rfl (q_move (v := .bool _) rfl) ?_
              refine EPL.bool 61 rfl (fun c11 => ?_) (fun c11 => ?_)
              ·
                have c11 := of_decide_eq_true c11
                refine EPL.pno rfl rfl ?_
                refine EPL.rno rfl rfl ?_
                refine EPL.pno rfl rfl ?_
                refine EPL.p rfl rfl (q_pickT (v := .bool _) rfl rfl) ?_
                refine EPL.p rfl rfl (q_assign (v := .bool _) rfl) ?_
                refine EPL.nil ?_
                refine EL.go ?_
                refine EL.ret ?_
                exact end_retP [I] (fun _ => rfl) (fun _ => ⟨congrArg Value.bool (by first | exact (decide_eq_false (fun h => by have := (Mp.g0 k1 k3 k4 k5 (fun h => h.elim k6 k7)).1 h; omega)).symm | exact (decide_eq_true ((Mp.g0 k1 k3 k4 k5 (fun h => h.elim k6 k7)).2 (by omega))).symm | exact decide_eq_decide.2 ⟨fun h => (Mp.g0 k1 k3 k4 k5 (fun h => h.elim k6 k7)).2 (by omega), fun h => by have := (Mp.g0 k1 k3 k4 k5 (fun h => h.elim k6 k7)).1 h; omega⟩), rfl⟩)
              ·
                have c11 := of_decide_eq_false c11
                refine EPL.p rfl rfl (q_fieldAddr (p := ⟨_, _, none⟩) Tryz.underlying27 rfl sz3 rfl rfl) ?_
                refine EPL.ld1 (v := .int _ _) rfl rfl sc3 rfl rfl ?_
                refine EPL.p rfl rfl (q_eql rfl rfl) ?_
                refine EPL.p rfl rfl (q_pickF (v := .bool _) rfl rfl) ?_
                refine EPL.p rfl rfl (q_assign (v := .bool _) rfl) ?_
                refine EPL.nil ?_
                refine EL.go ?_
                refine EL.ret ?_
                exact end_retP [I] (fun _ => rfl) (fun _ => ⟨congrArg Value.bool (by first | exact (decide_eq_false (fun h => by have := (Mp.g0 k1 k3 k4 k5 (fun h => h.elim k6 k7)).1 h; omega)).symm | exact (decide_eq_true ((Mp.g0 k1 k3 k4 k5 (fun h => h.elim k6 k7)).2 (by omega))).symm | exact decide_eq_decide.2 ⟨fun h => (Mp.g0 k1 k3 k4 k5 (fun h => h.elim k6 k7)).2 (by omega), fun h => by have := (Mp.g0 k1 k3 k4 k5 (fun h => h.elim k6 k7)).1 h; omega⟩), rfl⟩)

end Go.Proofs.YtedkoebbijpnfaaGreatDoor

namespace Go.Proofs.YtedkoebbijpnfaaGreatDoor
open Go Go.Proofs.YtedkoebbijpnfaaGreatDoor.TH
set_option maxHeartbeats 1000000

theorem OwnB.app' {v : Value} {out news : List UInt8} {m : Nat} {H : Hp} (h : OwnS 5 1 v (out.length + m) (out.map bV ++ news.map bV) H) : ∃ a c, v = .slice a (out ++ news).length c ∧ OwnB a c (out ++ news) H := OwnB.app h

theorem PNamesR_spec (p : Nat) (a la : Option Addr) (c lc : Nat) (out : List UInt8) (hs : List (List UInt8)) (H I : Hp) (hw : ∀ h ∈ hs, h.length = 32) (hO : OwnB a c out H) (hI : RdS 32 (.slice la hs.length lc) hs.length (hs.flatMap fun h => h.map bV) I) (hb : out.length + 32 * hs.length ≤ 1099511627776) : CallL Tryz.prog 48 [ptr p, .slice la hs.length lc] [sg p (PenS a c out), H, I] (fun r Hs' => r = .tuple #[] ∧ ∃ a' c' H', Hs' = [sg p (PenS a' c' (out ++ hs.flatten)), H', I] ∧ OwnB a' c' (out ++ hs.flatten) H') := by
  refine CallL.enter Tryz.func48 Tryz.ntmps48 rfl rfl rfl ?_
  refine EL.seq ?_
  refine EL.region (.p 0 (.p 1 (.p 2 (.nil)))) (by kernel_rfl) ?_
  refine EPL.p rfl rfl (q_move (v := .slice _ _ _) rfl) ?_
  refine EPL.p rfl rfl (q_lenSl Tryz.underlying22 rfl) ?_
  refine EPL.p rfl rfl (q_move (v := .int _ _) rfl) ?_
  refine EPL.nil ?_
  refine EL.go ?_
  refine EL.block ?_
  refine EL.loop [5, 8, 9, 10, 11, 12, 13, 14, 15, 16, 17, 18, 19, 20, 21] (fun i : Nat => [(8, .int .i64 i)]) (fun m i Hs' => m + i = hs.length ∧ ∃ a' c' H', Hs' = [sg p (PenS a' c' (out ++ (hs.take i).flatten)), H', I] ∧ OwnB a' c' (out ++ (hs.take i).flatten) H') hs.length 0 ⟨by omega, a, c, H, by simp, by simpa using hO⟩ ⟨rfl, trivial⟩ ?_
  rintro m i _ j ⟨hm, a', c', H', rfl, hO'⟩
  refine EL.seq ?_
  refine EL.region (.p 0 (.nil)) (by kernel_rfl) ?_
  refine EPL.p rfl rfl (q_lss rfl rfl) ?_
  refine EPL.nil ?_
  refine EL.go ?_
  refine EL.seq ?_
  refine EL.cond rfl (fun c1 => ?_) (fun c1 => ?_)
  ·
    have c1 := of_decide_eq_true c1
    obtain ⟨x, hx⟩ : ∃ x, hs[i]? = some x := ⟨_, List.getElem?_eq_getElem (by omega)⟩
    have hx32 : x.length = 32 := hw x (List.mem_of_getElem? hx)
    obtain ⟨b, off, cap, cc, ety, fr, he, hbI, hcs, hcc⟩ := hI.getA (f := fun h : List UInt8 => h.map bV) (fun h hh => by simp [hw h hh]) hx
    obtain ⟨rfl, rfl⟩ : la = some ⟨b, off, none⟩ ∧ lc = cap := by simpa using he
    have hlen : (out ++ (hs.take i).flatten).length + 32 ≤ 1099511627776 := by
      rw [List.length_append, flatten_le fun h hh => hw h (List.mem_of_mem_take hh)]; simp; omega
    refine EL.skip ?_
    refine EL.go ?_
    refine EL.seq ?_
    refine EL.block ?_
    refine EL.seq ?_
    refine EL.region (.p 0 (.l 1 (.x 2 [] (.x 3 [] (.nil))))) (by kernel_rfl) ?_
    refine EPL.p rfl rfl (q_idxSl Tryz.underlying22 sz24 rfl rfl (by omega) (by omega)) ?_
    refine EPL.ldAP (v := hashV x) rfl rfl ag24 rfl hbI (by simpa using hcs) (congrArg Value.agg (by simpa using hcc)) ?_
    refine EPL.al rfl rfl el24 (fun _ => HeldL.nil) (fun b2 => ?_)
    refine EPL.stA (v := (x.map bV).toArray) rfl rfl sz24 rfl rfl (by simp [hx32]) (bvAll _) rfl HeldL.nil ?_
    refine EPL.nil ?_
    refine EL.go ?_
    refine EL.draw (.p 0 (.p 1 (.p 2 (.p 3 (.l 4 (.p 5 (.x 6 [] (.p 7 (.p 8 (.x 9 [] (.nil))))))))))) [6, 9] [4] fm (by kernel_rfl) ?_
    refine EPL.p rfl rfl (q_move (v := .pointer _) rfl) ?_
    refine EPL.p rfl rfl (q_move (v := .pointer _) rfl) ?_
    refine EPL.p rfl rfl (q_nilCheck rfl) ?_
    refine EPL.p rfl rfl (q_fieldAddr (p := ⟨_, _, none⟩) Tryz.underlying73 rfl sz71 rfl rfl) ?_
    refine EPL.ld1 (v := .slice _ _ _) rfl rfl sc71 rfl rfl ?_
    refine EPL.p rfl rfl (q_slArr Tryz.underlying24 sz5 (by decide) rfl) ?_
    refine EPL.app rfl rfl Tryz.underlying71 (.inr ⟨_, Tryz.underlying71⟩) el5 rfl (by exact hO') rfl (by exact fun hd => Src.pick hd (by simp [hx32]) (by simp [Value.oneCell'])) (by unfold maxLen; omega) (by omega) (fun v' H3 hv' => ?_)
    obtain ⟨a3, c3, rfl, hO3⟩ := OwnB.app (news := x) hv'
    refine ⟨HeldL.nil, ?_⟩
    refine EPL.p rfl rfl (q_nilCheck rfl) ?_
    refine EPL.p rfl rfl (q_fieldAddr (p := ⟨_, _, none⟩) Tryz.underlying73 rfl sz71 rfl rfl) ?_
    refine EPL.st (v := .slice _ _ _) (c' := #[.slice _ _ _]) rfl rfl sz71 rfl rfl rfl (oneV rfl) (Nat.le_of_ble_eq_true rfl) rfl HeldL.nil ?_
    refine EPL.nil ?_
    refine EL.go ?_
    refine EL.region (.p 0 (.p 1 (.nil))) (by kernel_rfl) ?_
    refine EPL.p rfl rfl (q_add rfl rfl) ?_
    refine EPL.p rfl rfl (q_move (v := .int _ _) rfl) ?_
    refine EPL.nil ?_
    refine RoundQ.mkP (m - 1) (i + 1) [sg p (PenS a3 c3 (out ++ (hs.take i).flatten ++ x)), H3, I] (by omega) ⟨by omega, a3, c3, H3, by rw [join_take hx, List.append_assoc], by rw [join_take hx, ← List.append_assoc]; exact hO3⟩ (by repeat first | refine Off.upd rfl ?_ | exact Off.mix | refine Off.upds rfl ?_ | refine Off.mixs rfl ?_ | exact Off.refl) ⟨congrArg (Value.int .i64) (wrap_i64_in (by omega)), trivial⟩
  ·
    have c1 := of_decide_eq_false c1
    have ht : hs.take i = hs := List.take_of_length_le (by omega)
    rw [ht] at hO' ⊢
    refine EL.exit ?_
    exact end_normal (fun _ => rfl) (fun _ => ⟨rfl, a', c', H', rfl, hO'⟩)


theorem Put2_spec (p : Nat) (a : Option Addr) (b c : Nat) (out : List UInt8) (n n2 : Int) (H : Hp) (size : Int) (hO : OwnB a c out H) (hb : out.length + 16 ≤ 1099511627776) : CallL Tryz.prog 42 [ptr p, .int .i64 size, .slice (some ⟨b, 0, none⟩) 2 2] [sg p (PenS a c out), H, sg b (.cells #[.int .i64 n, .int .i64 n2] 3 (0, 0))] (fun r Hs' => r = .tuple #[] ∧ ∃ a' c' H', Hs' = [sg p (PenS a' c' (out ++ (leB (putK size) n ++ leB (putK size) n2))), H', sg b (.cells #[.int .i64 n, .int .i64 n2] 3 (0, 0))] ∧ OwnB a' c' (out ++ (leB (putK size) n ++ leB (putK size) n2)) H') := by
  have := Put_spec p a (some ⟨b, 0, none⟩) c 2 out [n, n2] H (sg b (.cells #[.int .i64 n, .int .i64 n2] 3 (0, 0))) size hO (OwnS.blk (xs := [.int .i64 n, .int .i64 n2]) rfl (by show (2 : Nat) ≤ _; unfold maxLen; decide)) (by simpa using hb)
  simpa [putB] using this
theorem Put3_spec (p : Nat) (a : Option Addr) (b c : Nat) (out : List UInt8) (n n2 n3 : Int) (H : Hp) (size : Int) (hO : OwnB a c out H) (hb : out.length + 24 ≤ 1099511627776) : CallL Tryz.prog 42 [ptr p, .int .i64 size, .slice (some ⟨b, 0, none⟩) 3 3] [sg p (PenS a c out), H, sg b (.cells #[.int .i64 n, .int .i64 n2, .int .i64 n3] 3 (0, 0))] (fun r Hs' => r = .tuple #[] ∧ ∃ a' c' H', Hs' = [sg p (PenS a' c' (out ++ (leB (putK size) n ++ (leB (putK size) n2 ++ leB (putK size) n3)))), H', sg b (.cells #[.int .i64 n, .int .i64 n2, .int .i64 n3] 3 (0, 0))] ∧ OwnB a' c' (out ++ (leB (putK size) n ++ (leB (putK size) n2 ++ leB (putK size) n3))) H') := by
  have := Put_spec p a (some ⟨b, 0, none⟩) c 3 out [n, n2, n3] H (sg b (.cells #[.int .i64 n, .int .i64 n2, .int .i64 n3] 3 (0, 0))) size hO (OwnS.blk (xs := [.int .i64 n, .int .i64 n2, .int .i64 n3]) rfl (by show (3 : Nat) ≤ _; unfold maxLen; decide)) (by simpa using hb)
  simpa [putB] using this
theorem rdN1 (b : Nat) {x : List UInt8} (hx : x.length = 32) : RdS 32 (.slice (some ⟨b, 0, none⟩) 1 1) 1 ([x].flatMap fun h => h.map bV) (sg b (.cells (x.map bV).toArray 24 (0, 0))) := ⟨by simp [hx], by decide, .inr ⟨b, 0, 1, _, _, _, rfl, sg_self, by simp [hx], by have := List.take_of_length_le (i := 32) (l := x.map bV) (by simp [hx]); simpa using this⟩⟩
theorem rdN2 (b : Nat) {x y : List UInt8} (hx : x.length = 32) (hy : y.length = 32) : RdS 32 (.slice (some ⟨b, 0, none⟩) 2 2) 2 ([x, y].flatMap fun h => h.map bV) (sg b (.cells (x.map bV ++ y.map bV).toArray 24 (0, 0))) := ⟨by simp [hx, hy], by decide, .inr ⟨b, 0, 2, _, _, _, rfl, sg_self, by simp [hx, hy], by have := List.take_of_length_le (i := 64) (l := x.map bV ++ y.map bV) (by simp [hx, hy]); simpa using this⟩⟩
theorem Names1_spec (p : Nat) (a : Option Addr) (b c : Nat) (out x : List UInt8) (H : Hp) (hx : x.length = 32) (hO : OwnB a c out H) (hb : out.length + 32 ≤ 1099511627776) : CallL Tryz.prog 48 [ptr p, .slice (some ⟨b, 0, none⟩) 1 1] [sg p (PenS a c out), H, sg b (.cells (x.map bV).toArray 24 (0, 0))] (fun r Hs' => r = .tuple #[] ∧ ∃ a' c' H', Hs' = [sg p (PenS a' c' (out ++ x)), H', sg b (.cells (x.map bV).toArray 24 (0, 0))] ∧ OwnB a' c' (out ++ x) H') := by
  have := PNamesR_spec p a (some ⟨b, 0, none⟩) c 1 out [x] H (sg b (.cells (x.map bV).toArray 24 (0, 0))) (by simpa using hx) hO (rdN1 b hx) (by simpa using hb)
  simpa using this
theorem Names2_spec (p : Nat) (a : Option Addr) (b c : Nat) (out x y : List UInt8) (H : Hp) (hx : x.length = 32) (hy : y.length = 32) (hO : OwnB a c out H) (hb : out.length + 64 ≤ 1099511627776) : CallL Tryz.prog 48 [ptr p, .slice (some ⟨b, 0, none⟩) 2 2] [sg p (PenS a c out), H, sg b (.cells (x.map bV ++ y.map bV).toArray 24 (0, 0))] (fun r Hs' => r = .tuple #[] ∧ ∃ a' c' H', Hs' = [sg p (PenS a' c' (out ++ (x ++ y))), H', sg b (.cells (x.map bV ++ y.map bV).toArray 24 (0, 0))] ∧ OwnB a' c' (out ++ (x ++ y)) H') := by
  have := PNamesR_spec p a (some ⟨b, 0, none⟩) c 2 out [x, y] H (sg b (.cells (x.map bV ++ y.map bV).toArray 24 (0, 0))) (by simp [hx, hy]) hO (rdN2 b hx hy) (by simpa using hb)
  simpa using this
theorem fillN1 {v : Value} {x : List UInt8} (hx : x.length = 32) : Instr.fill (fun i => some (i * 32, 32)) ((Array.range (1 * 32)).map (v.cells[· % v.cells.size]!)) [(0, hashV x)] = some (x.map bV).toArray :=
  FillP.eq (.cons (off := 0) (size := 32) rfl (show (x.map bV).toArray.size = 32 by simp [hx]) (by simp) (setL_all (by simp [Value.cells, hx])) .nil)
theorem setL_two {z : Array Value} {A B : List Value} (h : z.size = A.length + B.length) : setL (setL z 0 A) A.length B = (A ++ B).toArray := by
  have h1 : (setL z 0 A).toList = A ++ z.toList.drop A.length := by rw [setL_toList (by omega)]; simp
  have h2 : (setL z 0 A).size = z.size := by rw [← Array.length_toList, h1]; simp; omega
  apply Array.ext'
  rw [setL_toList (by omega), h1]
  simp [h]
theorem fillN2 {v : Value} {x y : List UInt8} (hx : x.length = 32) (hy : y.length = 32) : Instr.fill (fun i => some (i * 32, 32)) ((Array.range (2 * 32)).map (v.cells[· % v.cells.size]!)) [(0, hashV x), (1, hashV y)] = some (x.map bV ++ y.map bV).toArray := by
  refine FillP.eq (.cons (off := 0) (size := 32) rfl (show (x.map bV).toArray.size = 32 by simp [hx]) (by simp) rfl (.cons (off := 32) (size := 32) rfl (show (y.map bV).toArray.size = 32 by simp [hy]) ?_ ?_ .nil))
  · have h1 : (setL ((Array.range (2 * 32)).map (v.cells[· % v.cells.size]!)) 0 (x.map bV)).toList = _ := setL_toList (by simp [hx])
    show 32 + 32 ≤ (setL _ 0 (x.map bV)).size
    rw [← Array.length_toList, h1]; simp [hx]
  · have := setL_two (z := (Array.range (2 * 32)).map (v.cells[· % v.cells.size]!)) (A := x.map bV) (B := y.map bV) (by simp [hx, hy])
    rw [List.length_map, hx] at this
    exact this
theorem cnt_ref {n : Int} (h : 0 ≤ n) : cntB n = refCnt n := by
  unfold cntB refCnt
  rw [if_neg (show ¬ n < 0 by omega)]
  have e1 : ∀ k : Nat, k < 256 → leB (putK 1) (k : Int) = [UInt8.ofNat k] := fun k hk => by
    have hb : (((UInt8.ofNat k).toNat : Nat) : Int) = (k : Int) := by rw [UInt8.toNat_ofNat', Nat.mod_eq_of_lt (by omega)]
    rw [← hb]; exact leB_one _
  by_cases h1 : n ≤ 252
  · rw [if_pos h1, if_pos (by omega), show max n 0 = n by omega]
  · rw [if_neg h1, if_neg (show ¬ n < 253 by omega)]
    by_cases h2 : n ≤ 65535
    · rw [if_pos h2, if_pos (by omega), show (253 : Int) = ((253 : Nat) : Int) from rfl, e1 253 (by decide)]; rfl
    · rw [if_neg h2, if_neg (show ¬ n < 65536 by omega)]
      by_cases h3 : n ≤ 4294967295
      · rw [if_pos h3, if_pos (by omega), show (254 : Int) = ((254 : Nat) : Int) from rfl, e1 254 (by decide)]; rfl
      · rw [if_neg h3, if_neg (show ¬ n < 4294967296 by omega), show (255 : Int) = ((255 : Nat) : Int) from rfl, e1 255 (by decide)]; rfl

theorem HWrite_spec (p : Nat) (a : Option Addr) (c : Nat) (out : List UInt8) (h : Hd) (H : Hp) (hh : h.ok) (hg : h.Good) (hO : OwnB a c out H) (hb : out.length + 200 ≤ 1099511627776) : CallL Tryz.prog 49 [ptr p, hdV h] [sg p (PenS a c out), H] (fun r Hs' => r = .tuple #[] ∧ ∃ a' c' H', Hs' = [sg p (PenS a' c' (out ++ hdB h)), H'] ∧ OwnB a' c' (out ++ hdB h) H') := by
  refine CallL.enter Tryz.func49 Tryz.ntmps49 rfl rfl rfl ?_
  refine EL.seq ?_
  refine EL.region (.x 0 [] (.nil)) (by kernel_rfl) ?_
  refine EPL.box (c := h.cells.toArray) rfl rfl rfl (fun _ => HeldL.nil) (fun b1 => ?_)
  refine EPL.nil ?_
  refine EL.go ?_
  refine EL.seq ?_
  refine EL.seq ?_
  refine EL.region (.l 0 (.x 1 [] (.p 2 (.nil)))) (by kernel_rfl) ?_
  refine EPL.ldAw rfl rfl ag44 rfl (Hd.sz hh) ?_
  refine EPL.cl rfl rfl Tryz.func23 rfl rfl (HGood_spec h hh) rfl ?_
  rintro _ _ ⟨rfl, rfl⟩
  refine ⟨HeldL.nil, ?_⟩
  refine EPL.p rfl rfl (q_not rfl) ?_
  refine EPL.nil ?_
  refine EL.go ?_
  refine EL.cond rfl (fun c2 => ?_) (fun c2 => ?_)
  ·
    rw [decide_eq_true hg] at c2
    cases c2
  ·
    refine EL.skip ?_
    refine EL.go ?_
    refine EL.seq ?_
    refine EL.region (.p 0 (.p 1 (.l 2 (.x 3 [] (.x 4 [] (.nil)))))) (by kernel_rfl) ?_
    refine EPL.p rfl rfl (q_move (v := .pointer _) rfl) ?_
    refine EPL.p rfl rfl (q_fieldAddr (p := ⟨_, _, none⟩) Tryz.underlying44 rfl sz3 rfl rfl) ?_
    refine EPL.ld1 (v := .int .i64 _) rfl rfl sc3 rfl (by first | exact Hd.c0 _ | exact Hd.c65 hh | exact Hd.c66 hh | exact Hd.c67 hh) ?_
    refine EPL.bs rfl rfl Tryz.underlying82 el3 rfl rfl (fill1 (u := .int _ _) rfl rfl) (fun _ => HeldL.nil) (fun b11 => ?_)
    refine EPL.cl rfl rfl Tryz.func42 rfl rfl (Put1_spec p a b11 c out h.ver H 4 hO (by omega)) rfl ?_
    rintro _ _ ⟨rfl, a1, c1, H1, rfl, hO1⟩
    refine ⟨HeldL.nil, ?_⟩
    refine EPL.nil ?_
    refine EL.go ?_
    refine EL.seq ?_
    refine EL.region (.p 0 (.p 1 (.l 2 (.p 3 (.l 4 (.x 5 [] (.x 6 [] (.nil)))))))) (by kernel_rfl) ?_
    refine EPL.p rfl rfl (q_move (v := .pointer _) rfl) ?_
    refine EPL.p rfl rfl (q_fieldAddr (p := ⟨_, _, none⟩) Tryz.underlying44 rfl sz24 rfl rfl) ?_
    refine EPL.ldAp (v := (h.prev.map bV).toArray) rfl rfl ag24 rfl (by rw [Hd.sz hh]; exact Nat.le_of_ble_eq_true rfl) (Hd.x1 hh) ?_
    refine EPL.p rfl rfl (q_fieldAddr (p := ⟨_, _, none⟩) Tryz.underlying44 rfl sz24 rfl rfl) ?_
    refine EPL.ldAp (v := (h.root.map bV).toArray) rfl rfl ag24 rfl (by rw [Hd.sz hh]; exact Nat.le_of_ble_eq_true rfl) (Hd.x33 hh) ?_
    refine EPL.bs rfl rfl Tryz.underlying22 el24 rfl rfl (fillN2 hh.1 hh.2) (fun _ => HeldL.nil) (fun b12 => ?_)
    refine EPL.cl rfl rfl Tryz.func48 rfl rfl (Names2_spec p a1 b12 c1 (out ++ leB (putK 4) h.ver) h.prev h.root H1 hh.1 hh.2 hO1 (by simp only [List.length_append, leB_length, putK4]; omega)) rfl ?_
    rintro _ _ ⟨rfl, a2, c2, H2, rfl, hO2⟩
    refine ⟨HeldL.nil, ?_⟩
    refine EPL.nil ?_
    refine EL.go ?_
    refine EL.region (.p 0 (.p 1 (.l 2 (.p 3 (.l 4 (.p 5 (.l 6 (.x 7 [] (.x 8 [] (.nil)))))))))) (by kernel_rfl) ?_
    refine EPL.p rfl rfl (q_move (v := .pointer _) rfl) ?_
    refine EPL.p rfl rfl (q_fieldAddr (p := ⟨_, _, none⟩) Tryz.underlying44 rfl sz3 rfl rfl) ?_
    refine EPL.ld1 (v := .int .i64 _) rfl rfl sc3 rfl (by first | exact Hd.c0 _ | exact Hd.c65 hh | exact Hd.c66 hh | exact Hd.c67 hh) ?_
    refine EPL.p rfl rfl (q_fieldAddr (p := ⟨_, _, none⟩) Tryz.underlying44 rfl sz3 rfl rfl) ?_
    refine EPL.ld1 (v := .int .i64 _) rfl rfl sc3 rfl (by first | exact Hd.c0 _ | exact Hd.c65 hh | exact Hd.c66 hh | exact Hd.c67 hh) ?_
    refine EPL.p rfl rfl (q_fieldAddr (p := ⟨_, _, none⟩) Tryz.underlying44 rfl sz3 rfl rfl) ?_
    refine EPL.ld1 (v := .int .i64 _) rfl rfl sc3 rfl (by first | exact Hd.c0 _ | exact Hd.c65 hh | exact Hd.c66 hh | exact Hd.c67 hh) ?_
    refine EPL.bs rfl rfl Tryz.underlying82 el3 rfl rfl (fill3 (u := .int _ _) (w := .int _ _) (x := .int _ _) rfl rfl rfl rfl) (fun _ => HeldL.nil) (fun b13 => ?_)
    refine EPL.cl rfl rfl Tryz.func42 rfl rfl (Put3_spec p a2 b13 c2 (out ++ leB (putK 4) h.ver ++ (h.prev ++ h.root)) h.time h.bits h.nonce H2 4 hO2 (by simp only [List.length_append, leB_length, hh.1, hh.2, putK4]; omega)) rfl ?_
    rintro _ _ ⟨rfl, a3, c3, H3, rfl, hO3⟩
    refine ⟨HeldL.nil, ?_⟩
    refine EPL.nil ?_
    have e : out ++ leB (putK 4) h.ver ++ (h.prev ++ h.root) ++ (leB (putK 4) h.time ++ (leB (putK 4) h.bits ++ leB (putK 4) h.nonce)) = out ++ hdB h := by simp [hdB, putK4]
    rw [e] at hO3 ⊢
    exact end_normalP [sg p (PenS a3 c3 (out ++ hdB h)), H3] (fun _ => rfl) (fun _ => ⟨rfl, a3, c3, H3, rfl, hO3⟩)

end Go.Proofs.YtedkoebbijpnfaaGreatDoor
