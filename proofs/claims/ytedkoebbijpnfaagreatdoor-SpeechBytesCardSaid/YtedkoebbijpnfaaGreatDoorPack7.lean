/- Parts D28, D30, D31, D32, D33, D34, D35, SB of the proofs of this seat: what the functions of these layers answer, in worlds that hold their blocks. No condition beside those that each theorem names. -/
import Derived.Test.YtedkoebbijpnfaaGreatDoorPack6
import Derived.Test.YtedkoebbijpnfaaGreatDoorPack2
import Derived.Test.YtedkoebbijpnfaaGreatDoorCards
import Derived.Test.YtedkoebbijpnfaaGreatDoorTie
import Derived.WalkKit
import Derived.ProofKit
import Derived.OpenShut
import Derived.Deep.DeepHandedRow
import Derived.Lib.LaidTab
namespace Go.Proofs.YtedkoebbijpnfaaGreatDoor
open Go Go.Proofs.YtedkoebbijpnfaaGreatDoor.TH
set_option maxHeartbeats 1000000

theorem cntB_len (n : Nat) : (cntB (n : Int)).length ≤ 20 := by rw [cnt_ref (by omega)]; exact refCnt_le _
theorem cntB_0 : cntB 0 = [0] := by decide
theorem putK7 : putK 7 = 7 := by decide

theorem SPay_spec (m : Mp) (p : Pl) (I : Hp) (hI : m.In p I) (hgo : m.Good) : CallL Tryz.prog 19 [msgV m p] [I] (fun r Hs' => r = str m.pay ∧ Hs' = [I]) := by
  refine CallL.enter Tryz.func19 Tryz.ntmps19 rfl rfl rfl ?_
  obtain ⟨na, nc, ha, hc⟩ := p
  refine EL.seq ?_
  refine EL.region (.x 0 [] (.p 1 (.nil))) (by kernel_rfl) ?_
  refine EPL.box (c := m.vals ⟨na, nc, ha, hc⟩) rfl rfl rfl (fun _ => HeldL.nil) (fun b1 => ?_)
  refine EPL.p rfl rfl (q_assign (v := .string _) rfl) ?_
  refine EPL.nil ?_
  refine EL.go ?_
  refine EL.seq ?_
  refine EL.region (.p 0 (.x 1 [] (.p 2 (.nil)))) (by kernel_rfl) ?_
  refine EPL.pad ?_
  refine EPL.p rfl rfl (q_build (cells := #[.slice none 0 0]) pl73 el73 .nil) ?_
  refine EPL.box (c := #[.slice none 0 0]) rfl rfl rfl (fun _ => HeldL.nil) (fun b99 => ?_)
  refine EPL.p rfl rfl (q_assign (v := .pointer _) rfl) ?_
  refine EPL.nil ?_
  refine EL.go ?_
  refine EL.seq ?_
  refine EL.seq ?_
  refine EL.region (.p 0 (.l 1 (.nil))) (by kernel_rfl) ?_
  refine EPL.p rfl rfl (q_fieldAddr (p := ⟨_, _, none⟩) Tryz.underlying27 rfl sz3 rfl rfl) ?_
  refine EPL.ld1 (v := .int _ _) rfl rfl sc3 rfl rfl ?_
  refine EPL.nil ?_
  refine EL.go ?_
  refine EL.block ?_
  refine EL.seq ?_
  refine EL.region (.p 0 (.p 1 (.nil))) (by kernel_rfl) ?_
  refine EPL.p rfl rfl (q_eql rfl rfl) ?_
  refine EPL.p rfl rfl (q_assign (v := .bool _) rfl) ?_
  refine EPL.nil ?_
  refine EL.go ?_
  refine EL.cond rfl (fun c1 => ?_) (fun c1 => ?_)
  ·
    have c1 := of_decide_eq_true c1
    have k1 := c1
    refine EL.seq ?_
    refine EL.region (.p 0 (.p 1 (.l 2 (.p 3 (.l 4 (.x 5 [] (.x 6 [] (.nil)))))))) (by kernel_rfl) ?_
    refine EPL.p rfl rfl (q_move (v := .pointer _) rfl) ?_
    refine EPL.p rfl rfl (q_fieldAddr (p := ⟨_, _, none⟩) Tryz.underlying27 rfl sz3 rfl rfl) ?_
    refine EPL.ld1 (v := .int _ _) rfl rfl sc3 rfl rfl ?_
    refine EPL.p rfl rfl (q_fieldAddr (p := ⟨_, _, none⟩) Tryz.underlying27 rfl sz3 rfl rfl) ?_
    refine EPL.ld1 (v := .int _ _) rfl rfl sc3 rfl rfl ?_
    refine EPL.bs rfl rfl Tryz.underlying82 el3 rfl rfl (fill2 (u := .int _ _) (w := .int _ _) rfl rfl rfl) (fun _ => HeldL.nil) (fun b11 => ?_)
    refine EPL.cl rfl rfl Tryz.func42 rfl rfl (Put2_spec b99 none b11 0 [] m.ver m.height Hp.nil 4 (OwnS.nil _ _ _) (by decide)) rfl ?_
    rintro _ _ ⟨rfl, a1, c1, H1, rfl, hO1⟩
    refine ⟨HeldL.nil, ?_⟩
    refine EPL.nil ?_
    refine EL.go ?_
    refine EL.region (.p 0 (.p 1 (.l 2 (.p 3 (.l 4 (.x 5 [] (.x 6 [] (.nil)))))))) (by kernel_rfl) ?_
    refine EPL.p rfl rfl (q_move (v := .pointer _) rfl) ?_
    refine EPL.p rfl rfl (q_fieldAddr (p := ⟨_, _, none⟩) Tryz.underlying27 rfl sz3 rfl rfl) ?_
    refine EPL.ld1 (v := .int _ _) rfl rfl sc3 rfl rfl ?_
    refine EPL.p rfl rfl (q_fieldAddr (p := ⟨_, _, none⟩) Tryz.underlying27 rfl sz3 rfl rfl) ?_
    refine EPL.ld1 (v := .int _ _) rfl rfl sc3 rfl rfl ?_
    refine EPL.bs rfl rfl Tryz.underlying82 el3 rfl rfl (fill2 (u := .int _ _) (w := .int _ _) rfl rfl rfl) (fun _ => HeldL.nil) (fun b12 => ?_)
    refine EPL.cl rfl rfl Tryz.func42 rfl rfl (Put2_spec b99 a1 b12 c1 ([] ++ (leB (putK 4) m.ver ++ leB (putK 4) m.height)) m.serv m.num H1 7 hO1 (by simp only [List.length_append, leB_length, List.length_nil, putK4]; omega)) rfl ?_
    rintro _ _ ⟨rfl, a2, c2, H2, rfl, hO2⟩
    refine ⟨HeldL.nil, ?_⟩
    refine EPL.nil ?_
    refine EL.go ?_
    refine EL.seq ?_
    refine EL.region (.p 0 (.x 1 [] (.p 2 (.nil)))) (by kernel_rfl) ?_
    refine EPL.p rfl rfl (q_move (v := .pointer _) rfl) ?_
    refine EPL.cl rfl rfl Tryz.func46 rfl rfl (Text_spec b99 a2 c2 ([] ++ (leB (putK 4) m.ver ++ leB (putK 4) m.height) ++ (leB (putK 7) m.serv ++ leB (putK 7) m.num)) H2 hO2) rfl ?_
    rintro _ _ ⟨rfl, rfl⟩
    refine ⟨HeldL.nil, ?_⟩
    refine EPL.p rfl rfl (q_assign (v := .string _) rfl) ?_
    refine EPL.nil ?_
    refine EL.go ?_
    refine EL.ret ?_
    exact end_retP [I] (fun _ => rfl) (fun _ => ⟨congrArg (fun l => str l) (by rw [Mp.p1 k1]; simp [putK4, putK7]), rfl⟩)
  ·
    have c1 := of_decide_eq_false c1
    have k1 := c1
    refine EL.seq ?_
    refine EL.region (.p 0 (.p 1 (.nil))) (by kernel_rfl) ?_
    refine EPL.p rfl rfl (q_eql rfl rfl) ?_
    refine EPL.p rfl rfl (q_assign (v := .bool _) rfl) ?_
    refine EPL.nil ?_
    refine EL.go ?_
    refine EL.cond rfl (fun c2 => ?_) (fun c2 => ?_)
    ·
      have c2 := of_decide_eq_true c2
      have k3 := c2
      have hg3 := ((Mp.g3 k1 k3).1 hgo).2
      refine EL.seq ?_
      refine EL.region (.p 0 (.p 1 (.l 2 (.x 3 [] (.x 4 [] (.nil)))))) (by kernel_rfl) ?_
      refine EPL.p rfl rfl (q_move (v := .pointer _) rfl) ?_
      refine EPL.p rfl rfl (q_fieldAddr (p := ⟨_, _, none⟩) Tryz.underlying27 rfl sz3 rfl rfl) ?_
      refine EPL.ld1 (v := .int _ _) rfl rfl sc3 rfl rfl ?_
      refine EPL.bs rfl rfl Tryz.underlying82 el3 rfl rfl (fill1 (u := .int _ _) rfl rfl) (fun _ => HeldL.nil) (fun b13 => ?_)
      refine EPL.cl rfl rfl Tryz.func42 rfl rfl (Put1_spec b99 none b13 0 [] m.ver Hp.nil 4 (OwnS.nil _ _ _) (by decide)) rfl ?_
      rintro _ _ ⟨rfl, a1, c1, H1, rfl, hO1⟩
      refine ⟨HeldL.nil, ?_⟩
      refine EPL.nil ?_
      refine EL.go ?_
      refine EL.seq ?_
      refine EL.region (.p 0 (.p 1 (.l 2 (.p 3 (.x 4 [] (.nil)))))) (by kernel_rfl) ?_
      refine EPL.p rfl rfl (q_move (v := .pointer _) rfl) ?_
      refine EPL.p rfl rfl (q_fieldAddr (p := ⟨_, _, none⟩) Tryz.underlying27 rfl sz22 rfl rfl) ?_
      refine EPL.ld1 (v := .slice na m.names.length nc) rfl rfl sc22 rfl rfl ?_
      refine EPL.p rfl rfl (q_lenSl Tryz.underlying22 rfl) ?_
      refine EPL.cl rfl rfl Tryz.func47 rfl rfl (PCount_spec b99 a1 c1 ([] ++ leB (putK 4) m.ver) (m.names.length : Nat) H1 hO1 (by simp only [List.length_append, leB_length, List.length_nil, putK4]; omega)) rfl ?_
      rintro _ _ ⟨rfl, a2, c2, H2, rfl, hO2⟩
      refine ⟨HeldL.nil, ?_⟩
      refine EPL.nil ?_
      refine EL.go ?_
      refine EL.seq ?_
      refine EL.region (.p 0 (.p 1 (.l 2 (.x 3 [] (.nil))))) (by kernel_rfl) ?_
      refine EPL.p rfl rfl (q_move (v := .pointer _) rfl) ?_
      refine EPL.p rfl rfl (q_fieldAddr (p := ⟨_, _, none⟩) Tryz.underlying27 rfl sz22 rfl rfl) ?_
      refine EPL.ld1 (v := .slice na m.names.length nc) rfl rfl sc22 rfl rfl ?_
      refine EPL.cl rfl rfl Tryz.func48 rfl rfl (PNamesR_spec b99 a2 na c2 nc ([] ++ leB (putK 4) m.ver ++ cntB (m.names.length : Nat)) m.names H2 I hI.names hO2 hI.rn (by have hcl := cntB_len m.names.length; simp only [List.length_append, leB_length, List.length_nil, putK4]; omega)) rfl ?_
      rintro _ _ ⟨rfl, a3, c3, H3, rfl, hO3⟩
      refine ⟨HeldL.nil, ?_⟩
      refine EPL.nil ?_
      refine EL.go ?_
      refine EL.region (.p 0 (.p 1 (.l 2 (.x 3 [] (.x 4 [] (.nil)))))) (by kernel_rfl) ?_
      refine EPL.p rfl rfl (q_move (v := .pointer _) rfl) ?_
      refine EPL.p rfl rfl (q_fieldAddr (p := ⟨_, _, none⟩) Tryz.underlying27 rfl sz24 rfl rfl) ?_
      refine EPL.ldAp (v := (m.stop.map bV).toArray) rfl rfl ag24 rfl (by rw [Mp.sz hI.stop]; exact Nat.le_of_ble_eq_true rfl) (Mp.x6 hI.stop) ?_
      refine EPL.bs rfl rfl Tryz.underlying22 el24 rfl rfl (fillN1 hI.stop) (fun _ => HeldL.nil) (fun b14 => ?_)
      refine EPL.cl rfl rfl Tryz.func48 rfl rfl (Names1_spec b99 a3 b14 c3 ([] ++ leB (putK 4) m.ver ++ cntB (m.names.length : Nat) ++ m.names.flatten) m.stop H3 hI.stop hO3 (by have hcl := cntB_len m.names.length; have hfl := flatten_le hI.names; simp only [List.length_append, leB_length, List.length_nil, putK4]; omega)) rfl ?_
      rintro _ _ ⟨rfl, a4, c4, H4, rfl, hO4⟩
      refine ⟨HeldL.nil, ?_⟩
      refine EPL.nil ?_
      refine EL.go ?_
      refine EL.seq ?_
      refine EL.region (.p 0 (.x 1 [] (.p 2 (.nil)))) (by kernel_rfl) ?_
      refine EPL.p rfl rfl (q_move (v := .pointer _) rfl) ?_
      refine EPL.cl rfl rfl Tryz.func46 rfl rfl (Text_spec b99 a4 c4 ([] ++ leB (putK 4) m.ver ++ cntB (m.names.length : Nat) ++ m.names.flatten ++ m.stop) H4 hO4) rfl ?_
      rintro _ _ ⟨rfl, rfl⟩
      refine ⟨HeldL.nil, ?_⟩
      refine EPL.p rfl rfl (q_assign (v := .string _) rfl) ?_
      refine EPL.nil ?_
      refine EL.go ?_
      refine EL.ret ?_
      exact end_retP [I] (fun _ => rfl) (fun _ => ⟨congrArg (fun l => str l) (by rw [Mp.p3 k1 k3]; simp [putK4, cnt_ref]), rfl⟩)
    ·
      have c2 := of_decide_eq_false c2
      have k3 := c2
      refine EL.seq ?_
      refine EL.region (.p 0 (.p 1 (.nil))) (by kernel_rfl) ?_
      refine EPL.p rfl rfl (q_eql rfl rfl) ?_
      refine EPL.p rfl rfl (q_assign (v := .bool _) rfl) ?_
      refine EPL.nil ?_
      refine EL.go ?_
      refine EL.cond rfl (fun c3 => ?_) (fun c3 => ?_)
      ·
        have c3 := of_decide_eq_true c3
        have k4 := c3
        have hg4 := (Mp.g4 k1 k3 k4).1 hgo
        refine EL.seq ?_
        refine EL.region (.p 0 (.p 1 (.l 2 (.p 3 (.x 4 [] (.nil)))))) (by kernel_rfl) ?_
        refine EPL.p rfl rfl (q_move (v := .pointer _) rfl) ?_
        refine EPL.p rfl rfl (q_fieldAddr (p := ⟨_, _, none⟩) Tryz.underlying27 rfl sz25 rfl rfl) ?_
        refine EPL.ld1 (v := .slice ha m.heads.length hc) rfl rfl sc25 rfl (Mp.c38 hI.stop) ?_
        refine EPL.p rfl rfl (q_lenSl Tryz.underlying25 rfl) ?_
        refine EPL.cl rfl rfl Tryz.func47 rfl rfl (PCount_spec b99 none 0 [] (m.heads.length : Nat) Hp.nil (OwnS.nil _ _ _) (by decide)) rfl ?_
        rintro _ _ ⟨rfl, a1, c1, H1, rfl, hO1⟩
        refine ⟨HeldL.nil, ?_⟩
        refine EPL.nil ?_
        refine EL.go ?_
        refine EL.seq ?_
        refine EL.region (.p 0 (.l 1 (.p 2 (.p 3 (.nil))))) (by kernel_rfl) ?_
        refine EPL.p rfl rfl (q_fieldAddr (p := ⟨_, _, none⟩) Tryz.underlying27 rfl sz25 rfl rfl) ?_
        refine EPL.ld1 (v := .slice ha m.heads.length hc) rfl rfl sc25 rfl (Mp.c38 hI.stop) ?_
        refine EPL.p rfl rfl (q_lenSl Tryz.underlying25 rfl) ?_
        refine EPL.p rfl rfl (q_move (v := .int _ _) rfl) ?_
        refine EPL.nil ?_
        refine EL.go ?_
        refine EL.block ?_
        obtain ⟨B, hB⟩ : ∃ B, B = sg b1 (.cells (m.vals ⟨na, nc, ha, hc⟩) 27 (0, 0)) := ⟨_, rfl⟩
        rw [← hB]
        refine EL.base [(1, .pointer (some ⟨b1, 0, none⟩)), (3, .pointer (some ⟨b99, 0, none⟩)), (57, .slice ha m.heads.length hc), (58, .int .i64 (m.heads.length : Nat)), (59, .int .i64 0)] ⟨rfl, rfl, rfl, rfl, rfl, trivial⟩ (fun e => ?_)
        refine EL.loop [5, 59, 60, 61, 62, 63, 64, 65, 66, 67, 68] (fun i : Nat => [(59, .int .i64 i)]) (fun n i Hs' => n + i = m.heads.length ∧ ∃ a' c' H', Hs' = [sg b99 (PenS a' c' ([] ++ cntB (m.heads.length : Nat) ++ (m.heads.take i).flatMap (fun h => hdB h ++ [0]))), H', B, I] ∧ OwnB a' c' ([] ++ cntB (m.heads.length : Nat) ++ (m.heads.take i).flatMap (fun h => hdB h ++ [0])) H') m.heads.length 0 ⟨by omega, a1, c1, H1, by simp, by simpa using hO1⟩ ⟨rfl, trivial⟩ ?_
        rintro n i _ j ⟨hm, a', c', H', rfl, hO'⟩
        have hlen := flat_bnd (f := (fun h => hdB h ++ [0])) (k := 100) (l := m.heads.take i) (fun y hy => by rw [List.length_append, hdB_len (hI.heads y (List.mem_of_mem_take hy))]; decide)
        have htl : (m.heads.take i).length ≤ m.heads.length := by rw [List.length_take]; omega
        have hrc := cntB_len m.heads.length
        refine EL.seq ?_
        refine EL.region (.p 0 (.nil)) (by kernel_rfl) ?_
        refine EPL.p rfl rfl (q_lss rfl rfl) ?_
        refine EPL.nil ?_
        refine EL.go ?_
        refine EL.seq ?_
        refine EL.cond rfl (fun c4 => ?_) (fun c4 => ?_)
        ·
          have c4 := of_decide_eq_true c4
          obtain ⟨x, hx⟩ : ∃ x, m.heads[i]? = some x := ⟨_, List.getElem?_eq_getElem (by omega)⟩
          have hxm := List.mem_of_getElem? hx
          have hxo : x.ok := hI.heads x hxm
          obtain ⟨b, off, cap, cc, ety, fr, he, hbI, hcs, hcc⟩ := hI.rh.getA (fun y hy => Hd.len (hI.heads y hy)) hx
          obtain ⟨rfl, rfl⟩ : ha = some ⟨b, off, none⟩ ∧ hc = cap := by simpa using he
          have hgx : x.Good := hg4.2 x hxm
          have en : [] ++ cntB (m.heads.length : Nat) ++ (m.heads.take (i + 1)).flatMap (fun h => hdB h ++ [0]) = [] ++ cntB (m.heads.length : Nat) ++ (m.heads.take i).flatMap (fun h => hdB h ++ [0]) ++ hdB x ++ cntB 0 := by rw [flat_snoc (f := (fun h => hdB h ++ [0])) hx, cntB_0]; simp only [List.append_assoc]
          refine EL.skip ?_
          refine EL.go ?_
          refine EL.seq ?_
          refine EL.block ?_
          refine EL.seq ?_
          refine EL.region (.p 0 (.l 1 (.x 2 [] (.x 3 [] (.nil))))) (by kernel_rfl) ?_
          refine EPL.p rfl rfl (q_idxSl Tryz.underlying25 sz44 rfl rfl (by omega) (by omega)) ?_
          refine EPL.ldAP (v := .agg x.cells.toArray) rfl rfl ag44 rfl hbI (by simpa using hcs) (congrArg Value.agg (by simpa using hcc)) ?_
          refine EPL.al rfl rfl el44 (fun _ => HeldL.nil) (fun b5 => ?_)
          refine EPL.stA (v := x.cells.toArray) rfl rfl sz44 rfl rfl (Hd.sz hxo) (Hd.one x) rfl HeldL.nil ?_
          refine EPL.nil ?_
          refine EL.go ?_
          refine EL.seq ?_
          refine EL.region (.p 0 (.l 1 (.x 2 [] (.nil)))) (by kernel_rfl) ?_
          refine EPL.p rfl rfl (q_move (v := .pointer _) rfl) ?_
          refine EPL.ldAw rfl rfl ag44 rfl (Hd.sz hxo) ?_
          refine EPL.cl rfl rfl Tryz.func49 rfl rfl (HWrite_spec b99 a' c' ([] ++ cntB (m.heads.length : Nat) ++ (m.heads.take i).flatMap (fun h => hdB h ++ [0])) x H' hxo hgx hO' (by simp only [List.length_append, List.length_nil]; omega)) rfl ?_
          rintro _ _ ⟨rfl, a2, c2, H2, rfl, hO2⟩
          refine ⟨HeldL.nil, ?_⟩
          refine EPL.nil ?_
          refine EL.go ?_
          refine EL.region (.p 0 (.x 1 [] (.nil))) (by kernel_rfl) ?_
          refine EPL.p rfl rfl (q_move (v := .pointer _) rfl) ?_
          refine EPL.cl rfl rfl Tryz.func47 rfl rfl (PCount_spec b99 a2 c2 ([] ++ cntB (m.heads.length : Nat) ++ (m.heads.take i).flatMap (fun h => hdB h ++ [0]) ++ hdB x) 0 H2 hO2 (by simp only [List.length_append, List.length_nil, hdB_len hxo]; omega)) rfl ?_
          rintro _ _ ⟨rfl, a3, c3, H3, rfl, hO3⟩
          refine ⟨HeldL.nil, ?_⟩
          refine EPL.nil ?_
          refine EL.go ?_
          refine EL.region (.p 0 (.p 1 (.nil))) (by kernel_rfl) ?_
          refine EPL.p rfl rfl (q_add rfl rfl) ?_
          refine EPL.p rfl rfl (q_move (v := .int _ _) rfl) ?_
          refine EPL.nil ?_
          refine RoundQ.mkP (n - 1) (i + 1) [sg b99 (PenS a3 c3 ([] ++ cntB (m.heads.length : Nat) ++ (m.heads.take i).flatMap (fun h => hdB h ++ [0]) ++ hdB x ++ cntB 0)), H3, B, I] (by omega) ⟨by omega, a3, c3, H3, by rw [en], by rw [en]; exact hO3⟩ (by repeat first | refine Off.upd rfl ?_ | exact Off.mix | refine Off.upds rfl ?_ | refine Off.mixs rfl ?_ | exact Off.refl) ⟨congrArg (Value.int .i64) (wrap_i64_in (by omega)), trivial⟩
        ·
          have c4 := of_decide_eq_false c4
          have ht : m.heads.take i = m.heads := List.take_of_length_le (by omega)
          rw [ht] at hO' ⊢
          subst hB
          refine EL.exit ?_
          refine EL.go ?_
          refine EL.seq ?_
          refine EL.region (.p 0 (.x 1 [] (.p 2 (.nil)))) (by kernel_rfl) ?_
          refine EPL.p rfl rfl (q_move (v := .pointer _) rfl) ?_
          refine EPL.cl rfl rfl Tryz.func46 rfl rfl (Text_spec b99 a' c' ([] ++ cntB (m.heads.length : Nat) ++ m.heads.flatMap (fun h => hdB h ++ [0])) H' hO') rfl ?_
          rintro _ _ ⟨rfl, rfl⟩
          refine ⟨HeldL.nil, ?_⟩
          refine EPL.p rfl rfl (q_assign (v := .string _) rfl) ?_
          refine EPL.nil ?_
          refine EL.go ?_
          refine EL.ret ?_
          exact end_retP [I] (fun _ => rfl) (fun _ => ⟨congrArg (fun l => str l) (by rw [Mp.p4 k1 k3 k4]; simp [cnt_ref]), rfl⟩)
      ·
        have c3 := of_decide_eq_false c3
        have k4 := c3
        refine EL.seq ?_
        refine EL.region (.p 0 (.p 1 (.nil))) (by kernel_rfl) ?_
        refine EPL.p rfl rfl (q_eql rfl rfl) ?_
        refine EPL.p rfl rfl (q_assign (v := .bool _) rfl) ?_
        refine EPL.nil ?_
        refine EL.go ?_
        refine EL.cond rfl (fun c6 => ?_) (fun c6 => ?_)
        ·
          have c6 := of_decide_eq_true c6
          have k5 := c6
          have hg5 := (Mp.g5 k1 k3 k4 k5).1 hgo
          refine EL.seq ?_
          refine EL.region (.p 0 (.p 1 (.l 2 (.p 3 (.x 4 [] (.nil)))))) (by kernel_rfl) ?_
          refine EPL.p rfl rfl (q_move (v := .pointer _) rfl) ?_
          refine EPL.p rfl rfl (q_fieldAddr (p := ⟨_, _, none⟩) Tryz.underlying27 rfl sz22 rfl rfl) ?_
          refine EPL.ld1 (v := .slice na m.names.length nc) rfl rfl sc22 rfl rfl ?_
          refine EPL.p rfl rfl (q_lenSl Tryz.underlying22 rfl) ?_
          refine EPL.cl rfl rfl Tryz.func47 rfl rfl (PCount_spec b99 none 0 [] (m.names.length : Nat) Hp.nil (OwnS.nil _ _ _) (by decide)) rfl ?_
          rintro _ _ ⟨rfl, a1, c1, H1, rfl, hO1⟩
          refine ⟨HeldL.nil, ?_⟩
          refine EPL.nil ?_
          refine EL.go ?_
          refine EL.seq ?_
          refine EL.region (.p 0 (.l 1 (.p 2 (.p 3 (.nil))))) (by kernel_rfl) ?_
          refine EPL.p rfl rfl (q_fieldAddr (p := ⟨_, _, none⟩) Tryz.underlying27 rfl sz22 rfl rfl) ?_
          refine EPL.ld1 (v := .slice na m.names.length nc) rfl rfl sc22 rfl rfl ?_
          refine EPL.p rfl rfl (q_lenSl Tryz.underlying22 rfl) ?_
          refine EPL.p rfl rfl (q_move (v := .int _ _) rfl) ?_
          refine EPL.nil ?_
          refine EL.go ?_
          refine EL.block ?_
          obtain ⟨B, hB⟩ : ∃ B, B = sg b1 (.cells (m.vals ⟨na, nc, ha, hc⟩) 27 (0, 0)) := ⟨_, rfl⟩
          rw [← hB]
          refine EL.base [(1, .pointer (some ⟨b1, 0, none⟩)), (3, .pointer (some ⟨b99, 0, none⟩)), (77, .slice na m.names.length nc), (78, .int .i64 (m.names.length : Nat)), (79, .int .i64 0)] ⟨rfl, rfl, rfl, rfl, rfl, trivial⟩ (fun e => ?_)
          refine EL.loop [7, 79, 80, 81, 82, 83, 84, 85, 86, 87, 88, 89, 90] (fun i : Nat => [(79, .int .i64 i)]) (fun n i Hs' => n + i = m.names.length ∧ ∃ a' c' H', Hs' = [sg b99 (PenS a' c' ([] ++ cntB (m.names.length : Nat) ++ (m.names.take i).flatMap (fun h => [2, 0, 0, 0] ++ h))), H', B, I] ∧ OwnB a' c' ([] ++ cntB (m.names.length : Nat) ++ (m.names.take i).flatMap (fun h => [2, 0, 0, 0] ++ h)) H') m.names.length 0 ⟨by omega, a1, c1, H1, by simp, by simpa using hO1⟩ ⟨rfl, trivial⟩ ?_
          rintro n i _ j ⟨hm, a', c', H', rfl, hO'⟩
          have hlen := flat_bnd (f := (fun h => [2, 0, 0, 0] ++ h)) (k := 100) (l := m.names.take i) (fun y hy => by rw [List.length_append, hI.names y (List.mem_of_mem_take hy)]; decide)
          have htl : (m.names.take i).length ≤ m.names.length := by rw [List.length_take]; omega
          have hrc := cntB_len m.names.length
          refine EL.seq ?_
          refine EL.region (.p 0 (.nil)) (by kernel_rfl) ?_
          refine EPL.p rfl rfl (q_lss rfl rfl) ?_
          refine EPL.nil ?_
          refine EL.go ?_
          refine EL.seq ?_
          refine EL.cond rfl (fun c7 => ?_) (fun c7 => ?_)
          ·
            have c7 := of_decide_eq_true c7
            obtain ⟨x, hx⟩ : ∃ x, m.names[i]? = some x := ⟨_, List.getElem?_eq_getElem (by omega)⟩
            have hxm := List.mem_of_getElem? hx
            have hxo : x.length = 32 := hI.names x hxm
            obtain ⟨b, off, cap, cc, ety, fr, he, hbI, hcs, hcc⟩ := hI.rn.getA (f := fun h : List UInt8 => h.map bV) (fun y hy => by rw [List.length_map]; exact hI.names y hy) hx
            obtain ⟨rfl, rfl⟩ : na = some ⟨b, off, none⟩ ∧ nc = cap := by simpa using he
            have en : [] ++ cntB (m.names.length : Nat) ++ (m.names.take (i + 1)).flatMap (fun h => [2, 0, 0, 0] ++ h) = [] ++ cntB (m.names.length : Nat) ++ (m.names.take i).flatMap (fun h => [2, 0, 0, 0] ++ h) ++ leB (putK 4) 2 ++ x := by rw [flat_snoc (f := (fun h => [2, 0, 0, 0] ++ h)) hx, show leB (putK 4) 2 = [2, 0, 0, 0] from by decide]; simp only [List.append_assoc]
            refine EL.skip ?_
            refine EL.go ?_
            refine EL.seq ?_
            refine EL.block ?_
            refine EL.seq ?_
            refine EL.region (.p 0 (.l 1 (.x 2 [] (.x 3 [] (.nil))))) (by kernel_rfl) ?_
            refine EPL.p rfl rfl (q_idxSl Tryz.underlying22 sz24 rfl rfl (by omega) (by omega)) ?_
            refine EPL.ldAP (v := .agg (x.map bV).toArray) rfl rfl ag24 rfl hbI (by simpa using hcs) (congrArg Value.agg (by simpa using hcc)) ?_
            refine EPL.al rfl rfl el24 (fun _ => HeldL.nil) (fun b8 => ?_)
            refine EPL.stA (v := (x.map bV).toArray) rfl rfl sz24 rfl rfl (by simp [hxo]) (bvAll x) rfl HeldL.nil ?_
            refine EPL.nil ?_
            refine EL.go ?_
            refine EL.seq ?_
            refine EL.region (.p 0 (.x 1 [] (.x 2 [] (.nil)))) (by kernel_rfl) ?_
            refine EPL.p rfl rfl (q_move (v := .pointer _) rfl) ?_
            refine EPL.bs rfl rfl Tryz.underlying82 el3 rfl rfl (fill1 (u := .int _ _) rfl rfl) (fun _ => HeldL.nil) (fun b15 => ?_)
            refine EPL.cl rfl rfl Tryz.func42 rfl rfl (Put1_spec b99 a' b15 c' ([] ++ cntB (m.names.length : Nat) ++ (m.names.take i).flatMap (fun h => [2, 0, 0, 0] ++ h)) 2 H' 4 hO' (by simp only [List.length_append, List.length_nil]; omega)) rfl ?_
            rintro _ _ ⟨rfl, a2, c2, H2, rfl, hO2⟩
            refine ⟨HeldL.nil, ?_⟩
            refine EPL.nil ?_
            refine EL.go ?_
            refine EL.region (.p 0 (.l 1 (.x 2 [] (.x 3 [] (.nil))))) (by kernel_rfl) ?_
            refine EPL.p rfl rfl (q_move (v := .pointer _) rfl) ?_
            refine EPL.ldAw rfl rfl ag24 rfl (by simp [hxo]) ?_
            refine EPL.bs rfl rfl Tryz.underlying22 el24 rfl rfl (fillN1 hxo) (fun _ => HeldL.nil) (fun b16 => ?_)
            refine EPL.cl rfl rfl Tryz.func48 rfl rfl (Names1_spec b99 a2 b16 c2 ([] ++ cntB (m.names.length : Nat) ++ (m.names.take i).flatMap (fun h => [2, 0, 0, 0] ++ h) ++ leB (putK 4) 2) x H2 hxo hO2 (by simp only [List.length_append, List.length_nil, leB_length, putK4]; omega)) rfl ?_
            rintro _ _ ⟨rfl, a3, c3, H3, rfl, hO3⟩
            refine ⟨HeldL.nil, ?_⟩
            refine EPL.nil ?_
            refine EL.go ?_
            refine EL.region (.p 0 (.p 1 (.nil))) (by kernel_rfl) ?_
            refine EPL.p rfl rfl (q_add rfl rfl) ?_
            refine EPL.p rfl rfl (q_move (v := .int _ _) rfl) ?_
            refine EPL.nil ?_
            refine RoundQ.mkP (n - 1) (i + 1) [sg b99 (PenS a3 c3 ([] ++ cntB (m.names.length : Nat) ++ (m.names.take i).flatMap (fun h => [2, 0, 0, 0] ++ h) ++ leB (putK 4) 2 ++ x)), H3, B, I] (by omega) ⟨by omega, a3, c3, H3, by rw [en], by rw [en]; exact hO3⟩ (by repeat first | refine Off.upd rfl ?_ | exact Off.mix | refine Off.upds rfl ?_ | refine Off.mixs rfl ?_ | exact Off.refl) ⟨congrArg (Value.int .i64) (wrap_i64_in (by omega)), trivial⟩
          ·
            have c7 := of_decide_eq_false c7
            have ht : m.names.take i = m.names := List.take_of_length_le (by omega)
            rw [ht] at hO' ⊢
            subst hB
            refine EL.exit ?_
            refine EL.go ?_
            refine EL.seq ?_
            refine EL.region (.p 0 (.x 1 [] (.p 2 (.nil)))) (by kernel_rfl) ?_
            refine EPL.p rfl rfl (q_move (v := .pointer _) rfl) ?_
            refine EPL.cl rfl rfl Tryz.func46 rfl rfl (Text_spec b99 a' c' ([] ++ cntB (m.names.length : Nat) ++ m.names.flatMap (fun h => [2, 0, 0, 0] ++ h)) H' hO') rfl ?_
            rintro _ _ ⟨rfl, rfl⟩
            refine ⟨HeldL.nil, ?_⟩
            refine EPL.p rfl rfl (q_assign (v := .string _) rfl) ?_
            refine EPL.nil ?_
            refine EL.go ?_
            refine EL.ret ?_
            exact end_retP [I] (fun _ => rfl) (fun _ => ⟨congrArg (fun l => str l) (by rw [Mp.p5 k1 k3 k4 k5]; simp [cnt_ref]), rfl⟩)
        ·
          have c6 := of_decide_eq_false c6
          have k5 := c6
          refine EL.seq ?_
          refine EL.seq ?_
          refine EL.region (.p 0 (.p 1 (.nil))) (by kernel_rfl) ?_
          refine EPL.p rfl rfl (q_eql rfl rfl) ?_
          refine EPL.p rfl rfl (q_assign (v := .bool _) rfl) ?_
          refine EPL.nil ?_
          refine EL.go ?_
          refine EL.cond rfl (fun c9 => ?_) (fun c9 => ?_)
          ·
            have c9 := of_decide_eq_true c9
            have k6 := c9
            refine EL.skip ?_
            refine EL.go ?_
            refine EL.yes (congrArg Value.bool (decide_eq_true c9)) ?_
            refine EL.region (.p 0 (.p 1 (.l 2 (.x 3 [] (.x 4 [] (.nil)))))) (by kernel_rfl) ?_
            refine EPL.p rfl rfl (q_move (v := .pointer _) rfl) ?_
            refine EPL.p rfl rfl (q_fieldAddr (p := ⟨_, _, none⟩) Tryz.underlying27 rfl sz3 rfl rfl) ?_
            refine EPL.ld1 (v := .int _ _) rfl rfl sc3 rfl rfl ?_
            refine EPL.bs rfl rfl Tryz.underlying82 el3 rfl rfl (fill1 (u := .int _ _) rfl rfl) (fun _ => HeldL.nil) (fun b17 => ?_)
            refine EPL.cl rfl rfl Tryz.func42 rfl rfl (Put1_spec b99 none b17 0 [] m.num Hp.nil 7 (OwnS.nil _ _ _) (by decide)) rfl ?_
            rintro _ _ ⟨rfl, a1, c1, H1, rfl, hO1⟩
            refine ⟨HeldL.nil, ?_⟩
            refine EPL.nil ?_
            refine EL.go ?_
            refine EL.seq ?_
            refine EL.region (.p 0 (.x 1 [] (.p 2 (.nil)))) (by kernel_rfl) ?_
            refine EPL.p rfl rfl (q_move (v := .pointer _) rfl) ?_
            refine EPL.cl rfl rfl Tryz.func46 rfl rfl (Text_spec b99 a1 c1 ([] ++ leB (putK 7) m.num) H1 hO1) rfl ?_
            rintro _ _ ⟨rfl, rfl⟩
            refine ⟨HeldL.nil, ?_⟩
            refine EPL.p rfl rfl (q_assign (v := .string _) rfl) ?_
            refine EPL.nil ?_
            refine EL.go ?_
            refine EL.ret ?_
            exact end_retP [I] (fun _ => rfl) (fun _ => ⟨congrArg (fun l => str l) (by rw [Mp.p6 k1 k3 k4 k5 (.inl k6)]; simp [putK7]), rfl⟩)
          ·
            have c9 := of_decide_eq_false c9
            have k6 := c9
            refine EL.region (.p 0 (.p 1 (.nil))) (by kernel_rfl) ?_
            refine EPL.p rfl rfl (q_eql rfl rfl) ?_
            refine EPL.p rfl rfl (q_assign (v := .bool _) rfl) ?_
            refine EPL.nil ?_
            refine EL.go ?_
            refine EL.cond rfl (fun c10 => ?_) (fun c10 => ?_)
            ·
              have c10 := of_decide_eq_true c10
              have k7 := c10
              refine EL.region (.p 0 (.p 1 (.l 2 (.x 3 [] (.x 4 [] (.nil)))))) (by kernel_rfl) ?_
              refine EPL.p rfl rfl (q_move (v := .pointer _) rfl) ?_
              refine EPL.p rfl rfl (q_fieldAddr (p := ⟨_, _, none⟩) Tryz.underlying27 rfl sz3 rfl rfl) ?_
              refine EPL.ld1 (v := .int _ _) rfl rfl sc3 rfl rfl ?_
              refine EPL.bs rfl rfl Tryz.underlying82 el3 rfl rfl (fill1 (u := .int _ _) rfl rfl) (fun _ => HeldL.nil) (fun b17 => ?_)
              refine EPL.cl rfl rfl Tryz.func42 rfl rfl (Put1_spec b99 none b17 0 [] m.num Hp.nil 7 (OwnS.nil _ _ _) (by decide)) rfl ?_
              rintro _ _ ⟨rfl, a1, c1, H1, rfl, hO1⟩
              refine ⟨HeldL.nil, ?_⟩
              refine EPL.nil ?_
              refine EL.go ?_
              refine EL.seq ?_
              refine EL.region (.p 0 (.x 1 [] (.p 2 (.nil)))) (by kernel_rfl) ?_
              refine EPL.p rfl rfl (q_move (v := .pointer _) rfl) ?_
              refine EPL.cl rfl rfl Tryz.func46 rfl rfl (Text_spec b99 a1 c1 ([] ++ leB (putK 7) m.num) H1 hO1) rfl ?_
              rintro _ _ ⟨rfl, rfl⟩
              refine ⟨HeldL.nil, ?_⟩
              refine EPL.p rfl rfl (q_assign (v := .string _) rfl) ?_
              refine EPL.nil ?_
              refine EL.go ?_
              refine EL.ret ?_
              exact end_retP [I] (fun _ => rfl) (fun _ => ⟨congrArg (fun l => str l) (by rw [Mp.p6 k1 k3 k4 k5 (.inr k7)]; simp [putK7]), rfl⟩)
            ·
              have c10 := of_decide_eq_false c10
              have k7 := c10
              refine EL.skip ?_
              refine EL.go ?_
              refine EL.seq ?_
              refine EL.region (.p 0 (.x 1 [] (.p 2 (.nil)))) (by kernel_rfl) ?_
              refine EPL.p rfl rfl (q_move (v := .pointer _) rfl) ?_
              refine EPL.cl rfl rfl Tryz.func46 rfl rfl (Text_spec b99 none 0 ([]) Hp.nil (OwnS.nil _ _ _)) rfl ?_
              rintro _ _ ⟨rfl, rfl⟩
              refine ⟨HeldL.nil, ?_⟩
              refine EPL.p rfl rfl (q_assign (v := .string _) rfl) ?_
              refine EPL.nil ?_
              refine EL.go ?_
              refine EL.ret ?_
              exact end_retP [I] (fun _ => rfl) (fun _ => ⟨congrArg (fun l => str l) (by rw [Mp.p0 k1 k3 k4 k5 (fun h => h.elim k6 k7)]), rfl⟩)

end Go.Proofs.YtedkoebbijpnfaaGreatDoor

namespace Go.Proofs.YtedkoebbijpnfaaGreatDoor
open Go Go.Proofs.YtedkoebbijpnfaaGreatDoor.TH
set_option maxHeartbeats 1000000

/-- A message with nothing but what its kind has. -/
def Mp.bare (m : Mp) : Mp :=
  if m.kind = 1 then { Mp.nil m.kind with ver := m.ver, serv := m.serv, height := m.height, num := m.num }
  else if m.kind = 3 then { Mp.nil m.kind with ver := m.ver, names := m.names, stop := m.stop }
  else if m.kind = 4 then { Mp.nil m.kind with heads := m.heads }
  else if m.kind = 5 then { Mp.nil m.kind with names := m.names }
  else if m.kind = 6 ∨ m.kind = 7 then { Mp.nil m.kind with num := m.num }
  else Mp.nil m.kind
section
variable {m : Mp}
theorem Mp.b1 (k1 : m.kind = 1) : m.bare = { Mp.nil m.kind with ver := m.ver, serv := m.serv, height := m.height, num := m.num } := by unfold Mp.bare; rw [if_pos k1]
theorem Mp.b3 (k1 : ¬ m.kind = 1) (k3 : m.kind = 3) : m.bare = { Mp.nil m.kind with ver := m.ver, names := m.names, stop := m.stop } := by unfold Mp.bare; rw [if_neg k1, if_pos k3]
theorem Mp.b4 (k1 : ¬ m.kind = 1) (k3 : ¬ m.kind = 3) (k4 : m.kind = 4) : m.bare = { Mp.nil m.kind with heads := m.heads } := by unfold Mp.bare; rw [if_neg k1, if_neg k3, if_pos k4]
theorem Mp.b5 (k1 : ¬ m.kind = 1) (k3 : ¬ m.kind = 3) (k4 : ¬ m.kind = 4) (k5 : m.kind = 5) : m.bare = { Mp.nil m.kind with names := m.names } := by unfold Mp.bare; rw [if_neg k1, if_neg k3, if_neg k4, if_pos k5]
theorem Mp.b6 (k1 : ¬ m.kind = 1) (k3 : ¬ m.kind = 3) (k4 : ¬ m.kind = 4) (k5 : ¬ m.kind = 5) (k6 : m.kind = 6 ∨ m.kind = 7) : m.bare = { Mp.nil m.kind with num := m.num } := by unfold Mp.bare; rw [if_neg k1, if_neg k3, if_neg k4, if_neg k5, if_pos k6]
theorem Mp.b0 (k1 : ¬ m.kind = 1) (k3 : ¬ m.kind = 3) (k4 : ¬ m.kind = 4) (k5 : ¬ m.kind = 5) (k6 : ¬ (m.kind = 6 ∨ m.kind = 7)) : m.bare = Mp.nil m.kind := by unfold Mp.bare; rw [if_neg k1, if_neg k3, if_neg k4, if_neg k5, if_neg k6]
end

theorem Bare_spec (m : Mp) (p : Pl) (I : Hp) (hI : m.In p I) : CallL Tryz.prog 37 [msgV m p] [I] (fun r Hs' => (∃ p', r = msgV m.bare p' ∧ m.bare.In p' I) ∧ Hs' = [I]) := by
  refine CallL.enter Tryz.func37 Tryz.ntmps37 rfl rfl rfl ?_
  obtain ⟨na, nc, ha, hc⟩ := p
  refine EL.seq ?_
  refine EL.region (.x 0 [] (.x 1 [] (.nil))) (by kernel_rfl) ?_
  refine EPL.box (c := m.vals ⟨na, nc, ha, hc⟩) rfl rfl rfl (fun _ => HeldL.nil) (fun b1 => ?_)
  refine EPL.al rfl rfl el27 (fun _ => HeldL.nil) (fun b2 => ?_)
  refine EPL.nil ?_
  refine EL.go ?_
  refine EL.seq ?_
  refine EL.region (.p 0 (.l 1 (.p 2 (.x 3 [] (.x 4 [] (.nil)))))) (by kernel_rfl) ?_
  refine EPL.p rfl rfl (q_fieldAddr (p := ⟨_, _, none⟩) Tryz.underlying27 rfl sz3 rfl rfl) ?_
  refine EPL.ld1 (v := .int _ _) rfl rfl sc3 rfl rfl ?_
  refine EPL.p rfl rfl (q_build (cells := (Mp.nil m.kind).vals Pl.nil) pl27 el27 (.cons rfl rfl (Nat.le_of_ble_eq_true rfl) rfl .nil)) ?_
  refine EPL.al rfl rfl el27 (fun _ => HeldL.nil) (fun b4 => ?_)
  refine EPL.stA (v := (Mp.nil m.kind).vals Pl.nil) rfl rfl sz27 rfl rfl rfl (Mp.one _ _) rfl HeldL.nil ?_
  refine EPL.nil ?_
  refine EL.go ?_
  refine EL.seq ?_
  refine EL.seq ?_
  refine EL.region (.p 0 (.l 1 (.nil))) (by kernel_rfl) ?_
  refine EPL.p rfl rfl (q_fieldAddr (p := ⟨_, _, none⟩) Tryz.underlying27 rfl sz3 rfl rfl) ?_
  refine EPL.ld1 (v := .int _ _) rfl rfl sc3 rfl rfl ?_
  refine EPL.nil ?_
  refine EL.go ?_
  refine EL.block ?_
  refine EL.seq ?_
  refine EL.region (.p 0 (.p 1 (.nil))) (by kernel_rfl) ?_
  refine EPL.p rfl rfl (q_eql rfl rfl) ?_
  refine EPL.p rfl rfl (q_assign (v := .bool _) rfl) ?_
  refine EPL.nil ?_
  refine EL.go ?_
  refine EL.cond rfl (fun c1 => ?_) (fun c1 => ?_)
  ·
    have c1 := of_decide_eq_true c1
    have k1 := c1
    refine EL.draw (.p 0 (.l 1 (.p 2 (.l 3 (.p 4 (.l 5 (.p 6 (.l 7 (.p 8 (.x 9 [3, 5, 7] (.p 10 (.x 11 [5, 7] (.p 12 (.x 13 [7] (.p 14 (.x 15 [] (.nil))))))))))))))))) [9, 11, 13, 15] [1, 3, 5, 7] fm (by kernel_rfl) ?_
    refine EPL.p rfl rfl (q_fieldAddr (p := ⟨_, _, none⟩) Tryz.underlying27 rfl sz3 rfl rfl) ?_
    refine EPL.ld1 (v := .int _ _) rfl rfl sc3 rfl rfl ?_
    refine EPL.p rfl rfl (q_fieldAddr (p := ⟨_, _, none⟩) Tryz.underlying27 rfl sz3 rfl rfl) ?_
    refine EPL.ld1 (v := .int _ _) rfl rfl sc3 rfl rfl ?_
    refine EPL.p rfl rfl (q_fieldAddr (p := ⟨_, _, none⟩) Tryz.underlying27 rfl sz3 rfl rfl) ?_
    refine EPL.ld1 (v := .int _ _) rfl rfl sc3 rfl rfl ?_
    refine EPL.p rfl rfl (q_fieldAddr (p := ⟨_, _, none⟩) Tryz.underlying27 rfl sz3 rfl rfl) ?_
    refine EPL.ld1 (v := .int _ _) rfl rfl sc3 rfl rfl ?_
    refine EPL.p rfl rfl (q_fieldAddr (p := ⟨_, _, none⟩) Tryz.underlying27 rfl sz3 rfl rfl) ?_
    refine EPL.st (v := .int .i64 _) (c' := (({ Mp.nil m.kind with ver := m.ver } : Mp)).vals Pl.nil) rfl rfl sz3 rfl rfl rfl (oneV rfl) (by rw [Mp.sz (by first | rfl | exact List.length_replicate | exact hI.stop)]; exact Nat.le_of_ble_eq_true rfl) (Mp.set1 _ _ _) (HeldL.ld1 rfl rfl sc3 rfl rfl (HeldL.ld1 rfl rfl sc3 rfl rfl (HeldL.ld1 rfl rfl sc3 rfl rfl HeldL.nil))) ?_
    refine EPL.p rfl rfl (q_fieldAddr (p := ⟨_, _, none⟩) Tryz.underlying27 rfl sz3 rfl rfl) ?_
    refine EPL.st (v := .int .i64 _) (c' := (({ Mp.nil m.kind with ver := m.ver, serv := m.serv } : Mp)).vals Pl.nil) rfl rfl sz3 rfl rfl rfl (oneV rfl) (by rw [Mp.sz (by first | rfl | exact List.length_replicate | exact hI.stop)]; exact Nat.le_of_ble_eq_true rfl) (Mp.set2 _ _ _) (HeldL.ld1 rfl rfl sc3 rfl rfl (HeldL.ld1 rfl rfl sc3 rfl rfl HeldL.nil)) ?_
    refine EPL.p rfl rfl (q_fieldAddr (p := ⟨_, _, none⟩) Tryz.underlying27 rfl sz3 rfl rfl) ?_
    refine EPL.st (v := .int .i64 _) (c' := (({ Mp.nil m.kind with ver := m.ver, serv := m.serv, height := m.height } : Mp)).vals Pl.nil) rfl rfl sz3 rfl rfl rfl (oneV rfl) (by rw [Mp.sz (by first | rfl | exact List.length_replicate | exact hI.stop)]; exact Nat.le_of_ble_eq_true rfl) (Mp.set3 _ _ _) (HeldL.ld1 rfl rfl sc3 rfl rfl HeldL.nil) ?_
    refine EPL.p rfl rfl (q_fieldAddr (p := ⟨_, _, none⟩) Tryz.underlying27 rfl sz3 rfl rfl) ?_
    refine EPL.st (v := .int .i64 _) (c' := (({ Mp.nil m.kind with ver := m.ver, serv := m.serv, height := m.height, num := m.num } : Mp)).vals Pl.nil) rfl rfl sz3 rfl rfl rfl (oneV rfl) (by rw [Mp.sz (by first | rfl | exact List.length_replicate | exact hI.stop)]; exact Nat.le_of_ble_eq_true rfl) (Mp.set4 _ _ _) HeldL.nil ?_
    refine EPL.nil ?_
    refine EL.go ?_
    refine EL.seq ?_
    refine EL.region (.l 0 (.x 1 [] (.nil))) (by kernel_rfl) ?_
    refine EPL.ldAw rfl rfl ag27 rfl (Mp.sz (by first | rfl | exact List.length_replicate | exact hI.stop)) ?_
    refine EPL.stA (v := ({ Mp.nil m.kind with ver := m.ver, serv := m.serv, height := m.height, num := m.num } : Mp).vals Pl.nil) rfl rfl sz27 rfl rfl (Mp.sz (by first | rfl | exact List.length_replicate | exact hI.stop)) (Mp.one _ _) rfl HeldL.nil ?_
    refine EPL.nil ?_
    refine EL.go ?_
    refine EL.ret ?_
    exact end_retP (vs := [msgV ({ Mp.nil m.kind with ver := m.ver, serv := m.serv, height := m.height, num := m.num } : Mp) Pl.nil]) [I] (fun hd => resL_one (rv_cellA (e := 27) (fr := (0, 0)) ag27 rfl (TakeP.sub (H := sg b2 (MsgB ({ Mp.nil m.kind with ver := m.ver, serv := m.serv, height := m.height, num := m.num } : Mp) Pl.nil)) hd b2 _ sg_self) (Mp.sz (by first | rfl | exact List.length_replicate | exact hI.stop)))) (fun _ => ⟨⟨Pl.nil, by rw [Mp.b1 k1]; rfl, by rw [Mp.b1 k1]; exact ⟨List.length_replicate, by simp, by simp, RdS.nil', RdS.nil'⟩⟩, rfl⟩)
  ·
    have c1 := of_decide_eq_false c1
    have k1 := c1
    refine EL.seq ?_
    refine EL.region (.p 0 (.p 1 (.nil))) (by kernel_rfl) ?_
    refine EPL.p rfl rfl (q_eql rfl rfl) ?_
    refine EPL.p rfl rfl (q_assign (v := .bool _) rfl) ?_
    refine EPL.nil ?_
    refine EL.go ?_
    refine EL.cond rfl (fun c2 => ?_) (fun c2 => ?_)
    ·
      have c2 := of_decide_eq_true c2
      have k3 := c2
      refine EL.draw (.p 0 (.l 1 (.p 2 (.l 3 (.p 4 (.l 5 (.p 6 (.x 7 [3, 5] (.p 8 (.x 9 [5] (.p 10 (.x 11 [] (.nil))))))))))))) [7, 9, 11] [1, 3, 5] fm (by kernel_rfl) ?_
      refine EPL.p rfl rfl (q_fieldAddr (p := ⟨_, _, none⟩) Tryz.underlying27 rfl sz3 rfl rfl) ?_
      refine EPL.ld1 (v := .int _ _) rfl rfl sc3 rfl rfl ?_
      refine EPL.p rfl rfl (q_fieldAddr (p := ⟨_, _, none⟩) Tryz.underlying27 rfl sz22 rfl rfl) ?_
      refine EPL.ld1 (v := .slice na m.names.length nc) rfl rfl sc22 rfl rfl ?_
      refine EPL.p rfl rfl (q_fieldAddr (p := ⟨_, _, none⟩) Tryz.underlying27 rfl sz24 rfl rfl) ?_
      refine EPL.ldAp (v := (m.stop.map bV).toArray) rfl rfl ag24 rfl (by rw [Mp.sz hI.stop]; exact Nat.le_of_ble_eq_true rfl) (Mp.x6 hI.stop) ?_
      refine EPL.p rfl rfl (q_fieldAddr (p := ⟨_, _, none⟩) Tryz.underlying27 rfl sz3 rfl rfl) ?_
      refine EPL.st (v := .int .i64 _) (c' := (({ Mp.nil m.kind with ver := m.ver } : Mp)).vals Pl.nil) rfl rfl sz3 rfl rfl rfl (oneV rfl) (by rw [Mp.sz (by first | rfl | exact List.length_replicate | exact hI.stop)]; exact Nat.le_of_ble_eq_true rfl) (Mp.set1 _ _ _) (HeldL.ld1 rfl rfl sc22 rfl rfl (HeldL.ldAp rfl rfl ag24 rfl (by rw [Mp.sz hI.stop]; exact Nat.le_of_ble_eq_true rfl) (congrArg Value.agg (Mp.x6 hI.stop)) HeldL.nil)) ?_
      refine EPL.p rfl rfl (q_fieldAddr (p := ⟨_, _, none⟩) Tryz.underlying27 rfl sz22 rfl rfl) ?_
      refine EPL.st (v := .slice na _ nc) (c' := (({ Mp.nil m.kind with ver := m.ver, names := m.names } : Mp)).vals ⟨na, nc, none, 0⟩) rfl rfl sz22 rfl rfl rfl (oneV rfl) (by rw [Mp.sz (by first | rfl | exact List.length_replicate | exact hI.stop)]; exact Nat.le_of_ble_eq_true rfl) (Mp.set5 _ _ _ _ _) (HeldL.ldAp rfl rfl ag24 rfl (by rw [Mp.sz hI.stop]; exact Nat.le_of_ble_eq_true rfl) (congrArg Value.agg (Mp.x6 hI.stop)) HeldL.nil) ?_
      refine EPL.p rfl rfl (q_fieldAddr (p := ⟨_, _, none⟩) Tryz.underlying27 rfl sz24 rfl rfl) ?_
      refine EPL.st (v := hashV m.stop) (c' := (({ Mp.nil m.kind with ver := m.ver, names := m.names, stop := m.stop } : Mp)).vals ⟨na, nc, none, 0⟩) rfl rfl sz24 rfl rfl (by simp [Value.cells, hI.stop]) (bvAll _) (by rw [Mp.sz (by first | rfl | exact List.length_replicate | exact hI.stop)]; exact Nat.le_of_ble_eq_true rfl) (Mp.set6 _ _ _ List.length_replicate hI.stop) HeldL.nil ?_
      refine EPL.nil ?_
      refine EL.go ?_
      refine EL.seq ?_
      refine EL.region (.l 0 (.x 1 [] (.nil))) (by kernel_rfl) ?_
      refine EPL.ldAw rfl rfl ag27 rfl (Mp.sz (by first | rfl | exact List.length_replicate | exact hI.stop)) ?_
      refine EPL.stA (v := ({ Mp.nil m.kind with ver := m.ver, names := m.names, stop := m.stop } : Mp).vals ⟨na, nc, none, 0⟩) rfl rfl sz27 rfl rfl (Mp.sz (by first | rfl | exact List.length_replicate | exact hI.stop)) (Mp.one _ _) rfl HeldL.nil ?_
      refine EPL.nil ?_
      refine EL.go ?_
      refine EL.ret ?_
      exact end_retP (vs := [msgV ({ Mp.nil m.kind with ver := m.ver, names := m.names, stop := m.stop } : Mp) ⟨na, nc, none, 0⟩]) [I] (fun hd => resL_one (rv_cellA (e := 27) (fr := (0, 0)) ag27 rfl (TakeP.sub (H := sg b2 (MsgB ({ Mp.nil m.kind with ver := m.ver, names := m.names, stop := m.stop } : Mp) ⟨na, nc, none, 0⟩)) hd b2 _ sg_self) (Mp.sz (by first | rfl | exact List.length_replicate | exact hI.stop)))) (fun _ => ⟨⟨⟨na, nc, none, 0⟩, by rw [Mp.b3 k1 k3]; rfl, by rw [Mp.b3 k1 k3]; exact ⟨hI.stop, hI.names, by simp, hI.rn, RdS.nil'⟩⟩, rfl⟩)
    ·
      have c2 := of_decide_eq_false c2
      have k3 := c2
      refine EL.seq ?_
      refine EL.region (.p 0 (.p 1 (.nil))) (by kernel_rfl) ?_
      refine EPL.p rfl rfl (q_eql rfl rfl) ?_
      refine EPL.p rfl rfl (q_assign (v := .bool _) rfl) ?_
      refine EPL.nil ?_
      refine EL.go ?_
      refine EL.cond rfl (fun c3 => ?_) (fun c3 => ?_)
      ·
        have c3 := of_decide_eq_true c3
        have k4 := c3
        refine EL.region (.p 0 (.l 1 (.p 2 (.x 3 [] (.nil))))) (by kernel_rfl) ?_
        refine EPL.p rfl rfl (q_fieldAddr (p := ⟨_, _, none⟩) Tryz.underlying27 rfl sz25 rfl rfl) ?_
        refine EPL.ld1 (v := .slice ha m.heads.length hc) rfl rfl sc25 rfl (Mp.c38 hI.stop) ?_
        refine EPL.p rfl rfl (q_fieldAddr (p := ⟨_, _, none⟩) Tryz.underlying27 rfl sz25 rfl rfl) ?_
        refine EPL.st (v := .slice ha _ hc) (c' := (({ Mp.nil m.kind with heads := m.heads } : Mp)).vals ⟨none, 0, ha, hc⟩) rfl rfl sz25 rfl rfl rfl (oneV rfl) (by rw [Mp.sz (by first | rfl | exact List.length_replicate | exact hI.stop)]; exact Nat.le_of_ble_eq_true rfl) (Mp.set38 _ _ _ _ _ List.length_replicate) HeldL.nil ?_
        refine EPL.nil ?_
        refine EL.go ?_
        refine EL.seq ?_
        refine EL.region (.l 0 (.x 1 [] (.nil))) (by kernel_rfl) ?_
        refine EPL.ldAw rfl rfl ag27 rfl (Mp.sz (by first | rfl | exact List.length_replicate | exact hI.stop)) ?_
        refine EPL.stA (v := ({ Mp.nil m.kind with heads := m.heads } : Mp).vals ⟨none, 0, ha, hc⟩) rfl rfl sz27 rfl rfl (Mp.sz (by first | rfl | exact List.length_replicate | exact hI.stop)) (Mp.one _ _) rfl HeldL.nil ?_
        refine EPL.nil ?_
        refine EL.go ?_
        refine EL.ret ?_
        exact end_retP (vs := [msgV ({ Mp.nil m.kind with heads := m.heads } : Mp) ⟨none, 0, ha, hc⟩]) [I] (fun hd => resL_one (rv_cellA (e := 27) (fr := (0, 0)) ag27 rfl (TakeP.sub (H := sg b2 (MsgB ({ Mp.nil m.kind with heads := m.heads } : Mp) ⟨none, 0, ha, hc⟩)) hd b2 _ sg_self) (Mp.sz (by first | rfl | exact List.length_replicate | exact hI.stop)))) (fun _ => ⟨⟨⟨none, 0, ha, hc⟩, by rw [Mp.b4 k1 k3 k4]; rfl, by rw [Mp.b4 k1 k3 k4]; exact ⟨List.length_replicate, by simp, hI.heads, RdS.nil', hI.rh⟩⟩, rfl⟩)
      ·
        have c3 := of_decide_eq_false c3
        have k4 := c3
        refine EL.seq ?_
        refine EL.region (.p 0 (.p 1 (.nil))) (by kernel_rfl) ?_
        refine EPL.p rfl rfl (q_eql rfl rfl) ?_
        refine EPL.p rfl rfl (q_assign (v := .bool _) rfl) ?_
        refine EPL.nil ?_
        refine EL.go ?_
        refine EL.cond rfl (fun c4 => ?_) (fun c4 => ?_)
        ·
          have c4 := of_decide_eq_true c4
          have k5 := c4
          refine EL.region (.p 0 (.l 1 (.p 2 (.x 3 [] (.nil))))) (by kernel_rfl) ?_
          refine EPL.p rfl rfl (q_fieldAddr (p := ⟨_, _, none⟩) Tryz.underlying27 rfl sz22 rfl rfl) ?_
          refine EPL.ld1 (v := .slice na m.names.length nc) rfl rfl sc22 rfl rfl ?_
          refine EPL.p rfl rfl (q_fieldAddr (p := ⟨_, _, none⟩) Tryz.underlying27 rfl sz22 rfl rfl) ?_
          refine EPL.st (v := .slice na _ nc) (c' := (({ Mp.nil m.kind with names := m.names } : Mp)).vals ⟨na, nc, none, 0⟩) rfl rfl sz22 rfl rfl rfl (oneV rfl) (by rw [Mp.sz (by first | rfl | exact List.length_replicate | exact hI.stop)]; exact Nat.le_of_ble_eq_true rfl) (Mp.set5 _ _ _ _ _) HeldL.nil ?_
          refine EPL.nil ?_
          refine EL.go ?_
          refine EL.seq ?_
          refine EL.region (.l 0 (.x 1 [] (.nil))) (by kernel_rfl) ?_
          refine EPL.ldAw rfl rfl ag27 rfl (Mp.sz (by first | rfl | exact List.length_replicate | exact hI.stop)) ?_
          refine EPL.stA (v := ({ Mp.nil m.kind with names := m.names } : Mp).vals ⟨na, nc, none, 0⟩) rfl rfl sz27 rfl rfl (Mp.sz (by first | rfl | exact List.length_replicate | exact hI.stop)) (Mp.one _ _) rfl HeldL.nil ?_
          refine EPL.nil ?_
          refine EL.go ?_
          refine EL.ret ?_
          exact end_retP (vs := [msgV ({ Mp.nil m.kind with names := m.names } : Mp) ⟨na, nc, none, 0⟩]) [I] (fun hd => resL_one (rv_cellA (e := 27) (fr := (0, 0)) ag27 rfl (TakeP.sub (H := sg b2 (MsgB ({ Mp.nil m.kind with names := m.names } : Mp) ⟨na, nc, none, 0⟩)) hd b2 _ sg_self) (Mp.sz (by first | rfl | exact List.length_replicate | exact hI.stop)))) (fun _ => ⟨⟨⟨na, nc, none, 0⟩, by rw [Mp.b5 k1 k3 k4 k5]; rfl, by rw [Mp.b5 k1 k3 k4 k5]; exact ⟨List.length_replicate, hI.names, by simp, hI.rn, RdS.nil'⟩⟩, rfl⟩)
        ·
          have c4 := of_decide_eq_false c4
          have k5 := c4
          refine EL.seq ?_
          refine EL.seq ?_
          refine EL.region (.p 0 (.p 1 (.nil))) (by kernel_rfl) ?_
          refine EPL.p rfl rfl (q_eql rfl rfl) ?_
          refine EPL.p rfl rfl (q_assign (v := .bool _) rfl) ?_
          refine EPL.nil ?_
          refine EL.go ?_
          refine EL.cond rfl (fun c5 => ?_) (fun c5 => ?_)
          ·
            have c5 := of_decide_eq_true c5
            have k6 := c5
            refine EL.skip ?_
            refine EL.go ?_
            refine EL.yes (congrArg Value.bool (decide_eq_true c5)) ?_
            refine EL.region (.p 0 (.l 1 (.p 2 (.x 3 [] (.nil))))) (by kernel_rfl) ?_
            refine EPL.p rfl rfl (q_fieldAddr (p := ⟨_, _, none⟩) Tryz.underlying27 rfl sz3 rfl rfl) ?_
            refine EPL.ld1 (v := .int _ _) rfl rfl sc3 rfl rfl ?_
            refine EPL.p rfl rfl (q_fieldAddr (p := ⟨_, _, none⟩) Tryz.underlying27 rfl sz3 rfl rfl) ?_
            refine EPL.st (v := .int .i64 _) (c' := (({ Mp.nil m.kind with num := m.num } : Mp)).vals Pl.nil) rfl rfl sz3 rfl rfl rfl (oneV rfl) (by rw [Mp.sz (by first | rfl | exact List.length_replicate | exact hI.stop)]; exact Nat.le_of_ble_eq_true rfl) (Mp.set4 _ _ _) HeldL.nil ?_
            refine EPL.nil ?_
            refine EL.go ?_
            refine EL.seq ?_
            refine EL.region (.l 0 (.x 1 [] (.nil))) (by kernel_rfl) ?_
            refine EPL.ldAw rfl rfl ag27 rfl (Mp.sz (by first | rfl | exact List.length_replicate | exact hI.stop)) ?_
            refine EPL.stA (v := ({ Mp.nil m.kind with num := m.num } : Mp).vals Pl.nil) rfl rfl sz27 rfl rfl (Mp.sz (by first | rfl | exact List.length_replicate | exact hI.stop)) (Mp.one _ _) rfl HeldL.nil ?_
            refine EPL.nil ?_
            refine EL.go ?_
            refine EL.ret ?_
            exact end_retP (vs := [msgV ({ Mp.nil m.kind with num := m.num } : Mp) Pl.nil]) [I] (fun hd => resL_one (rv_cellA (e := 27) (fr := (0, 0)) ag27 rfl (TakeP.sub (H := sg b2 (MsgB ({ Mp.nil m.kind with num := m.num } : Mp) Pl.nil)) hd b2 _ sg_self) (Mp.sz (by first | rfl | exact List.length_replicate | exact hI.stop)))) (fun _ => ⟨⟨Pl.nil, by rw [Mp.b6 k1 k3 k4 k5 (.inl k6)]; rfl, by rw [Mp.b6 k1 k3 k4 k5 (.inl k6)]; exact ⟨List.length_replicate, by simp, by simp, RdS.nil', RdS.nil'⟩⟩, rfl⟩)
          ·
            have c5 := of_decide_eq_false c5
            have k6 := c5
            refine EL.region (.p 0 (.p 1 (.nil))) (by kernel_rfl) ?_
            refine EPL.p rfl rfl (q_eql rfl rfl) ?_
            refine EPL.p rfl rfl (q_assign (v := .bool _) rfl) ?_
            refine EPL.nil ?_
            refine EL.go ?_
            refine EL.cond rfl (fun c6 => ?_) (fun c6 => ?_)
            ·
              have c6 := of_decide_eq_true c6
              have k7 := c6
              refine EL.region (.p 0 (.l 1 (.p 2 (.x 3 [] (.nil))))) (by kernel_rfl) ?_
              refine EPL.p rfl rfl (q_fieldAddr (p := ⟨_, _, none⟩) Tryz.underlying27 rfl sz3 rfl rfl) ?_
              refine EPL.ld1 (v := .int _ _) rfl rfl sc3 rfl rfl ?_
              refine EPL.p rfl rfl (q_fieldAddr (p := ⟨_, _, none⟩) Tryz.underlying27 rfl sz3 rfl rfl) ?_
              refine EPL.st (v := .int .i64 _) (c' := (({ Mp.nil m.kind with num := m.num } : Mp)).vals Pl.nil) rfl rfl sz3 rfl rfl rfl (oneV rfl) (by rw [Mp.sz (by first | rfl | exact List.length_replicate | exact hI.stop)]; exact Nat.le_of_ble_eq_true rfl) (Mp.set4 _ _ _) HeldL.nil ?_
              refine EPL.nil ?_
              refine EL.go ?_
              refine EL.seq ?_
              refine EL.region (.l 0 (.x 1 [] (.nil))) (by kernel_rfl) ?_
              refine EPL.ldAw rfl rfl ag27 rfl (Mp.sz (by first | rfl | exact List.length_replicate | exact hI.stop)) ?_
              refine EPL.stA (v := ({ Mp.nil m.kind with num := m.num } : Mp).vals Pl.nil) rfl rfl sz27 rfl rfl (Mp.sz (by first | rfl | exact List.length_replicate | exact hI.stop)) (Mp.one _ _) rfl HeldL.nil ?_
              refine EPL.nil ?_
              refine EL.go ?_
              refine EL.ret ?_
              exact end_retP (vs := [msgV ({ Mp.nil m.kind with num := m.num } : Mp) Pl.nil]) [I] (fun hd => resL_one (rv_cellA (e := 27) (fr := (0, 0)) ag27 rfl (TakeP.sub (H := sg b2 (MsgB ({ Mp.nil m.kind with num := m.num } : Mp) Pl.nil)) hd b2 _ sg_self) (Mp.sz (by first | rfl | exact List.length_replicate | exact hI.stop)))) (fun _ => ⟨⟨Pl.nil, by rw [Mp.b6 k1 k3 k4 k5 (.inr k7)]; rfl, by rw [Mp.b6 k1 k3 k4 k5 (.inr k7)]; exact ⟨List.length_replicate, by simp, by simp, RdS.nil', RdS.nil'⟩⟩, rfl⟩)
            ·
              have c6 := of_decide_eq_false c6
              have k7 := c6
              refine EL.skip ?_
              refine EL.go ?_
              refine EL.seq ?_
              refine EL.region (.l 0 (.x 1 [] (.nil))) (by kernel_rfl) ?_
              refine EPL.ldAw rfl rfl ag27 rfl (Mp.sz (by first | rfl | exact List.length_replicate | exact hI.stop)) ?_
              refine EPL.stA (v := (Mp.nil m.kind).vals Pl.nil) rfl rfl sz27 rfl rfl (Mp.sz (by first | rfl | exact List.length_replicate | exact hI.stop)) (Mp.one _ _) rfl HeldL.nil ?_
              refine EPL.nil ?_
              refine EL.go ?_
              refine EL.ret ?_
              exact end_retP (vs := [msgV (Mp.nil m.kind) Pl.nil]) [I] (fun hd => resL_one (rv_cellA (e := 27) (fr := (0, 0)) ag27 rfl (TakeP.sub (H := sg b2 (MsgB (Mp.nil m.kind) Pl.nil)) hd b2 _ sg_self) (Mp.sz (by first | rfl | exact List.length_replicate | exact hI.stop)))) (fun _ => ⟨⟨Pl.nil, by rw [Mp.b0 k1 k3 k4 k5 (fun h => h.elim k6 k7)]; rfl, by rw [Mp.b0 k1 k3 k4 k5 (fun h => h.elim k6 k7)]; exact ⟨List.length_replicate, by simp, by simp, RdS.nil', RdS.nil'⟩⟩, rfl⟩)

end Go.Proofs.YtedkoebbijpnfaaGreatDoor

namespace Go.Proofs.YtedkoebbijpnfaaGreatDoor
open Go Go.Proofs.YtedkoebbijpnfaaGreatDoor.TH
set_option maxHeartbeats 1000000

theorem eqgN : Tryz.prog.eqGuardType Tryz.prog.depth 24 = false := by kernel_rfl
theorem eqgH : Tryz.prog.eqGuardType Tryz.prog.depth 44 = false := by kernel_rfl
theorem heldH : Tryz.prog.stoodInHeld 44 = false := by kernel_rfl
theorem eqHash {H : Hp} {D : Nat} {x : List UInt8} (hx : x.length = 32) : quiet Tryz.prog H (Op.equalIn (D + 2) 24 (hashV x) (hashV x)) = some true := by
  have := q_equalArr (P := Tryz.prog) (H := H) (D := D) (xs := x.map fun y => (y.toNat : Int)) (ys := x.map fun y => (y.toNat : Int)) Tryz.underlying24 Tryz.underlying5 sz5 (by simp [hx]) (by simp [hx])
  rw [← bv_map, decide_eq_true rfl] at this
  exact this
theorem eqInt {H : Hp} {D : Nat} {n : Int} : quiet Tryz.prog H (Op.equalIn (D + 1) 3 (.int .i64 n) (.int .i64 n)) = some true := by
  rw [q_equalInt Tryz.underlying3]; simp
theorem eqHd {H : Hp} {h : Hd} (hh : h.ok) : quiet Tryz.prog H (Op.equalIn 10000 44 (.agg h.cells.toArray) (.agg h.cells.toArray)) = some true := by
  have hN : ∀ (off : Nat) (x : List UInt8), x.length = 32 → h.cells.toArray.extract off (off + 32) = (x.map bV).toArray → ∃ u w, quiet Tryz.prog H (part 24 h.cells.toArray off) = some u ∧ quiet Tryz.prog H (part 24 h.cells.toArray off) = some w ∧ quiet Tryz.prog H (Op.equalIn 9999 24 u w) = some true := fun off x hx he =>
    ⟨hashV x, hashV x, (q_partA ag24).trans (congrArg (fun c => some (Value.agg c)) he), (q_partA ag24).trans (congrArg (fun c => some (Value.agg c)) he), eqHash hx⟩
  have hI : ∀ (off : Nat) (n : Int), h.cells.toArray[off]? = some (.int .i64 n) → ∃ u w, quiet Tryz.prog H (part 3 h.cells.toArray off) = some u ∧ quiet Tryz.prog H (part 3 h.cells.toArray off) = some w ∧ quiet Tryz.prog H (Op.equalIn 9999 3 u w) = some true := fun off n he =>
    ⟨.int .i64 n, .int .i64 n, q_part1 sc3 he, q_part1 sc3 he, eqInt⟩
  have := q_equalStr (P := Tryz.prog) (H := H) (D := 9999) (xs := h.cells.toArray) (ys := h.cells.toArray) Tryz.underlying44 heldH (by kernel_rfl) (fun _ => true) (by
    intro f hm
    simp only [List.mem_cons, List.not_mem_nil, or_false] at hm
    rcases hm with rfl | rfl | rfl | rfl | rfl | rfl
    · exact hI 0 _ (Hd.c0 h)
    · exact hN 1 _ hh.1 (Hd.x1 hh)
    · exact hN 33 _ hh.2 (Hd.x33 hh)
    · exact hI 65 _ (Hd.c65 hh)
    · exact hI 66 _ (Hd.c66 hh)
    · exact hI 67 _ (Hd.c67 hh))
  rw [this]; rfl
theorem q_neqSame {P : Program} {H : Hp} {ρ : Operand → Value} {d : Option Nat} {ty : TypeId} {pos : String} {af : Array Edge} {g : Option (Nat × Bool)} {T T2 : TypeId} {x y : Operand} {a : Array Value} (hg : P.eqGuardType P.depth T = false) (hx : ρ x = .agg a) (hy : ρ y = .agg a) (he : quiet P H (Op.equalIn 10000 T (.agg a) (.agg a)) = some true) :
    quiet P H (execOp ρ ⟨d, .binOp .neq T x y T2, ty, pos, af, g⟩) = some (.value (.bool (decide (¬ True)))) := by
  have := q_neqOf (ρ := ρ) (d := d) (ty := ty) (pos := pos) (af := af) (g := g) (T2 := T2) hg hx hy he
  rw [this]; rfl
theorem q_eqlSame {P : Program} {H : Hp} {ρ : Operand → Value} {d : Option Nat} {ty : TypeId} {pos : String} {af : Array Edge} {g : Option (Nat × Bool)} {T T2 : TypeId} {x y : Operand} {a : Array Value} (hg : P.eqGuardType P.depth T = false) (hx : ρ x = .agg a) (hy : ρ y = .agg a) (he : quiet P H (Op.equalIn 10000 T (.agg a) (.agg a)) = some true) :
    quiet P H (execOp ρ ⟨d, .binOp .eql T x y T2, ty, pos, af, g⟩) = some (.value (.bool (decide True))) := by
  have := q_eqlOf (ρ := ρ) (d := d) (ty := ty) (pos := pos) (af := af) (g := g) (T2 := T2) hg hx hy he
  rw [this]; rfl

theorem EqualN_spec (la lb : Option Addr) (lc ld : Nat) (l : List (List UInt8)) (I J : Hp) (hw : ∀ h ∈ l, h.length = 32) (hI : RdS 32 (.slice la l.length lc) l.length (l.flatMap (fun h : List UInt8 => h.map bV)) I) (hJ : RdS 32 (.slice lb l.length ld) l.length (l.flatMap (fun h : List UInt8 => h.map bV)) J) : CallL Tryz.prog 38 [.slice la l.length lc, .slice lb l.length ld] [I, J] (fun r Hs' => r = .bool true ∧ Hs' = [I, J]) := by
  refine CallL.enter Tryz.func38 Tryz.ntmps38 rfl rfl rfl ?_
  have hmx := hI.2.1
  refine EL.seq ?_
  refine EL.region (.p 0 (.nil)) (by kernel_rfl) ?_
  refine EPL.p rfl rfl (q_assign (v := .bool _) rfl) ?_
  refine EPL.nil ?_
  refine EL.go ?_
  refine EL.seq ?_
  refine EL.seq ?_
  refine EL.region (.p 0 (.p 1 (.p 2 (.p 3 (.p 4 (.nil)))))) (by kernel_rfl) ?_
  refine EPL.p rfl rfl (q_move (v := .slice _ _ _) rfl) ?_
  refine EPL.p rfl rfl (q_lenSl Tryz.underlying22 rfl) ?_
  refine EPL.p rfl rfl (q_move (v := .slice _ _ _) rfl) ?_
  refine EPL.p rfl rfl (q_lenSl Tryz.underlying22 rfl) ?_
  refine EPL.p rfl rfl (q_neq rfl rfl) ?_
  refine EPL.nil ?_
  refine EL.go ?_
  refine EL.cond rfl (fun c1 => ?_) (fun c1 => ?_)
  ·
    have c1 := of_decide_eq_true c1
    exact absurd rfl c1
  ·
    have c1 := of_decide_eq_false c1
    refine EL.skip ?_
    refine EL.go ?_
    refine EL.seq ?_
    refine EL.seq ?_
    refine EL.region (.p 0 (.p 1 (.p 2 (.nil)))) (by kernel_rfl) ?_
    refine EPL.p rfl rfl (q_move (v := .slice _ _ _) rfl) ?_
    refine EPL.p rfl rfl (q_lenSl Tryz.underlying22 rfl) ?_
    refine EPL.p rfl rfl (q_move (v := .int _ _) rfl) ?_
    refine EPL.nil ?_
    refine EL.go ?_
    refine EL.block ?_
    refine EL.loop [4, 5, 13, 14, 15, 16, 17, 18, 19, 20, 21, 22, 23, 24, 25] (fun i : Nat => [(13, .int .i64 i)]) (fun m i Hs' => m + i = l.length ∧ Hs' = [I, J]) l.length 0 ⟨by omega, rfl⟩ ⟨rfl, trivial⟩ ?_
    rintro m i _ j ⟨hm, rfl⟩
    refine EL.seq ?_
    refine EL.region (.p 0 (.nil)) (by kernel_rfl) ?_
    refine EPL.p rfl rfl (q_lss rfl rfl) ?_
    refine EPL.nil ?_
    refine EL.go ?_
    refine EL.seq ?_
    refine EL.cond rfl (fun c2 => ?_) (fun c2 => ?_)
    ·
      have c2 := of_decide_eq_true c2
      obtain ⟨x, hx⟩ : ∃ x, l[i]? = some x := ⟨_, List.getElem?_eq_getElem (by omega)⟩
      have hxo := hw x (List.mem_of_getElem? hx)
      obtain ⟨b, off, cap, cc, ety, fr, he, hbI, hcs, hcc⟩ := hI.getA (f := (fun h : List UInt8 => h.map bV)) (fun y hy => by rw [List.length_map]; exact hw y hy) hx
      obtain ⟨rfl, rfl⟩ : la = some ⟨b, off, none⟩ ∧ lc = cap := by simpa using he
      obtain ⟨b', off', cap', cc', ety', fr', he', hbJ, hcs', hcc'⟩ := hJ.getA (f := (fun h : List UInt8 => h.map bV)) (fun y hy => by rw [List.length_map]; exact hw y hy) hx
      obtain ⟨rfl, rfl⟩ : lb = some ⟨b', off', none⟩ ∧ ld = cap' := by simpa using he'
      refine EL.skip ?_
      refine EL.go ?_
      refine EL.seq ?_
      refine EL.block ?_
      refine EL.seq ?_
      refine EL.region (.p 0 (.p 1 (.nil))) (by kernel_rfl) ?_
      refine EPL.p rfl rfl (q_move (v := .int _ _) rfl) ?_
      refine EPL.p rfl rfl (q_assign (v := .int _ _) rfl) ?_
      refine EPL.nil ?_
      refine EL.go ?_
      refine EL.seq ?_
      refine EL.draw (.p 0 (.p 1 (.p 2 (.l 3 (.p 4 (.p 5 (.p 6 (.l 7 (.p 8 (.nil)))))))))) [] [3, 7] fm (by kernel_rfl) ?_
      refine EPL.p rfl rfl (q_move (v := .slice _ _ _) rfl) ?_
      refine EPL.p rfl rfl (q_move (v := .int _ _) rfl) ?_
      refine EPL.p rfl rfl (q_idxSl Tryz.underlying22 sz24 rfl rfl (by omega) (by omega)) ?_
      refine EPL.ldAP (v := .agg (x.map bV).toArray) rfl rfl ag24 rfl hbI (by simpa using hcs) (congrArg Value.agg (by simpa using hcc)) ?_
      refine EPL.p rfl rfl (q_move (v := .slice _ _ _) rfl) ?_
      refine EPL.p rfl rfl (q_move (v := .int _ _) rfl) ?_
      refine EPL.p rfl rfl (q_idxSl Tryz.underlying22 sz24 rfl rfl (by omega) (by omega)) ?_
      refine EPL.ldAP (v := .agg (x.map bV).toArray) rfl rfl ag24 rfl hbJ (by simpa using hcs') (congrArg Value.agg (by simpa using hcc')) ?_
      refine EPL.p rfl rfl (q_neqSame eqgN rfl rfl (eqHash hxo)) ?_
      refine EPL.nil ?_
      refine EL.go ?_
      refine EL.cond rfl (fun c3 => ?_) (fun c3 => ?_)
      ·
        have c3 := of_decide_eq_true c3
        exact absurd trivial c3
      ·
        have c3 := of_decide_eq_false c3
        refine EL.skip ?_
        refine EL.go ?_
        refine EL.region (.p 0 (.p 1 (.nil))) (by kernel_rfl) ?_
        refine EPL.p rfl rfl (q_add rfl rfl) ?_
        refine EPL.p rfl rfl (q_move (v := .int _ _) rfl) ?_
        refine EPL.nil ?_
        refine RoundQ.mk (m - 1) (i + 1) (by omega) ⟨by omega, rfl⟩ (by repeat first | refine Off.upd rfl ?_ | exact Off.mix | refine Off.upds rfl ?_ | refine Off.mixs rfl ?_ | exact Off.refl) ⟨congrArg (Value.int .i64) (wrap_i64_in (by omega)), trivial⟩
    ·
      have c2 := of_decide_eq_false c2
      refine EL.exit ?_
      refine EL.go ?_
      refine EL.seq ?_
      refine EL.region (.p 0 (.nil)) (by kernel_rfl) ?_
      refine EPL.p rfl rfl (q_assign (v := .bool _) rfl) ?_
      refine EPL.nil ?_
      refine EL.go ?_
      refine EL.ret ?_
      exact end_ret (fun _ => rfl) (fun _ => ⟨rfl, rfl⟩)

theorem EqualH_spec (la lb : Option Addr) (lc ld : Nat) (l : List Hd) (I J : Hp) (hw : ∀ h ∈ l, h.ok) (hI : RdS 68 (.slice la l.length lc) l.length (l.flatMap Hd.cells) I) (hJ : RdS 68 (.slice lb l.length ld) l.length (l.flatMap Hd.cells) J) : CallL Tryz.prog 39 [.slice la l.length lc, .slice lb l.length ld] [I, J] (fun r Hs' => r = .bool true ∧ Hs' = [I, J]) := by
  refine CallL.enter Tryz.func39 Tryz.ntmps39 rfl rfl rfl ?_
  have hmx := hI.2.1
  refine EL.seq ?_
  refine EL.region (.p 0 (.nil)) (by kernel_rfl) ?_
  refine EPL.p rfl rfl (q_assign (v := .bool _) rfl) ?_
  refine EPL.nil ?_
  refine EL.go ?_
  refine EL.seq ?_
  refine EL.seq ?_
  refine EL.region (.p 0 (.p 1 (.p 2 (.p 3 (.p 4 (.nil)))))) (by kernel_rfl) ?_
  refine EPL.p rfl rfl (q_move (v := .slice _ _ _) rfl) ?_
  refine EPL.p rfl rfl (q_lenSl Tryz.underlying25 rfl) ?_
  refine EPL.p rfl rfl (q_move (v := .slice _ _ _) rfl) ?_
  refine EPL.p rfl rfl (q_lenSl Tryz.underlying25 rfl) ?_
  refine EPL.p rfl rfl (q_neq rfl rfl) ?_
  refine EPL.nil ?_
  refine EL.go ?_
  refine EL.cond rfl (fun c1 => ?_) (fun c1 => ?_)
  ·
    have c1 := of_decide_eq_true c1
    exact absurd rfl c1
  ·
    have c1 := of_decide_eq_false c1
    refine EL.skip ?_
    refine EL.go ?_
    refine EL.seq ?_
    refine EL.seq ?_
    refine EL.region (.p 0 (.p 1 (.p 2 (.nil)))) (by kernel_rfl) ?_
    refine EPL.p rfl rfl (q_move (v := .slice _ _ _) rfl) ?_
    refine EPL.p rfl rfl (q_lenSl Tryz.underlying25 rfl) ?_
    refine EPL.p rfl rfl (q_move (v := .int _ _) rfl) ?_
    refine EPL.nil ?_
    refine EL.go ?_
    refine EL.block ?_
    refine EL.loop [4, 5, 13, 14, 15, 16, 17, 18, 19, 20, 21, 22, 23, 24, 25] (fun i : Nat => [(13, .int .i64 i)]) (fun m i Hs' => m + i = l.length ∧ Hs' = [I, J]) l.length 0 ⟨by omega, rfl⟩ ⟨rfl, trivial⟩ ?_
    rintro m i _ j ⟨hm, rfl⟩
    refine EL.seq ?_
    refine EL.region (.p 0 (.nil)) (by kernel_rfl) ?_
    refine EPL.p rfl rfl (q_lss rfl rfl) ?_
    refine EPL.nil ?_
    refine EL.go ?_
    refine EL.seq ?_
    refine EL.cond rfl (fun c2 => ?_) (fun c2 => ?_)
    ·
      have c2 := of_decide_eq_true c2
      obtain ⟨x, hx⟩ : ∃ x, l[i]? = some x := ⟨_, List.getElem?_eq_getElem (by omega)⟩
      have hxo := hw x (List.mem_of_getElem? hx)
      obtain ⟨b, off, cap, cc, ety, fr, he, hbI, hcs, hcc⟩ := hI.getA (f := Hd.cells) (fun y hy => Hd.len (hw y hy)) hx
      obtain ⟨rfl, rfl⟩ : la = some ⟨b, off, none⟩ ∧ lc = cap := by simpa using he
      obtain ⟨b', off', cap', cc', ety', fr', he', hbJ, hcs', hcc'⟩ := hJ.getA (f := Hd.cells) (fun y hy => Hd.len (hw y hy)) hx
      obtain ⟨rfl, rfl⟩ : lb = some ⟨b', off', none⟩ ∧ ld = cap' := by simpa using he'
      refine EL.skip ?_
      refine EL.go ?_
      refine EL.seq ?_
      refine EL.block ?_
      refine EL.seq ?_
      refine EL.region (.p 0 (.p 1 (.nil))) (by kernel_rfl) ?_
      refine EPL.p rfl rfl (q_move (v := .int _ _) rfl) ?_
      refine EPL.p rfl rfl (q_assign (v := .int _ _) rfl) ?_
      refine EPL.nil ?_
      refine EL.go ?_
      refine EL.seq ?_
      refine EL.draw (.p 0 (.p 1 (.p 2 (.l 3 (.p 4 (.p 5 (.p 6 (.l 7 (.p 8 (.nil)))))))))) [] [3, 7] fm (by kernel_rfl) ?_
      refine EPL.p rfl rfl (q_move (v := .slice _ _ _) rfl) ?_
      refine EPL.p rfl rfl (q_move (v := .int _ _) rfl) ?_
      refine EPL.p rfl rfl (q_idxSl Tryz.underlying25 sz44 rfl rfl (by omega) (by omega)) ?_
      refine EPL.ldAP (v := .agg x.cells.toArray) rfl rfl ag44 rfl hbI (by simpa using hcs) (congrArg Value.agg (by simpa using hcc)) ?_
      refine EPL.p rfl rfl (q_move (v := .slice _ _ _) rfl) ?_
      refine EPL.p rfl rfl (q_move (v := .int _ _) rfl) ?_
      refine EPL.p rfl rfl (q_idxSl Tryz.underlying25 sz44 rfl rfl (by omega) (by omega)) ?_
      refine EPL.ldAP (v := .agg x.cells.toArray) rfl rfl ag44 rfl hbJ (by simpa using hcs') (congrArg Value.agg (by simpa using hcc')) ?_
      refine EPL.p rfl rfl (q_neqSame eqgH rfl rfl (eqHd hxo)) ?_
      refine EPL.nil ?_
      refine EL.go ?_
      refine EL.cond rfl (fun c3 => ?_) (fun c3 => ?_)
      ·
        have c3 := of_decide_eq_true c3
        exact absurd trivial c3
      ·
        have c3 := of_decide_eq_false c3
        refine EL.skip ?_
        refine EL.go ?_
        refine EL.region (.p 0 (.p 1 (.nil))) (by kernel_rfl) ?_
        refine EPL.p rfl rfl (q_add rfl rfl) ?_
        refine EPL.p rfl rfl (q_move (v := .int _ _) rfl) ?_
        refine EPL.nil ?_
        refine RoundQ.mk (m - 1) (i + 1) (by omega) ⟨by omega, rfl⟩ (by repeat first | refine Off.upd rfl ?_ | exact Off.mix | refine Off.upds rfl ?_ | refine Off.mixs rfl ?_ | exact Off.refl) ⟨congrArg (Value.int .i64) (wrap_i64_in (by omega)), trivial⟩
    ·
      have c2 := of_decide_eq_false c2
      refine EL.exit ?_
      refine EL.go ?_
      refine EL.seq ?_
      refine EL.region (.p 0 (.nil)) (by kernel_rfl) ?_
      refine EPL.p rfl rfl (q_assign (v := .bool _) rfl) ?_
      refine EPL.nil ?_
      refine EL.go ?_
      refine EL.ret ?_
      exact end_ret (fun _ => rfl) (fun _ => ⟨rfl, rfl⟩)

end Go.Proofs.YtedkoebbijpnfaaGreatDoor

namespace Go.Proofs.YtedkoebbijpnfaaGreatDoor
open Go Go.Proofs.YtedkoebbijpnfaaGreatDoor.TH
set_option maxHeartbeats 1000000

theorem word_ok {k : Int} (h : 1 ≤ k ∧ k ≤ 8) : wordOK (wordR k) := by
  have h8 : k = 1 ∨ k = 2 ∨ k = 3 ∨ k = 4 ∨ k = 5 ∨ k = 6 ∨ k = 7 ∨ k = 8 := by omega
  rcases h8 with rfl | rfl | rfl | rfl | rfl | rfl | rfl | rfl <;> decide
theorem pay_len {m : Mp} (hw : Wf m) (hg : m.Good) : m.pay.length ≤ 16384 := by
  rcases kinds (good_kind hg) with h | h | h | h | h | h
  · rw [Mp.p1 h]; simp only [List.length_append, leB_length]; omega
  · have hg3 := ((Mp.g3 (by omega) h).1 hg).2
    have hf := flatten_le hw.2.1
    have hr := refCnt_le m.names.length
    rw [Mp.p3 (by omega) h]; simp only [List.length_append, leB_length, hw.1]; omega
  · have hg4 := ((Mp.g4 (by omega) (by omega) h).1 hg).1
    have hf := flat_bnd (f := fun h => hdB h ++ [0]) (k := 81) (l := m.heads) (fun y hy => by rw [List.length_append, hdB_len (hw.2.2 y hy)]; decide)
    have hr := refCnt_le m.heads.length
    rw [Mp.p4 (by omega) (by omega) h]; simp only [List.length_append]; omega
  · have hg5 := (Mp.g5 (by omega) (by omega) (by omega) h).1 hg
    have hf := flat_bnd (f := fun h => [2, 0, 0, 0] ++ h) (k := 36) (l := m.names) (fun y hy => by rw [List.length_append, hw.2.1 y hy]; decide)
    have hr := refCnt_le m.names.length
    rw [Mp.p5 (by omega) (by omega) (by omega) h]; simp only [List.length_append]; omega
  · rw [Mp.p6 (by omega) (by omega) (by omega) (by omega) h, leB_length]; decide
  · rw [Mp.p0 (by omega) (by omega) (by omega) (by omega) (by omega)]; decide
theorem Mp.ext {m : Mp} {p : Pl} (h : m.stop.length = 32) : (m.vals p).extract 0 (0 + 39) = m.vals p := by
  have := Mp.sz (m := m) (p := p) h
  rw [Nat.zero_add, ← this]; simp

theorem SBytes_spec (m : Mp) (p : Pl) (G : Hp) (hI : m.In p G) (hG : GS G) (hT : GT G) (hW : GW G) : CallL Tryz.prog 7 [msgV m p] [G] (fun r Hs' => ((m.Good ∧ r = .tuple #[str (envB (wordR m.kind) m.pay), .int .i64 0]) ∨ (¬ m.Good ∧ r = .tuple #[str [], .int .i64 1])) ∧ Hs' = [G]) := by
  refine CallL.enter Tryz.func7 Tryz.ntmps7 rfl rfl rfl ?_
  refine EL.seq ?_
  refine EL.region (.x 0 [] (.p 1 (.p 2 (.nil)))) (by kernel_rfl) ?_
  refine EPL.box (c := m.vals p) rfl rfl rfl (fun _ => HeldL.nil) (fun b1 => ?_)
  refine EPL.p rfl rfl (q_assign (v := .string _) rfl) ?_
  refine EPL.p rfl rfl (q_assign (v := .int _ _) rfl) ?_
  refine EPL.nil ?_
  refine EL.go ?_
  refine EL.seq ?_
  refine EL.seq ?_
  refine EL.region (.l 0 (.x 1 [] (.p 2 (.nil)))) (by kernel_rfl) ?_
  refine EPL.ldAw rfl rfl ag27 rfl (Mp.sz hI.stop) ?_
  refine EPL.cl rfl rfl Tryz.func8 rfl rfl (SGood_spec m p G hI) rfl ?_
  rintro _ _ ⟨rfl, rfl⟩
  refine ⟨HeldL.nil, ?_⟩
  refine EPL.p rfl rfl (q_not rfl) ?_
  refine EPL.nil ?_
  refine EL.go ?_
  refine EL.cond rfl (fun c1 => ?_) (fun c1 => ?_)
  ·
    have hgo : ¬ m.Good := by simpa using c1
    refine EL.seq ?_
    refine EL.region (.p 0 (.p 1 (.nil))) (by kernel_rfl) ?_
    refine EPL.p rfl rfl (q_assign (v := .string _) rfl) ?_
    refine EPL.p rfl rfl (q_assign (v := .int _ _) rfl) ?_
    refine EPL.nil ?_
    refine EL.go ?_
    refine EL.ret ?_
    exact end_retP [G] (fun _ => rfl) (fun _ => ⟨.inr ⟨hgo, rfl⟩, rfl⟩)
  ·
    have hgo : m.Good := by simpa using c1
    refine EL.skip ?_
    refine EL.go ?_
    refine EL.seq ?_
    refine EL.draw (.p 0 (.l 1 (.l 3 (.x 2 [3] (.x 4 [] (.p 5 (.x 6 [] (.p 7 (.p 8 (.p 9 (.p 10 (.nil)))))))))))) [2, 4, 6] [1, 3] fm (by kernel_rfl) ?_
    refine EPL.p rfl rfl (q_fieldAddr (p := ⟨_, _, none⟩) Tryz.underlying27 rfl sz3 rfl rfl) ?_
    refine EPL.ld1 (v := .int _ _) rfl rfl sc3 rfl rfl ?_
    refine EPL.ldAw rfl rfl ag27 rfl (Mp.sz hI.stop) ?_
    refine EPL.cl rfl rfl Tryz.func18 rfl rfl (SWord_spec m.kind G hW) rfl ?_
    rintro _ _ ⟨rfl, rfl⟩
    refine ⟨(HeldL.ldAp rfl rfl ag27 rfl (by rw [Mp.sz hI.stop]; exact Nat.le_of_ble_eq_true rfl) (congrArg Value.agg (Mp.ext hI.stop)) HeldL.nil), ?_⟩
    refine EPL.cl rfl rfl Tryz.func19 rfl rfl (SPay_spec m p G hI hgo) rfl ?_
    rintro _ _ ⟨rfl, rfl⟩
    refine ⟨HeldL.nil, ?_⟩
    refine EPL.p rfl rfl (q_build (cells := #[str (wordR m.kind), str m.pay]) pl38 el38 (.cons rfl rfl (Nat.le_of_ble_eq_true rfl) rfl (.cons rfl rfl (Nat.le_of_ble_eq_true rfl) rfl .nil))) ?_
    refine EPL.cl rfl rfl Tryz.func17 rfl rfl (EBytes_spec (wordR m.kind) m.pay G hG hT (word_ok (good_kind hgo)) (pay_len hI.wf hgo)) rfl ?_
    rintro _ _ ⟨rfl, rfl⟩
    refine ⟨HeldL.nil, ?_⟩
    refine EPL.p rfl rfl (q_extract (v := .string _) rfl rfl) ?_
    refine EPL.p rfl rfl (q_extract (v := .int _ _) rfl rfl) ?_
    refine EPL.p rfl rfl (q_assign (v := .string _) rfl) ?_
    refine EPL.p rfl rfl (q_assign (v := .int _ _) rfl) ?_
    refine EPL.nil ?_
    refine EL.go ?_
    refine EL.ret ?_
    exact end_retP [G] (fun _ => rfl) (fun _ => ⟨.inl ⟨hgo, rfl⟩, rfl⟩)

end Go.Proofs.YtedkoebbijpnfaaGreatDoor

namespace Go.Proofs.YtedkoebbijpnfaaGreatDoor
open Go Go.Proofs.YtedkoebbijpnfaaGreatDoor.TH
set_option maxHeartbeats 1000000

theorem BareX_spec (m x : Mp) (p : Pl) (I : Hp) (hI : m.In p I) (hx : m.bare = x) : CallL Tryz.prog 37 [msgV m p] [I] (fun r Hs' => (∃ p', r = msgV x p' ∧ x.In p' I) ∧ Hs' = [I]) := by
  subst hx; exact Bare_spec m p I hI

theorem Same_spec (a b : Mp) (p q : Pl) (I J : Hp) (hI : a.In p I) (hJ : b.In q J) (hab : a.bare = b.bare) : CallL Tryz.prog 13 [msgV a p, msgV b q] [I, J] (fun r Hs' => r = .bool true ∧ Hs' = [I, J]) := by
  refine CallL.enter Tryz.func13 Tryz.ntmps13 rfl rfl rfl ?_
  obtain ⟨x, hx⟩ : ∃ x, b.bare = x := ⟨_, rfl⟩
  refine EL.seq ?_
  refine EL.region (.x 0 [] (.x 1 [] (.p 2 (.nil)))) (by kernel_rfl) ?_
  refine EPL.box (c := a.vals p) rfl rfl rfl (fun _ => HeldL.nil) (fun b1 => ?_)
  refine EPL.box (c := b.vals q) rfl rfl rfl (fun _ => HeldL.nil) (fun b2 => ?_)
  refine EPL.p rfl rfl (q_assign (v := .bool _) rfl) ?_
  refine EPL.nil ?_
  refine EL.go ?_
  refine EL.seq ?_
  refine EL.draw (.l 0 (.l 2 (.x 1 [2] (.x 3 [] (.x 4 [] (.x 5 [] (.nil))))))) [1, 3, 4, 5] [0, 2] fm (by kernel_rfl) ?_
  refine EPL.ldAw rfl rfl ag27 rfl (Mp.sz hI.stop) ?_
  refine EPL.ldAw rfl rfl ag27 rfl (Mp.sz hJ.stop) ?_
  refine EPL.cl rfl rfl Tryz.func37 rfl rfl (BareX_spec a x p I hI (hab.trans hx)) rfl ?_
  rintro _ _ ⟨⟨⟨na1, nc1, ha1, hc1⟩, rfl, h1⟩, rfl⟩
  refine ⟨(HeldL.ldAp rfl rfl ag27 rfl (by rw [Mp.sz hJ.stop]; exact Nat.le_of_ble_eq_true rfl) (congrArg Value.agg (Mp.ext hJ.stop)) HeldL.nil), ?_⟩
  refine EPL.cl rfl rfl Tryz.func37 rfl rfl (BareX_spec b x q J hJ hx) rfl ?_
  rintro _ _ ⟨⟨⟨na2, nc2, ha2, hc2⟩, rfl, h2⟩, rfl⟩
  refine ⟨HeldL.nil, ?_⟩
  refine EPL.stA (v := x.vals ⟨na1, nc1, ha1, hc1⟩) rfl rfl sz27 rfl rfl (Mp.sz h1.stop) (Mp.one _ _) (Mp.sz hI.stop) HeldL.nil ?_
  refine EPL.stA (v := x.vals ⟨na2, nc2, ha2, hc2⟩) rfl rfl sz27 rfl rfl (Mp.sz h2.stop) (Mp.one _ _) (Mp.sz hJ.stop) HeldL.nil ?_
  refine EPL.nil ?_
  refine EL.go ?_
  refine EL.seq ?_
  refine EL.region (.p 0 (.l 1 (.p 2 (.l 3 (.p 4 (.p 5 (.p 6 (.l 7 (.p 8 (.l 9 (.p 10 (.p 11 (.p 12 (.p 13 (.l 14 (.p 15 (.l 16 (.p 17 (.p 18 (.p 19 (.p 20 (.l 21 (.p 22 (.l 23 (.p 24 (.p 25 (.p 26 (.p 27 (.l 28 (.p 29 (.l 30 (.p 31 (.p 32 (.p 33 (.p 34 (.l 35 (.p 36 (.l 37 (.p 38 (.p 39 (.p 40 (.p 41 (.l 42 (.p 43 (.l 44 (.x 45 [] (.p 46 (.p 47 (.p 48 (.l 49 (.p 50 (.l 51 (.x 52 [] (.p 53 (.p 54 (.nil)))))))))))))))))))))))))))))))))))))))))))))))))))))))) (by kernel_rfl) ?_
  refine EPL.p rfl rfl (q_fieldAddr (p := ⟨_, _, none⟩) Tryz.underlying27 rfl sz3 rfl rfl) ?_
  refine EPL.ld1 (v := .int _ _) rfl rfl sc3 rfl rfl ?_
  refine EPL.p rfl rfl (q_fieldAddr (p := ⟨_, _, none⟩) Tryz.underlying27 rfl sz3 rfl rfl) ?_
  refine EPL.ld1 (v := .int _ _) rfl rfl sc3 rfl rfl ?_
  refine EPL.p rfl rfl (q_eql rfl rfl) ?_
  refine EPL.p rfl rfl (q_move (v := .bool _) rfl) ?_
  refine EPL.bool 14 rfl (fun c1 => ?_) (fun c1 => ?_)
  ·
    have c1 := of_decide_eq_true c1
    refine EPL.p rfl rfl (q_fieldAddr (p := ⟨_, _, none⟩) Tryz.underlying27 rfl sz3 rfl rfl) ?_
    refine EPL.ld1 (v := .int _ _) rfl rfl sc3 rfl rfl ?_
    refine EPL.p rfl rfl (q_fieldAddr (p := ⟨_, _, none⟩) Tryz.underlying27 rfl sz3 rfl rfl) ?_
    refine EPL.ld1 (v := .int _ _) rfl rfl sc3 rfl rfl ?_
    refine EPL.p rfl rfl (q_eql rfl rfl) ?_
    refine EPL.p rfl rfl (q_pickT (v := .bool _) rfl rfl) ?_
    refine EPL.p rfl rfl (q_move (v := .bool _) rfl) ?_
    refine EPL.bool 21 rfl (fun c2 => ?_) (fun c2 => ?_)
    ·
      have c2 := of_decide_eq_true c2
      refine EPL.p rfl rfl (q_fieldAddr (p := ⟨_, _, none⟩) Tryz.underlying27 rfl sz3 rfl rfl) ?_
      refine EPL.ld1 (v := .int _ _) rfl rfl sc3 rfl rfl ?_
      refine EPL.p rfl rfl (q_fieldAddr (p := ⟨_, _, none⟩) Tryz.underlying27 rfl sz3 rfl rfl) ?_
      refine EPL.ld1 (v := .int _ _) rfl rfl sc3 rfl rfl ?_
      refine EPL.p rfl rfl (q_eql rfl rfl) ?_
      refine EPL.p rfl rfl (q_pickT (v := .bool _) rfl rfl) ?_
      refine EPL.p rfl rfl (q_move (v := .bool _) rfl) ?_
      refine EPL.bool 28 rfl (fun c3 => ?_) (fun c3 => ?_)
      ·
        have c3 := of_decide_eq_true c3
        refine EPL.p rfl rfl (q_fieldAddr (p := ⟨_, _, none⟩) Tryz.underlying27 rfl sz3 rfl rfl) ?_
        refine EPL.ld1 (v := .int _ _) rfl rfl sc3 rfl rfl ?_
        refine EPL.p rfl rfl (q_fieldAddr (p := ⟨_, _, none⟩) Tryz.underlying27 rfl sz3 rfl rfl) ?_
        refine EPL.ld1 (v := .int _ _) rfl rfl sc3 rfl rfl ?_
        refine EPL.p rfl rfl (q_eql rfl rfl) ?_
        refine EPL.p rfl rfl (q_pickT (v := .bool _) rfl rfl) ?_
        refine EPL.p rfl rfl (q_move (v := .bool _) rfl) ?_
        refine EPL.bool 35 rfl (fun c4 => ?_) (fun c4 => ?_)
        ·
          have c4 := of_decide_eq_true c4
          refine EPL.p rfl rfl (q_fieldAddr (p := ⟨_, _, none⟩) Tryz.underlying27 rfl sz3 rfl rfl) ?_
          refine EPL.ld1 (v := .int _ _) rfl rfl sc3 rfl rfl ?_
          refine EPL.p rfl rfl (q_fieldAddr (p := ⟨_, _, none⟩) Tryz.underlying27 rfl sz3 rfl rfl) ?_
          refine EPL.ld1 (v := .int _ _) rfl rfl sc3 rfl rfl ?_
          refine EPL.p rfl rfl (q_eql rfl rfl) ?_
          refine EPL.p rfl rfl (q_pickT (v := .bool _) rfl rfl) ?_
          refine EPL.p rfl rfl (q_move (v := .bool _) rfl) ?_
          refine EPL.bool 42 rfl (fun c5 => ?_) (fun c5 => ?_)
          ·
            have c5 := of_decide_eq_true c5
            refine EPL.p rfl rfl (q_fieldAddr (p := ⟨_, _, none⟩) Tryz.underlying27 rfl sz24 rfl rfl) ?_
            refine EPL.ldAp (v := (x.stop.map bV).toArray) rfl rfl ag24 rfl (by rw [Mp.sz h1.stop]; exact Nat.le_of_ble_eq_true rfl) (Mp.x6 h1.stop) ?_
            refine EPL.p rfl rfl (q_fieldAddr (p := ⟨_, _, none⟩) Tryz.underlying27 rfl sz24 rfl rfl) ?_
            refine EPL.ldAp (v := (x.stop.map bV).toArray) rfl rfl ag24 rfl (by rw [Mp.sz h2.stop]; exact Nat.le_of_ble_eq_true rfl) (Mp.x6 h2.stop) ?_
            refine EPL.p rfl rfl (q_eqlSame eqgN rfl rfl (eqHash h1.stop)) ?_
            refine EPL.p rfl rfl (q_pickT (v := .bool _) rfl rfl) ?_
            refine EPL.p rfl rfl (q_move (v := .bool _) rfl) ?_
            refine EPL.bool 49 rfl (fun c6 => ?_) (fun c6 => ?_)
            ·
              have c6 := of_decide_eq_true c6
              refine EPL.p rfl rfl (q_fieldAddr (p := ⟨_, _, none⟩) Tryz.underlying27 rfl sz22 rfl rfl) ?_
              refine EPL.ld1 (v := .slice na1 x.names.length nc1) rfl rfl sc22 rfl rfl ?_
              refine EPL.p rfl rfl (q_fieldAddr (p := ⟨_, _, none⟩) Tryz.underlying27 rfl sz22 rfl rfl) ?_
              refine EPL.ld1 (v := .slice na2 x.names.length nc2) rfl rfl sc22 rfl rfl ?_
              refine EPL.cl rfl rfl Tryz.func38 rfl rfl (EqualN_spec na1 na2 nc1 nc2 x.names I J h1.names h1.rn h2.rn) rfl ?_
              rintro _ _ ⟨rfl, rfl⟩
              refine ⟨HeldL.nil, ?_⟩
              refine EPL.p rfl rfl (q_pickT (v := .bool _) rfl rfl) ?_
              refine EPL.p rfl rfl (q_move (v := .bool _) rfl) ?_
              refine EPL.bool 56 rfl (fun c7 => ?_) (fun c7 => ?_)
              ·
                refine EPL.p rfl rfl (q_fieldAddr (p := ⟨_, _, none⟩) Tryz.underlying27 rfl sz25 rfl rfl) ?_
                refine EPL.ld1 (v := .slice ha1 x.heads.length hc1) rfl rfl sc25 rfl (Mp.c38 h1.stop) ?_
                refine EPL.p rfl rfl (q_fieldAddr (p := ⟨_, _, none⟩) Tryz.underlying27 rfl sz25 rfl rfl) ?_
                refine EPL.ld1 (v := .slice ha2 x.heads.length hc2) rfl rfl sc25 rfl (Mp.c38 h2.stop) ?_
                refine EPL.cl rfl rfl Tryz.func39 rfl rfl (EqualH_spec ha1 ha2 hc1 hc2 x.heads I J h1.heads h1.rh h2.rh) rfl ?_
                rintro _ _ ⟨rfl, rfl⟩
                refine ⟨HeldL.nil, ?_⟩
                refine EPL.p rfl rfl (q_pickT (v := .bool _) rfl rfl) ?_
                refine EPL.p rfl rfl (q_assign (v := .bool _) rfl) ?_
                refine EPL.nil ?_
                refine EL.go ?_
                refine EL.ret ?_
                exact end_retP [I, J] (fun _ => rfl) (fun _ => ⟨rfl, rfl⟩)
              ·
                cases c7
            ·
              have c6 := of_decide_eq_false c6
              exact absurd (by first | rfl | trivial) c6
          ·
            have c5 := of_decide_eq_false c5
            exact absurd (by first | rfl | trivial) c5
        ·
          have c4 := of_decide_eq_false c4
          exact absurd (by first | rfl | trivial) c4
      ·
        have c3 := of_decide_eq_false c3
        exact absurd (by first | rfl | trivial) c3
    ·
      have c2 := of_decide_eq_false c2
      exact absurd (by first | rfl | trivial) c2
  ·
    have c1 := of_decide_eq_false c1
    exact absurd (by first | rfl | trivial) c1

end Go.Proofs.YtedkoebbijpnfaaGreatDoor

namespace Go.Proofs.YtedkoebbijpnfaaGreatDoor
open Go Go.Proofs.YtedkoebbijpnfaaGreatDoor.TH
set_option maxHeartbeats 1000000

/-- What is written of a message is read back, with nothing but what its kind has. -/
theorem msg_back {m : Mp} (hw : Wf m) (hg : m.Good) (r : List UInt8) : eMsg m.kind (m.pay ++ r, false) = (m.bare, (r, false)) := by
  rcases kinds (good_kind hg) with h | h | h | h | h | h
  · have g := (Mp.g1 h).1 hg
    have := mfits1.inn (m.ver, m.height, m.serv, m.num) r ⟨g.1, g.2.1, g.2.2.1, g.2.2.2⟩
    rw [Mp.p1 h, Mp.b1 h, h, eMsg1]
    simp only [List.append_assoc] at this ⊢
    rw [this]
  · have g := (Mp.g3 (by omega) h).1 hg
    have := mfits3.inn (m.ver, m.names, m.stop) r ⟨g.1, ⟨by have := g.2; show ((m.names.length : Nat) : Int) ≤ 32; omega, hw.2.1⟩, hw.1⟩
    rw [Mp.p3 (by omega) h, Mp.b3 (by omega) h, h, eMsg3]
    simp only [flat_id, List.append_assoc] at this ⊢
    rw [this]
  · have g := (Mp.g4 (by omega) (by omega) h).1 hg
    have := mfits4.inn m.heads r ⟨by have := g.1; show ((m.heads.length : Nat) : Int) ≤ 64; omega, fun x hx => ⟨hw.2.2 x hx, g.2 x hx⟩⟩
    rw [Mp.p4 (by omega) (by omega) h, Mp.b4 (by omega) (by omega) h, h, eMsg4]
    dsimp only
    rw [this]
  · have g := (Mp.g5 (by omega) (by omega) (by omega) h).1 hg
    have := mfits5.inn m.names r ⟨by show ((m.names.length : Nat) : Int) ≤ 32; omega, hw.2.1⟩
    rw [Mp.p5 (by omega) (by omega) (by omega) h, Mp.b5 (by omega) (by omega) (by omega) h, h, eMsg5]
    dsimp only
    rw [this]
  · have g := (Mp.g6 (by omega) (by omega) (by omega) (by omega) h).1 hg
    have := mfits6.inn m.num r g
    rw [Mp.p6 (by omega) (by omega) (by omega) (by omega) h, Mp.b6 (by omega) (by omega) (by omega) (by omega) h, eMsg6 h, this]
  · rw [Mp.p0 (by omega) (by omega) (by omega) (by omega) (by omega), Mp.b0 (by omega) (by omega) (by omega) (by omega) (by omega), eMsg0 h]
    rfl
theorem bytes_back {m : Mp} (hw : Wf m) (hg : m.Good) : readR (wordR m.kind) m.pay = (m.bare, 0) := by
  have hk := kind_word (good_kind hg)
  have hk0 : m.kind ≠ 0 := by have := good_kind hg; omega
  have := msg_back hw hg []
  rw [List.append_nil] at this
  unfold readR
  rw [hk, if_neg hk0, this, if_pos rfl]
theorem bare_kind (m : Mp) : m.bare.kind = m.kind := by unfold Mp.bare; repeat' split
                                                        all_goals rfl
theorem bare_len (m : Mp) : m.bare.names.length ≤ m.names.length ∧ m.bare.heads.length ≤ m.heads.length := by
  unfold Mp.bare
  repeat' split
  all_goals exact ⟨by first | exact Nat.le_refl _ | exact Nat.zero_le _, by first | exact Nat.le_refl _ | exact Nat.zero_le _⟩
theorem bare_bare (m : Mp) : m.bare.bare = m.bare := by
  by_cases k1 : m.kind = 1
  · rw [Mp.b1 k1]; exact Mp.b1 k1
  by_cases k3 : m.kind = 3
  · rw [Mp.b3 k1 k3]; exact Mp.b3 k1 k3
  by_cases k4 : m.kind = 4
  · rw [Mp.b4 k1 k3 k4]; exact Mp.b4 k1 k3 k4
  by_cases k5 : m.kind = 5
  · rw [Mp.b5 k1 k3 k4 k5]; exact Mp.b5 k1 k3 k4 k5
  by_cases k6 : m.kind = 6 ∨ m.kind = 7
  · rw [Mp.b6 k1 k3 k4 k5 k6]; exact Mp.b6 k1 k3 k4 k5 k6
  · rw [Mp.b0 k1 k3 k4 k5 k6]; exact Mp.b0 k1 k3 k4 k5 k6
theorem bare_pay (m : Mp) : m.bare.pay = m.pay := by
  by_cases k1 : m.kind = 1
  · rw [Mp.b1 k1, Mp.p1 k1]; exact Mp.p1 k1
  by_cases k3 : m.kind = 3
  · rw [Mp.b3 k1 k3, Mp.p3 k1 k3]; exact Mp.p3 k1 k3
  by_cases k4 : m.kind = 4
  · rw [Mp.b4 k1 k3 k4, Mp.p4 k1 k3 k4]; exact Mp.p4 k1 k3 k4
  by_cases k5 : m.kind = 5
  · rw [Mp.b5 k1 k3 k4 k5, Mp.p5 k1 k3 k4 k5]; exact Mp.p5 k1 k3 k4 k5
  by_cases k6 : m.kind = 6 ∨ m.kind = 7
  · rw [Mp.b6 k1 k3 k4 k5 k6, Mp.p6 k1 k3 k4 k5 k6]; exact Mp.p6 k1 k3 k4 k5 k6
  · rw [Mp.b0 k1 k3 k4 k5 k6, Mp.p0 k1 k3 k4 k5 k6]; exact Mp.p0 k1 k3 k4 k5 k6
theorem word_len {k : Int} (h : 1 ≤ k ∧ k ≤ 8) : (wordR k).length ≤ 12 := (word_ok h).2.1
theorem SBytesG_spec (m : Mp) (p : Pl) (G : Hp) (hI : m.In p G) (hG : GS G) (hT : GT G) (hW : GW G) (hgo : m.Good) : CallL Tryz.prog 7 [msgV m p] [G] (fun r Hs' => r = .tuple #[str (envB (wordR m.kind) m.pay), .int .i64 0] ∧ Hs' = [G]) :=
  (SBytes_spec m p G hI hG hT hW).mono fun v Hs' h => ⟨h.1.elim (fun x => x.2) (fun x => absurd hgo x.1), h.2⟩
theorem SBytesB_spec (m : Mp) (p : Pl) (G : Hp) (hI : m.In p G) (hG : GS G) (hT : GT G) (hW : GW G) (hgo : ¬ m.Good) : CallL Tryz.prog 7 [msgV m p] [G] (fun r Hs' => r = .tuple #[str [], .int .i64 1] ∧ Hs' = [G]) :=
  (SBytes_spec m p G hI hG hT hW).mono fun v Hs' h => ⟨h.1.elim (fun x => absurd x.1 hgo) (fun x => x.2), h.2⟩
theorem RGoodG_spec (m : Mp) (p : Pl) (I : Hp) (hI : m.In p I) (b : Bool) (hgo : decide m.Good = b) : CallL Tryz.prog 6 [msgV m p] [I] (fun r Hs' => r = .bool b ∧ Hs' = [I]) := by subst hgo; exact RMGood_spec m p I hI
theorem SGoodG_spec (m : Mp) (p : Pl) (I : Hp) (hI : m.In p I) (b : Bool) (hgo : decide m.Good = b) : CallL Tryz.prog 8 [msgV m p] [I] (fun r Hs' => r = .bool b ∧ Hs' = [I]) := by subst hgo; exact SGood_spec m p I hI

end Go.Proofs.YtedkoebbijpnfaaGreatDoor

namespace Go.Proofs.YtedkoebbijpnfaaGreatDoor
open Go Go.Proofs.YtedkoebbijpnfaaGreatDoor.TH
set_option maxHeartbeats 1000000
theorem BytesG_law (m : Mp) (pl : Pl) (G : Hp) (hI : m.In pl G) (hG : GS G) (hT : GT G) (hW : GW G) (hgo : m.Good) : CallL Tryz.prog 3 [msgV m pl] [G] (fun r Hs' => r = .bool true ∧ Hs' = [G]) := by
  refine CallL.enter Tryz.func3 Tryz.ntmps3 rfl rfl rfl ?_
  refine EL.seq ?_
  refine EL.region (.x 0 [] (.p 1 (.nil))) (by kernel_rfl) ?_
  refine EPL.box (c := m.vals pl) rfl rfl rfl (fun _ => HeldL.nil) (fun b1 => ?_)
  refine EPL.p rfl rfl (q_assign (v := .bool _) rfl) ?_
  refine EPL.nil ?_
  refine EL.go ?_
  refine EL.seq ?_
  refine EL.seq ?_
  refine EL.region (.x 0 [] (.p 1 (.nil))) (by kernel_rfl) ?_
  refine EPL.cl rfl rfl Tryz.func4 rfl rfl (alive_spec G hG hT hW) rfl ?_
  rintro _ _ ⟨rfl, rfl⟩
  refine ⟨HeldL.nil, ?_⟩
  refine EPL.p rfl rfl (q_not rfl) ?_
  refine EPL.nil ?_
  refine EL.go ?_
  refine EL.cond rfl (fun c1 => ?_) (fun c1 => ?_)
  ·
    cases c1
  ·
    refine EL.skip ?_
    refine EL.go ?_
    refine EL.seq ?_
    refine EL.seq ?_
    refine EL.region (.l 0 (.x 1 [] (.nil))) (by kernel_rfl) ?_
    refine EPL.ldAw rfl rfl ag27 rfl (Mp.sz hI.stop) ?_
    refine EPL.cl rfl rfl Tryz.func5 rfl rfl (SGreat_spec m pl G hI) rfl ?_
    rintro _ _ ⟨rfl, rfl⟩
    refine ⟨HeldL.nil, ?_⟩
    refine EPL.nil ?_
    refine EL.go ?_
    refine EL.cond rfl (fun c2 => ?_) (fun c2 => ?_)
    ·
      have c2 := of_decide_eq_true c2
      refine EL.seq ?_
      refine EL.region (.p 0 (.nil)) (by kernel_rfl) ?_
      refine EPL.p rfl rfl (q_assign (v := .bool _) rfl) ?_
      refine EPL.nil ?_
      refine EL.go ?_
      refine EL.ret ?_
      exact end_retP [G] (fun _ => rfl) (fun _ => ⟨rfl, rfl⟩)
    ·
      have c2 := of_decide_eq_false c2
      have hgr := c2
      refine EL.skip ?_
      refine EL.go ?_
      refine EL.seq ?_
      refine EL.region (.l 0 (.x 1 [] (.p 2 (.nil)))) (by kernel_rfl) ?_
      refine EPL.ldAw rfl rfl ag27 rfl (Mp.sz hI.stop) ?_
      refine EPL.cl rfl rfl Tryz.func6 rfl rfl (RGoodG_spec m pl G hI true (decide_eq_true hgo)) rfl ?_
      rintro _ _ ⟨rfl, rfl⟩
      refine ⟨HeldL.nil, ?_⟩
      refine EPL.p rfl rfl (q_assign (v := .bool _) rfl) ?_
      refine EPL.nil ?_
      refine EL.go ?_
      refine EL.seq ?_
      refine EL.region (.l 0 (.x 1 [] (.p 2 (.p 3 (.p 4 (.p 5 (.p 6 (.nil)))))))) (by kernel_rfl) ?_
      refine EPL.ldAw rfl rfl ag27 rfl (Mp.sz hI.stop) ?_
      refine EPL.cl rfl rfl Tryz.func7 rfl rfl (SBytesG_spec m pl G hI hG hT hW hgo) rfl ?_
      rintro _ _ ⟨rfl, rfl⟩
      refine ⟨HeldL.nil, ?_⟩
      refine EPL.p rfl rfl (q_move (v := _) rfl) ?_
      refine EPL.p rfl rfl (q_extract (v := .string _) rfl rfl) ?_
      refine EPL.p rfl rfl (q_extract (v := .int _ _) rfl rfl) ?_
      refine EPL.p rfl rfl (q_assign (v := .string _) rfl) ?_
      refine EPL.p rfl rfl (q_assign (v := .int _ _) rfl) ?_
      refine EPL.nil ?_
      refine EL.go ?_
      refine EL.seq ?_
      refine EL.seq ?_
      refine EL.region (.l 0 (.x 1 [] (.p 2 (.p 3 (.p 4 (.p 5 (.p 6 (.p 7 (.p 8 (.p 9 (.p 10 (.p 11 (.p 12 (.p 13 (.p 14 (.p 15 (.nil))))))))))))))))) (by kernel_rfl) ?_
      refine EPL.ldAw rfl rfl ag27 rfl (Mp.sz hI.stop) ?_
      refine EPL.cl rfl rfl Tryz.func8 rfl rfl (SGoodG_spec m pl G hI true (decide_eq_true hgo)) rfl ?_
      rintro _ _ ⟨rfl, rfl⟩
      refine ⟨HeldL.nil, ?_⟩
      refine EPL.p rfl rfl (q_move (v := .bool _) rfl) ?_
      refine EPL.p rfl rfl (q_bneq Tryz.underlying4 rfl rfl) ?_
      refine EPL.p rfl rfl (q_move (v := .bool _) rfl) ?_
      refine EPL.bool 25 rfl (fun c3 => ?_) (fun c3 => ?_)
      ·
        exact absurd c3 (by decide)
      ·
        refine EPL.p rfl rfl (q_move (v := .bool _) rfl) ?_
        refine EPL.p rfl rfl (q_not rfl) ?_
        refine EPL.p rfl rfl (q_move (v := .bool _) rfl) ?_
        refine EPL.bool 28 rfl (fun c4 => ?_) (fun c4 => ?_)
        ·
          cases c4
        ·
          refine EPL.pno rfl rfl ?_
          refine EPL.pno rfl rfl ?_
          refine EPL.pno rfl rfl ?_
          refine EPL.pno rfl rfl ?_
          refine EPL.pno rfl rfl ?_
          refine EPL.pno rfl rfl ?_
          refine EPL.p rfl rfl (q_pickF (v := .bool _) rfl rfl) ?_
          refine EPL.p rfl rfl (q_pickF (v := .bool _) rfl rfl) ?_
          refine EPL.nil ?_
          refine EL.go ?_
          refine EL.no rfl ?_
          refine EL.skip ?_
          refine EL.go ?_
          refine EL.seq ?_
          refine EL.seq ?_
          refine EL.region (.p 0 (.p 1 (.nil))) (by kernel_rfl) ?_
          refine EPL.p rfl rfl (q_move (v := .bool _) rfl) ?_
          refine EPL.p rfl rfl (q_not rfl) ?_
          refine EPL.nil ?_
          refine EL.go ?_
          refine EL.cond rfl (fun c5 => ?_) (fun c5 => ?_)
          ·
            cases c5
          ·
            refine EL.skip ?_
            refine EL.go ?_
            refine EL.seq ?_
            refine EL.region (.l 0 (.x 1 [] (.p 2 (.nil)))) (by kernel_rfl) ?_
            refine EPL.ldAw rfl rfl ag27 rfl (Mp.sz hI.stop) ?_
            refine EPL.cl rfl rfl Tryz.func9 rfl rfl (RPay_spec m pl G hI (by omega) (by omega)) rfl ?_
            rintro _ _ ⟨rfl, rfl⟩
            refine ⟨HeldL.nil, ?_⟩
            refine EPL.p rfl rfl (q_assign (v := .string _) rfl) ?_
            refine EPL.nil ?_
            refine EL.go ?_
            refine EL.seq ?_
            refine EL.region (.p 0 (.l 1 (.x 2 [] (.p 3 (.nil))))) (by kernel_rfl) ?_
            refine EPL.p rfl rfl (q_fieldAddr (p := ⟨_, _, none⟩) Tryz.underlying27 rfl sz3 rfl rfl) ?_
            refine EPL.ld1 (v := .int _ _) rfl rfl sc3 rfl rfl ?_
            refine EPL.cl rfl rfl Tryz.func10 rfl rfl (RWord_spec m.kind (by have := good_kind hgo; omega)) rfl ?_
            rintro _ _ ⟨rfl, rfl⟩
            refine ⟨HeldL.nil, ?_⟩
            refine EPL.p rfl rfl (q_assign (v := .string _) rfl) ?_
            refine EPL.nil ?_
            refine EL.go ?_
            refine EL.seq ?_
            refine EL.region (.p 0 (.p 1 (.p 2 (.x 3 [] (.p 4 (.p 5 (.p 6 (.x 7 [] (.x 8 [] (.p 9 (.nil))))))))))) (by kernel_rfl) ?_
            refine EPL.p rfl rfl (q_move (v := .string _) rfl) ?_
            refine EPL.p rfl rfl (q_move (v := .string _) rfl) ?_
            refine EPL.p rfl rfl (q_build (cells := #[str (wordR m.kind), str m.pay]) pl38 el38 (.cons rfl rfl (Nat.le_of_ble_eq_true rfl) rfl (.cons rfl rfl (Nat.le_of_ble_eq_true rfl) rfl .nil))) ?_
            refine EPL.cl rfl rfl Tryz.func11 rfl rfl (Read_spec (wordR m.kind) m.pay G hW) rfl ?_
            rintro _ _ ⟨pl1, HN1, rfl, rfl, hI1⟩
            rw [bytes_back hI.wf hgo] at hI1 ⊢
            have hxk := bare_kind m
            have hxl := bare_len m
            have hxb := bare_bare m
            have hxp := bare_pay m
            generalize hx : m.bare = x at hI1 hxk hxl hxb hxp ⊢
            refine ⟨HeldL.nil, ?_⟩
            refine EPL.p rfl rfl (q_move (v := _) rfl) ?_
            refine EPL.p rfl rfl (q_extract (v := .agg _) rfl rfl) ?_
            refine EPL.p rfl rfl (q_extract (v := .int _ _) rfl rfl) ?_
            refine EPL.al rfl rfl el27 (fun _ => HeldL.nil) (fun b5 => ?_)
            refine EPL.stA (v := x.vals pl1) rfl rfl sz27 rfl rfl (Mp.sz hI1.stop) (Mp.one _ _) rfl HeldL.nil ?_
            refine EPL.p rfl rfl (q_assign (v := .int _ _) rfl) ?_
            refine EPL.nil ?_
            refine EL.go ?_
            refine EL.seq ?_
            refine EL.region (.p 0 (.p 1 (.p 2 (.p 3 (.p 4 (.p 5 (.x 6 [] (.p 7 (.p 8 (.p 9 (.p 10 (.p 11 (.p 12 (.p 13 (.p 14 (.l 15 (.p 16 (.l 17 (.p 18 (.p 19 (.p 20 (.l 21 (.x 22 [] (.p 23 (.p 24 (.p 25 (.p 26 (.l 27 (.l 28 (.x 29 [] (.p 30 (.p 31 (.nil))))))))))))))))))))))))))))))))) (by kernel_rfl) ?_
            refine EPL.p rfl rfl (q_move (v := .int _ _) rfl) ?_
            refine EPL.p rfl rfl (q_eql rfl rfl) ?_
            refine EPL.p rfl rfl (q_move (v := .bool _) rfl) ?_
            refine EPL.bool 53 rfl (fun c6 => ?_) (fun c6 => ?_)
            ·
              have c6 := of_decide_eq_true c6
              refine EPL.p rfl rfl (q_move (v := .string _) rfl) ?_
              refine EPL.p rfl rfl (q_move (v := .string _) rfl) ?_
              refine EPL.p rfl rfl (q_move (v := .string _) rfl) ?_
              refine EPL.cl rfl rfl Tryz.func12 rfl rfl (RBytes_spec (wordR m.kind) m.pay (word_len (good_kind hgo)) (by have := pay_len hI.wf hgo; omega)) rfl ?_
              rintro _ _ ⟨rfl, rfl⟩
              refine ⟨HeldL.nil, ?_⟩
              refine EPL.p rfl rfl (q_streq rfl rfl) ?_
              refine EPL.p rfl rfl (q_pickT (v := .bool _) rfl rfl) ?_
              refine EPL.p rfl rfl (q_move (v := .bool _) rfl) ?_
              refine EPL.bool 60 rfl (fun c7 => ?_) (fun c7 => ?_)
              ·
                have c7 := of_decide_eq_true c7
                refine EPL.p rfl rfl (q_move (v := .int _ _) rfl) ?_
                refine EPL.p rfl rfl (q_eql rfl rfl) ?_
                refine EPL.p rfl rfl (q_pickT (v := .bool _) rfl rfl) ?_
                refine EPL.p rfl rfl (q_move (v := .bool _) rfl) ?_
                refine EPL.bool 64 rfl (fun c8 => ?_) (fun c8 => ?_)
                ·
                  have c8 := of_decide_eq_true c8
                  refine EPL.p rfl rfl (q_fieldAddr (p := ⟨_, _, none⟩) Tryz.underlying27 rfl sz3 rfl rfl) ?_
                  refine EPL.ld1 (v := .int _ _) rfl rfl sc3 rfl rfl ?_
                  refine EPL.p rfl rfl (q_fieldAddr (p := ⟨_, _, none⟩) Tryz.underlying27 rfl sz3 rfl rfl) ?_
                  refine EPL.ld1 (v := .int _ _) rfl rfl sc3 rfl rfl ?_
                  refine EPL.p rfl rfl (q_eql rfl rfl) ?_
                  refine EPL.p rfl rfl (q_pickT (v := .bool _) rfl rfl) ?_
                  refine EPL.p rfl rfl (q_move (v := .bool _) rfl) ?_
                  refine EPL.bool 71 rfl (fun c9 => ?_) (fun c9 => ?_)
                  ·
                    have c9 := of_decide_eq_true c9
                    refine EPL.ldAw rfl rfl ag27 rfl (Mp.sz hI1.stop) ?_
                    refine EPL.cl rfl rfl Tryz.func9 rfl rfl (RPay_spec x pl1 HN1 hI1 (by omega) (by omega)) rfl ?_
                    rintro _ _ ⟨rfl, rfl⟩
                    refine ⟨HeldL.nil, ?_⟩
                    refine EPL.p rfl rfl (q_move (v := .string _) rfl) ?_
                    refine EPL.p rfl rfl (q_streq rfl rfl) ?_
                    refine EPL.p rfl rfl (q_pickT (v := .bool _) rfl rfl) ?_
                    refine EPL.p rfl rfl (q_move (v := .bool _) rfl) ?_
                    refine EPL.bool 77 rfl (fun c10 => ?_) (fun c10 => ?_)
                    ·
                      have c10 := of_decide_eq_true c10
                      refine EPL.ldAw rfl rfl ag27 rfl (Mp.sz hI1.stop) ?_
                      refine EPL.ldAw rfl rfl ag27 rfl (Mp.sz hI.stop) ?_
                      refine EPL.cl rfl rfl Tryz.func13 rfl rfl (Same_spec x m pl1 pl HN1 G hI1 hI (hxb.trans hx.symm)) rfl ?_
                      rintro _ _ ⟨rfl, rfl⟩
                      refine ⟨HeldL.nil, ?_⟩
                      refine EPL.p rfl rfl (q_pickT (v := .bool _) rfl rfl) ?_
                      refine EPL.p rfl rfl (q_assign (v := .bool _) rfl) ?_
                      refine EPL.nil ?_
                      refine EL.go ?_
                      refine EL.ret ?_
                      exact end_retP [G] (fun _ => rfl) (fun _ => ⟨rfl, rfl⟩)
                    ·
                      have c10 := of_decide_eq_false c10
                      exact absurd hxp c10
                  ·
                    have c9 := of_decide_eq_false c9
                    exact absurd hxk c9
                ·
                  have c8 := of_decide_eq_false c8
                  exact absurd rfl c8
              ·
                have c7 := of_decide_eq_false c7
                exact absurd rfl c7
            ·
              have c6 := of_decide_eq_false c6
              exact absurd rfl c6

theorem BytesB_law (m : Mp) (pl : Pl) (G : Hp) (hI : m.In pl G) (hG : GS G) (hT : GT G) (hW : GW G) (hgo : ¬ m.Good) : CallL Tryz.prog 3 [msgV m pl] [G] (fun r Hs' => r = .bool true ∧ Hs' = [G]) := by
  refine CallL.enter Tryz.func3 Tryz.ntmps3 rfl rfl rfl ?_
  refine EL.seq ?_
  refine EL.region (.x 0 [] (.p 1 (.nil))) (by kernel_rfl) ?_
  refine EPL.box (c := m.vals pl) rfl rfl rfl (fun _ => HeldL.nil) (fun b1 => ?_)
  refine EPL.p rfl rfl (q_assign (v := .bool _) rfl) ?_
  refine EPL.nil ?_
  refine EL.go ?_
  refine EL.seq ?_
  refine EL.seq ?_
  refine EL.region (.x 0 [] (.p 1 (.nil))) (by kernel_rfl) ?_
  refine EPL.cl rfl rfl Tryz.func4 rfl rfl (alive_spec G hG hT hW) rfl ?_
  rintro _ _ ⟨rfl, rfl⟩
  refine ⟨HeldL.nil, ?_⟩
  refine EPL.p rfl rfl (q_not rfl) ?_
  refine EPL.nil ?_
  refine EL.go ?_
  refine EL.cond rfl (fun c1 => ?_) (fun c1 => ?_)
  ·
    cases c1
  ·
    refine EL.skip ?_
    refine EL.go ?_
    refine EL.seq ?_
    refine EL.seq ?_
    refine EL.region (.l 0 (.x 1 [] (.nil))) (by kernel_rfl) ?_
    refine EPL.ldAw rfl rfl ag27 rfl (Mp.sz hI.stop) ?_
    refine EPL.cl rfl rfl Tryz.func5 rfl rfl (SGreat_spec m pl G hI) rfl ?_
    rintro _ _ ⟨rfl, rfl⟩
    refine ⟨HeldL.nil, ?_⟩
    refine EPL.nil ?_
    refine EL.go ?_
    refine EL.cond rfl (fun c2 => ?_) (fun c2 => ?_)
    ·
      have c2 := of_decide_eq_true c2
      refine EL.seq ?_
      refine EL.region (.p 0 (.nil)) (by kernel_rfl) ?_
      refine EPL.p rfl rfl (q_assign (v := .bool _) rfl) ?_
      refine EPL.nil ?_
      refine EL.go ?_
      refine EL.ret ?_
      exact end_retP [G] (fun _ => rfl) (fun _ => ⟨rfl, rfl⟩)
    ·
      have c2 := of_decide_eq_false c2
      have hgr := c2
      refine EL.skip ?_
      refine EL.go ?_
      refine EL.seq ?_
      refine EL.region (.l 0 (.x 1 [] (.p 2 (.nil)))) (by kernel_rfl) ?_
      refine EPL.ldAw rfl rfl ag27 rfl (Mp.sz hI.stop) ?_
      refine EPL.cl rfl rfl Tryz.func6 rfl rfl (RGoodG_spec m pl G hI false (decide_eq_false hgo)) rfl ?_
      rintro _ _ ⟨rfl, rfl⟩
      refine ⟨HeldL.nil, ?_⟩
      refine EPL.p rfl rfl (q_assign (v := .bool _) rfl) ?_
      refine EPL.nil ?_
      refine EL.go ?_
      refine EL.seq ?_
      refine EL.region (.l 0 (.x 1 [] (.p 2 (.p 3 (.p 4 (.p 5 (.p 6 (.nil)))))))) (by kernel_rfl) ?_
      refine EPL.ldAw rfl rfl ag27 rfl (Mp.sz hI.stop) ?_
      refine EPL.cl rfl rfl Tryz.func7 rfl rfl (SBytesB_spec m pl G hI hG hT hW hgo) rfl ?_
      rintro _ _ ⟨rfl, rfl⟩
      refine ⟨HeldL.nil, ?_⟩
      refine EPL.p rfl rfl (q_move (v := _) rfl) ?_
      refine EPL.p rfl rfl (q_extract (v := .string _) rfl rfl) ?_
      refine EPL.p rfl rfl (q_extract (v := .int _ _) rfl rfl) ?_
      refine EPL.p rfl rfl (q_assign (v := .string _) rfl) ?_
      refine EPL.p rfl rfl (q_assign (v := .int _ _) rfl) ?_
      refine EPL.nil ?_
      refine EL.go ?_
      refine EL.seq ?_
      refine EL.seq ?_
      refine EL.region (.l 0 (.x 1 [] (.p 2 (.p 3 (.p 4 (.p 5 (.p 6 (.p 7 (.p 8 (.p 9 (.p 10 (.p 11 (.p 12 (.p 13 (.p 14 (.p 15 (.nil))))))))))))))))) (by kernel_rfl) ?_
      refine EPL.ldAw rfl rfl ag27 rfl (Mp.sz hI.stop) ?_
      refine EPL.cl rfl rfl Tryz.func8 rfl rfl (SGoodG_spec m pl G hI false (decide_eq_false hgo)) rfl ?_
      rintro _ _ ⟨rfl, rfl⟩
      refine ⟨HeldL.nil, ?_⟩
      refine EPL.p rfl rfl (q_move (v := .bool _) rfl) ?_
      refine EPL.p rfl rfl (q_bneq Tryz.underlying4 rfl rfl) ?_
      refine EPL.p rfl rfl (q_move (v := .bool _) rfl) ?_
      refine EPL.bool 25 rfl (fun c3 => ?_) (fun c3 => ?_)
      ·
        exact absurd c3 (by decide)
      ·
        refine EPL.p rfl rfl (q_move (v := .bool _) rfl) ?_
        refine EPL.p rfl rfl (q_not rfl) ?_
        refine EPL.p rfl rfl (q_move (v := .bool _) rfl) ?_
        refine EPL.bool 28 rfl (fun c4 => ?_) (fun c4 => ?_)
        ·
          refine EPL.p rfl rfl (q_move (v := .int _ _) rfl) ?_
          refine EPL.p rfl rfl (q_neq rfl rfl) ?_
          refine EPL.p rfl rfl (q_move (v := .bool _) rfl) ?_
          refine EPL.bool 31 rfl (fun c5 => ?_) (fun c5 => ?_)
          ·
            have c5 := of_decide_eq_true c5
            exact absurd rfl c5
          ·
            have c5 := of_decide_eq_false c5
            refine EPL.p rfl rfl (q_move (v := .string _) rfl) ?_
            refine EPL.p rfl rfl (q_strneq rfl rfl) ?_
            refine EPL.p rfl rfl (q_pickF (v := .bool _) rfl rfl) ?_
            refine EPL.p rfl rfl (q_pickT (v := .bool _) rfl rfl) ?_
            refine EPL.p rfl rfl (q_pickF (v := .bool _) rfl rfl) ?_
            refine EPL.nil ?_
            refine EL.go ?_
            refine EL.cond rfl (fun c6 => ?_) (fun c6 => ?_)
            ·
              have c6 := of_decide_eq_true c6
              exact absurd rfl c6
            ·
              have c6 := of_decide_eq_false c6
              refine EL.skip ?_
              refine EL.go ?_
              refine EL.seq ?_
              refine EL.seq ?_
              refine EL.region (.p 0 (.p 1 (.nil))) (by kernel_rfl) ?_
              refine EPL.p rfl rfl (q_move (v := .bool _) rfl) ?_
              refine EPL.p rfl rfl (q_not rfl) ?_
              refine EPL.nil ?_
              refine EL.go ?_
              refine EL.cond rfl (fun c7 => ?_) (fun c7 => ?_)
              ·
                refine EL.seq ?_
                refine EL.region (.p 0 (.nil)) (by kernel_rfl) ?_
                refine EPL.p rfl rfl (q_assign (v := .bool _) rfl) ?_
                refine EPL.nil ?_
                refine EL.go ?_
                refine EL.ret ?_
                exact end_retP [G] (fun _ => rfl) (fun _ => ⟨rfl, rfl⟩)
              ·
                cases c7
        ·
          cases c4


theorem Bytes_law (m : Mp) (pl : Pl) (G : Hp) (hI : m.In pl G) (hG : GS G) (hT : GT G) (hW : GW G) : CallL Tryz.prog 3 [msgV m pl] [G] (fun r Hs' => r = .bool true ∧ Hs' = [G]) := by
  by_cases hgo : m.Good
  · exact BytesG_law m pl G hI hG hT hW hgo
  · exact BytesB_law m pl G hI hG hT hW hgo

end Go.Proofs.YtedkoebbijpnfaaGreatDoor

/- What the listed tables give a walk: their blocks. -/
namespace Go.Proofs.YtedkoebbijpnfaaGreatDoor
open Go Go.Proofs.YtedkoebbijpnfaaGreatDoor.TH Go.ChangeShapes Go.WideShapes Go.ChangeAt Go.RowKit
set_option maxRecDepth 100000

theorem own : ownKnob Tryz.prog.godebug = none := by kernel_rfl
theorem laidOut : laidOutB Tryz.prog = true := by kernel_rfl
theorem gSteps : Tryz.prog.globalNamed "trailhead/digest.steps" = some 3 := by kernel_rfl
theorem gStarts : Tryz.prog.globalNamed "trailhead/digest.starts" = some 2 := by kernel_rfl
theorem gWords : Tryz.prog.globalNamed "trailhead/speech.words" = some 0 := by kernel_rfl
theorem tSteps : (Tryz.prog.globals[3]?).map (·.type) = some 103 := by kernel_rfl
theorem tStarts : (Tryz.prog.globals[2]?).map (·.type) = some 102 := by kernel_rfl
theorem tWords : (Tryz.prog.globals[0]?).map (·.type) = some 67 := by kernel_rfl
theorem cellsSteps : Tryz.prog.cellsOf 103 = 64 := by kernel_rfl
theorem cellsStarts : Tryz.prog.cellsOf 102 = 8 := by kernel_rfl
theorem cellsWords : Tryz.prog.cellsOf 67 = 9 := by kernel_rfl
theorem cellsU32 : Tryz.prog.cellsOf 101 = 1 := by kernel_rfl
theorem cellsStr : Tryz.prog.cellsOf 9 = 1 := by kernel_rfl
theorem dSteps {H : Type} : (Rows.laid_trailhead_digest_steps : DataW H) = Lib.tabData .u32 (kW.map fun w => (w.toNat : Int)) := by kernel_rfl
theorem dStarts {H : Type} : (Rows.laid_trailhead_digest_starts : DataW H) = Lib.tabData .u32 (startW.list.map fun w => (w.toNat : Int)) := by kernel_rfl
theorem dWords {H : Type} : (Rows.laid_trailhead_speech_words : DataW H) = .agg (words9.map fun s => .lit (.string s)) := by kernel_rfl
/-- A global's block is of its type, and nothing of it is frozen. -/
theorem blockAt {W : World} (hS : W.ShapedOpen Tryz.prog) {g t : Nat} {z : Array Value} {cs : Array Value} {name : String} (hn : Tryz.prog.globalNamed name = some g) (hg : g < Tryz.prog.globals.size) (hz : ((((begin Tryz.prog (fun _ _ => 0) default).world).heap[g]?).bind Obj.row?) = some (z, t)) (hv : W.var? Tryz.prog name = some cs) :
    W.heap[g]? = some (.cells cs t (0, 0)) := by
  obtain ⟨c2, hb, _, _⟩ := hS.1 g z t hg hz
  unfold World.var? at hv
  rw [hn] at hv
  simp only [Option.bind_some, hb] at hv
  cases hv
  exact hb
theorem strs_of_tab {H : Type} {enc : TypeId × Value → H} {w : World} {base : Nat} {sp : Nat → Bool} {held : Bool} {fuel : Nat} {cs : List Value} {ss : List (List UInt8)} {p : List MemPlace}
    (h : DataW.trod enc Tryz.prog w base sp held fuel 67 cs = some (.agg (ss.map fun s => .lit (.string s)), p)) : cs = ss.map str := by
  obtain ⟨xs, m, _, hx, hl, hxl, hel⟩ := DataW.trod_array Tryz.underlying67 h
  rw [cellsWords] at hl
  have hxs : xs.map (·.1) = ss.map fun s => (DataW.lit (.string s) : DataW H) := by
    have := congrArg Prod.fst hx
    simpa using this.symm
  have hsl : ss.length = 9 := by have := congrArg List.length hxs; simp at this; omega
  apply List.ext_getElem?
  intro i
  by_cases hi : i < 9
  · have h1 := hel i hi
    rw [cellsStr, Nat.mul_one] at h1
    rw [List.getElem?_eq_getElem (show i < xs.length by omega)] at h1
    obtain ⟨s, hc, hd, _⟩ := DataW.trod_string Tryz.underlying9 h1
    have h2 : (xs.map (·.1))[i]? = some (DataW.lit (.string s.data.toList) : DataW H) := by rw [List.getElem?_map, List.getElem?_eq_getElem (show i < xs.length by omega), Option.map_some, hd]
    rw [hxs, List.getElem?_map] at h2
    obtain ⟨s', hs', he⟩ := Option.map_eq_some_iff.1 h2
    have he2 : s' = s.data.toList := by simpa using he
    have h3 : cs[i]? = some (.string s) := by
      have := congrArg (·[0]?) hc
      simpa [List.getElem?_take, List.getElem?_drop] using this
    rw [h3, List.getElem?_map, hs', he2]
    show some (Value.string s) = some (Value.string ⟨s.data.toList.toArray⟩)
    congr 2
  · rw [List.getElem?_eq_none (by omega), List.getElem?_eq_none (by rw [List.length_map]; omega)]
/-- What the rows' list gives. -/
theorem tables {W : World} (h : laidMetH Tryz.prog Rows.speechBytesRow.laid W) (hS : W.ShapedOpen Tryz.prog) : GS (whole W) ∧ GT (whole W) ∧ GW (whole W) := by
  have h' : laidMet Tryz.prog Rows.speechBytesRow.laid W := h
  obtain ⟨ps, hV, _⟩ := h'
  obtain ⟨g1, t1, c1, f1, p1, q1, hg1, ht1, hv1, hd1, hr1, _⟩ := hV
  obtain ⟨g2, t2, c2, f2, p2, q2, hg2, ht2, hv2, hd2, hr2, _⟩ := hr1
  obtain ⟨g3, t3, c3, f3, p3, q3, hg3, ht3, hv3, hd3, hr3, _⟩ := hr2
  obtain ⟨g4, t4, c4, f4, p4, q4, hg4, ht4, hv4, hd4, hr4, _⟩ := hr3
  obtain rfl := Option.some.inj (gSteps.symm.trans hg1)
  obtain rfl := Option.some.inj (tSteps.symm.trans ht1)
  obtain rfl := Option.some.inj (gStarts.symm.trans hg2)
  obtain rfl := Option.some.inj (tStarts.symm.trans ht2)
  obtain rfl := Option.some.inj (gWords.symm.trans hg4)
  obtain rfl := Option.some.inj (tWords.symm.trans ht4)
  rw [dSteps] at hd1
  rw [dStarts] at hd2
  rw [dWords] at hd4
  have e1 := Lib.cells_of_tab Tryz.underlying103 Tryz.underlying101 cellsU32 cellsSteps hd1
  have e2 := Lib.cells_of_tab Tryz.underlying102 Tryz.underlying101 cellsU32 cellsStarts hd2
  have e4 := strs_of_tab hd4
  have b1 := blockAt hS (t := 103) (z := z103.toArray) gSteps (of_decide_eq_true (by kernel_rfl)) (by kernel_rfl) hv1
  have b2 := blockAt hS (t := 102) (z := z102.toArray) gStarts (of_decide_eq_true (by kernel_rfl)) (by kernel_rfl) hv2
  have b4 := blockAt hS (t := 67) (z := z67.toArray) gWords (of_decide_eq_true (by kernel_rfl)) (by kernel_rfl) hv4
  refine ⟨⟨(0, 0), ?_⟩, ⟨(0, 0), ?_⟩, ⟨(0, 0), ?_⟩⟩
  · show W.heap[3]? = _
    rw [b1]
    congr 2
    apply Array.ext'
    rw [e1]; simp
  · show W.heap[2]? = _
    rw [b2]
    congr 2
    apply Array.ext'
    rw [e2]; simp
  · show W.heap[0]? = _
    rw [b4]
    congr 2
    apply Array.ext'
    rw [e4]
/-- A world that holds the tables: the settled one, each table's block holding what its initialiser lays. -/
noncomputable def laidHeap (h : Array Obj) : Array Obj :=
  ((((h.modify 3 fun | .cells _ t f => .cells (kW.map wV).toArray t f | o => o).modify 2 fun | .cells _ t f => .cells (startW.list.map wV).toArray t f | o => o).modify 0 fun | .cells _ t f => .cells (words9.map str).toArray t f | o => o).modify 4 fun | .cells _ t f => .cells (Go.Pinned.utf8FirstZ.map fun n : Nat => Value.int .u8 (n : Int)).toArray t f | o => o).modify 5 fun | .cells _ t f => .cells (([128, 191, 160, 191, 128, 159, 144, 191, 128, 143] ++ List.replicate 22 0).map fun n : Nat => Value.int .u8 (n : Int)).toArray t f | o => o
noncomputable def laidWorld (os : Os) : World := { World.holding Tryz.prog os ⟨#[], #[], []⟩ with heap := laidHeap (World.holding Tryz.prog os ⟨#[], #[], []⟩).heap }
end Go.Proofs.YtedkoebbijpnfaaGreatDoor
