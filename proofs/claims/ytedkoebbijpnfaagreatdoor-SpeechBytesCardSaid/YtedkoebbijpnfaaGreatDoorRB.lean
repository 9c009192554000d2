/- For every message the call of trailheadlaw08.SpeechBytes returns true, and its argument reads behind the call as it read before. Its condition: the listed package-level tables hold what the text of the program lays (the card ties them). -/
import Derived.Test.YtedkoebbijpnfaaGreatDoorPack7
namespace Go.Proofs.YtedkoebbijpnfaaGreatDoor.speechBytes
open Go Go.Proofs.YtedkoebbijpnfaaGreatDoor.TH Go.ChangeShapes Go.WideShapes Go.ChangeAt Go.RowKit
open Go.ChangeMaps (open_string shut_string)
set_option maxRecDepth 100000

theorem cellsMsg : Tryz.prog.cellsOf 27 = 39 := by kernel_rfl
theorem cellsHd : Tryz.prog.cellsOf 44 = 68 := by kernel_rfl
theorem cellsHash : Tryz.prog.cellsOf 24 = 32 := by kernel_rfl
theorem cellsInt : Tryz.prog.cellsOf 3 = 1 := by kernel_rfl
theorem cellsByte : Tryz.prog.cellsOf 5 = 1 := by kernel_rfl
theorem cellsNs : Tryz.prog.cellsOf 22 = 1 := by kernel_rfl
theorem cellsHs : Tryz.prog.cellsOf 25 = 1 := by kernel_rfl
section
variable {H : Type} {enc : TypeId × Value → H} {W : World} {base : Nat} {sp : Nat → Bool} {hd : Bool}
theorem cut1 (cs : List Value) (k n : Nat) : cs.drop k = (cs.drop k).take n ++ cs.drop (k + n) := by
  conv => lhs; rw [← List.take_append_drop n (cs.drop k), List.drop_drop]
/-- A header that is handed in. -/
theorem rd_head (n : Nat) (cs : List Value) (y : DataW H × List MemPlace) (h : DataW.trod enc Tryz.prog W base sp hd n 44 cs = some y) : ∃ x : Hd, cs = x.cells ∧ x.ok := by
  obtain ⟨xs, m, _, _, hl, hx, hf⟩ := DataW.trod_struct Tryz.underlying44 h
  rw [cellsHd] at hl
  have hx6 : xs.length = 6 := hx
  obtain ⟨y0, y1, y2, y3, y4, y5, rfl⟩ : ∃ y0 y1 y2 y3 y4 y5, xs = [y0, y1, y2, y3, y4, y5] := by
    match xs, hx6 with
    | [a, b, c, d, e, f], _ => exact ⟨a, b, c, d, e, f, rfl⟩
  have f0 : DataW.trod enc Tryz.prog W base sp hd m 3 ((cs.drop 0).take (Tryz.prog.cellsOf 3)) = some y0 := hf 0 _ rfl
  have f1 : DataW.trod enc Tryz.prog W base sp hd m 24 ((cs.drop 1).take (Tryz.prog.cellsOf 24)) = some y1 := hf 1 _ rfl
  have f2 : DataW.trod enc Tryz.prog W base sp hd m 24 ((cs.drop 33).take (Tryz.prog.cellsOf 24)) = some y2 := hf 2 _ rfl
  have f3 : DataW.trod enc Tryz.prog W base sp hd m 3 ((cs.drop 65).take (Tryz.prog.cellsOf 3)) = some y3 := hf 3 _ rfl
  have f4 : DataW.trod enc Tryz.prog W base sp hd m 3 ((cs.drop 66).take (Tryz.prog.cellsOf 3)) = some y4 := hf 4 _ rfl
  have f5 : DataW.trod enc Tryz.prog W base sp hd m 3 ((cs.drop 67).take (Tryz.prog.cellsOf 3)) = some y5 := hf 5 _ rfl
  rw [cellsInt] at f0 f3 f4 f5
  rw [cellsHash] at f1 f2
  obtain ⟨a0, e0, _, _⟩ := DataW.trod_int Tryz.underlying3 f0
  obtain ⟨l1, e1, n1⟩ := rd_bytes Tryz.underlying24 Tryz.underlying5 cellsByte cellsHash f1
  obtain ⟨l2, e2, n2⟩ := rd_bytes Tryz.underlying24 Tryz.underlying5 cellsByte cellsHash f2
  obtain ⟨a3, e3, _, _⟩ := DataW.trod_int Tryz.underlying3 f3
  obtain ⟨a4, e4, _, _⟩ := DataW.trod_int Tryz.underlying3 f4
  obtain ⟨a5, e5, _, _⟩ := DataW.trod_int Tryz.underlying3 f5
  refine ⟨⟨a0, l1, l2, a3, a4, a5⟩, ?_, n1, n2⟩
  have t67 : (cs.drop 67).take 1 = cs.drop 67 := List.take_of_length_le (by simp [hl])
  have hcs : cs = (cs.drop 0).take 1 ++ ((cs.drop 1).take 32 ++ ((cs.drop 33).take 32 ++ ((cs.drop 65).take 1 ++ ((cs.drop 66).take 1 ++ (cs.drop 67).take 1)))) := by
    rw [t67, ← cut1 cs 66 1, ← cut1 cs 65 1, ← cut1 cs 33 32, ← cut1 cs 1 32, ← cut1 cs 0 1]
    simp
  rw [hcs, e0, e1, e2, e3, e4, e5]
  simp [Hd.cells]
theorem rd_name (n : Nat) (cs : List Value) (y : DataW H × List MemPlace) (h : DataW.trod enc Tryz.prog W base sp hd n 24 cs = some y) : ∃ x : List UInt8, cs = x.map bV ∧ x.length = 32 :=
  rd_bytes Tryz.underlying24 Tryz.underlying5 cellsByte cellsHash h
/-- A slice that lies in a struct. -/
theorem rd_sliceC {α : Type} {t e k fuel : Nat} (f : α → List Value) (R : α → Prop) (ht : Tryz.prog.underlying t = some (.slice e)) (hk : Tryz.prog.cellsOf e = k) (hk0 : 0 < k)
    (dec : ∀ n cs (y : DataW H × List MemPlace), DataW.trod enc Tryz.prog W base sp hd n e cs = some y → ∃ x : α, cs = f x ∧ R x) {cs : List Value} {y : DataW H × List MemPlace} (h : DataW.trod enc Tryz.prog W base sp hd fuel t cs = some y) :
    ∃ la lc, ∃ l : List α, cs = [.slice la l.length lc] ∧ RdS k (.slice la l.length lc) l.length (l.flatMap f) (whole W) ∧ ∀ x ∈ l, R x := by
  obtain ⟨va, vn, vc, rfl⟩ : ∃ va vn vc, cs = [Value.slice va vn vc] := by
    rcases Go.Deep.open_slice ht h with ⟨hcs, _⟩ | ⟨a, len, cap, m, n, D, Pl, hcs, _⟩
    · exact ⟨_, _, _, hcs⟩
    · exact ⟨_, _, _, hcs⟩
  obtain ⟨la, lc, l, ds, hv, hI, hlen, hR, _⟩ := rd_slice f (fun x _ => R x) ht hk hk0 (fun n cs y h => dec n cs y h) (v := .slice va vn vc) (d := y.1) (ps := y.2) ⟨_, _, _, rfl⟩ ⟨fuel, h⟩
  refine ⟨la, lc, l, by rw [hv], by rw [hv] at hI; exact hI, fun x hx => ?_⟩
  obtain ⟨i, hi, rfl⟩ := List.getElem_of_mem hx
  exact hR i l[i] ds[i] (List.getElem?_eq_getElem hi) (List.getElem?_eq_getElem (by omega))
/-- A message that is handed in. -/
theorem rd_msg {v : Value} {d : DataW H} {ps : List MemPlace} (hv : ∃ c, v = .agg c) (h : DataW.Trod enc Tryz.prog W base sp hd 27 v d ps) : ∃ (m : Mp) (pl : Pl), v = msgV m pl ∧ m.In pl (whole W) := by
  obtain ⟨c, rfl⟩ := hv
  obtain ⟨fuel, hf0⟩ := h
  obtain ⟨xs, n, _, _, hl, hx, hf⟩ := DataW.trod_struct Tryz.underlying27 hf0
  have hl' : c.toList.length = 39 := by rw [cellsMsg] at hl; exact hl
  have hx8 : xs.length = 8 := hx
  obtain ⟨y0, y1, y2, y3, y4, y5, y6, y7, rfl⟩ : ∃ y0 y1 y2 y3 y4 y5 y6 y7, xs = [y0, y1, y2, y3, y4, y5, y6, y7] := by
    match xs, hx8 with
    | [a, b, c, d, e, f, g, h], _ => exact ⟨a, b, c, d, e, f, g, h, rfl⟩
  generalize hcs0 : c.toList = cs at hl'
  have hf' : ∀ i (fd : Field), _ := fun i fd => hf i fd
  have f0 : DataW.trod enc Tryz.prog W base sp hd n 3 ((c.toList.drop 0).take (Tryz.prog.cellsOf 3)) = some y0 := hf 0 _ rfl
  have f1 : DataW.trod enc Tryz.prog W base sp hd n 3 ((c.toList.drop 1).take (Tryz.prog.cellsOf 3)) = some y1 := hf 1 _ rfl
  have f2 : DataW.trod enc Tryz.prog W base sp hd n 3 ((c.toList.drop 2).take (Tryz.prog.cellsOf 3)) = some y2 := hf 2 _ rfl
  have f3 : DataW.trod enc Tryz.prog W base sp hd n 3 ((c.toList.drop 3).take (Tryz.prog.cellsOf 3)) = some y3 := hf 3 _ rfl
  have f4 : DataW.trod enc Tryz.prog W base sp hd n 3 ((c.toList.drop 4).take (Tryz.prog.cellsOf 3)) = some y4 := hf 4 _ rfl
  have f5 : DataW.trod enc Tryz.prog W base sp hd n 22 ((c.toList.drop 5).take (Tryz.prog.cellsOf 22)) = some y5 := hf 5 _ rfl
  have f6 : DataW.trod enc Tryz.prog W base sp hd n 24 ((c.toList.drop 6).take (Tryz.prog.cellsOf 24)) = some y6 := hf 6 _ rfl
  have f7 : DataW.trod enc Tryz.prog W base sp hd n 25 ((c.toList.drop 38).take (Tryz.prog.cellsOf 25)) = some y7 := hf 7 _ rfl
  rw [hcs0] at f0 f1 f2 f3 f4 f5 f6 f7
  rw [cellsInt] at f0 f1 f2 f3 f4
  rw [cellsNs] at f5
  rw [cellsHash] at f6
  rw [cellsHs] at f7
  obtain ⟨a0, e0, _, _⟩ := DataW.trod_int Tryz.underlying3 f0
  obtain ⟨a1, e1, _, _⟩ := DataW.trod_int Tryz.underlying3 f1
  obtain ⟨a2, e2, _, _⟩ := DataW.trod_int Tryz.underlying3 f2
  obtain ⟨a3, e3, _, _⟩ := DataW.trod_int Tryz.underlying3 f3
  obtain ⟨a4, e4, _, _⟩ := DataW.trod_int Tryz.underlying3 f4
  obtain ⟨na, nc, ns, e5, rn, wn⟩ := rd_sliceC (fun h : List UInt8 => h.map bV) (fun h => h.length = 32) Tryz.underlying22 cellsHash (by decide) (fun n cs y h => rd_name n cs y h) f5
  obtain ⟨l6, e6, n6⟩ := rd_bytes Tryz.underlying24 Tryz.underlying5 cellsByte cellsHash f6
  obtain ⟨ha, hc, hs, e7, rh, wh⟩ := rd_sliceC Hd.cells Hd.ok Tryz.underlying25 cellsHd (by decide) (fun n cs y h => rd_head n cs y h) f7
  refine ⟨⟨a0, a1, a2, a3, a4, ns, l6, hs⟩, ⟨na, nc, ha, hc⟩, ?_, n6, wn, wh, rn, rh⟩
  have t38 : (cs.drop 38).take 1 = cs.drop 38 := List.take_of_length_le (by simp [hl'])
  have hcs : cs = (cs.drop 0).take 1 ++ ((cs.drop 1).take 1 ++ ((cs.drop 2).take 1 ++ ((cs.drop 3).take 1 ++ ((cs.drop 4).take 1 ++ ((cs.drop 5).take 1 ++ ((cs.drop 6).take 32 ++ (cs.drop 38).take 1)))))) := by
    rw [t38, ← cut1 cs 6 32, ← cut1 cs 5 1, ← cut1 cs 4 1, ← cut1 cs 3 1, ← cut1 cs 2 1, ← cut1 cs 1 1, ← cut1 cs 0 1]
    simp
  rw [e0, e1, e2, e3, e4, e5, e6, e7] at hcs
  show Value.agg c = Value.agg _
  congr 1
  apply Array.ext'
  rw [hcs0, hcs]
  simp [Mp.cells]
end
theorem contract (H : Type) (enc : TypeId × Value → H) (W : World) (base : Nat) (args : Array Value) (ds gs : List (DataW H)) (before : List MemPlace)
    (hval : ∀ (j : Nat) t v, Tryz.f3.params[j]? = some t → args[j]? = some v → Value.okWide Tryz.prog W .any base t v)
    (hW : DataW.Whole enc Tryz.prog Tryz.f3.params.toList Rows.speechBytesSpec.vars false W args.toList ds gs before)
    (hz : (DataW.weightsEach Tryz.prog (Tryz.f3.params.toList ++ Rows.speechBytesSpec.plain.varTypes Tryz.prog) (ds ++ gs)).all (· ≤ reachBytes) = true)
    (hL : laidMetH Tryz.prog Rows.speechBytesRow.laid W) (hS : W.ShapedOpen Tryz.prog) :
    Calls Tryz.prog 3 args W fun e W' => ∃ v, e = .returned v ∧ Rows.speechBytesSpec.post enc Tryz.prog Tryz.f3 false true false false W args v W' := by
  have hW' := hW
  obtain ⟨p, q, hA0, hV, rfl, hfz, hnd⟩ := hW
  have hA : DataW.TrodAll enc Tryz.prog W 0 (fun _ => true) true Tryz.f3.params.toList args.toList ds p := hA0
  rw [Tryz.params3] at hA hval
  obtain ⟨v0, vs0, d0, ds0, p0, q0, hargs, rfl, rfl, h0, r0⟩ := trodAll_cons hA
  obtain ⟨rfl, rfl, rfl⟩ := trodAll_nil r0
  obtain rfl : args = #[v0] := by cases args; simp_all
  obtain ⟨rfl, rfl⟩ := trodVars_none hV
  obtain ⟨m, pl, rfl, hI⟩ := rd_msg (let ⟨c, hc, _⟩ := okWide_struct Tryz.underlying27 (hval 0 27 v0 rfl rfl); ⟨c, hc⟩) h0
  clear hA0
  obtain ⟨hG, hT, hWd⟩ := tables hL hS
  have hcall := Bytes_law m pl (whole W) hI hG hT hWd
  refine (call_whole hcall (fun v Hs' h => ⟨[], h.2⟩)).mono fun e W' ⟨v, Hs', he, ⟨hv, _⟩, hB⟩ => ?_
  subst hv
  exact ⟨_, he, post_law laidOut (by kernel_rfl) rfl hW' (by kernel_rfl) Tryz.underlying4 rfl hB⟩

/-- Behind the call. -/
theorem reads (os : Os) {H : Type} (enc : TypeId × Value → H) : ∃ places, DataW.whole enc Tryz.prog ((laidWorld os).forCall (fun _ _ => 0) ⟨#[], #[.agg z27.toArray], []⟩).memory Tryz.f3.params.toList Rows.speechBytesSpec.vars false (#[.agg z27.toArray] : Array Value).toList 8 = some ([.agg [.lit (.int .i64 0), .lit (.int .i64 0), .lit (.int .i64 0), .lit (.int .i64 0), .lit (.int .i64 0), .nil, .agg (List.replicate 32 (.lit (.int .u8 0))), .nil]], [], places) :=
  ⟨[], by kernel_rfl⟩
theorem laid_met (os : Os) : laidMet Tryz.prog Rows.speechBytesRow.laid ((laidWorld os).forCall (fun _ _ => 0) ⟨#[], #[.agg z27.toArray], []⟩).memory :=
  laidMet_of_run' 8 (by kernel_rfl) (by kernel_rfl)

theorem lifted (os : Os) (started : os.Started) (H : Type) (enc : TypeId × Value → H) (F : Stop.Interp) :
    ReturnsInHanded {} Tryz.checked os 3 .any ((OpenSpec.ofChange Rows.speechBytesSpec).preRow enc Tryz.prog Tryz.f3 Rows.speechBytesRow.domain false Rows.speechBytesRow.laid) (((OpenSpec.ofChange Rows.speechBytesSpec).at F).post enc Tryz.prog Tryz.f3 false true false false) := by
  obtain ⟨places, hx⟩ := reads os enc
  refine returnsInHanded_of_row (C := Tryz.checked) (s := OpenSpec.ofChange Rows.speechBytesSpec) own started (by kernel_rfl) Tryz.func3
    (witness_row_at (enc := enc) (C := Tryz.checked) false (laidWorld os) (#[.agg z27.toArray]) rfl (by kernel_rfl) (by kernel_rfl) (by kernel_rfl)
      (OpenSpec.preRow_of_cond 8 hx (by kernel_rfl) (fun k hk => by cases hk) (by kernel_rfl) (laid_met os))) ?_
  intro W base args ds gs before hval hW _ _ hz hL hS _
  exact contract H enc W base args ds gs before hval hW hz hL hS

theorem said : Rows.SpeechBytesSaid :=
  OpenClaim.holds_of_cond 3 Tryz.f3 rfl rfl rfl rfl rfl rfl rfl ⟨rfl, rfl, rfl, rfl, rfl⟩ rfl rfl rfl rfl rfl (by kernel_rfl) Tryz.func3 (by kernel_rfl)
    (of_decide_eq_true (by kernel_rfl)) (by unfold Func.isWrapper; first | (rw [if_pos (by decide +kernel)]; kernel_rfl) | (rw [if_neg (by decide +kernel)]; exact ⟨rfl, rfl⟩))
    (fun os started H enc _ F => by rw [OpenClaim.pre_eq_preRow]; exact lifted os started H enc F)

/-- No parameter wants a stand-in; the program's own looks are off: what the card asks. -/
theorem plain (f : FuncId) (fn : Func) (hf : Tryz.pinned.checked.prog.funcNamed "trailhead/trailheadlaw08.SpeechBytes" = some f) (hfn : Tryz.pinned.checked.prog.funcs[f]? = some fn) :
    false = Tryz.pinned.checked.prog.looks [] ∧ ∀ (j : Nat) t, fn.params[j]? = some t → Tryz.pinned.checked.prog.wantsStandIn t = false := by
  obtain rfl : f = 3 := Option.some.inj ((show Tryz.prog.funcNamed "trailhead/trailheadlaw08.SpeechBytes" = some 3 by kernel_rfl).symm.trans hf) |>.symm
  obtain rfl : fn = Tryz.f3 := (Option.some.inj (Tryz.func3.symm.trans hfn)).symm
  refine ⟨by kernel_rfl, fun j t ht => ?_⟩
  rw [Tryz.params3] at ht
  have hall : ([27] : List Nat).all (fun t => !Tryz.prog.wantsStandIn t) = true := by kernel_rfl
  have hm : t ∈ ([27] : List Nat) := by simpa using Array.mem_of_getElem? ht
  show Tryz.prog.wantsStandIn t = false
  simpa using List.all_eq_true.1 hall t hm

theorem proved : Rows.SpeechBytesCardSaid :=
  Claim7.holds_tied_plain_at .later [] _ _ _ _ said (fun _ h => by cases h) (by kernel_rfl) (fun _ h => by cases h) speechBytes_row_tie rfl ⟨rfl, rfl⟩ (by kernel_rfl) rfl plain (by kernel_rfl)
end Go.Proofs.YtedkoebbijpnfaaGreatDoor.speechBytes
