/- For every slice of items (40 of them, 2^12 bytes, as the law itself guards) the call of trailheadlaw05.ScrollPuts returns true, and its argument reads behind the call as it read before: no condition beside. -/
import Derived.Test.YtooemjldpchgfaaS14
import Derived.Test.YtooemjldpchgfaaXRead
namespace Go.Proofs.Ytooemjldpchgfaa.scrollPuts
open Go Go.Proofs.Ytooemjldpchgfaa.TH Go.ChangeShapes Go.WideShapes Go.ChangeAt Go.RowKit

theorem own : ownKnob Try.prog.godebug = none := by kernel_rfl
theorem laidOut : laidOutB Try.prog = true := by kernel_rfl
theorem cells46 : Try.prog.cellsOf 46 = 36 := by kernel_rfl
theorem cells44 : Try.prog.cellsOf 44 = 32 := by kernel_rfl
theorem cells3 : Try.prog.cellsOf 3 = 1 := by kernel_rfl
theorem cells5 : Try.prog.cellsOf 5 = 1 := by kernel_rfl
theorem cells9 : Try.prog.cellsOf 9 = 1 := by kernel_rfl

theorem take1 {cs : List Value} {i : Nat} {v : Value} (h : (cs.drop i).take 1 = [v]) : cs[i]? = some v := by
  rw [List.take_one] at h
  simpa using h

/-- An item that is handed in. -/
theorem rd_item {H : Type} {enc : TypeId × Value → H} {W : World} {base : Nat} {sp : Nat → Bool} {hd : Bool} (n : Nat) (cs : List Value) (y : DataW H × List MemPlace) (h : DataW.trod enc Try.prog W base sp hd n 46 cs = some y) :
    ∃ x : Itm, cs = x.cells ∧ (x.ok ∧ x.text.length ∈ y.1.weights Try.prog 46) := by
  obtain ⟨xs, m, _, hy, hl, hx, hf⟩ := DataW.trod_struct Try.underlying46 h
  rw [cells46] at hl
  have hx5 : xs.length = 5 := hx
  obtain ⟨y0, y1, y2, y3, y4, rfl⟩ : ∃ y0 y1 y2 y3 y4, xs = [y0, y1, y2, y3, y4] := by
    match xs, hx5 with
    | [a, b, c, d, e], _ => exact ⟨a, b, c, d, e, rfl⟩
  have f0 : DataW.trod enc Try.prog W base sp hd m 3 ((cs.drop 0).take (Try.prog.cellsOf 3)) = some y0 := hf 0 _ rfl
  have f1 : DataW.trod enc Try.prog W base sp hd m 3 ((cs.drop 1).take (Try.prog.cellsOf 3)) = some y1 := hf 1 _ rfl
  have f2 : DataW.trod enc Try.prog W base sp hd m 3 ((cs.drop 2).take (Try.prog.cellsOf 3)) = some y2 := hf 2 _ rfl
  have f3 : DataW.trod enc Try.prog W base sp hd m 44 ((cs.drop 3).take (Try.prog.cellsOf 44)) = some y3 := hf 3 _ rfl
  have f4 : DataW.trod enc Try.prog W base sp hd m 9 ((cs.drop 35).take (Try.prog.cellsOf 9)) = some y4 := hf 4 _ rfl
  rw [cells3] at f0 f1 f2
  rw [cells44] at f3
  rw [cells9] at f4
  obtain ⟨a0, e0, _, w0⟩ := DataW.trod_int Try.underlying3 f0
  obtain ⟨a1, e1, _, w1⟩ := DataW.trod_int Try.underlying3 f1
  obtain ⟨a2, e2, _, w2⟩ := DataW.trod_int Try.underlying3 f2
  obtain ⟨l, e3, hl3⟩ := rd_bytes Try.underlying44 Try.underlying5 cells5 cells44 f3
  obtain ⟨s, e4, g4, _⟩ := DataW.trod_string Try.underlying9 f4
  have hs : str s.data.toList = .string s := by
    unfold str; congr 1
  refine ⟨⟨a0, a1, a2, l, s.data.toList⟩, ?_, ⟨hl3, ?_⟩, ?_⟩
  · have hcs : cs = (cs.drop 0).take 1 ++ ((cs.drop 1).take 1 ++ ((cs.drop 2).take 1 ++ ((cs.drop 3).take 32 ++ (cs.drop 35).take 1))) := by
      have t5 : (cs.drop 35).take 1 = cs.drop 35 := List.take_of_length_le (by simp [hl])
      have s3 : cs.drop 3 = (cs.drop 3).take 32 ++ cs.drop 35 := by
        conv => lhs; rw [← List.take_append_drop 32 (cs.drop 3), List.drop_drop]
      have s2 : cs.drop 2 = (cs.drop 2).take 1 ++ cs.drop 3 := by
        conv => lhs; rw [← List.take_append_drop 1 (cs.drop 2), List.drop_drop]
      have s1 : cs.drop 1 = (cs.drop 1).take 1 ++ cs.drop 2 := by
        conv => lhs; rw [← List.take_append_drop 1 (cs.drop 1), List.drop_drop]
      rw [t5, ← s3, ← s2, ← s1]
      conv => lhs; rw [← List.take_append_drop 1 cs]
      rfl
    rw [hcs, e0, e1, e2, e3, e4]
    simp only [Itm.cells, hs]
    rfl
  · have : -9223372036854775808 ≤ a2 ∧ a2 ≤ 9223372036854775807 := by simpa [Lit.wf, IntKind.min, IntKind.max, IntKind.signed, IntKind.bits] using w2
    show -9223372036854775808 ≤ a2 ∧ a2 < 9223372036854775808
    omega
  · rw [hy]
    have hy4 : y4.1 = .lit (.string s.data.toList) := by rw [g4]
    simp only [List.map_cons, List.map_nil, hy4, DataW.weights, Try.underlying46, DataW.weightsEach, List.mem_append, List.mem_singleton]
    simp

theorem weights_all {H : Type} {P : Program} {e : TypeId} {n : Nat} : ∀ {ds : List (DataW H)} {d : DataW H}, d ∈ ds → n ∈ d.weights P e → n ∈ DataW.weightsAll P e ds
  | d0 :: ds, d, h, hn => by
    simp only [DataW.weightsAll, List.mem_append]
    rcases List.mem_cons.1 h with rfl | h
    · exact .inl hn
    · exact .inr (weights_all h hn)

theorem contract (H : Type) (enc : TypeId × Value → H) (W : World) (base : Nat) (args : Array Value) (ds gs : List (DataW H)) (before : List MemPlace)
    (hval : ∀ (j : Nat) t v, Try.f5.params[j]? = some t → args[j]? = some v → Value.okWide Try.prog W .any base t v)
    (hW : DataW.Whole enc Try.prog Try.f5.params.toList Rows.scrollPutsSpec.vars false W args.toList ds gs before)
    (hz : (DataW.weightsEach Try.prog (Try.f5.params.toList ++ Rows.scrollPutsSpec.plain.varTypes Try.prog) (ds ++ gs)).all (· ≤ reachBytes) = true) :
    Calls Try.prog 5 args W fun e W' => ∃ v, e = .returned v ∧ Rows.scrollPutsSpec.post enc Try.prog Try.f5 false true false false W args v W' := by
  have hW' := hW
  obtain ⟨p, q, hA0, hV, rfl, hfz, hnd⟩ := hW
  have hA : DataW.TrodAll enc Try.prog W 0 (fun _ => true) true Try.f5.params.toList args.toList ds p := hA0
  rw [Try.params5] at hA hval hz
  obtain ⟨v0, vs0, d0, ds0, p0, q0, hargs, rfl, rfl, h0, r0⟩ := trodAll_cons hA
  obtain ⟨rfl, rfl, rfl⟩ := trodAll_nil r0
  obtain rfl : args = #[v0] := by cases args; simp_all
  obtain ⟨rfl, rfl⟩ := trodVars_none hV
  clear hA0
  have hv0 := okWide_slice Try.underlying39 (hval 0 39 v0 rfl rfl)
  obtain ⟨la, lc, l, ds', rfl, hI, hlen, hR, hd⟩ := rd_slice Itm.cells (fun x d => x.ok ∧ x.text.length ∈ d.weights Try.prog 46) Try.underlying39 cells46 (by decide) (fun n cs y h => rd_item n cs y h) hv0 h0
  have hget : ∀ x ∈ l, ∃ d' ∈ ds', x.ok ∧ x.text.length ∈ d'.weights Try.prog 46 := by
    intro x hx
    obtain ⟨i, hi, rfl⟩ := List.getElem_of_mem hx
    exact ⟨ds'[i], List.getElem_mem _, hR i l[i] ds'[i] (List.getElem?_eq_getElem hi) (List.getElem?_eq_getElem (by omega))⟩
  have hs : ∀ x ∈ l, x.text.length ≤ 9223372036854771711 := by
    intro x hx
    obtain ⟨d', hd', _, hw⟩ := hget x hx
    have hw2 : x.text.length ∈ d0.weights Try.prog 39 := by
      rcases hd with ⟨_, rfl⟩ | ⟨s, rfl⟩
      · cases hd'
      · have := weights_all hd' hw
        simp only [DataW.weights, Try.underlying39, List.mem_cons, List.mem_append]
        exact .inr (.inl this)
    have := List.all_eq_true.1 hz _ (DataW.weights_mem_each (j := 0) (t := 39) (d := d0) rfl rfl _ hw2)
    have h2 := of_decide_eq_true this
    have h3 := reachBytes_lt
    omega
  have hcall := Puts_law la lc l (whole W) (fun x hx => let ⟨_, _, h, _⟩ := hget x hx; h) hI hs
  refine (call_whole hcall (fun v Hs' h => ⟨[], h.2⟩)).mono fun e W' ⟨v, Hs', he, ⟨hv, _⟩, hB⟩ => ?_
  subst hv
  exact ⟨_, he, post_law laidOut (by kernel_rfl) rfl hW' (by kernel_rfl) Try.underlying4 rfl hB⟩

set_option maxRecDepth 100000 in
theorem lifted (os : Os) (started : os.Started) (H : Type) (enc : TypeId × Value → H) :
    ReturnsInHanded {} Try.checked os 5 .any (Rows.scrollPutsSpec.pre6 enc Try.prog Try.f5 Rows.scrollPutsRow.domain false) (Rows.scrollPutsSpec.post enc Try.prog Try.f5 false true false false) := by
  refine returnsInHanded_of_change_sized (C := Try.checked) own started (by kernel_rfl) Try.func5
    (ChangeSpec.witness6 (enc := enc) (C := Try.checked) false ⟨#[], #[.slice none 0 0], []⟩ 8 (by kernel_rfl) (by kernel_rfl) (by kernel_rfl) (by kernel_rfl)) ?_
  intro W base args ds gs before hval hW _ hz _
  exact contract H enc W base args ds gs before hval hW hz

theorem proved : Rows.ScrollPutsSaid :=
  OpenClaim.holds_of_wide 5 Try.f5 rfl rfl rfl rfl rfl rfl rfl ⟨rfl, rfl, rfl, rfl, rfl⟩ rfl rfl rfl rfl rfl (by kernel_rfl) Try.func5 (by kernel_rfl)
    (of_decide_eq_true (by kernel_rfl)) (by unfold Func.isWrapper; first | (rw [if_pos (by decide +kernel)]; kernel_rfl) | (rw [if_neg (by decide +kernel)]; exact ⟨rfl, rfl⟩))
    (fun os started H enc _ => lifted os started H enc)
end Go.Proofs.Ytooemjldpchgfaa.scrollPuts
