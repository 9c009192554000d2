/- From a function's law to a row's step: what the call leaves of the world that was there. -/
import Derived.Test.YtooemjldpchgfaaXMath
import Derived.Carry
import Derived.ProofKit
import Derived.OpenShut
import Derived.JoinedOf
import Derived.JoinedAt
namespace Go.Proofs.Ytooemjldpchgfaa.TH
open Go Go.ChangeShapes Go.WideShapes Go.ChangeAt Go.RowKit

theorem Ext.below_nil {H' : Hp} {W W' : World} (h : Ext Hp.nil H' W W') : Below W.heap.size W W' :=
  ⟨h.os, h.tape, h.output, h.size, fun k hk => h.frame k hk rfl⟩

/-- All that is there. -/
def whole (W : World) : Hp := fun k => W.heap[k]?
theorem Sub.whole (W : World) : Sub (whole W) W := fun _ _ h => h
theorem Ext.below_whole {H' : Hp} {W W' : World} (h : Ext (whole W) H' W W') (hs : (whole W).Le H') : Below W.heap.size W W' :=
  ⟨h.os, h.tape, h.output, h.size, fun k hk => by
    have e : W.heap[k]? = some W.heap[k] := Array.getElem?_eq_getElem hk
    rw [e]; exact h.sub k _ (hs k _ e)⟩

theorem call_nil {P : Program} {f : FuncId} {args : List Value} {R : Value → List Hp → Prop} (h : CallL P f args [] R) (W : World) :
    Calls P f args.toArray W fun e W' => ∃ v Hs', e = .returned v ∧ R v Hs' ∧ Below W.heap.size W W' :=
  (h List.Pairwise.nil W (fun b o hb => by simp [join, Hp.nil] at hb)).mono fun _ _ ⟨v, _, he, ⟨Hs', _, _, hR⟩, hx⟩ => ⟨v, Hs', he, hR, hx.below_nil⟩

theorem call_whole {P : Program} {f : FuncId} {args : List Value} {R : Value → List Hp → Prop} {W : World} (h : CallL P f args [whole W] R) (hR : ∀ v Hs', R v Hs' → ∃ Ks, Hs' = whole W :: Ks) :
    Calls P f args.toArray W fun e W' => ∃ v Hs', e = .returned v ∧ R v Hs' ∧ Below W.heap.size W W' := by
  have e : join [whole W] = whole W := by funext k; simp only [join, Hp.nil]; cases whole W k <;> rfl
  refine (h (List.pairwise_singleton _ _) W (by rw [e]; exact Sub.whole W)).mono fun en W' ⟨v, H', he, ⟨Hs', hj, _, hr⟩, hx⟩ => ⟨v, Hs', he, hr, ?_⟩
  obtain ⟨Ks, rfl⟩ := hR v Hs' hr
  rw [e] at hx
  refine hx.below_whole ?_
  rw [hj]
  intro b o hb
  simp [join, hb]

theorem kept_of_below {W W' : World} (h : Below W.heap.size W W') (may : MemPlace → Prop) : W.keptBut W' may := by
  refine ⟨h.os, h.output, fun i hi => ?_⟩
  rw [h.block i hi]
  have e : W.heap[i]? = some W.heap[i] := Array.getElem?_eq_getElem hi
  rw [e]
  cases W.heap[i] <;> simp

theorem trodAll_stays {H : Type} {enc : TypeId × Value → H} {P : Program} (hl : laidOutB P = true) {W W' : World} {sp : Nat → Bool} (hb : Below W.heap.size W W') :
    ∀ {ts : List TypeId} {vs : List Value} {ds : List (DataW H)} {ps : List MemPlace}, (∀ t ∈ ts, P.readableRec t = true ∧ t < P.types.size) → DataW.TrodAll enc P W 0 (fun _ => true) true ts vs ds ps →
      (∀ p ∈ ps, p.block < W.heap.size) → (∀ p ∈ ps, sp p.block = true) → DataW.TrodAll enc P W' 0 sp true ts vs ds ps
  | [], [], [], _, _, h, _, _ => h
  | _ :: _, _ :: _, _ :: _, _, hT, ⟨p, q, h1, h2, e⟩, hlt, hs =>
    ⟨p, q, WideElems.Trod_stays hl (hT _ List.mem_cons_self).1 (hT _ List.mem_cons_self).2 h1 (fun x hx => hb.same (hlt x (by rw [e]; exact List.mem_append_left _ hx))) (fun x hx => hs x (by rw [e]; exact List.mem_append_left _ hx)),
      trodAll_stays hl hb (fun t ht => hT t (List.mem_cons_of_mem _ ht)) h2 (fun x hx => hlt x (by rw [e]; exact List.mem_append_right _ hx)) (fun x hx => hs x (by rw [e]; exact List.mem_append_right _ hx)), e⟩
  | [], _ :: _, _, _, _, h, _, _ => h.elim
  | [], [], _ :: _, _, _, h, _, _ => h.elim
  | _ :: _, [], _, _, _, h, _, _ => by cases h
  | _ :: _, _ :: _, [], _, _, h, _, _ => by cases h

/-- A law's behind: true, and the arguments read as they did; nothing that was there has turned. -/
theorem post_law {H : Type} {enc : TypeId × Value → H} {P : Program} {f : Func} {s : ChangeSpec} {apart fresh handsOn again : Bool} {W W' : World} {args : Array Value} {ds gs : List (DataW H)} {before : List MemPlace} {t : TypeId}
    (hl : laidOutB P = true) (hp : (f.params.toList.all fun t => P.readableRec t && decide (t < P.types.size)) = true)
    (hv : s.vars = []) (hW : DataW.Whole enc P f.params.toList s.vars apart W args.toList ds gs before)
    (hr : f.resultTypes = #[t]) (ht : P.underlying t = some .bool) (hs : s.fn H (ds ++ gs) = { results := [.lit (.bool true)], args := ds }) (hB : Below W.heap.size W W') :
    s.post enc P f apart fresh handsOn again W args (.bool true) W' := by
  have hlt := hW.lt
  have hW0 := hW
  obtain ⟨p, q, hA, hV, hpq, hz, hn⟩ := hW
  rw [hv] at hV
  obtain ⟨rfl, rfl⟩ := trodVars_none hV
  simp only [List.append_nil] at hpq
  subst hpq
  have hT : ∀ t ∈ f.params.toList, P.readableRec t = true ∧ t < P.types.size := fun t ht => by
    have := List.all_eq_true.1 hp t ht
    simpa using this
  have hargs : ∀ sp : Nat → Bool, (∀ x ∈ before, sp x.block = true) → DataW.TrodAll enc P W' 0 sp true f.params.toList args.toList ds before :=
    fun sp hsp => trodAll_stays hl hB hT hA (fun x hx => hlt x hx) hsp
  have hres : ∀ (b : Nat) (sp : Nat → Bool) (hd : Bool), DataW.TrodAll enc P W' b sp hd f.resultTypes.toList ((Value.bool true).resultList f.resultTypes.size) (s.fn H (ds ++ [])).results [] := fun b sp hd => by
    rw [hr, hs]
    exact trodAll_cons_mk (shut_bool ht _) trodAll_mk0
  have hfz : ∀ x ∈ before, W'.frozen? ⟨x.block, 0, none⟩ = W'.frozen? ⟨x.block, 0, none⟩ := fun _ _ => rfl
  have hfr : ∀ b off, b < W.heap.size → W'.frozen? ⟨b, off, none⟩ = W.frozen? ⟨b, off, none⟩ := fun b off hb => by
    unfold World.frozen?
    rw [hB.block b hb]
  refine ⟨ds, [], before, [], before, [], hW0, hres _ _ _, ?_, ?_, kept_of_below hB _, fun _ => ?_⟩
  · rw [hs]; exact hargs _ (fun x hx => by simpa using hlt x hx)
  · rw [hv, hs]; rfl
  · refine ⟨ok_one hr rfl (okWide_bool_mk ht _), [.lit (.bool true)] ++ ds, [], ([] ++ before) ++ [], ⟨[] ++ before, [], ?_, ?_, rfl, ?_, ?_⟩, ?_⟩
    · have h1 := hres 0 (fun _ => true) true
      rw [hs] at h1
      exact trodAll_append (hargs _ (fun _ _ => rfl)) h1
    · rw [hv]; rfl
    · intro b off hx
      have hx' : MemPlace.cell b off ∈ before := by simpa using hx
      rw [hfr b off (hlt _ hx')]
      exact hz b off (by simpa using hx')
    · intro ha
      simpa using hn ha
    · intro x hx _
      simpa using hx
end Go.Proofs.Ytooemjldpchgfaa.TH
