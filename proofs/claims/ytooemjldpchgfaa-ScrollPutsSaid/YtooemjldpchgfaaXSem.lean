/- A part of the heap, and what an operation of the model does to it: the operation runs in every world that holds that part, and leaves everything else as it is. -/
import Derived.WalkKit
import Derived.WalkLawsBesides
import Derived.WalkSpells
namespace Go.Proofs.Ytooemjldpchgfaa.TH
open Go

/-- A part of the heap: some blocks. -/
abbrev Hp := Nat → Option Obj

def Hp.set (H : Hp) (b : Nat) (o : Obj) : Hp := fun k => if k = b then some o else H k
def Hp.nil : Hp := fun _ => none

def Hp.cell? (H : Hp) (a : Addr) : Option Value :=
  match H a.block with
  | some (.cells c _ _) => if a.spot.isSome then none else c[a.off]?
  | _ => none

def Hp.frozen? (H : Hp) (a : Addr) : Bool :=
  match H a.block with
  | some (.cells _ _ (lo, hi)) => lo ≤ a.off && a.off < hi
  | _ => false

def shapeOf : Obj → Option (TypeId × Nat)
  | .cells c e _ => some (e, c.size)
  | _ => none
def isCells : Obj → Bool
  | .cells .. => true
  | _ => false

/-- The world holds that part. -/
def Sub (H : Hp) (w : World) : Prop := ∀ b o, H b = some o → w.heap[b]? = some o

/-- From one world to the next: the part has become another one, all else that was there is as it was. -/
structure Ext (H H' : Hp) (w w' : World) : Prop where
  sub : Sub H' w'
  os : w'.os = w.os
  tape : w'.tape = w.tape
  output : w'.output = w.output
  size : w.heap.size ≤ w'.heap.size
  frame : ∀ k, k < w.heap.size → H k = none → w'.heap[k]? = w.heap[k]?
  dom : ∀ b, H' b ≠ none → H b ≠ none ∨ w.heap.size ≤ b

theorem Sub.lt {H : Hp} {w : World} (h : Sub H w) {b : Nat} {o : Obj} (hb : H b = some o) : b < w.heap.size :=
  (Array.getElem?_eq_some_iff.1 (h b o hb)).1

theorem Ext.refl {H : Hp} {w : World} (h : Sub H w) : Ext H H w w :=
  ⟨h, rfl, rfl, rfl, Nat.le_refl _, fun _ _ _ => rfl, fun _ h => .inl h⟩

theorem Ext.trans {H H1 H2 : Hp} {w w1 w2 : World} (h : Ext H H1 w w1) (k : Ext H1 H2 w1 w2) : Ext H H2 w w2 := by
  refine ⟨k.sub, k.os.trans h.os, k.tape.trans h.tape, k.output.trans h.output, Nat.le_trans h.size k.size, fun b hb hn => ?_, fun b hb => ?_⟩
  · have h1 := h.frame b hb hn
    cases hh : H1 b with
    | none => exact (k.frame b (Nat.lt_of_lt_of_le hb h.size) hh).trans h1
    | some o =>
      rcases h.dom b (by simp [hh]) with h2 | h2
      · exact absurd hn h2
      · omega
  · rcases k.dom b hb with h1 | h1
    · rcases h.dom b h1 with h2 | h2
      · exact .inl h2
      · exact .inr h2
    · exact .inr (Nat.le_trans h.size h1)

/-- The same part, a world that differs in its draws alone. -/
theorem Ext.drawn {H H' : Hp} {w w' : World} (n : Nat) (h : Ext H H' { w with drawn := n } w') : Ext H H' w w' :=
  ⟨h.sub, h.os, h.tape, h.output, h.size, h.frame, h.dom⟩

theorem Sub.drawn {H : Hp} {w : World} (h : Sub H w) (n : Nat) : Sub H { w with drawn := n } := h

theorem Sub.cell {H : Hp} {w : World} (h : Sub H w) {a : Addr} {v : Value} (hc : H.cell? a = some v) : w.cell? a = some v := by
  unfold Hp.cell? at hc
  unfold World.cell?
  split at hc
  · rename_i c e fr hb
    rw [h _ _ hb]; exact hc
  · cases hc

/-- What a question may be answered. -/
def can (q : Question) (n : Nat) : Prop := if q.forced then n = 0 else ∃ t, n = q.cut t

/-- An operation that reads alone, and asks nothing: its answer over a part of the heap. -/
def quiet {α : Type} (P : Program) (H : Hp) : Sem α → Option α
  | .pure a => some a
  | .load _ a k => match H.cell? a with
    | some v => quiet P H (k v)
    | none => none
  | .store .. => none
  | .new .. => none
  | .shape r k => match H r with
    | some o => quiet P H (k (shapeOf o))
    | none => none
  | .freeze .. => none
  | .frozen a k => match H a.block with
    | some _ => quiet P H (k (H.frozen? a))
    | none => none
  | .getObj r k => match H r with
    | some o => if isCells o then none else quiet P H (k o)
    | none => none
  | .setObj .. => none
  | .choose q k => if q.forced then quiet P H (k 0) else none
  | .sys .. => none
  | .program k => quiet P H (k P)
  | .mark _ k => quiet P H k
  | .halt _ => none

theorem frozen_of_sub {H : Hp} {w : World} (h : Sub H w) {a : Addr} {o : Obj} (hb : H a.block = some o) : w.frozen? a = H.frozen? a := by
  unfold World.frozen? Hp.frozen?
  rw [h _ _ hb, hb]
  cases o <;> rfl

theorem shape_of_sub {H : Hp} {w : World} (h : Sub H w) {r : Nat} {o : Obj} (hb : H r = some o) : w.shape? r = shapeOf o := by
  unfold World.shape?
  rw [h _ _ hb]
  cases o <;> rfl

theorem quiet_run {α : Type} {P : Program} {H : Hp} (s : Sem α) : ∀ {a : α} {w : World}, quiet P H s = some a → Sub H w → s.run P w = .ok a w := by
  induction s with
  | pure a => intro b w h _; simp [quiet] at h; simp [Sem.run, h]
  | load m a k ih =>
    intro b w h hs
    simp only [quiet] at h
    split at h
    · rename_i v hv
      simp only [Sem.run, hs.cell hv]
      exact ih v h hs
    · cases h
  | shape r k ih =>
    intro b w h hs
    simp only [quiet] at h
    split at h
    · rename_i o ho
      simp only [Sem.run, shape_of_sub hs ho]
      exact ih _ h hs
    · cases h
  | frozen a k ih =>
    intro b w h hs
    simp only [quiet] at h
    split at h
    · rename_i o ho
      simp only [Sem.run, frozen_of_sub hs ho]
      exact ih _ h hs
    · cases h
  | getObj r k ih =>
    intro b w h hs
    simp only [quiet] at h
    split at h
    · rename_i o ho
      split at h
      · cases h
      · rename_i hc
        simp only [Sem.run, hs _ _ ho]
        cases o <;> simp [isCells] at hc <;> exact ih _ h hs
    · cases h
  | choose q k ih =>
    intro b w h hs
    simp only [quiet] at h
    split at h
    · rename_i hf
      simp only [Sem.run, hf, if_true]
      exact ih 0 h hs
    · cases h
  | program k ih => intro b w h hs; exact ih P h hs
  | mark m k ih => intro b w h hs; exact ih h hs
  | _ => intro b w h _; simp [quiet] at h

/-- A block's frozen cells, and some more. -/
def frz (fr : Nat × Nat) (a : Addr) (n : Nat) : Nat × Nat := if n = 0 then fr else if fr.1 == fr.2 then (a.off, a.off + n) else (min fr.1 a.off, max fr.2 (a.off + n))

/-- What an operation does to a part of the heap, whatever it is answered. -/
def SemH {α : Type} (P : Program) : Sem α → Hp → (α → Hp → Prop) → Prop
  | .pure a, H, K => K a H
  | .load _ a k, H, K => ∃ v, H.cell? a = some v ∧ SemH P (k v) H K
  | .store _ a v k, H, K => v.oneCell' = true ∧ ∃ c e fr, H a.block = some (.cells c e fr) ∧ a.spot = none ∧ a.off < c.size ∧ H.frozen? a = false ∧
      SemH P k (H.set a.block (.cells (c.setIfInBounds a.off v) e fr)) K
  | .new o k, H, K => ∀ b, H b = none → SemH P (k b) (H.set b o) K
  | .shape r k, H, K => ∃ o, H r = some o ∧ SemH P (k (shapeOf o)) H K
  | .freeze a n k, H, K => ∃ c e fr, H a.block = some (.cells c e fr) ∧ SemH P k (H.set a.block (.cells c e (frz fr a n))) K
  | .frozen a k, H, K => ∃ o, H a.block = some o ∧ SemH P (k (H.frozen? a)) H K
  | .getObj r k, H, K => ∃ o, H r = some o ∧ isCells o = false ∧ SemH P (k o) H K
  | .setObj r o k, H, K => ∃ o0, H r = some o0 ∧ isCells o0 = false ∧ SemH P k (H.set r o) K
  | .choose q k, H, K => ∀ n, can q n → SemH P (k n) H K
  | .sys .., _, _ => False
  | .program k, H, K => SemH P (k P) H K
  | .mark _ k, H, K => SemH P k H K
  | .halt _, _, _ => False

theorem oneCell_store {P : Program} {α : Type} {m : Mode} {a : Addr} {v : Value} {k : Sem α} {w : World} {u : Value} (h1 : v.oneCell' = true)
    (hc : w.cell? a = some u) (hf : w.frozen? a = false) : (Sem.store m a v k).run P w = k.run P (w.setCell a v) := by
  cases v <;> simp [Value.oneCell'] at h1 <;> simp [Sem.run, hc, hf]

theorem set_sub {H : Hp} {w w' : World} {b : Nat} {o : Obj} (h : Sub H w) (hb : w'.heap[b]? = some o) (hk : ∀ k, k ≠ b → k < w.heap.size → w'.heap[k]? = w.heap[k]?) : Sub (H.set b o) w' := by
  intro k x hx
  unfold Hp.set at hx
  split at hx
  · rename_i e; subst e; cases hx; exact hb
  · rename_i e; rw [hk k e (h.lt hx)]; exact h k x hx

theorem SemH_run {α : Type} {P : Program} (s : Sem α) : ∀ {H : Hp} {K : α → Hp → Prop} {w : World}, SemH P s H K → Sub H w →
    ∃ a w' H', s.run P w = .ok a w' ∧ K a H' ∧ Ext H H' w w' := by
  induction s with
  | pure a => intro H K w h hs; exact ⟨a, w, H, rfl, h, .refl hs⟩
  | load m a k ih =>
    intro H K w ⟨v, hv, h⟩ hs
    obtain ⟨x, w', H', hr, hk, he⟩ := ih v h hs
    exact ⟨x, w', H', by simp only [Sem.run, hs.cell hv]; exact hr, hk, he⟩
  | store m a v k ih =>
    intro H K w ⟨h1, c, e, fr, hb, hsp, hlt, hf, h⟩ hs
    have hwb := hs _ _ hb
    have hcell : w.cell? a = some c[a.off] := by simp [World.cell?, hwb, hsp, hlt]
    have hfr : w.frozen? a = false := by rw [frozen_of_sub hs hb]; exact hf
    have hne : ∀ k, k ≠ a.block → (w.setCell a v).heap[k]? = w.heap[k]? := fun k hk => by
      simp only [World.setCell, Array.getElem?_modify]; rw [if_neg (fun e => hk e.symm)]
    have hs' : Sub (H.set a.block (.cells (c.setIfInBounds a.off v) e fr)) (w.setCell a v) := by
      refine set_sub hs ?_ fun k hk _ => hne k hk
      simp only [World.setCell, Array.getElem?_modify, if_true, hwb, hsp]
      rfl
    obtain ⟨x, w', H', hr, hk, he⟩ := ih h hs'
    refine ⟨x, w', H', by rw [oneCell_store h1 hcell hfr]; exact hr, hk, ⟨he.sub, he.os, he.tape, he.output, by simpa [World.setCell] using he.size, fun j hj hn => ?_, fun j hj => ?_⟩⟩
    · have hja : j ≠ a.block := fun e => by subst e; simp [hb] at hn
      rw [he.frame j (by simpa [World.setCell] using hj) (by simp [Hp.set, hja, hn]), hne j hja]
    · rcases he.dom j hj with h2 | h2
      · by_cases hja : j = a.block
        · subst hja; left; simp [hb]
        · left; simpa [Hp.set, hja] using h2
      · right; simpa [World.setCell] using h2
  | new o k ih =>
    intro H K w h hs
    have hfresh : H w.heap.size = none := by
      cases hh : H w.heap.size with
      | none => rfl
      | some x => have := hs.lt hh; omega
    have hs' : Sub (H.set w.heap.size o) { w with heap := w.heap.push o } := by
      refine set_sub hs (by simp) fun k hk hlt => ?_
      simp only [Array.getElem?_push]; rw [if_neg (by omega)]
    obtain ⟨x, w', H', hr, hk, he⟩ := ih w.heap.size (h _ hfresh) hs'
    refine ⟨x, w', H', by simp only [Sem.run]; exact hr, hk, ⟨he.sub, he.os, he.tape, he.output, by have := he.size; simp at this; omega, fun j hj hn => ?_, fun j hj => ?_⟩⟩
    · rw [he.frame j (by simp; omega) (by simp [Hp.set, hn]; omega)]
      simp only [Array.getElem?_push]; rw [if_neg (by omega)]
    · rcases he.dom j hj with h2 | h2
      · by_cases hja : j = w.heap.size
        · right; omega
        · left; simpa [Hp.set, hja] using h2
      · right; simp at h2; omega
  | shape r k ih =>
    intro H K w ⟨o, ho, h⟩ hs
    obtain ⟨x, w', H', hr, hk, he⟩ := ih _ h hs
    exact ⟨x, w', H', by simp only [Sem.run, shape_of_sub hs ho]; exact hr, hk, he⟩
  | freeze a n k ih =>
    intro H K w ⟨c, e, fr, hb, h⟩ hs
    have hwb := hs _ _ hb
    have hsz : (w.freeze a n).heap.size = w.heap.size := by unfold World.freeze; split <;> simp
    have hne : ∀ k, k ≠ a.block → (w.freeze a n).heap[k]? = w.heap[k]? := fun k hk => by
      unfold World.freeze
      split
      · rfl
      · simp only [Array.getElem?_modify]; rw [if_neg (fun e => hk e.symm)]
    have hat : (w.freeze a n).heap[a.block]? = some (.cells c e (frz fr a n)) := by
      unfold World.freeze frz
      split
      · exact hwb
      · simp only [Array.getElem?_modify, if_true, hwb]
        obtain ⟨lo, hi⟩ := fr
        simp only [Option.map_some]
    have hos : (w.freeze a n).os = w.os ∧ (w.freeze a n).tape = w.tape ∧ (w.freeze a n).output = w.output := by
      unfold World.freeze; split <;> exact ⟨rfl, rfl, rfl⟩
    obtain ⟨x, w', H', hr, hk, he⟩ := ih h (set_sub hs hat fun k hk _ => hne k hk)
    refine ⟨x, w', H', by simp only [Sem.run]; exact hr, hk, ⟨he.sub, he.os.trans hos.1, he.tape.trans hos.2.1, he.output.trans hos.2.2, by rw [← hsz]; exact he.size, fun j hj hn => ?_, fun j hj => ?_⟩⟩
    · have hja : j ≠ a.block := fun e => by subst e; simp [hb] at hn
      rw [he.frame j (by rw [hsz]; exact hj) (by simp [Hp.set, hja, hn]), hne j hja]
    · rcases he.dom j hj with h2 | h2
      · by_cases hja : j = a.block
        · subst hja; left; simp [hb]
        · left; simpa [Hp.set, hja] using h2
      · right; rw [hsz] at h2; exact h2
  | frozen a k ih =>
    intro H K w ⟨o, ho, h⟩ hs
    obtain ⟨x, w', H', hr, hk, he⟩ := ih _ h hs
    exact ⟨x, w', H', by simp only [Sem.run, frozen_of_sub hs ho]; exact hr, hk, he⟩
  | getObj r k ih =>
    intro H K w ⟨o, ho, hc, h⟩ hs
    obtain ⟨x, w', H', hr, hk, he⟩ := ih _ h hs
    exact ⟨x, w', H', by simp only [Sem.run, hs _ _ ho]; cases o <;> simp [isCells] at hc <;> exact hr, hk, he⟩
  | setObj r o k ih =>
    intro H K w ⟨o0, ho, hc, h⟩ hs
    have hlt := hs.lt ho
    have hne : ∀ k, k ≠ r → (w.heap.setIfInBounds r o)[k]? = w.heap[k]? := fun k hk => Array.getElem?_setIfInBounds_ne (Ne.symm hk)
    have hs' : Sub (H.set r o) { w with heap := w.heap.setIfInBounds r o } :=
      set_sub hs (by simp [hlt]) fun k hk _ => hne k hk
    obtain ⟨x, w', H', hr, hk, he⟩ := ih h hs'
    refine ⟨x, w', H', by simp only [Sem.run, hs _ _ ho]; cases o0 <;> simp [isCells] at hc <;> exact hr, hk, ⟨he.sub, he.os, he.tape, he.output, by simpa using he.size, fun j hj hn => ?_, fun j hj => ?_⟩⟩
    · have hja : j ≠ r := fun e => by subst e; simp [ho] at hn
      rw [he.frame j (by simpa using hj) (by simp [Hp.set, hja, hn])]
      exact hne j hja
    · rcases he.dom j hj with h2 | h2
      · by_cases hja : j = r
        · subst hja; left; simp [ho]
        · left; simpa [Hp.set, hja] using h2
      · right; simpa using h2
  | choose q k ih =>
    intro H K w h hs
    by_cases hf : q.forced = true
    · obtain ⟨x, w', H', hr, hk, he⟩ := ih 0 (h 0 (by simp [can, hf])) hs
      exact ⟨x, w', H', by simp only [Sem.run, hf, if_true]; exact hr, hk, he⟩
    · obtain ⟨x, w', H', hr, hk, he⟩ := ih _ (h (q.cut (w.tape w.drawn q)) (by simp only [can, hf, if_false, Bool.false_eq_true]; exact ⟨_, rfl⟩)) (hs.drawn (w.drawn + 1))
      exact ⟨x, w', H', by simp only [Sem.run, hf, Bool.false_eq_true, if_false]; exact hr, hk, he.drawn _⟩
  | sys c k _ => intro H K w h _; exact h.elim
  | program k ih => intro H K w h hs; exact ih P h hs
  | mark m k ih => intro H K w h hs; exact ih h hs
  | halt h => intro H K w h _; exact h.elim

theorem SemH_mono {α : Type} {P : Program} (s : Sem α) : ∀ {H : Hp} {K K' : α → Hp → Prop}, (∀ a H, K a H → K' a H) → SemH P s H K → SemH P s H K' := by
  induction s with
  | pure a => intro H K K' hk h; exact hk _ _ h
  | load m a k ih => intro H K K' hk ⟨v, hv, h⟩; exact ⟨v, hv, ih v hk h⟩
  | store m a v k ih => intro H K K' hk ⟨h1, c, e, fr, hb, hsp, hlt, hf, h⟩; exact ⟨h1, c, e, fr, hb, hsp, hlt, hf, ih hk h⟩
  | new o k ih => intro H K K' hk h b hb; exact ih b hk (h b hb)
  | shape r k ih => intro H K K' hk ⟨o, ho, h⟩; exact ⟨o, ho, ih _ hk h⟩
  | freeze a n k ih => intro H K K' hk ⟨c, e, fr, hb, h⟩; exact ⟨c, e, fr, hb, ih hk h⟩
  | frozen a k ih => intro H K K' hk ⟨o, ho, h⟩; exact ⟨o, ho, ih _ hk h⟩
  | getObj r k ih => intro H K K' hk ⟨o, ho, hc, h⟩; exact ⟨o, ho, hc, ih _ hk h⟩
  | setObj r o k ih => intro H K K' hk ⟨o0, ho, hc, h⟩; exact ⟨o0, ho, hc, ih hk h⟩
  | choose q k ih => intro H K K' hk h n hn; exact ih n hk (h n hn)
  | sys c k _ => intro H K K' _ h; exact h
  | program k ih => intro H K K' hk h; exact ih P hk h
  | mark m k ih => intro H K K' hk h; exact ih hk h
  | halt h => intro H K K' _ h; exact h

theorem SemH_bind {α β : Type} {P : Program} (s : Sem α) (f : α → Sem β) : ∀ {H : Hp} {K : β → Hp → Prop},
    SemH P (s >>= f) H K ↔ SemH P s H (fun a H' => SemH P (f a) H' K) := by
  show ∀ {H : Hp} {K : β → Hp → Prop}, SemH P (s.bind f) H K ↔ _
  induction s with
  | pure a => intro H K; exact Iff.rfl
  | load m a k ih => intro H K; simp only [Sem.bind, SemH, ih]
  | store m a v k ih => intro H K; simp only [Sem.bind, SemH, ih]
  | new o k ih => intro H K; simp only [Sem.bind, SemH, ih]
  | shape r k ih => intro H K; simp only [Sem.bind, SemH, ih]
  | freeze a n k ih => intro H K; simp only [Sem.bind, SemH, ih]
  | frozen a k ih => intro H K; simp only [Sem.bind, SemH, ih]
  | getObj r k ih => intro H K; simp only [Sem.bind, SemH, ih]
  | setObj r o k ih => intro H K; simp only [Sem.bind, SemH, ih]
  | choose q k ih => intro H K; simp only [Sem.bind, SemH, ih]
  | sys c k ih => intro H K; simp only [Sem.bind, SemH]
  | program k ih => intro H K; simp only [Sem.bind, SemH, ih]
  | mark m k ih => intro H K; simp only [Sem.bind, SemH, ih]
  | halt h => intro H K; simp only [Sem.bind, SemH]

theorem quiet_bind {α β : Type} {P : Program} {H : Hp} (s : Sem α) (f : α → Sem β) : quiet P H (s >>= f) = (quiet P H s).bind fun a => quiet P H (f a) := by
  show quiet P H (s.bind f) = _
  induction s with
  | pure a => rfl
  | load m a k ih => simp only [Sem.bind, quiet]; split <;> simp [ih]
  | store m a v k ih => rfl
  | new o k ih => rfl
  | shape r k ih => simp only [Sem.bind, quiet]; split <;> simp [ih]
  | freeze a n k ih => rfl
  | frozen a k ih => simp only [Sem.bind, quiet]; split <;> simp [ih]
  | getObj r k ih => simp only [Sem.bind, quiet]; split <;> (try split) <;> simp [ih]
  | setObj r o k ih => rfl
  | choose q k ih => simp only [Sem.bind, quiet]; split <;> simp [ih]
  | sys c k ih => rfl
  | program k ih => simp only [Sem.bind, quiet, ih]
  | mark m k ih => simp only [Sem.bind, quiet, ih]
  | halt h => rfl

theorem quiet_mono {α : Type} {P : Program} {H H2 : Hp} (hsub : ∀ b o, H b = some o → H2 b = some o) (s : Sem α) : ∀ {a : α}, quiet P H s = some a → quiet P H2 s = some a := by
  have hc : ∀ a v, H.cell? a = some v → H2.cell? a = some v := fun a v h => by
    unfold Hp.cell? at *; split at h
    · rename_i hb; rw [hsub _ _ hb]; exact h
    · cases h
  induction s with
  | pure a => intro b h; exact h
  | load m a k ih =>
    intro b h; simp only [quiet] at *; split at h
    · rename_i v hv; rw [hc _ _ hv]; exact ih v h
    · cases h
  | shape r k ih =>
    intro b h; simp only [quiet] at *; split at h
    · rename_i o ho; rw [hsub _ _ ho]; exact ih _ h
    · cases h
  | frozen a k ih =>
    intro b h; simp only [quiet] at *; split at h
    · rename_i o ho; rw [hsub _ _ ho]
      have : H2.frozen? a = H.frozen? a := by unfold Hp.frozen?; rw [hsub _ _ ho, ho]
      simp only [this]; exact ih _ h
    · cases h
  | getObj r k ih =>
    intro b h; simp only [quiet] at *; split at h
    · rename_i o ho; rw [hsub _ _ ho]; simp only; split at h
      · cases h
      · rename_i hcl; rw [if_neg hcl]; exact ih _ h
    · cases h
  | choose q k ih =>
    intro b h; simp only [quiet] at *; split at h
    · rename_i hf; rw [if_pos hf]; exact ih 0 h
    · cases h
  | program k ih => intro b h; exact ih P h
  | mark m k ih => intro b h; exact ih h
  | _ => intro b h; simp [quiet] at h

/-- What is read alone, told as what is done. -/
theorem SemH_of_quiet {α : Type} {P : Program} (s : Sem α) : ∀ {H : Hp} {K : α → Hp → Prop} {a : α}, quiet P H s = some a → K a H → SemH P s H K := by
  induction s with
  | pure a => intro H K b h hk; simp [quiet] at h; subst h; exact hk
  | load m a k ih =>
    intro H K b h hk; simp only [quiet] at h; split at h
    · rename_i v hv; exact ⟨v, hv, ih v h hk⟩
    · cases h
  | shape r k ih =>
    intro H K b h hk; simp only [quiet] at h; split at h
    · rename_i o ho; exact ⟨o, ho, ih _ h hk⟩
    · cases h
  | frozen a k ih =>
    intro H K b h hk; simp only [quiet] at h; split at h
    · rename_i o ho; exact ⟨o, ho, ih _ h hk⟩
    · cases h
  | getObj r k ih =>
    intro H K b h hk; simp only [quiet] at h; split at h
    · rename_i o ho; split at h
      · cases h
      · rename_i hc; exact ⟨o, ho, by simpa using hc, ih _ h hk⟩
    · cases h
  | choose q k ih =>
    intro H K b h hk; simp only [quiet] at h; split at h
    · rename_i hf; intro n hn; simp [can, hf] at hn; subst hn; exact ih 0 h hk
    · cases h
  | program k ih => intro H K b h hk; exact ih P h hk
  | mark m k ih => intro H K b h hk; exact ih h hk
  | _ => intro H K b h _; simp [quiet] at h

end Go.Proofs.Ytooemjldpchgfaa.TH
