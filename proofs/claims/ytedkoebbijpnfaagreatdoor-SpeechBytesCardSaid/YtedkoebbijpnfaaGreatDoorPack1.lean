/- Parts XSem, XDraw, XWalk, XOps, XEff, XApp, XCode of the proofs of this seat: what the functions of these layers answer, in worlds that hold their blocks. No condition beside those that each theorem names. -/
import Derived.WalkKit
import Derived.WalkLawsBesides
import Derived.WalkSpells
import Derived.Orders
/- A part of the heap, and what an operation of the model does to it: the operation runs in every world that holds that part, and leaves everything else as it is. -/
namespace Go.Proofs.YtedkoebbijpnfaaGreatDoor.TH
open Go

/-- A part of the heap: some blocks. -/
abbrev Hp := Nat → Option Obj

def Hp.set (H : Hp) (b : Nat) (o : Obj) : Hp := fun k => if k = b then some o else H k
def Hp.nil : Hp := fun _ => none

def Hp.cell? (H : Hp) (a : Addr) : Option Value :=
  match H a.block with
  | some (.cells c _ _) => if a.spot.isSome then none else c[a.off]?
  | _ => none

def Hp.frozen? (H : Hp) (a : Addr) : Bool :=
  match H a.block with
  | some (.cells _ _ (lo, hi)) => lo ≤ a.off && a.off < hi
  | _ => false

def shapeOf : Obj → Option (TypeId × Nat)
  | .cells c e _ => some (e, c.size)
  | _ => none
def isCells : Obj → Bool
  | .cells .. => true
  | _ => false

/-- The world holds that part. -/
def Sub (H : Hp) (w : World) : Prop := ∀ b o, H b = some o → w.heap[b]? = some o

/-- From one world to the next: the part has become another one, all else that was there is as it was. -/
structure Ext (H H' : Hp) (w w' : World) : Prop where
  sub : Sub H' w'
  os : w'.os = w.os
  tape : w'.tape = w.tape
  output : w'.output = w.output
  size : w.heap.size ≤ w'.heap.size
  frame : ∀ k, k < w.heap.size → H k = none → w'.heap[k]? = w.heap[k]?
  dom : ∀ b, H' b ≠ none → H b ≠ none ∨ w.heap.size ≤ b

theorem Sub.lt {H : Hp} {w : World} (h : Sub H w) {b : Nat} {o : Obj} (hb : H b = some o) : b < w.heap.size :=
  (Array.getElem?_eq_some_iff.1 (h b o hb)).1

theorem Ext.refl {H : Hp} {w : World} (h : Sub H w) : Ext H H w w :=
  ⟨h, rfl, rfl, rfl, Nat.le_refl _, fun _ _ _ => rfl, fun _ h => .inl h⟩

theorem Ext.trans {H H1 H2 : Hp} {w w1 w2 : World} (h : Ext H H1 w w1) (k : Ext H1 H2 w1 w2) : Ext H H2 w w2 := by
  refine ⟨k.sub, k.os.trans h.os, k.tape.trans h.tape, k.output.trans h.output, Nat.le_trans h.size k.size, fun b hb hn => ?_, fun b hb => ?_⟩
  · have h1 := h.frame b hb hn
    cases hh : H1 b with
    | none => exact (k.frame b (Nat.lt_of_lt_of_le hb h.size) hh).trans h1
    | some o =>
      rcases h.dom b (by simp [hh]) with h2 | h2
      · exact absurd hn h2
      · omega
  · rcases k.dom b hb with h1 | h1
    · rcases h.dom b h1 with h2 | h2
      · exact .inl h2
      · exact .inr h2
    · exact .inr (Nat.le_trans h.size h1)

/-- The same part, a world that differs in its draws alone. -/
theorem Ext.drawn {H H' : Hp} {w w' : World} (n : Nat) (h : Ext H H' { w with drawn := n } w') : Ext H H' w w' :=
  ⟨h.sub, h.os, h.tape, h.output, h.size, h.frame, h.dom⟩

theorem Sub.drawn {H : Hp} {w : World} (h : Sub H w) (n : Nat) : Sub H { w with drawn := n } := h

theorem Sub.cell {H : Hp} {w : World} (h : Sub H w) {a : Addr} {v : Value} (hc : H.cell? a = some v) : w.cell? a = some v := by
  unfold Hp.cell? at hc
  unfold World.cell?
  split at hc
  · rename_i c e fr hb
    rw [h _ _ hb]; exact hc
  · cases hc

/-- What a question may be answered. -/
def can (q : Question) (n : Nat) : Prop := if q.forced then n = 0 else ∃ t, n = q.cut t

/-- An operation that reads alone, and asks nothing: its answer over a part of the heap. -/
def quiet {α : Type} (P : Program) (H : Hp) : Sem α → Option α
  | .pure a => some a
  | .load _ a k => match H.cell? a with
    | some v => quiet P H (k v)
    | none => none
  | .store .. => none
  | .new .. => none
  | .shape r k => match H r with
    | some o => quiet P H (k (shapeOf o))
    | none => none
  | .freeze .. => none
  | .frozen a k => match H a.block with
    | some _ => quiet P H (k (H.frozen? a))
    | none => none
  | .getObj r k => match H r with
    | some o => if isCells o then none else quiet P H (k o)
    | none => none
  | .setObj .. => none
  | .choose q k => if q.forced then quiet P H (k 0) else none
  | .sys .. => none
  | .program k => quiet P H (k P)
  | .mark _ k => quiet P H k
  | .halt _ => none

theorem frozen_of_sub {H : Hp} {w : World} (h : Sub H w) {a : Addr} {o : Obj} (hb : H a.block = some o) : w.frozen? a = H.frozen? a := by
  unfold World.frozen? Hp.frozen?
  rw [h _ _ hb, hb]
  cases o <;> rfl

theorem shape_of_sub {H : Hp} {w : World} (h : Sub H w) {r : Nat} {o : Obj} (hb : H r = some o) : w.shape? r = shapeOf o := by
  unfold World.shape?
  rw [h _ _ hb]
  cases o <;> rfl

theorem quiet_run {α : Type} {P : Program} {H : Hp} (s : Sem α) : ∀ {a : α} {w : World}, quiet P H s = some a → Sub H w → s.run P w = .ok a w := by
  induction s with
  | pure a => intro b w h _; simp [quiet] at h; simp [Sem.run, h]
  | load m a k ih =>
    intro b w h hs
    simp only [quiet] at h
    split at h
    · rename_i v hv
      simp only [Sem.run, hs.cell hv]
      exact ih v h hs
    · cases h
  | shape r k ih =>
    intro b w h hs
    simp only [quiet] at h
    split at h
    · rename_i o ho
      simp only [Sem.run, shape_of_sub hs ho]
      exact ih _ h hs
    · cases h
  | frozen a k ih =>
    intro b w h hs
    simp only [quiet] at h
    split at h
    · rename_i o ho
      simp only [Sem.run, frozen_of_sub hs ho]
      exact ih _ h hs
    · cases h
  | getObj r k ih =>
    intro b w h hs
    simp only [quiet] at h
    split at h
    · rename_i o ho
      split at h
      · cases h
      · rename_i hc
        simp only [Sem.run, hs _ _ ho]
        cases o <;> simp [isCells] at hc <;> exact ih _ h hs
    · cases h
  | choose q k ih =>
    intro b w h hs
    simp only [quiet] at h
    split at h
    · rename_i hf
      simp only [Sem.run, hf, if_true]
      exact ih 0 h hs
    · cases h
  | program k ih => intro b w h hs; exact ih P h hs
  | mark m k ih => intro b w h hs; exact ih h hs
  | _ => intro b w h _; simp [quiet] at h

/-- A block's frozen cells, and some more. -/
def frz (fr : Nat × Nat) (a : Addr) (n : Nat) : Nat × Nat := if n = 0 then fr else if fr.1 == fr.2 then (a.off, a.off + n) else (min fr.1 a.off, max fr.2 (a.off + n))

/-- What an operation does to a part of the heap, whatever it is answered. -/
def SemH {α : Type} (P : Program) : Sem α → Hp → (α → Hp → Prop) → Prop
  | .pure a, H, K => K a H
  | .load _ a k, H, K => ∃ v, H.cell? a = some v ∧ SemH P (k v) H K
  | .store _ a v k, H, K => v.oneCell' = true ∧ ∃ c e fr, H a.block = some (.cells c e fr) ∧ a.spot = none ∧ a.off < c.size ∧ H.frozen? a = false ∧
      SemH P k (H.set a.block (.cells (c.setIfInBounds a.off v) e fr)) K
  | .new o k, H, K => ∀ b, H b = none → SemH P (k b) (H.set b o) K
  | .shape r k, H, K => ∃ o, H r = some o ∧ SemH P (k (shapeOf o)) H K
  | .freeze a n k, H, K => ∃ c e fr, H a.block = some (.cells c e fr) ∧ SemH P k (H.set a.block (.cells c e (frz fr a n))) K
  | .frozen a k, H, K => ∃ o, H a.block = some o ∧ SemH P (k (H.frozen? a)) H K
  | .getObj r k, H, K => ∃ o, H r = some o ∧ isCells o = false ∧ SemH P (k o) H K
  | .setObj r o k, H, K => ∃ o0, H r = some o0 ∧ isCells o0 = false ∧ SemH P k (H.set r o) K
  | .choose q k, H, K => ∀ n, can q n → SemH P (k n) H K
  | .sys .., _, _ => False
  | .program k, H, K => SemH P (k P) H K
  | .mark _ k, H, K => SemH P k H K
  | .halt _, _, _ => False

theorem oneCell_store {P : Program} {α : Type} {m : Mode} {a : Addr} {v : Value} {k : Sem α} {w : World} {u : Value} (h1 : v.oneCell' = true)
    (hc : w.cell? a = some u) (hf : w.frozen? a = false) : (Sem.store m a v k).run P w = k.run P (w.setCell a v) := by
  cases v <;> simp [Value.oneCell'] at h1 <;> simp [Sem.run, hc, hf]

theorem set_sub {H : Hp} {w w' : World} {b : Nat} {o : Obj} (h : Sub H w) (hb : w'.heap[b]? = some o) (hk : ∀ k, k ≠ b → k < w.heap.size → w'.heap[k]? = w.heap[k]?) : Sub (H.set b o) w' := by
  intro k x hx
  unfold Hp.set at hx
  split at hx
  · rename_i e; subst e; cases hx; exact hb
  · rename_i e; rw [hk k e (h.lt hx)]; exact h k x hx

theorem SemH_run {α : Type} {P : Program} (s : Sem α) : ∀ {H : Hp} {K : α → Hp → Prop} {w : World}, SemH P s H K → Sub H w →
    ∃ a w' H', s.run P w = .ok a w' ∧ K a H' ∧ Ext H H' w w' := by
  induction s with
  | pure a => intro H K w h hs; exact ⟨a, w, H, rfl, h, .refl hs⟩
  | load m a k ih =>
    intro H K w ⟨v, hv, h⟩ hs
    obtain ⟨x, w', H', hr, hk, he⟩ := ih v h hs
    exact ⟨x, w', H', by simp only [Sem.run, hs.cell hv]; exact hr, hk, he⟩
  | store m a v k ih =>
    intro H K w ⟨h1, c, e, fr, hb, hsp, hlt, hf, h⟩ hs
    have hwb := hs _ _ hb
    have hcell : w.cell? a = some c[a.off] := by simp [World.cell?, hwb, hsp, hlt]
    have hfr : w.frozen? a = false := by rw [frozen_of_sub hs hb]; exact hf
    have hne : ∀ k, k ≠ a.block → (w.setCell a v).heap[k]? = w.heap[k]? := fun k hk => by
      simp only [World.setCell, Array.getElem?_modify]; rw [if_neg (fun e => hk e.symm)]
    have hs' : Sub (H.set a.block (.cells (c.setIfInBounds a.off v) e fr)) (w.setCell a v) := by
      refine set_sub hs ?_ fun k hk _ => hne k hk
      simp only [World.setCell, Array.getElem?_modify, if_true, hwb, hsp]
      rfl
    obtain ⟨x, w', H', hr, hk, he⟩ := ih h hs'
    refine ⟨x, w', H', by rw [oneCell_store h1 hcell hfr]; exact hr, hk, ⟨he.sub, he.os, he.tape, he.output, by simpa [World.setCell] using he.size, fun j hj hn => ?_, fun j hj => ?_⟩⟩
    · have hja : j ≠ a.block := fun e => by subst e; simp [hb] at hn
      rw [he.frame j (by simpa [World.setCell] using hj) (by simp [Hp.set, hja, hn]), hne j hja]
    · rcases he.dom j hj with h2 | h2
      · by_cases hja : j = a.block
        · subst hja; left; simp [hb]
        · left; simpa [Hp.set, hja] using h2
      · right; simpa [World.setCell] using h2
  | new o k ih =>
    intro H K w h hs
    have hfresh : H w.heap.size = none := by
      cases hh : H w.heap.size with
      | none => rfl
      | some x => have := hs.lt hh; omega
    have hs' : Sub (H.set w.heap.size o) { w with heap := w.heap.push o } := by
      refine set_sub hs (by simp) fun k hk hlt => ?_
      simp only [Array.getElem?_push]; rw [if_neg (by omega)]
    obtain ⟨x, w', H', hr, hk, he⟩ := ih w.heap.size (h _ hfresh) hs'
    refine ⟨x, w', H', by simp only [Sem.run]; exact hr, hk, ⟨he.sub, he.os, he.tape, he.output, by have := he.size; simp at this; omega, fun j hj hn => ?_, fun j hj => ?_⟩⟩
    · rw [he.frame j (by simp; omega) (by simp [Hp.set, hn]; omega)]
      simp only [Array.getElem?_push]; rw [if_neg (by omega)]
    · rcases he.dom j hj with h2 | h2
      · by_cases hja : j = w.heap.size
        · right; omega
        · left; simpa [Hp.set, hja] using h2
      · right; simp at h2; omega
  | shape r k ih =>
    intro H K w ⟨o, ho, h⟩ hs
    obtain ⟨x, w', H', hr, hk, he⟩ := ih _ h hs
    exact ⟨x, w', H', by simp only [Sem.run, shape_of_sub hs ho]; exact hr, hk, he⟩
  | freeze a n k ih =>
    intro H K w ⟨c, e, fr, hb, h⟩ hs
    have hwb := hs _ _ hb
    have hsz : (w.freeze a n).heap.size = w.heap.size := by unfold World.freeze; split <;> simp
    have hne : ∀ k, k ≠ a.block → (w.freeze a n).heap[k]? = w.heap[k]? := fun k hk => by
      unfold World.freeze
      split
      · rfl
      · simp only [Array.getElem?_modify]; rw [if_neg (fun e => hk e.symm)]
    have hat : (w.freeze a n).heap[a.block]? = some (.cells c e (frz fr a n)) := by
      unfold World.freeze frz
      split
      · exact hwb
      · simp only [Array.getElem?_modify, if_true, hwb]
        obtain ⟨lo, hi⟩ := fr
        simp only [Option.map_some]
    have hos : (w.freeze a n).os = w.os ∧ (w.freeze a n).tape = w.tape ∧ (w.freeze a n).output = w.output := by
      unfold World.freeze; split <;> exact ⟨rfl, rfl, rfl⟩
    obtain ⟨x, w', H', hr, hk, he⟩ := ih h (set_sub hs hat fun k hk _ => hne k hk)
    refine ⟨x, w', H', by simp only [Sem.run]; exact hr, hk, ⟨he.sub, he.os.trans hos.1, he.tape.trans hos.2.1, he.output.trans hos.2.2, by rw [← hsz]; exact he.size, fun j hj hn => ?_, fun j hj => ?_⟩⟩
    · have hja : j ≠ a.block := fun e => by subst e; simp [hb] at hn
      rw [he.frame j (by rw [hsz]; exact hj) (by simp [Hp.set, hja, hn]), hne j hja]
    · rcases he.dom j hj with h2 | h2
      · by_cases hja : j = a.block
        · subst hja; left; simp [hb]
        · left; simpa [Hp.set, hja] using h2
      · right; rw [hsz] at h2; exact h2
  | frozen a k ih =>
    intro H K w ⟨o, ho, h⟩ hs
    obtain ⟨x, w', H', hr, hk, he⟩ := ih _ h hs
    exact ⟨x, w', H', by simp only [Sem.run, frozen_of_sub hs ho]; exact hr, hk, he⟩
  | getObj r k ih =>
    intro H K w ⟨o, ho, hc, h⟩ hs
    obtain ⟨x, w', H', hr, hk, he⟩ := ih _ h hs
    exact ⟨x, w', H', by simp only [Sem.run, hs _ _ ho]; cases o <;> simp [isCells] at hc <;> exact hr, hk, he⟩
  | setObj r o k ih =>
    intro H K w ⟨o0, ho, hc, h⟩ hs
    have hlt := hs.lt ho
    have hne : ∀ k, k ≠ r → (w.heap.setIfInBounds r o)[k]? = w.heap[k]? := fun k hk => Array.getElem?_setIfInBounds_ne (Ne.symm hk)
    have hs' : Sub (H.set r o) { w with heap := w.heap.setIfInBounds r o } :=
      set_sub hs (by simp [hlt]) fun k hk _ => hne k hk
    obtain ⟨x, w', H', hr, hk, he⟩ := ih h hs'
    refine ⟨x, w', H', by simp only [Sem.run, hs _ _ ho]; cases o0 <;> simp [isCells] at hc <;> exact hr, hk, ⟨he.sub, he.os, he.tape, he.output, by simpa using he.size, fun j hj hn => ?_, fun j hj => ?_⟩⟩
    · have hja : j ≠ r := fun e => by subst e; simp [ho] at hn
      rw [he.frame j (by simpa using hj) (by simp [Hp.set, hja, hn])]
      exact hne j hja
    · rcases he.dom j hj with h2 | h2
      · by_cases hja : j = r
        · subst hja; left; simp [ho]
        · left; simpa [Hp.set, hja] using h2
      · right; simpa using h2
  | choose q k ih =>
    intro H K w h hs
    by_cases hf : q.forced = true
    · obtain ⟨x, w', H', hr, hk, he⟩ := ih 0 (h 0 (by simp [can, hf])) hs
      exact ⟨x, w', H', by simp only [Sem.run, hf, if_true]; exact hr, hk, he⟩
    · obtain ⟨x, w', H', hr, hk, he⟩ := ih _ (h (q.cut (w.tape w.drawn q)) (by simp only [can, hf, if_false, Bool.false_eq_true]; exact ⟨_, rfl⟩)) (hs.drawn (w.drawn + 1))
      exact ⟨x, w', H', by simp only [Sem.run, hf, Bool.false_eq_true, if_false]; exact hr, hk, he.drawn _⟩
  | sys c k _ => intro H K w h _; exact h.elim
  | program k ih => intro H K w h hs; exact ih P h hs
  | mark m k ih => intro H K w h hs; exact ih h hs
  | halt h => intro H K w h _; exact h.elim

theorem SemH_mono {α : Type} {P : Program} (s : Sem α) : ∀ {H : Hp} {K K' : α → Hp → Prop}, (∀ a H, K a H → K' a H) → SemH P s H K → SemH P s H K' := by
  induction s with
  | pure a => intro H K K' hk h; exact hk _ _ h
  | load m a k ih => intro H K K' hk ⟨v, hv, h⟩; exact ⟨v, hv, ih v hk h⟩
  | store m a v k ih => intro H K K' hk ⟨h1, c, e, fr, hb, hsp, hlt, hf, h⟩; exact ⟨h1, c, e, fr, hb, hsp, hlt, hf, ih hk h⟩
  | new o k ih => intro H K K' hk h b hb; exact ih b hk (h b hb)
  | shape r k ih => intro H K K' hk ⟨o, ho, h⟩; exact ⟨o, ho, ih _ hk h⟩
  | freeze a n k ih => intro H K K' hk ⟨c, e, fr, hb, h⟩; exact ⟨c, e, fr, hb, ih hk h⟩
  | frozen a k ih => intro H K K' hk ⟨o, ho, h⟩; exact ⟨o, ho, ih _ hk h⟩
  | getObj r k ih => intro H K K' hk ⟨o, ho, hc, h⟩; exact ⟨o, ho, hc, ih _ hk h⟩
  | setObj r o k ih => intro H K K' hk ⟨o0, ho, hc, h⟩; exact ⟨o0, ho, hc, ih hk h⟩
  | choose q k ih => intro H K K' hk h n hn; exact ih n hk (h n hn)
  | sys c k _ => intro H K K' _ h; exact h
  | program k ih => intro H K K' hk h; exact ih P hk h
  | mark m k ih => intro H K K' hk h; exact ih hk h
  | halt h => intro H K K' _ h; exact h

theorem SemH_bind {α β : Type} {P : Program} (s : Sem α) (f : α → Sem β) : ∀ {H : Hp} {K : β → Hp → Prop},
    SemH P (s >>= f) H K ↔ SemH P s H (fun a H' => SemH P (f a) H' K) := by
  show ∀ {H : Hp} {K : β → Hp → Prop}, SemH P (s.bind f) H K ↔ _
  induction s with
  | pure a => intro H K; exact Iff.rfl
  | load m a k ih => intro H K; simp only [Sem.bind, SemH, ih]
  | store m a v k ih => intro H K; simp only [Sem.bind, SemH, ih]
  | new o k ih => intro H K; simp only [Sem.bind, SemH, ih]
  | shape r k ih => intro H K; simp only [Sem.bind, SemH, ih]
  | freeze a n k ih => intro H K; simp only [Sem.bind, SemH, ih]
  | frozen a k ih => intro H K; simp only [Sem.bind, SemH, ih]
  | getObj r k ih => intro H K; simp only [Sem.bind, SemH, ih]
  | setObj r o k ih => intro H K; simp only [Sem.bind, SemH, ih]
  | choose q k ih => intro H K; simp only [Sem.bind, SemH, ih]
  | sys c k ih => intro H K; simp only [Sem.bind, SemH]
  | program k ih => intro H K; simp only [Sem.bind, SemH, ih]
  | mark m k ih => intro H K; simp only [Sem.bind, SemH, ih]
  | halt h => intro H K; simp only [Sem.bind, SemH]

theorem quiet_bind {α β : Type} {P : Program} {H : Hp} (s : Sem α) (f : α → Sem β) : quiet P H (s >>= f) = (quiet P H s).bind fun a => quiet P H (f a) := by
  show quiet P H (s.bind f) = _
  induction s with
  | pure a => rfl
  | load m a k ih => simp only [Sem.bind, quiet]; split <;> simp [ih]
  | store m a v k ih => rfl
  | new o k ih => rfl
  | shape r k ih => simp only [Sem.bind, quiet]; split <;> simp [ih]
  | freeze a n k ih => rfl
  | frozen a k ih => simp only [Sem.bind, quiet]; split <;> simp [ih]
  | getObj r k ih => simp only [Sem.bind, quiet]; split <;> (try split) <;> simp [ih]
  | setObj r o k ih => rfl
  | choose q k ih => simp only [Sem.bind, quiet]; split <;> simp [ih]
  | sys c k ih => rfl
  | program k ih => simp only [Sem.bind, quiet, ih]
  | mark m k ih => simp only [Sem.bind, quiet, ih]
  | halt h => rfl

theorem quiet_mono {α : Type} {P : Program} {H H2 : Hp} (hsub : ∀ b o, H b = some o → H2 b = some o) (s : Sem α) : ∀ {a : α}, quiet P H s = some a → quiet P H2 s = some a := by
  have hc : ∀ a v, H.cell? a = some v → H2.cell? a = some v := fun a v h => by
    unfold Hp.cell? at *; split at h
    · rename_i hb; rw [hsub _ _ hb]; exact h
    · cases h
  induction s with
  | pure a => intro b h; exact h
  | load m a k ih =>
    intro b h; simp only [quiet] at *; split at h
    · rename_i v hv; rw [hc _ _ hv]; exact ih v h
    · cases h
  | shape r k ih =>
    intro b h; simp only [quiet] at *; split at h
    · rename_i o ho; rw [hsub _ _ ho]; exact ih _ h
    · cases h
  | frozen a k ih =>
    intro b h; simp only [quiet] at *; split at h
    · rename_i o ho; rw [hsub _ _ ho]
      have : H2.frozen? a = H.frozen? a := by unfold Hp.frozen?; rw [hsub _ _ ho, ho]
      simp only [this]; exact ih _ h
    · cases h
  | getObj r k ih =>
    intro b h; simp only [quiet] at *; split at h
    · rename_i o ho; rw [hsub _ _ ho]; simp only; split at h
      · cases h
      · rename_i hcl; rw [if_neg hcl]; exact ih _ h
    · cases h
  | choose q k ih =>
    intro b h; simp only [quiet] at *; split at h
    · rename_i hf; rw [if_pos hf]; exact ih 0 h
    · cases h
  | program k ih => intro b h; exact ih P h
  | mark m k ih => intro b h; exact ih h
  | _ => intro b h; simp [quiet] at h

/-- What is read alone, told as what is done. -/
theorem SemH_of_quiet {α : Type} {P : Program} (s : Sem α) : ∀ {H : Hp} {K : α → Hp → Prop} {a : α}, quiet P H s = some a → K a H → SemH P s H K := by
  induction s with
  | pure a => intro H K b h hk; simp [quiet] at h; subst h; exact hk
  | load m a k ih =>
    intro H K b h hk; simp only [quiet] at h; split at h
    · rename_i v hv; exact ⟨v, hv, ih v h hk⟩
    · cases h
  | shape r k ih =>
    intro H K b h hk; simp only [quiet] at h; split at h
    · rename_i o ho; exact ⟨o, ho, ih _ h hk⟩
    · cases h
  | frozen a k ih =>
    intro H K b h hk; simp only [quiet] at h; split at h
    · rename_i o ho; exact ⟨o, ho, ih _ h hk⟩
    · cases h
  | getObj r k ih =>
    intro H K b h hk; simp only [quiet] at h; split at h
    · rename_i o ho; split at h
      · cases h
      · rename_i hc; exact ⟨o, ho, by simpa using hc, ih _ h hk⟩
    · cases h
  | choose q k ih =>
    intro H K b h hk; simp only [quiet] at h; split at h
    · rename_i hf; intro n hn; simp [can, hf] at hn; subst hn; exact ih 0 h hk
    · cases h
  | program k ih => intro H K b h hk; exact ih P h hk
  | mark m k ih => intro H K b h hk; exact ih h hk
  | _ => intro H K b h _; simp [quiet] at h

end Go.Proofs.YtedkoebbijpnfaaGreatDoor.TH

/- A region that draws its order: one walk in a fixed order serves, where what is read ahead of an effect reads the same behind it. -/
namespace Go.Proofs.YtedkoebbijpnfaaGreatDoor.TH
open Go

/-- A step of a plan: an operation that hangs on no memory; one that reads; one that does something, and what was read ahead of it that may as well be read behind it. -/
inductive Stp where
  | nil
  | p (i : Nat) (rest : Stp)
  | l (i : Nat) (rest : Stp)
  | x (i : Nat) (held : List Nat) (rest : Stp)
  | alt (rest other : Stp)

/-- Must operation i come ahead of operation j? -/
def reach (ops : Array Oper) : Nat → Nat → Nat → Bool
  | 0, _, _ => false
  | n + 1, j, i => match ops[j]? with
    | none => false
    | some o => o.after.any fun e => Region.binds .any e && (e.on == i || reach ops n e.on i)

def down (ops : Array Oper) (listed : Array Bool) : Prop :=
  ∀ j o, ops[j]? = some o → listed.getD j false = true → ∀ e ∈ o.after, Region.binds .any e = true → listed.getD e.on false = true

theorem reach_listed {ops : Array Oper} {listed : Array Bool} (hd : down ops listed) : ∀ (n j i : Nat), reach ops n j i = true → listed.getD j false = true → listed.getD i false = true := by
  intro n
  induction n with
  | zero => intro j i h; simp [reach] at h
  | succ n ih =>
    intro j i h hj
    simp only [reach] at h
    cases ho : ops[j]? with
    | none => simp [ho] at h
    | some o =>
      simp only [ho] at h
      obtain ⟨e, he, hb⟩ := Array.any_eq_true'.1 h
      simp only [Bool.and_eq_true, Bool.or_eq_true, beq_iff_eq] at hb
      have h1 := hd j o ho hj e he hb.1
      rcases hb.2 with h2 | h2
      · rw [← h2]; exact h1
      · exact ih _ _ h2 h1

theorem down_set {ops : Array Oper} {listed : Array Bool} {j : Nat} (hd : down ops listed) (hj : j ∈ Region.ready .any ops listed) : down ops (listed.setIfInBounds j true) := by
  intro k o ho hk e he hb
  by_cases hkj : j = k
  · subst hkj
    obtain ⟨_, o', ho', hall⟩ := mem_ready.1 hj
    rw [ho] at ho'; cases ho'
    exact getD_set_true (hall e he hb)
  · rw [getD_set_ne false hkj] at hk
    exact getD_set_true (hd k o ho hk e he hb)

section
variable (P : Program) (ops : Array Oper) (Q : Exit → Act → World → Prop) (X L : List Nat) (N : Nat)

def YieldsAt (o : Oper) (v : Value) (a : Act) (w : World) : Prop :=
  (Region.wanted o (yielded ops a.tmps) = true ∧ (execOp a.eval o).run P w = .ok (.value v) w) ∨ (Region.wanted o (yielded ops a.tmps) = false ∧ v = undef)

/-- What was read, and may be read yet, reads as it did. -/
def Held (listed : Array Bool) (a : Act) (w : World) : Prop :=
  ∀ i ∈ L, listed.getD i false = true → (∀ x ∈ X, listed.getD x false = true → reach ops ops.size x i = false) →
    ∀ o, ops[i]? = some o → ∃ d, o.dst = some d ∧ YieldsAt P ops o (a.tmps.getD d undef) a w

def Inv (listed : Array Bool) (a : Act) (w : World) : Prop := a.tmps.size = N ∧ Held P ops X L listed a w

def wpAnyI : Nat → Array Bool → Act → World → Prop
  | 0, listed, a, w => Inv P ops X L N listed a w ∧ Region.ready .any ops listed = [] ∧ Q .normal a w
  | fuel + 1, listed, a, w => Inv P ops X L N listed a w ∧ (Region.ready .any ops listed = [] → Q .normal a w) ∧
    ∀ i ∈ Region.ready .any ops listed, wpOp P ops Q i (wpAnyI fuel (listed.setIfInBounds i true)) a w
end

section
variable {P : Program} {ops : Array Oper} {Q : Exit → Act → World → Prop} {X L : List Nat} {N : Nat}

theorem wpAnyI.inv : ∀ {fuel : Nat} {listed : Array Bool} {a : Act} {w : World}, wpAnyI P ops Q X L N fuel listed a w → Inv P ops X L N listed a w
  | 0, _, _, _, h => h.1
  | _ + 1, _, _, _, h => h.1

theorem wpAny_of_I : ∀ (fuel : Nat) (listed : Array Bool) (a : Act) (w : World), wpAnyI P ops Q X L N fuel listed a w → wpAny P .any ops Q fuel listed a w
  | 0, _, _, _, h => h.2
  | fuel + 1, _, _, _, h => ⟨h.2.1, fun i hi => wpOp_mono (fun a' w' h' => wpAny_of_I fuel _ a' w' h') (h.2.2 i hi)⟩

theorem wpOp_comm {j : Nat} {oi oj : Oper} {v : Value} (hj : ops[j]? = some oj) (hap : oi.apart ops oj = true)
    (hsj : ∀ cs b, oj.op ≠ .select cs b) (hQ : ∀ c a w, Q (.panic c) a w → False) {K : Act → World → Prop} {a : Act} {w : World}
    (h : wpOp P ops Q j K (a.put oi.dst v) w) : wpOp P ops Q j (fun a' w' => K (a'.put oi.dst v) w') a w := by
  obtain ⟨h1, h2, _⟩ := Oper.apart_spec hap
  unfold wpOp at *
  simp only [hj] at *
  rw [wanted_put oj a oi.dst v h1] at h
  split
  · rename_i hw
    simp only [hw, if_true] at h
    rcases h with h | ⟨hasks, hlets⟩
    case inr => exact .inr ⟨by unfold Oper.asks at *; rw [execOp_put oj hsj a oi.dst v h1] at hasks; exact hasks, hlets⟩
    refine .inl ?_
    unfold Oper.wp at *
    rw [execOp_put oj hsj a oi.dst v h1] at h
    generalize (execOp a.eval oj).run P w = r at *
    cases r with
    | ok n w' =>
      cases n <;> simp only [Oper.upon] at h ⊢
      case value u => rw [← Act.put_comm a v u h2]; exact h
      case skip => rw [← Act.put_comm a v undef h2]; exact h
      case defer d => rw [← Act.put_comm _ v undef h2, ← Act.put_defers]; exact h
      case enter f args =>
        refine Calls.mono h fun e w'' he => ?_
        cases e with
        | returned u => show K _ _; rw [← Act.put_comm a v u h2]; exact he
        | panicked c => exact (hQ _ _ _ he).elim
        | outgrown => exact he
      case row row args => exact Rows.mono h fun u w'' he => by rw [← Act.put_comm a v u h2]; exact he
    | halt x w' =>
      cases x <;> simp only [Oper.upon] at h ⊢
      case panic u => exact (hQ _ _ _ h).elim
  · rename_i hw
    simp only [hw] at h
    rw [← Act.put_comm a v undef h2]; exact h

theorem YieldsAt.wpOp {i : Nat} {o : Oper} {v : Value} {a : Act} {w : World} (hi : ops[i]? = some o) (hy : YieldsAt P ops o v a w)
    {K : Act → World → Prop} (h : K (a.put o.dst v) w) : wpOp P ops Q i K a w := by
  unfold Go.wpOp
  simp only [hi]
  rcases hy with ⟨hw, hv⟩ | ⟨hw, rfl⟩
  · simp only [hw, if_true, Oper.wp, hv, Oper.upon]; exact .inl h
  · simp only [hw, Bool.false_eq_true, if_false]; exact h

theorem YieldsAt.same {o : Oper} {v : Value} {a a' : Act} {w : World} (hy : YieldsAt P ops o v a w) (he : execOp a'.eval o = execOp a.eval o)
    (hw : Region.wanted o (yielded ops a'.tmps) = Region.wanted o (yielded ops a.tmps)) : YieldsAt P ops o v a' w := by
  unfold YieldsAt at *
  rw [he, hw]
  exact hy

theorem getD_put_self {a : Act} {d : Nat} {v : Value} (h : d < a.tmps.size) : (a.put (some d) v).tmps.getD d undef = v := by
  simp [Act.put, h]

theorem getD_put_ne {a : Act} {d t : Nat} {v : Value} (h : d ≠ t) : (a.put (some d) v).tmps.getD t undef = a.tmps.getD t undef := by
  simp [Act.put, Array.getElem?_setIfInBounds_ne h]

theorem size_put {a : Act} {d : Option Tmp} {v : Value} : (a.put d v).tmps.size = a.tmps.size := by
  cases d <;> simp [Act.put]

/-- Operation i may be taken first. -/
structure Takes (ops : Array Oper) (X L : List Nat) (N : Nat) (i : Nat) (oi : Oper) (d : Nat) : Prop where
  at_ : ops[i]? = some oi
  dst : oi.dst = some d
  lt : d < N
  self : d ∉ oi.looksAt ops
  notX : i ∉ X
  sel : ∀ (j : Nat) (o : Oper) cs b, ops[j]? = some o → o.op ≠ .select cs b
  loads : ∀ i' ∈ L, i' ≠ i → ∀ o', ops[i']? = some o' → (d ∉ o'.looksAt ops ∧ o'.dst ≠ some d) ∨ reach ops ops.size i' i = true

theorem takeI {i : Nat} {oi : Oper} {d : Nat} {v : Value} (T : Takes ops X L N i oi d) (hQ : ∀ c a w, Q (.panic c) a w → False) :
    ∀ (fuel : Nat) (listed : Array Bool) (a : Act) (w : World),
      (∀ j oj, ops[j]? = some oj → j ≠ i → listed.getD j true = false → (∀ e ∈ oj.after, Region.binds .any e = true → e.on ≠ i) → oi.apart ops oj = true) →
      i ∈ Region.ready .any ops listed → down ops listed → YieldsAt P ops oi v a w → (i ∈ L ∨ ∀ a' w', execOp a'.eval oi = execOp a.eval oi → Region.wanted oi (yielded ops a'.tmps) = Region.wanted oi (yielded ops a.tmps) → YieldsAt P ops oi v a' w') →
      Inv P ops X L N listed a w →
      wpAnyI P ops Q X L N fuel (listed.setIfInBounds i true) (a.put oi.dst v) w → wpAnyI P ops Q X L N (fuel + 1) listed a w := by
  intro fuel
  induction fuel with
  | zero =>
    intro listed a w _ hr _ hy _ hI H
    refine ⟨hI, fun h => (by rw [h] at hr; cases hr), fun j hj => ?_⟩
    by_cases hji : j = i
    · subst hji; exact hy.wpOp T.at_ H
    · have := ready_mono hj hji
      rw [H.2.1] at this
      cases this
  | succ fuel ih =>
    intro listed a w hfree hr hdn hy hor hI H
    refine ⟨hI, fun h => (by rw [h] at hr; cases hr), fun j hj => ?_⟩
    by_cases hji : j = i
    · subst hji; exact hy.wpOp T.at_ H
    · have h1 := H.2.2 j (ready_mono hj hji)
      obtain ⟨hjun, oj, hoj, hall⟩ := mem_ready.1 hj
      have hiun := (mem_ready.1 hr).1
      have hiunf : listed.getD i false = false := by
        rcases Nat.lt_or_ge i listed.size with h' | h'
        · simp [h'] at hiun ⊢; exact hiun
        · simp [Array.getElem?_eq_none h']
      have hnot : ∀ e ∈ oj.after, Region.binds .any e = true → e.on ≠ i := fun e he hb heq => by
        have h1 := hall e he hb
        rw [heq, hiunf] at h1
        cases h1
      have hapart := hfree j oj hoj hji hjun hnot
      obtain ⟨ha1, ha2, ha3⟩ := Oper.apart_spec hapart
      have h2 := wpOp_comm hoj hapart (fun cs b => T.sel j oj cs b hoj) hQ h1
      have hfree' : ∀ k ok, ops[k]? = some ok → k ≠ i → (listed.setIfInBounds j true).getD k true = false →
          (∀ e ∈ ok.after, Region.binds .any e = true → e.on ≠ i) → oi.apart ops ok = true := fun k ok hk hki hun hno => by
        refine hfree k ok hk hki ?_ hno
        by_cases hjk : j = k
        · subst hjk; exact hjun
        · rw [getD_set_ne true hjk] at hun; exact hun
      have hdn' := down_set hdn hj
      have hiun' : (listed.setIfInBounds j true).getD i false = false := by rw [getD_set_ne false hji]; exact hiunf
      -- where operation j leaves a frame, its operands of i are as they were: told of the frame alone
      have hjput : wpOp P ops Q j (fun a' w' => (execOp a'.eval oi = execOp a.eval oi ∧ Region.wanted oi (yielded ops a'.tmps) = Region.wanted oi (yielded ops a.tmps)) ∧
          wpAnyI P ops Q X L N fuel ((listed.setIfInBounds i true).setIfInBounds j true) (a'.put oi.dst v) w') a w := by
        have keep : ∀ (u : Value), (execOp (a.put oj.dst u).eval oi = execOp a.eval oi ∧ Region.wanted oi (yielded ops (a.put oj.dst u).tmps) = Region.wanted oi (yielded ops a.tmps)) :=
          fun u => ⟨execOp_put oi (fun cs b => T.sel i oi cs b T.at_) a oj.dst u ha3, wanted_put oi a oj.dst u ha3⟩
        unfold wpOp at h2 ⊢
        simp only [hoj] at h2 ⊢
        split
        · rename_i hw
          simp only [hw, if_true] at h2
          rcases h2 with h2 | h2
          case inr => exact .inr h2
          refine .inl ?_
          unfold Oper.wp at h2 ⊢
          generalize (execOp a.eval oj).run P w = r at *
          cases r with
          | ok n w' =>
            cases n <;> simp only [Oper.upon] at h2 ⊢
            case value u => exact ⟨keep u, h2⟩
            case skip => exact ⟨keep _, h2⟩
            case defer dd =>
              refine ⟨?_, h2⟩
              have k1 := execOp_put oi (fun cs b => T.sel i oi cs b T.at_) { a with defers := dd :: a.defers } oj.dst undef ha3
              have k2 := wanted_put oi { a with defers := dd :: a.defers } oj.dst undef ha3
              exact ⟨k1.trans rfl, k2.trans rfl⟩
            case enter f args =>
              refine Calls.mono h2 fun e w'' he => ?_
              cases e with
              | returned u => exact ⟨keep u, he⟩
              | panicked c => exact he
              | outgrown => exact he
            case row row args => exact Rows.mono h2 fun u w'' he => ⟨keep u, he⟩
          | halt x w' => cases x <;> simp only [Oper.upon] at h2 ⊢ <;> exact h2
        · rename_i hw
          simp only [hw] at h2
          exact ⟨keep _, h2⟩
      refine wpOp_mono (fun a' w' h3 => ?_) hjput
      obtain ⟨⟨hex, hwa⟩, hG⟩ := h3
      have hInv := hG.inv
      have hsz : a'.tmps.size = N := by have := hInv.1; rwa [size_put] at this
      have hXj : ∀ x ∈ X, ((listed.setIfInBounds i true).setIfInBounds j true).getD x false = true → (listed.setIfInBounds j true).getD x false = true := fun x hx hl => by
        have hxi : i ≠ x := fun e => T.notX (e ▸ hx)
        rw [Array.setIfInBounds_comm _ _ (Ne.symm hji), getD_set_ne false hxi] at hl
        exact hl
      have hyi : YieldsAt P ops oi v a' w' := by
        rcases hor with hiL | hany
        · obtain ⟨d', hd', hyy⟩ := hInv.2 i hiL (by
            rw [getD_set_ne false hji]
            have hlt : i < listed.size := by
              rcases Nat.lt_or_ge i listed.size with h' | h'
              · exact h'
              · simp [Array.getElem?_eq_none h'] at hiun
            simp [hlt]) (fun x hx hl => by
            have hl2 := hXj x hx hl
            cases hre : reach ops ops.size x i with
            | false => rfl
            | true =>
              have := reach_listed hdn' _ _ _ hre hl2
              rw [hiun'] at this; cases this) oi T.at_
          rw [T.dst] at hd'; cases hd'
          rw [T.dst, getD_put_self (by rw [hsz]; exact T.lt)] at hyy
          exact hyy.same (execOp_put oi (fun cs b => T.sel i oi cs b T.at_) a' (some d) v (fun d' hd' => by cases hd'; exact T.self)).symm
            (wanted_put oi a' (some d) v (fun d' hd' => by cases hd'; exact T.self)).symm
        · exact hany a' w' hex hwa
      have hI' : Inv P ops X L N (listed.setIfInBounds j true) a' w' := by
        refine ⟨hsz, fun i' hi' hl hal o' ho' => ?_⟩
        have hne : i' ≠ i := fun e => by rw [e, hiun'] at hl; cases hl
        obtain ⟨d', hd', hyy⟩ := hInv.2 i' hi' (by rw [Array.setIfInBounds_comm _ _ (Ne.symm hji)]; exact getD_set_true hl) (fun x hx hlx => hal x hx (hXj x hx hlx)) o' ho'
        rcases T.loads i' hi' hne o' ho' with ⟨hl1, hl2⟩ | hre
        · refine ⟨d', hd', ?_⟩
          have hdd : d ≠ d' := fun e => hl2 (by rw [hd', e])
          rw [T.dst, getD_put_ne hdd] at hyy
          exact hyy.same (execOp_put o' (fun cs b => T.sel i' o' cs b ho') a' (some d) v (fun d' hd' => by cases hd'; exact hl1)).symm
            (wanted_put o' a' (some d) v (fun d' hd' => by cases hd'; exact hl1)).symm
        · have := reach_listed hdn' _ _ _ hre hl
          rw [hiun'] at this; cases this
      refine ih (listed.setIfInBounds j true) a' w' hfree' (ready_mono hr (Ne.symm hji)) hdn' hyi ?_ hI' ?_
      · rcases hor with h | h
        · exact .inl h
        · exact .inr fun a2 w2 e1 e2 => h a2 w2 (e1.trans hex) (e2.trans hwa)
      · rw [Array.setIfInBounds_comm _ _ hji]; exact hG

/-- The plan's own walk. -/
def wpPlan (P : Program) (ops : Array Oper) (Q : Exit → Act → World → Prop) (N : Nat) : Stp → Act → World → Prop
  | .nil, a, w => Q .normal a w
  | .p i rest, a, w => ∃ o v, ops[i]? = some o ∧ (∀ w', YieldsAt P ops o v a w') ∧ wpPlan P ops Q N rest (a.put o.dst v) w
  | .l i rest, a, w => ∃ o v, ops[i]? = some o ∧ YieldsAt P ops o v a w ∧ wpPlan P ops Q N rest (a.put o.dst v) w
  | .alt rest b, a, w => wpPlan P ops Q N rest a w ∧ wpPlan P ops Q N b a w
  | .x i held rest, a, w => wpOp P ops Q i (fun a' w' => a'.tmps.size = N ∧ (∀ h ∈ held, ∀ o d, ops[h]? = some o → o.dst = some d → YieldsAt P ops o (a'.tmps.getD d undef) a' w') ∧ wpPlan P ops Q N rest a' w') a w

def takeOK (ops : Array Oper) (X L : List Nat) (N : Nat) (listed : Array Bool) (i : Nat) : Bool :=
  (Region.ready .any ops listed).contains i && Region.free .any ops listed i && !X.contains i &&
  match ops[i]? with
  | none => false
  | some oi => match oi.dst with
    | none => false
    | some d => decide (d < N) && !(oi.looksAt ops).contains d && L.all fun i' => i' == i || match ops[i']? with
        | none => true
        | some o' => (!(o'.looksAt ops).contains d && o'.dst != some d) || reach ops ops.size i' i

def heldOK (ops : Array Oper) (X L : List Nat) (listed : Array Bool) (x : Nat) (held : List Nat) : Bool :=
  L.all fun i => held.contains i || !listed.getD i false || X.any fun y => (listed.setIfInBounds x true).getD y false && reach ops ops.size y i

/-- The effects with which a plan may begin. -/
def headX : Stp → List Nat
  | .x i _ _ => [i]
  | .alt rest b => headX rest ++ headX b
  | _ => []
def lenP : Stp → Nat
  | .nil => 0
  | .alt rest _ => lenP rest
  | .p _ rest => lenP rest + 1
  | .l _ rest => lenP rest + 1
  | .x _ _ rest => lenP rest + 1

def xOK (ops : Array Oper) (X L : List Nat) (listed : Array Bool) (i : Nat) (held : List Nat) : Bool :=
  !L.contains i && L.all (fun k => match ops[k]? with | some o => o.dst.isSome | none => true) && heldOK ops X L listed i held

def planOK (ops : Array Oper) (X L : List Nat) (N : Nat) : List Nat → Stp → Array Bool → Bool
  | ex, .nil, listed => ex.isEmpty && (Region.ready .any ops listed).isEmpty
  | ex, .p i rest, listed => ex.isEmpty && takeOK ops X L N listed i && planOK ops X L N [] rest (listed.setIfInBounds i true)
  | ex, .l i rest, listed => ex.isEmpty && takeOK ops X L N listed i && L.contains i && planOK ops X L N [] rest (listed.setIfInBounds i true)
  | ex, .x i held rest, listed => ((Region.ready .any ops listed).all fun j => j == i || ex.contains j) && (Region.ready .any ops listed).contains i && xOK ops X L listed i held && planOK ops X L N [] rest (listed.setIfInBounds i true)
  | ex, .alt rest b, listed => (lenP b == lenP rest) && !(headX rest).isEmpty && !(headX b).isEmpty && planOK ops X L N (ex ++ headX b) rest listed && planOK ops X L N (ex ++ headX rest) b listed

theorem takes_of {listed : Array Bool} {i : Nat} (hs : Region.noSelect ops = true) (h : takeOK ops X L N listed i = true) :
    i ∈ Region.ready .any ops listed ∧ Region.free .any ops listed i = true ∧ ∃ oi d, Takes ops X L N i oi d := by
  simp only [takeOK, Bool.and_eq_true] at h
  obtain ⟨⟨⟨h1, h2⟩, h3⟩, h4⟩ := h
  refine ⟨by simpa using h1, h2, ?_⟩
  cases ho : ops[i]? with
  | none => simp [ho] at h4
  | some oi =>
    simp only [ho] at h4
    cases hd : oi.dst with
    | none => simp [hd] at h4
    | some d =>
      simp only [hd, Bool.and_eq_true, decide_eq_true_eq, List.all_eq_true] at h4
      refine ⟨oi, d, ho, hd, h4.1.1, by simpa using h4.1.2, by simpa using h3, Region.noSelect_spec hs, fun i' hi' hne o' ho' => ?_⟩
      have := h4.2 i' hi'
      simp only [ho', Bool.or_eq_true, beq_iff_eq, hne, false_or] at this
      rcases this with h5 | h5
      · left; simpa using h5
      · right; exact h5

theorem held_step {listed : Array Bool} {a : Act} {w : World} {i : Nat} {oi : Oper} {d : Nat} {v : Value} (T : Takes ops X L N i oi d) (hr : i ∈ Region.ready .any ops listed) (hdn : down ops listed)
    (hI : Inv P ops X L N listed a w) (hy : i ∈ L → YieldsAt P ops oi v a w) : Inv P ops X L N (listed.setIfInBounds i true) (a.put oi.dst v) w := by
  refine ⟨by rw [size_put]; exact hI.1, fun i' hi' hl hal o' ho' => ?_⟩
  have hiun := (mem_ready.1 hr).1
  have hiunf : listed.getD i false = false := by
    rcases Nat.lt_or_ge i listed.size with h' | h'
    · simp [h'] at hiun ⊢; exact hiun
    · simp [Array.getElem?_eq_none h']
  by_cases hii : i' = i
  · subst hii
    rw [T.at_] at ho'; cases ho'
    refine ⟨d, T.dst, ?_⟩
    rw [T.dst, getD_put_self (by rw [hI.1]; exact T.lt)]
    exact (hy hi').same (execOp_put oi (fun cs b => T.sel _ oi cs b T.at_) a (some d) v (fun d' hd' => by cases hd'; exact T.self))
      (wanted_put oi a (some d) v (fun d' hd' => by cases hd'; exact T.self))
  · rw [getD_set_ne false (Ne.symm hii)] at hl
    obtain ⟨d', hd', hyy⟩ := hI.2 i' hi' hl (fun x hx hlx => hal x hx (getD_set_true hlx)) o' ho'
    rcases T.loads i' hi' hii o' ho' with ⟨hl1, hl2⟩ | hre
    · refine ⟨d', hd', ?_⟩
      have hdd : d ≠ d' := fun e => hl2 (by rw [hd', e])
      rw [T.dst, getD_put_ne hdd]
      exact hyy.same (execOp_put o' (fun cs b => T.sel i' o' cs b ho') a (some d) v (fun d' hd' => by cases hd'; exact hl1))
        (wanted_put o' a (some d) v (fun d' hd' => by cases hd'; exact hl1))
    · have := reach_listed hdn _ _ _ hre hl
      rw [hiunf] at this; cases this

theorem headX_nil {ex : List Nat} {listed : Array Bool} : ∀ (plan : Stp), planOK ops X L N ex plan listed = true → headX plan = [] → ex = []
  | .nil, h, _ => by simp only [planOK, Bool.and_eq_true] at h; simpa using h.1
  | .p i rest, h, _ => by simp only [planOK, Bool.and_eq_true] at h; simpa using h.1.1
  | .l i rest, h, _ => by simp only [planOK, Bool.and_eq_true] at h; simpa using h.1.1.1
  | .x i held rest, h, e => by simp [headX] at e
  | .alt rest b, h, e => by
    simp only [planOK, Bool.and_eq_true] at h
    simp only [headX, List.append_eq_nil_iff] at e
    simp [e.1] at h

theorem plan_sound (hs : Region.noSelect ops = true) (hQ : ∀ c a w, Q (.panic c) a w → False) : ∀ (plan : Stp) (ex : List Nat) (fuel : Nat) (listed : Array Bool) (a : Act) (w : World),
    lenP plan = fuel → planOK ops X L N ex plan listed = true → down ops listed → Inv P ops X L N listed a w → wpPlan P ops Q N plan a w →
      (headX plan = [] → wpAnyI P ops Q X L N fuel listed a w) ∧
      (headX plan ≠ [] → (∀ j ∈ Region.ready .any ops listed, j ∈ headX plan ∨ j ∈ ex) ∧ ∃ f, fuel = f + 1 ∧ ∀ j ∈ headX plan, j ∈ Region.ready .any ops listed ∧ wpOp P ops Q j (wpAnyI P ops Q X L N f (listed.setIfInBounds j true)) a w) := by
  -- a plan with nothing beside it
  have whole : ∀ (rest : Stp), (∀ (ex : List Nat) (fuel : Nat) (listed : Array Bool) (a : Act) (w : World),
      lenP rest = fuel → planOK ops X L N ex rest listed = true → down ops listed → Inv P ops X L N listed a w → wpPlan P ops Q N rest a w →
      (headX rest = [] → wpAnyI P ops Q X L N fuel listed a w) ∧
      (headX rest ≠ [] → (∀ j ∈ Region.ready .any ops listed, j ∈ headX rest ∨ j ∈ ex) ∧ ∃ f, fuel = f + 1 ∧ ∀ j ∈ headX rest, j ∈ Region.ready .any ops listed ∧ wpOp P ops Q j (wpAnyI P ops Q X L N f (listed.setIfInBounds j true)) a w)) →
      ∀ (fuel : Nat) (listed : Array Bool) (a : Act) (w : World), lenP rest = fuel → planOK ops X L N [] rest listed = true → down ops listed → Inv P ops X L N listed a w → wpPlan P ops Q N rest a w → wpAnyI P ops Q X L N fuel listed a w := by
    intro rest ih fuel listed a w hf hok hdn hI h
    obtain ⟨h1, h2⟩ := ih [] fuel listed a w hf hok hdn hI h
    by_cases he : headX rest = []
    · exact h1 he
    · obtain ⟨hc, f, rfl, hj⟩ := h2 he
      refine ⟨hI, fun h0 => ?_, fun j hjr => ?_⟩
      · obtain ⟨i, l, hil⟩ := List.exists_cons_of_ne_nil he
        have := (hj i (by rw [hil]; exact List.mem_cons_self)).1
        rw [h0] at this; cases this
      · rcases hc j hjr with hx | hx
        · exact (hj j hx).2
        · cases hx
  intro plan
  induction plan with
  | nil =>
      intro ex fuel listed a w hf hok hdn hI h
      simp only [planOK, Bool.and_eq_true] at hok
      refine ⟨fun _ => ?_, fun hne => (hne rfl).elim⟩
      subst hf
      exact ⟨hI, by simpa using hok.2, h⟩
  | p i rest ih =>
        intro ex fuel listed a w hf hok hdn hI h
        simp only [planOK, Bool.and_eq_true] at hok
        obtain ⟨hr, hfree, oi, d, T⟩ := takes_of hs hok.1.2
        obtain ⟨o, v, ho, hy, hrest⟩ := h
        rw [T.at_] at ho; cases ho
        have hI' := held_step (v := v) T hr hdn hI (fun _ => hy w)
        refine ⟨fun _ => ?_, fun hne => (hne rfl).elim⟩
        subst hf
        refine takeI T hQ (lenP rest) listed a w (Region.free_spec T.at_ hfree) hr hdn (hy w) (.inr fun a' w' e1 e2 => (hy w').same e1 e2) hI ?_
        exact whole rest ih _ _ _ _ rfl hok.2 (down_set hdn hr) hI' hrest
  | l i rest ih =>
        intro ex fuel listed a w hf hok hdn hI h
        simp only [planOK, Bool.and_eq_true] at hok
        obtain ⟨hr, hfree, oi, d, T⟩ := takes_of hs hok.1.1.2
        obtain ⟨o, v, ho, hy, hrest⟩ := h
        rw [T.at_] at ho; cases ho
        have hI' := held_step (v := v) T hr hdn hI (fun _ => hy)
        refine ⟨fun _ => ?_, fun hne => (hne rfl).elim⟩
        subst hf
        refine takeI T hQ (lenP rest) listed a w (Region.free_spec T.at_ hfree) hr hdn hy (.inl (by simpa using hok.1.2)) hI ?_
        exact whole rest ih _ _ _ _ rfl hok.2 (down_set hdn hr) hI' hrest
  | x i held rest ih =>
        intro ex fuel listed a w hf hok hdn hI h
        simp only [planOK, xOK, Bool.and_eq_true] at hok
        obtain ⟨⟨⟨hr, hmem⟩, ⟨hnl, hdst⟩, hh⟩, hrest⟩ := hok
        refine ⟨fun hne => by simp [headX] at hne, fun _ => ⟨fun j hj => ?_, lenP rest, by subst hf; rfl, fun j hj => ?_⟩⟩
        · have := List.all_eq_true.1 hr j hj
          simp only [Bool.or_eq_true, beq_iff_eq] at this
          rcases this with h1 | h1
          · left; simp [headX, h1]
          · right; simpa using h1
        · obtain rfl : j = i := by simpa [headX] using hj
          have hmem' : j ∈ Region.ready .any ops listed := by simpa using hmem
          refine ⟨hmem', wpOp_mono (fun a' w' h3 => ?_) h⟩
          obtain ⟨hsz', hheld, hp⟩ := h3
          refine whole rest ih _ _ a' w' rfl hrest (down_set hdn hmem') ⟨hsz', fun k hk hl hal o ho => ?_⟩ hp
          have hkj : j ≠ k := fun e => by subst e; simp [hk] at hnl
          rw [getD_set_ne false hkj] at hl
          have hd1 := List.all_eq_true.1 hdst k hk
          simp only [ho] at hd1
          obtain ⟨d, hd⟩ := Option.isSome_iff_exists.1 hd1
          refine ⟨d, hd, hheld k ?_ o d ho hd⟩
          have h4 := List.all_eq_true.1 hh k hk
          simp only [Bool.or_eq_true, hl, Bool.not_true, Bool.false_eq_true, or_false] at h4
          rcases h4 with h4 | h4
          · simpa using h4
          · exfalso
            obtain ⟨y, hy, hyy⟩ := List.any_eq_true.1 h4
            simp only [Bool.and_eq_true] at hyy
            rw [hal y hy hyy.1] at hyy
            exact absurd hyy.2 (by simp)
  | alt rest b ih ihb =>
        intro ex fuel listed a w hf hok hdn hI h
        simp only [planOK, Bool.and_eq_true, beq_iff_eq] at hok
        obtain ⟨⟨⟨⟨hlen, hn1⟩, hn2⟩, ok1⟩, ok2⟩ := hok
        have hn1' : headX rest ≠ [] := by simpa using hn1
        have hn2' : headX b ≠ [] := by simpa using hn2
        have hf1 : lenP rest = fuel := hf
        obtain ⟨c1, f, hfe, g1⟩ := (ih _ fuel listed a w hf1 ok1 hdn hI h.1).2 hn1'
        obtain ⟨c2, f2, hfe2, g2⟩ := (ihb _ fuel listed a w (hlen.trans hf1) ok2 hdn hI h.2).2 hn2'
        obtain rfl : f = f2 := by omega
        refine ⟨fun hne => absurd (List.append_eq_nil_iff.1 hne).1 hn1', fun _ => ⟨fun j hj => ?_, f, hfe, fun j hj => ?_⟩⟩
        · rcases c1 j hj with h1 | h1
          · left; exact List.mem_append_left _ h1
          · rcases List.mem_append.1 h1 with h2 | h2
            · right; exact h2
            · left; exact List.mem_append_right _ h2
        · rcases List.mem_append.1 hj with h1 | h1
          · exact g1 j h1
          · exact g2 j h1

theorem wp_region_plan {id : Nat} {a : Act} {w : World} (plan : Stp) (X L : List Nat) (hm : P.follows .mixedOrders = true) (hQ : ∀ c a w, Q (.panic c) a w → False)
    (hok : (Region.noSelect ops && decide (lenP plan = ops.size) && planOK ops X L N [] plan (Array.replicate ops.size false)) = true) (hN : a.tmps.size = N)
    (h : wpPlan P ops Q N plan a { w with drawn := w.drawn + 1 }) : (Code.region id ops true).wp P Q a w := by
  simp only [Bool.and_eq_true, decide_eq_true_eq] at hok
  refine wp_region_any hm (wpAny_of_I (X := X) (L := L) (N := N) _ _ _ _ ?_)
  have hdn : down ops (Array.replicate ops.size false) := fun j o _ hj => by
    simp only [Array.getD_eq_getD_getElem?, Array.getElem?_replicate] at hj; split at hj <;> cases hj
  have hI : Inv P ops X L N (Array.replicate ops.size false) a { w with drawn := w.drawn + 1 } := ⟨hN, fun i _ hl => by
    simp only [Array.getD_eq_getD_getElem?, Array.getElem?_replicate] at hl; split at hl <;> cases hl⟩
  obtain ⟨h1, h2⟩ := plan_sound (X := X) (L := L) (N := N) (P := P) (Q := Q) hok.1.1 hQ plan [] _ _ a _ hok.1.2 hok.2 hdn hI h
  by_cases he : headX plan = []
  · exact h1 he
  · obtain ⟨hc, f, hf, hj⟩ := h2 he
    have key : wpAnyI P ops Q X L N (f + 1) (Array.replicate ops.size false) a { w with drawn := w.drawn + 1 } := by
     refine ⟨hI, fun h0 => ?_, fun j hjr => ?_⟩
     · obtain ⟨i, l, hil⟩ := List.exists_cons_of_ne_nil he
       have := (hj i (by rw [hil]; exact List.mem_cons_self)).1
       rw [h0] at this; cases this
     · rcases hc j hjr with hx | hx
       · exact (hj j hx).2
       · cases hx
    rw [← hf] at key
    exact key

end
end Go.Proofs.YtedkoebbijpnfaaGreatDoor.TH

/- The walk over a function's code, told of slots and of a part of the heap alone. -/
namespace Go.Proofs.YtedkoebbijpnfaaGreatDoor.TH
open Go

abbrev Env := Nat → Value
def upd (env : Env) (d : Nat) (v : Value) : Env := fun t => bif Nat.beq t d then v else env t
def putE (env : Env) (d : Option Nat) (v : Value) : Env := match d with
  | some d => upd env d v
  | none => env
def ev (env : Env) : Operand → Value
  | .tmp t => env t
  | .const v => v
  | .global g => .pointer (some ⟨g, 0, none⟩)
  | .func f => .func (.func f) #[] #[]

structure Ag (N : Nat) (a : Act) (env : Env) : Prop where
  size : a.tmps.size = N
  defers : a.defers = []
  get : ∀ t, a.tmps.getD t undef = env t

theorem Ag.eval {N : Nat} {a : Act} {env : Env} (h : Ag N a env) : a.eval = ev env := by
  funext x
  cases x with
  | tmp t => exact h.get t
  | _ => rfl

theorem Ag.put {N : Nat} {a : Act} {env : Env} (h : Ag N a env) {d : Option Nat} (hd : ∀ t, d = some t → t < N) (v : Value) : Ag N (a.put d v) (putE env d v) := by
  cases d with
  | none => exact h
  | some d =>
    have hlt := hd d rfl
    refine ⟨by rw [size_put]; exact h.size, h.defers, fun t => ?_⟩
    by_cases ht : d = t
    · subst ht
      rw [getD_put_self (by rw [h.size]; exact hlt)]
      simp [putE, upd]
    · rw [getD_put_ne ht, h.get t]
      have : Nat.beq t d = false := by
        cases hb : Nat.beq t d with
        | false => rfl
        | true => exact absurd (Nat.eq_of_beq_eq_true hb).symm ht
      simp [putE, upd, this]

def nth : List Oper → Nat → Option Oper
  | [], _ => none
  | o :: _, 0 => some o
  | _ :: l, n + 1 => nth l n

theorem nth_eq : ∀ (l : List Oper) (i : Nat), nth l i = l.toArray[i]?
  | [], i => by simp [nth]
  | o :: l, 0 => by simp [nth]
  | o :: l, n + 1 => by
    have := nth_eq l n
    simp at this
    simp [nth, this]

/-- What the guard's operation answered. -/
def yE (l : List Oper) (env : Env) (j : Nat) : Option Bool :=
  match (nth l j).bind (·.dst) with
  | some t => match env t with
    | .bool b => some b
    | _ => none
  | none => none
def wantE (l : List Oper) (env : Env) (o : Oper) : Bool := Region.wanted o (yE l env)

theorem yielded_eq {l : List Oper} {N : Nat} {a : Act} {env : Env} (h : Ag N a env) (j : Nat) : yielded l.toArray a.tmps j = yE l env j := by
  unfold yielded yE
  rw [nth_eq]
  cases hd : (l.toArray[j]?).bind (·.dst) with
  | none => simp
  | some t =>
    have hg := h.get t
    simp only [Array.getD_eq_getD_getElem?] at hg
    simp only [Option.bind_some]
    cases ht : a.tmps[t]? with
    | none =>
      simp only [ht, Option.getD_none] at hg
      rw [← hg]; rfl
    | some v =>
      simp only [ht, Option.getD_some] at hg
      rw [← hg]
      cases v <;> rfl

theorem wanted_eq {l : List Oper} {N : Nat} {a : Act} {env : Env} (h : Ag N a env) (o : Oper) : Region.wanted o (yielded l.toArray a.tmps) = wantE l env o := by
  unfold wantE
  congr 1
  funext j
  exact yielded_eq h j

/-- A call, from a part of the heap. -/
def CallH (P : Program) (f : FuncId) (args : Array Value) (H : Hp) (R : Value → Hp → Prop) : Prop :=
  ∀ w, Sub H w → Calls P f args w fun e w' => ∃ v H', e = .returned v ∧ R v H' ∧ Ext H H' w w'

theorem CallH.mono {P : Program} {f : FuncId} {args : Array Value} {H : Hp} {R R' : Value → Hp → Prop} (h : CallH P f args H R) (hr : ∀ v H', R v H' → R' v H') : CallH P f args H R' :=
  fun w hs => (h w hs).mono fun _ _ ⟨v, H', e, r, x⟩ => ⟨v, H', e, hr _ _ r, x⟩

/-- A part of a part. -/
def Hp.Le (H2 H : Hp) : Prop := ∀ b o, H2 b = some o → H b = some o

theorem Ext.drop {H H' H2 : Hp} {w w' : World} (h : Ext H H' w w') (hl : H2.Le H') : Ext H H2 w w' :=
  ⟨fun b o hb => h.sub b o (hl b o hb), h.os, h.tape, h.output, h.size, h.frame, fun b hb => by
    cases h2 : H2 b with
    | none => exact absurd h2 hb
    | some o => exact h.dom b (by rw [hl b o h2]; simp)⟩
theorem Hp.Le.none {H2 H : Hp} (hl : H2.Le H) {b : Nat} (hb : H b = Option.none) : H2 b = Option.none := by
  cases h2 : H2 b with
  | none => rfl
  | some o => rw [hl b o h2] at hb; cases hb
theorem Ext.more {H H' H2 : Hp} {w w' : World} (h : Ext H2 H' w w') (hl : H2.Le H) : Ext H H' w w' :=
  ⟨h.sub, h.os, h.tape, h.output, h.size, fun k hk hn => h.frame k hk (hl.none hn), fun b hb => by
    rcases h.dom b hb with h1 | h1
    · left; intro h2; exact h1 (hl.none h2)
    · exact .inr h1⟩

theorem CallH.drop {P : Program} {f : FuncId} {args : Array Value} {H : Hp} {R R' : Value → Hp → Prop} (h : CallH P f args H R) (hr : ∀ v H', R v H' → ∃ H2, H2.Le H' ∧ R' v H2) : CallH P f args H R' :=
  fun w hs => (h w hs).mono fun _ _ ⟨v, H', e, r, x⟩ => let ⟨H2, hl, r'⟩ := hr _ _ r; ⟨v, H2, e, r', x.drop hl⟩

def NextH (P : Program) (K : Value → Hp → Prop) : Next → Hp → Prop
  | .value v, H => K v H
  | .skip, H => K undef H
  | .enter f args, H => CallH P f args H K
  | _, _ => False

def EO (P : Program) (s : Sem Next) (H : Hp) (K : Value → Hp → Prop) : Prop := SemH P s H (NextH P K)

def YE (P : Program) (l : List Oper) (H : Hp) (o : Oper) (v : Value) (env : Env) : Prop :=
  (wantE l env o = true ∧ quiet P H (execOp (ev env) o) = some (.value v)) ∨ (wantE l env o = false ∧ v = undef)

def HeldE (P : Program) (l : List Oper) (held : List Nat) (env : Env) (H : Hp) : Prop :=
  ∀ h ∈ held, ∀ o d, nth l h = some o → o.dst = some d → YE P l H o (env d) env

def EP (P : Program) (l : List Oper) : Stp → (Env → Hp → Prop) → Env → Hp → Prop
  | .nil, K, env, H => K env H
  | .alt rest b, K, env, H => EP P l rest K env H ∧ EP P l b K env H
  | .p i rest, K, env, H => ∃ o v, nth l i = some o ∧ YE P l Hp.nil o v env ∧ EP P l rest K (putE env o.dst v) H
  | .l i rest, K, env, H => ∃ o v, nth l i = some o ∧ YE P l H o v env ∧ EP P l rest K (putE env o.dst v) H
  | .x i held rest, K, env, H => ∃ o, nth l i = some o ∧
      ((wantE l env o = true ∧ EO P (execOp (ev env) o) H fun v H' => HeldE P l held (putE env o.dst v) H' ∧ EP P l rest K (putE env o.dst v) H') ∨
       (wantE l env o = false ∧ HeldE P l held (putE env o.dst undef) H ∧ EP P l rest K (putE env o.dst undef) H))

def dstOK (l : List Oper) (N : Nat) : Bool := l.all fun o => match o.dst with
  | some d => Nat.blt d N
  | none => true

theorem dst_lt {l : List Oper} {N i : Nat} {o : Oper} (h : dstOK l N = true) (ho : nth l i = some o) : ∀ t, o.dst = some t → t < N := by
  intro t ht
  rw [nth_eq] at ho
  have hm : o ∈ l := by
    have := Array.mem_of_getElem? ho
    simpa using this
  have := List.all_eq_true.1 h o hm
  simp only [ht] at this
  exact Nat.le_of_ble_eq_true this

theorem Sub.nil (w : World) : Sub Hp.nil w := fun b o h => by simp [Hp.nil] at h

theorem YE.at {P : Program} {l : List Oper} {H : Hp} {o : Oper} {v : Value} {env : Env} {N : Nat} {a : Act} {w : World} (hy : YE P l H o v env) (ha : Ag N a env) (hs : Sub H w) :
    YieldsAt P l.toArray o v a w := by
  unfold YieldsAt
  rw [wanted_eq ha, ha.eval]
  exact hy.imp (fun ⟨h1, h2⟩ => ⟨h1, quiet_run _ h2 hs⟩) id

/-- What a walk's end says: no panic; a part of the heap, and nothing else, has become another one. -/
def QW (Q : Exit → Env → Hp → Prop) (N : Nat) (H : Hp) (w : World) : Exit → Act → World → Prop
  | .panic _, _, _ => False
  | .outgrown, _, _ => False
  | e, a', w' => ∃ env' H', Q e env' H' ∧ Ag N a' env' ∧ Ext H H' w w'

theorem EP_sound {P : Program} {l : List Oper} {N : Nat} {K : Env → Hp → Prop} {Q : Exit → Env → Hp → Prop} (hd : dstOK l N = true) {H0 : Hp} {w0 : World} (hK : ∀ env H, K env H → Q .normal env H) :
    ∀ (plan : Stp) (env : Env) (H : Hp) (a : Act) (w : World), EP P l plan K env H → Ag N a env → Ext H0 H w0 w → wpPlan P l.toArray (QW Q N H0 w0) N plan a w := by
  intro plan
  induction plan with
  | nil => intro env H a w h ha he; exact ⟨env, H, hK _ _ h, ha, he⟩
  | alt rest b ih ihb => intro env H a w h ha he; exact ⟨ih _ _ _ _ h.1 ha he, ihb _ _ _ _ h.2 ha he⟩
  | p i rest ih =>
      intro env H a w h ha he
      obtain ⟨o, v, ho, hy, hr⟩ := h
      exact ⟨o, v, by rw [← nth_eq]; exact ho, fun w' => hy.at ha (Sub.nil w'), ih _ _ _ _ hr (ha.put (dst_lt hd ho) v) he⟩
  | l i rest ih =>
      intro env H a w h ha he
      obtain ⟨o, v, ho, hy, hr⟩ := h
      exact ⟨o, v, by rw [← nth_eq]; exact ho, hy.at ha he.sub, ih _ _ _ _ hr (ha.put (dst_lt hd ho) v) he⟩
  | x i held rest ih =>
      intro env H a w h ha he
      obtain ⟨o, ho, hr⟩ := h
      have ho' : l.toArray[i]? = some o := by rw [← nth_eq]; exact ho
      have fin : ∀ (v : Value) (H' : Hp) (w' : World), Ext H0 H' w0 w' → HeldE P l held (putE env o.dst v) H' → EP P l rest K (putE env o.dst v) H' →
          ((a.put o.dst v).tmps.size = N ∧ (∀ h ∈ held, ∀ o' d, l.toArray[h]? = some o' → o'.dst = some d → YieldsAt P l.toArray o' ((a.put o.dst v).tmps.getD d undef) (a.put o.dst v) w') ∧ wpPlan P l.toArray (QW Q N H0 w0) N rest (a.put o.dst v) w') := by
        intro v H' w' he' hh hr'
        have ha' := ha.put (dst_lt hd ho) v
        refine ⟨ha'.size, fun h hm o' d ho2 hd2 => ?_, ih _ _ _ _ hr' ha' he'⟩
        have := hh h hm o' d (by rw [nth_eq]; exact ho2) hd2
        rw [ha'.get d]
        exact this.at ha' he'.sub
      show wpOp P l.toArray _ i _ a w
      unfold wpOp
      simp only [ho']
      rw [wanted_eq ha]
      rcases hr with ⟨hw, hx⟩ | ⟨hw, hh, hr'⟩
      · rw [if_pos hw]
        refine .inl ?_
        unfold Oper.wp
        rw [ha.eval]
        obtain ⟨nx, w', H', hrun, hk, hext⟩ := SemH_run _ hx he.sub
        rw [hrun]
        cases nx <;> simp only [NextH] at hk
        case value v => exact fin v H' w' (he.trans hext) hk.1 hk.2
        case skip => exact fin undef H' w' (he.trans hext) hk.1 hk.2
        case enter f args =>
          refine (hk w' hext.sub).mono fun e w'' ⟨v, H2, hev, hR, hext2⟩ => ?_
          subst hev
          exact fin v H2 w'' ((he.trans hext).trans hext2) hR.1 hR.2
      · rw [if_neg (by simp [hw])]
        exact fin undef H w he hh hr'

/-- The walk over code. -/
def E (P : Program) (N : Nat) (c : Code) (Q : Exit → Env → Hp → Prop) (env : Env) (H : Hp) : Prop :=
  ∀ a w, Ag N a env → Sub H w → c.wp P (QW Q N H w) a w

def thenQ (K : Env → Hp → Prop) (Q : Exit → Env → Hp → Prop) : Exit → Env → Hp → Prop
  | .normal => K
  | e => Q e
def blockQ (id : Nat) (Q : Exit → Env → Hp → Prop) : Exit → Env → Hp → Prop
  | .exit i => if i = id then Q .normal else Q (.exit i)
  | e => Q e

theorem QW.trans {Q : Exit → Env → Hp → Prop} {N : Nat} {H H1 : Hp} {w w1 : World} (he : Ext H H1 w w1) : ∀ (e : Exit) (a : Act) (w' : World), QW Q N H1 w1 e a w' → QW Q N H w e a w' := by
  intro e a w' h
  cases e <;> first
    | exact h
    | (obtain ⟨env', H', h1, h2, h3⟩ := h; exact ⟨env', H', h1, h2, he.trans h3⟩)

section
variable {P : Program} {N : Nat} {Q : Exit → Env → Hp → Prop} {env : Env} {H : Hp}

theorem E_skip (h : Q .normal env H) : E P N .skip Q env H := fun _ _ ha hs => wp_skip ⟨env, H, h, ha, .refl hs⟩
theorem E_label {n : Nat} (h : Q .normal env H) : E P N (.label n) Q env H := fun _ _ ha hs => wp_label ⟨env, H, h, ha, .refl hs⟩
theorem E_exit {i : Nat} (h : Q (.exit i) env H) : E P N (.exit i) Q env H := fun _ _ ha hs => wp_exit ⟨env, H, h, ha, .refl hs⟩
theorem E_goto {i : Nat} (h : Q (.goto i) env H) : E P N (.goto i) Q env H := fun _ _ ha hs => wp_goto ⟨env, H, h, ha, .refl hs⟩
theorem E_ret (h : Q .ret env H) : E P N .ret Q env H := fun _ _ ha hs => wp_ret ⟨env, H, h, ha, .refl hs⟩

theorem E_seq {x y : Code} (h : E P N x (thenQ (E P N y Q) Q) env H) : E P N (.seq x y) Q env H := by
  intro a w ha hs
  refine wp_seq (wp_mono (h a w ha hs) fun e a' w' hq => ?_)
  cases e with
  | normal =>
    obtain ⟨env', H', h1, h2, h3⟩ := hq
    exact wp_mono (h1 a' w' h2 h3.sub) (QW.trans h3)
  | exit i => exact hq
  | goto i => exact hq
  | ret => exact hq
  | panic c => exact hq
  | outgrown => exact hq

theorem E_cond {c : Operand} {x y : Code} {t : Bool} (hc : ev env c = .bool t) (h1 : t = true → E P N x Q env H) (h2 : t = false → E P N y Q env H) : E P N (.cond c x y) Q env H := by
  intro a w ha hs
  exact wp_cond_split (t := t) (by rw [ha.eval]; exact hc) (fun e => h1 e a w ha hs) (fun e => h2 e a w ha hs)

theorem E_true {c : Operand} {x y : Code} (hc : ev env c = .bool true) (h : E P N x Q env H) : E P N (.cond c x y) Q env H := E_cond hc (fun _ => h) (fun e => by cases e)
theorem E_false {c : Operand} {x y : Code} (hc : ev env c = .bool false) (h : E P N y Q env H) : E P N (.cond c x y) Q env H := E_cond hc (fun e => by cases e) (fun _ => h)

theorem E_block {id : Nat} {c : Code} (h : E P N c (blockQ id Q) env H) : E P N (.block id c) Q env H := by
  intro a w ha hs
  refine wp_block (wp_mono (h a w ha hs) fun e a' w' hq => ?_)
  cases e with
  | exit i =>
    show if i = id then QW Q N H w .normal a' w' else QW Q N H w (.exit i) a' w'
    obtain ⟨env', H', h1, h2, h3⟩ := hq
    simp only [blockQ] at h1
    split
    · rename_i hi; rw [if_pos hi] at h1; exact ⟨env', H', h1, h2, h3⟩
    · rename_i hi; rw [if_neg hi] at h1; exact ⟨env', H', h1, h2, h3⟩
  | normal => exact hq
  | goto i => exact hq
  | ret => exact hq
  | panic c => exact hq
  | outgrown => exact hq

theorem E_mono {c : Code} {Q' : Exit → Env → Hp → Prop} (h : E P N c Q env H) (hq : ∀ e env H, Q e env H → Q' e env H) : E P N c Q' env H := by
  intro a w ha hs
  refine wp_mono (h a w ha hs) fun e a' w' hw => ?_
  cases e <;> first
    | exact hw
    | (obtain ⟨env', H', h1, h2, h3⟩ := hw; exact ⟨env', H', hq _ _ _ h1, h2, h3⟩)

/-- A loop, by what holds at the head of each round, with a number that goes down. -/
theorem E_drop {c : Code} {H2 : Hp} (hl : H2.Le H) (h : E P N c Q env H2) : E P N c Q env H := fun a w ha hs =>
  wp_mono (h a w ha fun b o hb => hs b o (hl b o hb)) fun e a' w' hq => by
    cases e with
    | panic ch => exact hq.elim
    | outgrown => exact hq.elim
    | _ => obtain ⟨env', H', h1, h2, h3⟩ := hq; exact ⟨env', H', h1, h2, h3.more hl⟩

theorem E_loop {c : Code} (I : Nat → Env → Hp → Prop) {n : Nat} (h0 : I n env H)
    (round : ∀ n env H, I n env H → E P N c (thenQ (fun env' H' => ∃ m, m < n ∧ I m env' H') Q) env H) : E P N (.loop c) Q env H := by
  intro a w ha hs b k cs
  have key : ∀ n env H a w1, I n env H → Ag N a env → Sub H w1 → ∃ e a' w', QW Q N H w1 e a' w' ∧ Arrives P (lone (b.at a (.code c :: .inLoop c :: k)) cs w1) b k cs e a' w' := by
    intro n
    induction n using Nat.strongRecOn with
    | _ n ih =>
      intro env H a w1 hI ha hs
      obtain ⟨e, a₁, w₁, hq, harr⟩ := round n env H hI a w1 ha hs b (.inLoop c :: k) cs
      cases e with
      | normal =>
        obtain ⟨env', H', ⟨m, hm, hI'⟩, ha', he'⟩ := hq
        obtain ⟨e₂, a₂, w₂, hq₂, harr₂⟩ := ih m hm env' H' a₁ w₁ hI' ha' he'.sub
        exact ⟨e₂, a₂, w₂, QW.trans he' _ _ _ hq₂, .of_steps (Steps.trans harr (.one step_inLoop)) harr₂⟩
      | exit id => exact ⟨.exit id, a₁, w₁, hq, .pass (x := .inLoop c) rfl (fun _ _ => .inl (by simp)) harr⟩
      | goto l => exact ⟨.goto l, a₁, w₁, hq, .pass (x := .inLoop c) rfl (fun _ _ => .inl (by simp)) harr⟩
      | ret => exact ⟨.ret, a₁, w₁, hq, .pass (x := .inLoop c) rfl (fun _ _ => .inl (by simp)) harr⟩
      | panic ch => exact hq.elim
      | outgrown => exact hq.elim
  obtain ⟨e, a', w', hq, harr⟩ := key n env H a w h0 ha hs
  exact ⟨e, a', w', hq, .of_steps (.one step_loop) harr⟩

def Stp.idxs : Stp → List Nat
  | .nil => []
  | .p i r => i :: r.idxs
  | .l i r => i :: r.idxs
  | .x i _ r => i :: r.idxs
  | .alt r _ => r.idxs

theorem wpOps_of_plan {ops : Array Oper} {Q : Exit → Act → World → Prop} : ∀ (plan : Stp) (a : Act) (w : World), wpPlan P ops Q N plan a w → wpOps P ops Q plan.idxs a w := by
  intro plan
  induction plan with
  | nil => intro a w h; exact h
  | alt r b ih _ => intro a w h; exact ih _ _ h.1
  | p i r ih =>
    intro a w h
    show wpOps P ops Q (i :: r.idxs) a w
    rw [wpOps_cons]
    obtain ⟨o, v, ho, hy, hr⟩ := h; exact (hy w).wpOp ho (ih _ _ hr)
  | l i r ih =>
    intro a w h
    show wpOps P ops Q (i :: r.idxs) a w
    rw [wpOps_cons]
    obtain ⟨o, v, ho, hy, hr⟩ := h; exact hy.wpOp ho (ih _ _ hr)
  | x i held r ih =>
    intro a w h
    show wpOps P ops Q (i :: r.idxs) a w
    rw [wpOps_cons]
    exact wpOp_mono (fun a' w' h' => ih _ _ h'.2.2) h

/-- A region in the order of the text. -/
theorem E_region {id : Nat} {l : List Oper} (plan : Stp) (hok : (decide (plan.idxs = List.range l.length) && dstOK l N) = true) (h : EP P l plan (Q .normal) env H) : E P N (.region id l.toArray false) Q env H := by
  simp only [Bool.and_eq_true, decide_eq_true_eq] at hok
  intro a w ha hs
  refine wp_region ?_
  have := wpOps_of_plan plan a w (EP_sound hok.2 (fun _ _ h => h) plan env H a w h ha (.refl hs))
  rw [hok.1] at this
  simpa using this

/-- A region that draws its order. -/
theorem E_draw {id : Nat} {l : List Oper} (plan : Stp) (X L : List Nat) (hm : P.follows .mixedOrders = true)
    (hok : (Region.noSelect l.toArray && decide (lenP plan = l.toArray.size) && planOK l.toArray X L N [] plan (Array.replicate l.toArray.size false) && dstOK l N) = true) (h : EP P l plan (Q .normal) env H) : E P N (.region id l.toArray true) Q env H := by
  rw [Bool.and_eq_true] at hok
  intro a w ha hs
  have hs' : Sub H { w with drawn := w.drawn + 1 } := hs
  have hext : Ext H H w { w with drawn := w.drawn + 1 } := ⟨hs', rfl, rfl, rfl, Nat.le_refl _, fun _ _ _ => rfl, fun _ h => .inl h⟩
  exact wp_region_plan plan X L hm (fun c a w h => h) hok.1 ha.size (EP_sound hok.2 (fun _ _ h => h) plan env H a _ h ha hext)

/-- What stands in a function's results. -/
def rv (P : Program) (H : Hp) (env : Env) : ResultVar → Option Value
  | .tmp t => some (env t)
  | .cell a t => quiet P H (do loadVar t (← asAddr (env a)))

def resL (P : Program) (H : Hp) (env : Env) : List ResultVar → Option (List Value)
  | [] => some []
  | r :: rs => match rv P H env r, resL P H env rs with
    | some v, some vs => some (v :: vs)
    | _, _ => none

def retV : List Value → Value
  | [v] => v
  | vs => .tuple vs.toArray

theorem quiet_results {fn : Func} {rs : List ResultVar} (hr : fn.results = rs.toArray) {tmps : Array Value} (hg : ∀ t, tmps.getD t undef = env t) {vs : List Value} (hv : resL P H env rs = some vs) :
    quiet P H (results fn tmps) = some (retV vs) := by
  unfold results
  rw [hr]
  rw [quiet_bind]
  have key : ∀ (rs : List ResultVar) (vs : List Value), resL P H env rs = some vs → quiet P H (rs.mapM fun
      | .tmp t => (pure (tmps.getD t undef) : Sem Value)
      | .cell a t => do loadVar t (← asAddr (tmps.getD a undef))) = some vs := by
    intro rs
    induction rs with
    | nil => intro vs h; simp [resL] at h; subst h; rfl
    | cons r rs ih =>
      intro vs h
      simp only [resL] at h
      split at h
      · rename_i v vs' h1 h2
        cases h
        rw [List.mapM_cons, quiet_bind]
        have hhd : quiet P H (match r with
            | .tmp t => (pure (tmps.getD t undef) : Sem Value)
            | .cell a t => do loadVar t (← asAddr (tmps.getD a undef))) = some v := by
          cases r with
          | tmp t => simp only [rv] at h1; show quiet P H (pure (tmps.getD t undef) : Sem Value) = some v; rw [hg t]; exact h1
          | cell a t => simp only [rv] at h1; show quiet P H (do loadVar t (← asAddr (tmps.getD a undef))) = some v; rw [hg a]; exact h1
        rw [hhd]
        simp only [Option.bind_some]
        rw [quiet_bind, ih _ h2]
        rfl
      · cases h
  have hm : quiet P H (rs.toArray.mapM fun
      | .tmp t => (pure (tmps.getD t undef) : Sem Value)
      | .cell a t => do loadVar t (← asAddr (tmps.getD a undef))) = some vs.toArray := by
    rw [List.mapM_toArray]
    rw [map_eq_pure_bind, quiet_bind, key rs vs hv]
    rfl
  refine (congrArg (fun o : Option (Array Value) => o.bind fun a => quiet P H (pure (if h : a.size = 1 then a[0] else Value.tuple a))) hm).trans ?_
  simp only [Option.bind_some]
  show some _ = _
  congr 1
  match vs with
  | [] => rfl
  | [v] => rfl
  | v :: u :: vs => simp [retV]

/-- At a function's end. -/
def RetQ (P : Program) (rs : List ResultVar) (R : Value → Hp → Prop) : Exit → Env → Hp → Prop
  | .normal, env, H => ∃ vs, resL P H env rs = some vs ∧ R (retV vs) H
  | .ret, env, H => ∃ vs, resL P H env rs = some vs ∧ R (retV vs) H
  | _, _, _ => False

def env0 (args : List Value) : Env := fun t => args.getD t undef

theorem CallH_enter {f : FuncId} {fn : Func} {c : Code} {args : List Value} {rs : List ResultVar} {R : Value → Hp → Prop} (hf : P.funcs[f]? = some fn) (hn : fn.ntmps = N) (hb : fn.body = some c) (hr : fn.results = rs.toArray)
    (hsz : Nat.ble args.length N = true) (h : E P N c (RetQ P rs R) (env0 args) H) : CallH P f args.toArray H R := by
  intro w hs
  have hle := Nat.le_of_ble_eq_true hsz
  refine calls_of_wp hf hb (wp_mono (h _ w ⟨?_, rfl, fun t => ?_⟩ hs) fun e a' w' hq => ?_)
  · simp [hn]; omega
  · simp only [Array.getD_eq_getD_getElem?, env0, List.getD_eq_getElem?_getD]
    rcases Nat.lt_or_ge t args.length with ht | ht
    · rw [Array.getElem?_append_left (by simpa using ht)]; simp
    · rw [Array.getElem?_append_right (by simpa using ht), List.getElem?_eq_none ht]
      simp only [Array.getElem?_replicate, Option.getD_none]
      split <;> rfl
  · cases e with
    | normal =>
      obtain ⟨env', H', ⟨vs, h1, h2⟩, ha, he⟩ := hq
      exact ⟨ha.defers, _, quiet_run _ (quiet_results hr ha.get h1) he.sub, _, H', rfl, h2, he⟩
    | ret =>
      obtain ⟨env', H', ⟨vs, h1, h2⟩, ha, he⟩ := hq
      exact ⟨ha.defers, _, quiet_run _ (quiet_results hr ha.get h1) he.sub, _, H', rfl, h2, he⟩
    | exit i => obtain ⟨env', H', h1, _⟩ := hq; exact h1.elim
    | goto i => obtain ⟨env', H', h1, _⟩ := hq; exact h1.elim
    | panic ch => exact hq.elim
    | outgrown => exact hq.elim
end

/-! Pieces of the heap, apart from one another. -/
def join : List Hp → Hp
  | [] => Hp.nil
  | H :: Hs => fun b => match H b with
    | some o => some o
    | none => join Hs b

def Apart (H K : Hp) : Prop := ∀ b, H b = none ∨ K b = none
def Disj (Hs : List Hp) : Prop := Hs.Pairwise Apart
/-- One block. -/
def sg (b : Nat) (o : Obj) : Hp := fun k => if k = b then some o else none

theorem Apart.symm {H K : Hp} (h : Apart H K) : Apart K H := fun b => (h b).symm
theorem sg_self {b : Nat} {o : Obj} : sg b o b = some o := by simp [sg]

theorem join_none {Hs : List Hp} {b : Nat} : join Hs b = none ↔ ∀ H ∈ Hs, H b = none := by
  induction Hs with
  | nil => simp [join, Hp.nil]
  | cons H Hs ih =>
    simp only [join, List.mem_cons, forall_eq_or_imp]
    cases h : H b <;> simp [ih]

theorem join_get {Hs : List Hp} (hd : Disj Hs) : ∀ {i : Nat} {H : Hp} {b : Nat} {o : Obj}, Hs[i]? = some H → H b = some o → join Hs b = some o := by
  induction Hs with
  | nil => intro i H b o h; simp at h
  | cons K Hs ih =>
    intro i H b o h hb
    obtain ⟨h1, h2⟩ := List.pairwise_cons.1 hd
    cases i with
    | zero => simp at h; subst h; simp [join, hb]
    | succ i =>
      simp at h
      have hK : K b = none := by
        rcases h1 H (List.mem_of_getElem? h) b with h3 | h3
        · exact h3
        · rw [hb] at h3; cases h3
      simp only [join, hK]
      exact ih h2 h hb

theorem join_set {Hs : List Hp} (hd : Disj Hs) : ∀ {i : Nat} {H : Hp} {b : Nat} {o o' : Obj}, Hs[i]? = some H → H b = some o →
    join (Hs.set i (H.set b o')) = (join Hs).set b o' ∧ Disj (Hs.set i (H.set b o')) := by
  induction Hs with
  | nil => intro i H b o o' h; simp at h
  | cons K Hs ih =>
    intro i H b o o' h hb
    obtain ⟨h1, h2⟩ := List.pairwise_cons.1 hd
    cases i with
    | zero =>
      simp at h; subst h
      refine ⟨?_, List.pairwise_cons.2 ⟨fun L hL k => ?_, h2⟩⟩
      · funext k
        simp only [List.set_cons_zero, join, Hp.set]
        by_cases hk : k = b <;> simp [hk]
      · simp only [Hp.set]
        split
        · rename_i hk; subst hk
          rcases h1 L hL k with h3 | h3
          · rw [hb] at h3; cases h3
          · exact .inr h3
        · exact h1 L hL k
    | succ i =>
      simp at h
      have hK : K b = none := by
        rcases h1 H (List.mem_of_getElem? h) b with h3 | h3
        · exact h3
        · rw [hb] at h3; cases h3
      obtain ⟨e1, e2⟩ := ih h2 (o' := o') h hb
      refine ⟨?_, List.pairwise_cons.2 ⟨fun L hL k => ?_, e2⟩⟩
      · funext k
        simp only [List.set_cons_succ, join, Hp.set, e1]
        by_cases hk : k = b
        · subst hk; simp [hK]
        · simp [hk]
      · rcases List.mem_or_eq_of_mem_set hL with h3 | h3
        · exact h1 L h3 k
        · subst h3
          simp only [Hp.set]
          split
          · rename_i hk; subst hk; exact .inl hK
          · exact h1 H (List.mem_of_getElem? h) k

theorem join_new {Hs : List Hp} (hd : Disj Hs) {b : Nat} {o : Obj} (hb : join Hs b = none) : join (sg b o :: Hs) = (join Hs).set b o ∧ Disj (sg b o :: Hs) := by
  refine ⟨?_, List.pairwise_cons.2 ⟨fun L hL k => ?_, hd⟩⟩
  · funext k
    simp only [join, sg, Hp.set]
    by_cases hk : k = b <;> simp [hk]
  · simp only [sg]
    split
    · rename_i hk; subst hk; exact .inr (join_none.1 hb L hL)
    · exact .inl rfl

theorem join_append (A B : List Hp) : join (A ++ B) = join [join A, join B] := by
  induction A with
  | nil =>
    funext k
    simp only [List.nil_append, join, Hp.nil]
    cases join B k <;> rfl
  | cons H A ih =>
    funext k
    simp only [List.cons_append, join]
    cases hh : H k with
    | some o => rfl
    | none => simp only [ih, join]

theorem disj_perm {A B : List Hp} (h : A.Perm B) (hd : Disj A) : Disj B := (h.pairwise_iff Apart.symm).1 hd

theorem join_perm {A B : List Hp} (h : A.Perm B) (hd : Disj A) : join A = join B := by
  have hB := disj_perm h hd
  funext b
  cases hb : join B b with
  | none =>
    rw [join_none] at hb ⊢
    exact fun H hH => hb H (h.mem_iff.1 hH)
  | some o =>
    have : ∃ H ∈ B, H b = some o := by
      clear h hd hB
      induction B with
      | nil => simp [join, Hp.nil] at hb
      | cons K B ih =>
        simp only [join] at hb
        cases hK : K b with
        | some x => rw [hK] at hb; exact ⟨K, List.mem_cons_self, hK.trans hb⟩
        | none =>
          rw [hK] at hb
          obtain ⟨H, h1, h2⟩ := ih hb
          exact ⟨H, List.mem_cons_of_mem _ h1, h2⟩
    obtain ⟨H, hH, hHb⟩ := this
    obtain ⟨i, hi, he⟩ := List.getElem_of_mem (h.mem_iff.2 hH)
    exact join_get hd (i := i) (by rw [List.getElem?_eq_getElem hi, he]) hHb

def takeAt : Nat → List Hp → Option (Hp × List Hp)
  | _, [] => none
  | 0, H :: Hs => some (H, Hs)
  | n + 1, H :: Hs => match takeAt n Hs with
    | some (K, Ks) => some (K, H :: Ks)
    | none => none

def takes : List Nat → List Hp → Option (List Hp × List Hp)
  | [], Hs => some ([], Hs)
  | i :: is, Hs => match takeAt i Hs with
    | some (H, Ks) => match takes is Ks with
      | some (A, B) => some (H :: A, B)
      | none => none
    | none => none

theorem takeAt_perm : ∀ {n : Nat} {Hs : List Hp} {K : Hp} {Ks : List Hp}, takeAt n Hs = some (K, Ks) → Hs.Perm (K :: Ks) := by
  intro n Hs
  induction Hs generalizing n with
  | nil => intro K Ks h; cases n <;> simp [takeAt] at h
  | cons H Hs ih =>
    intro K Ks h
    cases n with
    | zero => simp [takeAt] at h; obtain ⟨rfl, rfl⟩ := h; exact .refl _
    | succ n =>
      simp only [takeAt] at h
      split at h
      · rename_i K' Ks' hk
        cases h
        exact ((ih hk).cons H).trans (.swap ..)
      · cases h

theorem takes_perm : ∀ {is : List Nat} {Hs A B : List Hp}, takes is Hs = some (A, B) → Hs.Perm (A ++ B) := by
  intro is
  induction is with
  | nil => intro Hs A B h; simp [takes] at h; obtain ⟨rfl, rfl⟩ := h; exact .refl _
  | cons i is ih =>
    intro Hs A B h
    simp only [takes] at h
    split at h
    · rename_i H Ks hk
      split at h
      · rename_i A' B' hk'
        cases h
        exact (takeAt_perm hk).trans ((ih hk').cons H)
      · cases h
    · cases h

/-- A call, from pieces, to pieces. -/
def CallL (P : Program) (f : FuncId) (args : List Value) (Hs : List Hp) (R : Value → List Hp → Prop) : Prop :=
  Disj Hs → CallH P f args.toArray (join Hs) fun v H' => ∃ Hs', H' = join Hs' ∧ Disj Hs' ∧ R v Hs'

theorem apart_join {H : Hp} {Hs : List Hp} : (∀ K ∈ Hs, Apart H K) → Apart H (join Hs) := by
  intro h b
  cases hb : H b with
  | none => exact .inl rfl
  | some o => exact .inr (join_none.2 fun K hK => (h K hK b).resolve_left (by simp [hb]))

theorem disj_append {A B : List Hp} : Disj (A ++ B) ↔ Disj A ∧ Disj B ∧ Apart (join A) (join B) := by
  unfold Disj
  rw [List.pairwise_append]
  refine ⟨fun ⟨h1, h2, h3⟩ => ⟨h1, h2, (apart_join fun K hK => (apart_join fun L hL => (h3 L hL K hK).symm).symm)⟩, fun ⟨h1, h2, h3⟩ => ⟨h1, h2, fun H hH K hK b => ?_⟩⟩
  rcases h3 b with h | h
  · exact .inl (join_none.1 h H hH)
  · exact .inr (join_none.1 h K hK)

/-- What is handed to a call aside stays as it is. -/
theorem CallL.frame {P : Program} {f : FuncId} {args : List Value} {Hs A B : List Hp} {is : List Nat} {R : Value → List Hp → Prop} (ht : takes is Hs = some (A, B)) (hd : Disj Hs) (h : CallL P f args A R) :
    CallH P f args.toArray (join Hs) fun v H' => ∃ Hs', H' = join (Hs' ++ B) ∧ Disj (Hs' ++ B) ∧ R v Hs' := by
  have hp := takes_perm ht
  have hd' := disj_perm hp hd
  rw [join_perm hp hd]
  obtain ⟨hA, hB, hAB⟩ := disj_append.1 hd'
  intro w hs
  have hsA : Sub (join A) w := fun b o hb => hs b o (by rw [join_append]; simp [join, hb])
  have hsB : Sub (join B) w := fun b o hb => hs b o (by
    rw [join_append]
    have : join A b = none := (hAB b).resolve_right (by simp [hb])
    simp [join, this, hb])
  refine (h hA w hsA).mono fun e w' ⟨v, H', he, ⟨Hs', hj, hd2, hR⟩, hext⟩ => ?_
  subst hj
  have hap : Apart (join Hs') (join B) := fun b => by
    cases hb : join B b with
    | none => exact .inr rfl
    | some o =>
      left
      cases hb' : join Hs' b with
      | none => rfl
      | some o' =>
        rcases hext.dom b (by simp [hb']) with h1 | h1
        · exact absurd ((hAB b).resolve_right (by simp [hb])) h1
        · have := hsB.lt hb; omega
  refine ⟨v, join (Hs' ++ B), he, ⟨Hs', rfl, disj_append.2 ⟨hd2, hB, hap⟩, hR⟩, ⟨fun b o hb => ?_, hext.os, hext.tape, hext.output, hext.size, fun k hk hn => ?_, fun b hb => ?_⟩⟩
  · rw [join_append] at hb
    simp only [join] at hb
    cases h1 : join Hs' b with
    | some o' => rw [h1] at hb; cases hb; exact hext.sub b o h1
    | none =>
      rw [h1] at hb
      cases h2 : join B b with
      | none => rw [h2] at hb; simp [Hp.nil] at hb
      | some o' =>
        rw [h2] at hb; cases hb
        rw [hext.frame b (hsB.lt h2) ((hAB b).resolve_right (by simp [h2]))]
        exact hsB b o h2
  · refine hext.frame k hk ?_
    rw [join_append] at hn
    simp only [join] at hn
    cases h1 : join A k with
    | none => rfl
    | some o => rw [h1] at hn; cases hn
  · rw [join_append] at hb
    simp only [join] at hb
    cases h1 : join Hs' b with
    | some o' =>
      rcases hext.dom b (by simp [h1]) with h2 | h2
      · left
        rw [join_append]
        simp only [join]
        cases h3 : join A b with
        | none => exact absurd h3 h2
        | some o => simp
      · exact .inr h2
    | none =>
      rw [h1] at hb
      left
      rw [join_append]
      simp only [join]
      cases h3 : join A b with
      | some o => simp
      | none => simpa [join] using hb

/-- The walk from pieces. -/
def EL (P : Program) (N : Nat) (c : Code) (Q : Exit → Env → Hp → Prop) (env : Env) (Hs : List Hp) : Prop := Disj Hs → E P N c Q env (join Hs)
def EPL (P : Program) (l : List Oper) (plan : Stp) (K : Env → Hp → Prop) (env : Env) (Hs : List Hp) : Prop := Disj Hs → EP P l plan K env (join Hs)
/-- What holds of pieces. -/
def QL (R : Env → List Hp → Prop) (env : Env) (H : Hp) : Prop := ∃ Hs, H = join Hs ∧ Disj Hs ∧ R env Hs

end Go.Proofs.YtedkoebbijpnfaaGreatDoor.TH

/- The operations' rules. -/
namespace Go.Proofs.YtedkoebbijpnfaaGreatDoor.TH
open Go

section
variable {P : Program} {ol : List Oper} {rest : Stp} {K : Env → Hp → Prop} {env : Env} {Hs : List Hp} {i : Nat}

theorem EPL.nil (h : Disj Hs → K env (join Hs)) : EPL P ol .nil K env Hs := h

/-- Two ways on. -/
theorem EPL.alt {a b : Stp} (h1 : EPL P ol a K env Hs) (h2 : EPL P ol b K env Hs) : EPL P ol (.alt a b) K env Hs := fun hd => ⟨h1 hd, h2 hd⟩

theorem EPL.p {op : Op} {d : Nat} {ty : TypeId} {pos : String} {af : Array Edge} {g : Option (Nat × Bool)} {v : Value} (ho : nth ol i = some ⟨some d, op, ty, pos, af, g⟩) (hw : wantE ol env ⟨some d, op, ty, pos, af, g⟩ = true) (hq : quiet P Hp.nil (execOp (ev env) ⟨some d, op, ty, pos, af, g⟩) = some (.value v))
    (h : EPL P ol rest K (upd env d v) Hs) : EPL P ol (.p i rest) K env Hs := fun hd => ⟨_, v, ho, .inl ⟨hw, hq⟩, h hd⟩
theorem EPL.pno {op : Op} {d : Nat} {ty : TypeId} {pos : String} {af : Array Edge} {g : Option (Nat × Bool)} (ho : nth ol i = some ⟨some d, op, ty, pos, af, g⟩) (hw : wantE ol env ⟨some d, op, ty, pos, af, g⟩ = false)
    (h : EPL P ol rest K (upd env d undef) Hs) : EPL P ol (.p i rest) K env Hs := fun hd => ⟨_, undef, ho, .inr ⟨hw, rfl⟩, h hd⟩
theorem EPL.r {op : Op} {d : Nat} {ty : TypeId} {pos : String} {af : Array Edge} {g : Option (Nat × Bool)} {v : Value} (ho : nth ol i = some ⟨some d, op, ty, pos, af, g⟩) (hw : wantE ol env ⟨some d, op, ty, pos, af, g⟩ = true) (hq : Disj Hs → quiet P (join Hs) (execOp (ev env) ⟨some d, op, ty, pos, af, g⟩) = some (.value v))
    (h : EPL P ol rest K (upd env d v) Hs) : EPL P ol (.l i rest) K env Hs := fun hd => ⟨_, v, ho, .inl ⟨hw, hq hd⟩, h hd⟩
theorem EPL.rno {op : Op} {d : Nat} {ty : TypeId} {pos : String} {af : Array Edge} {g : Option (Nat × Bool)} (ho : nth ol i = some ⟨some d, op, ty, pos, af, g⟩) (hw : wantE ol env ⟨some d, op, ty, pos, af, g⟩ = false)
    (h : EPL P ol rest K (upd env d undef) Hs) : EPL P ol (.l i rest) K env Hs := fun hd => ⟨_, undef, ho, .inr ⟨hw, rfl⟩, h hd⟩
theorem EPL.xno {o : Oper} (ho : nth ol i = some o) (hw : wantE ol env o = false)
    (h : EPL P ol rest K (putE env o.dst undef) Hs) : EPL P ol (.x i [] rest) K env Hs :=
  fun hd => ⟨o, ho, .inr ⟨hw, (fun _ hm => by cases hm), h hd⟩⟩

/-- What was read still reads so. -/
def HeldL (P : Program) (ol : List Oper) (held : List Nat) (env : Env) (Hs : List Hp) : Prop := Disj Hs → HeldE P ol held env (join Hs)
theorem HeldL.nil : HeldL P ol [] env Hs := fun _ _ h => by cases h
theorem HeldL.cons {h : Nat} {hs : List Nat} {o : Oper} {d : Nat} (ho : nth ol h = some o) (hd : o.dst = some d)
    (hy : (wantE ol env o = true ∧ (Disj Hs → quiet P (join Hs) (execOp (ev env) o) = some (.value (env d)))) ∨ (wantE ol env o = false ∧ env d = undef))
    (ht : HeldL P ol hs env Hs) : HeldL P ol (h :: hs) env Hs := fun hdj k hk o' d' ho' hd' => by
  rcases List.mem_cons.1 hk with rfl | hk
  · rw [ho] at ho'; cases ho'
    rw [hd] at hd'; cases hd'
    exact hy.imp (fun ⟨h1, h2⟩ => ⟨h1, h2 hdj⟩) id
  · exact ht hdj k hk o' d' ho' hd'

/-- An effect, by what it does. -/
theorem EPL.x {o : Oper} {held : List Nat} (ho : nth ol i = some o) (hw : wantE ol env o = true)
    (hx : Disj Hs → EO P (execOp (ev env) o) (join Hs) (fun v H' => ∃ Hs', H' = join Hs' ∧ Disj Hs' ∧ HeldL P ol held (putE env o.dst v) Hs' ∧ EPL P ol rest K (putE env o.dst v) Hs')) :
    EPL P ol (.x i held rest) K env Hs := fun hd => ⟨o, ho, .inl ⟨hw, SemH_mono _ (fun nx H' h => by
      cases nx <;> simp only [NextH] at h ⊢
      case value v => obtain ⟨Hs', rfl, hd', hh, hr⟩ := h; exact ⟨hh hd', hr hd'⟩
      case skip => obtain ⟨Hs', rfl, hd', hh, hr⟩ := h; exact ⟨hh hd', hr hd'⟩
      case enter f args => exact CallH.mono h fun v H' ⟨Hs', e, hd', hh, hr⟩ => by subst e; exact ⟨hh hd', hr hd'⟩) (hx hd)⟩⟩

theorem EPL.bool (t : Nat) {plan : Stp} {b : Bool} (hb : env t = .bool b) (h1 : b = true → EPL P ol plan K (upd env t (.bool true)) Hs) (h2 : b = false → EPL P ol plan K (upd env t (.bool false)) Hs) : EPL P ol plan K env Hs := by
  have hu : ∀ u, env t = u → upd env t u = env := fun u hu => by
    funext k
    simp only [upd]
    cases hk : Nat.beq k t with
    | false => rfl
    | true => rw [Nat.eq_of_beq_eq_true hk, hu]; rfl
  cases b with
  | true => have := h1 rfl; rwa [hu _ hb] at this
  | false => have := h2 rfl; rwa [hu _ hb] at this

theorem EPL.perm {plan : Stp} {Hs' : List Hp} (hp : Hs.Perm Hs') (h : EPL P ol plan K env Hs') : EPL P ol plan K env Hs := fun hd => by
  rw [join_perm hp hd]; exact h (disj_perm hp hd)

end

/-! What an operation answers. -/
section
variable {P : Program} {H : Hp} {ρ : Operand → Value} {d : Option Nat} {ty : TypeId} {pos : String} {af : Array Edge} {g : Option (Nat × Bool)}

theorem q_move {x : Operand} {v : Value} (hx : ρ x = v) : quiet P H (execOp ρ ⟨d, .move x, ty, pos, af, g⟩) = some (.value v) := by rw [← hx]; rfl
theorem q_assign {x : Operand} {v : Value} (hx : ρ x = v) : quiet P H (execOp ρ ⟨d, .assign x, ty, pos, af, g⟩) = some (.value v) := by rw [← hx]; rfl
theorem q_pickT {c x y : Operand} {v : Value} (hc : ρ c = .bool true) (hx : ρ x = v) : quiet P H (execOp ρ ⟨d, .pick c x y, ty, pos, af, g⟩) = some (.value v) := by
  rw [← hx]; simp only [execOp, hc]; rfl
theorem q_pickF {c x y : Operand} {v : Value} (hc : ρ c = .bool false) (hy : ρ y = v) : quiet P H (execOp ρ ⟨d, .pick c x y, ty, pos, af, g⟩) = some (.value v) := by
  rw [← hy]; simp only [execOp, hc]; rfl
theorem q_nilCheck {x : Operand} {a : Addr} (hx : ρ x = .pointer (some a)) : quiet P H (execOp ρ ⟨d, .nilCheck x, ty, pos, af, g⟩) = some (.value (.pointer (some a))) := by
  simp only [execOp, hx]; rfl

theorem q_underlying {α : Type} {t : TypeId} {td : TypeDesc} (h : P.underlying t = some td) (k : TypeDesc → Sem α) : quiet P H (underlying t >>= k) = quiet P H (k td) := by
  rw [quiet_bind]
  have : quiet P H (underlying t) = some td := by
    show quiet P H ((Sem.program .pure).bind fun p => match p.underlying t with | some d => pure d | none => stuck "no such type") = some td
    simp only [Sem.bind, quiet, h]; rfl
  rw [this]; rfl
theorem q_sizeOf {α : Type} {t : TypeId} {n : Nat} (h : (P.info? t).map (·.size) = some n) (k : Nat → Sem α) : quiet P H (sizeOf t >>= k) = quiet P H (k n) := by
  rw [quiet_bind]
  obtain ⟨ti, h1, h2⟩ := Option.map_eq_some_iff.1 h
  have : quiet P H (sizeOf t) = some n := by
    show quiet P H (((Sem.program .pure).bind fun p => match p.info? t with | some i => pure i | none => stuck "no such type").bind fun i => pure i.size) = some n
    simp only [Sem.bind, quiet, h1]; rw [← h2]; rfl
  rw [this]; rfl

theorem q_fieldAddr {s : TypeId} {x : Operand} {f : Nat} {fs : Array Field} {fd : Field} {n : Nat} {a p : Addr} (hs : P.underlying s = some (.struct fs)) (hf : fs[f]? = some fd) (hn : (P.info? fd.type).map (·.size) = some (n + 1))
    (hx : ρ x = .pointer (some a)) (hp : a.add fd.offset = p) : quiet P H (execOp ρ ⟨d, .fieldAddr s x f, ty, pos, af, g⟩) = some (.value (.pointer (some p))) := by
  subst hp
  simp only [execOp, hx]
  rw [quiet_bind]
  have : quiet P H (Instr.fieldAt s (.pointer (some a)) f) = some (.pointer (some (a.add fd.offset))) := by
    unfold Instr.fieldAt
    rw [q_underlying hs]
    simp only [hf]
    show quiet P H (Instr.sureAddr (.pointer (some a)) >>= _) = _
    rw [quiet_bind]
    show quiet P H (fieldPlace a fd >>= _) = _
    unfold fieldPlace
    rw [quiet_bind, q_sizeOf hn]
    rfl
  rw [this]; rfl


/-! integers -/
theorem q_add {T T2 : TypeId} {x y : Operand} {k : IntKind} {m n : Int} (hx : ρ x = .int k m) (hy : ρ y = .int k n) : quiet P H (execOp ρ ⟨d, .binOp .add T x y T2, ty, pos, af, g⟩) = some (.value (.int k (k.wrap (m + n)))) := by
  simp [execOp, hx, hy, eqGuard, binOp, Op.intArith, quiet_bind, quiet]; rfl
theorem q_sub {T T2 : TypeId} {x y : Operand} {k : IntKind} {m n : Int} (hx : ρ x = .int k m) (hy : ρ y = .int k n) : quiet P H (execOp ρ ⟨d, .binOp .sub T x y T2, ty, pos, af, g⟩) = some (.value (.int k (k.wrap (m - n)))) := by
  simp [execOp, hx, hy, eqGuard, binOp, Op.intArith, quiet_bind, quiet]; rfl
theorem q_mul {T T2 : TypeId} {x y : Operand} {k : IntKind} {m n : Int} (hx : ρ x = .int k m) (hy : ρ y = .int k n) : quiet P H (execOp ρ ⟨d, .binOp .mul T x y T2, ty, pos, af, g⟩) = some (.value (.int k (k.wrap (m * n)))) := by
  simp [execOp, hx, hy, eqGuard, binOp, Op.intArith, quiet_bind, quiet]; rfl
theorem q_quo {T T2 : TypeId} {x y : Operand} {k : IntKind} {m n : Int} (hx : ρ x = .int k m) (hy : ρ y = .int k n) (hn : n ≠ 0) : quiet P H (execOp ρ ⟨d, .binOp .quo T x y T2, ty, pos, af, g⟩) = some (.value (.int k (k.wrap (m.tdiv n)))) := by
  simp [execOp, hx, hy, eqGuard, binOp, Op.intDiv, hn, quiet_bind, quiet]; rfl
theorem q_rem {T T2 : TypeId} {x y : Operand} {k : IntKind} {m n : Int} (hx : ρ x = .int k m) (hy : ρ y = .int k n) (hn : n ≠ 0) : quiet P H (execOp ρ ⟨d, .binOp .rem T x y T2, ty, pos, af, g⟩) = some (.value (.int k (m.tmod n))) := by
  simp [execOp, hx, hy, eqGuard, binOp, Op.intDiv, hn, quiet_bind, quiet]; rfl
def bAnd (k : IntKind) (m n : Int) : Int := k.wrap (BitVec.ofInt k.bits m &&& BitVec.ofInt k.bits n).toNat
def bOr (k : IntKind) (m n : Int) : Int := k.wrap (BitVec.ofInt k.bits m ||| BitVec.ofInt k.bits n).toNat
def bXor (k : IntKind) (m n : Int) : Int := k.wrap (BitVec.ofInt k.bits m ^^^ BitVec.ofInt k.bits n).toNat
def bAndNot (k : IntKind) (m n : Int) : Int := k.wrap (BitVec.ofInt k.bits m &&& ~~~BitVec.ofInt k.bits n).toNat
theorem q_and {T T2 : TypeId} {x y : Operand} {k : IntKind} {m n : Int} (hx : ρ x = .int k m) (hy : ρ y = .int k n) : quiet P H (execOp ρ ⟨d, .binOp .and T x y T2, ty, pos, af, g⟩) = some (.value (.int k (bAnd k m n))) := by
  simp only [execOp, hx, hy, binOp, ne_eq, not_true_eq_false, if_false, Op.intBits]; rfl
theorem q_or {T T2 : TypeId} {x y : Operand} {k : IntKind} {m n : Int} (hx : ρ x = .int k m) (hy : ρ y = .int k n) : quiet P H (execOp ρ ⟨d, .binOp .or T x y T2, ty, pos, af, g⟩) = some (.value (.int k (bOr k m n))) := by
  simp only [execOp, hx, hy, binOp, ne_eq, not_true_eq_false, if_false, Op.intBits]; rfl
theorem q_xor {T T2 : TypeId} {x y : Operand} {k : IntKind} {m n : Int} (hx : ρ x = .int k m) (hy : ρ y = .int k n) : quiet P H (execOp ρ ⟨d, .binOp .xor T x y T2, ty, pos, af, g⟩) = some (.value (.int k (bXor k m n))) := by
  simp only [execOp, hx, hy, binOp, ne_eq, not_true_eq_false, if_false, Op.intBits]; rfl
theorem q_andNot {T T2 : TypeId} {x y : Operand} {k : IntKind} {m n : Int} (hx : ρ x = .int k m) (hy : ρ y = .int k n) : quiet P H (execOp ρ ⟨d, .binOp .andNot T x y T2, ty, pos, af, g⟩) = some (.value (.int k (bAndNot k m n))) := by
  simp only [execOp, hx, hy, binOp, ne_eq, not_true_eq_false, if_false, Op.intBits]; rfl
def bShl (k : IntKind) (m n : Int) : Int := k.wrap (m * 2 ^ (min n.toNat k.bits))
def bShr (k : IntKind) (m n : Int) : Int := m.fdiv (2 ^ (min n.toNat k.bits))
theorem q_shl {T T2 : TypeId} {x y : Operand} {k k2 : IntKind} {m n : Int} (hx : ρ x = .int k m) (hy : ρ y = .int k2 n) (hn : 0 ≤ n) : quiet P H (execOp ρ ⟨d, .binOp .shl T x y T2, ty, pos, af, g⟩) = some (.value (.int k (bShl k m n))) := by
  have h : ¬ n < 0 := by omega
  simp [execOp, hx, hy, eqGuard, binOp, Op.shift, h, quiet_bind, quiet]; rfl
theorem q_shr {T T2 : TypeId} {x y : Operand} {k k2 : IntKind} {m n : Int} (hx : ρ x = .int k m) (hy : ρ y = .int k2 n) (hn : 0 ≤ n) : quiet P H (execOp ρ ⟨d, .binOp .shr T x y T2, ty, pos, af, g⟩) = some (.value (.int k (bShr k m n))) := by
  have h : ¬ n < 0 := by omega
  simp [execOp, hx, hy, eqGuard, binOp, Op.shift, h, quiet_bind, quiet]; rfl
theorem q_lss {T T2 : TypeId} {x y : Operand} {k : IntKind} {m n : Int} (hx : ρ x = .int k m) (hy : ρ y = .int k n) : quiet P H (execOp ρ ⟨d, .binOp .lss T x y T2, ty, pos, af, g⟩) = some (.value (.bool (decide (m < n)))) := by
  simp [execOp, hx, hy, eqGuard, binOp, Op.intCmp, quiet_bind, quiet]; rfl
theorem q_leq {T T2 : TypeId} {x y : Operand} {k : IntKind} {m n : Int} (hx : ρ x = .int k m) (hy : ρ y = .int k n) : quiet P H (execOp ρ ⟨d, .binOp .leq T x y T2, ty, pos, af, g⟩) = some (.value (.bool (decide (m ≤ n)))) := by
  simp [execOp, hx, hy, eqGuard, binOp, Op.intCmp, quiet_bind, quiet]; rfl
theorem q_gtr {T T2 : TypeId} {x y : Operand} {k : IntKind} {m n : Int} (hx : ρ x = .int k m) (hy : ρ y = .int k n) : quiet P H (execOp ρ ⟨d, .binOp .gtr T x y T2, ty, pos, af, g⟩) = some (.value (.bool (decide (n < m)))) := by
  simp [execOp, hx, hy, eqGuard, binOp, Op.intCmp, quiet_bind, quiet]; rfl
theorem q_geq {T T2 : TypeId} {x y : Operand} {k : IntKind} {m n : Int} (hx : ρ x = .int k m) (hy : ρ y = .int k n) : quiet P H (execOp ρ ⟨d, .binOp .geq T x y T2, ty, pos, af, g⟩) = some (.value (.bool (decide (n ≤ m)))) := by
  simp [execOp, hx, hy, eqGuard, binOp, Op.intCmp, quiet_bind, quiet]; rfl
theorem beq_dec (m n : Int) : (m == n) = decide (m = n) := by by_cases h : m = n <;> simp [h]
theorem bne_dec (m n : Int) : (m != n) = decide (m ≠ n) := by by_cases h : m = n <;> simp [h]
theorem q_eql {T T2 : TypeId} {x y : Operand} {k : IntKind} {m n : Int} (hx : ρ x = .int k m) (hy : ρ y = .int k n) : quiet P H (execOp ρ ⟨d, .binOp .eql T x y T2, ty, pos, af, g⟩) = some (.value (.bool (decide (m = n)))) := by
  rw [← beq_dec]; simp [execOp, hx, hy, eqGuard, binOp, Op.intCmp, quiet_bind, quiet]; rfl
theorem q_neq {T T2 : TypeId} {x y : Operand} {k : IntKind} {m n : Int} (hx : ρ x = .int k m) (hy : ρ y = .int k n) : quiet P H (execOp ρ ⟨d, .binOp .neq T x y T2, ty, pos, af, g⟩) = some (.value (.bool (decide (m ≠ n)))) := by
  rw [← bne_dec]; simp [execOp, hx, hy, eqGuard, binOp, Op.intCmp, quiet_bind, quiet]; rfl
theorem q_beql {T T2 : TypeId} {x y : Operand} {a b : Bool} (hT : P.underlying T = some .bool) (hx : ρ x = .bool a) (hy : ρ y = .bool b) : quiet P H (execOp ρ ⟨d, .binOp .eql T x y T2, ty, pos, af, g⟩) = some (.value (.bool (a == b))) := by
  simp only [execOp, hx, hy, eqGuard, binOp]
  have he : quiet P H (Op.equal T (.bool a) (.bool b)) = some (a == b) := by
    unfold Op.equal
    show quiet P H (Op.equalIn (9999 + 1) T (.bool a) (.bool b)) = _
    unfold Op.equalIn
    rw [q_underlying hT]
    rfl
  have e1 := quiet_bind (P := P) (H := H) ((Op.equal T (.bool a) (.bool b)) >>= fun b => pure (Value.bool b)) (fun v => (pure (Next.value v) : Sem Next))
  refine e1.trans ?_
  rw [quiet_bind, he]; rfl
theorem q_bneq {T T2 : TypeId} {x y : Operand} {a b : Bool} (hT : P.underlying T = some .bool) (hx : ρ x = .bool a) (hy : ρ y = .bool b) : quiet P H (execOp ρ ⟨d, .binOp .neq T x y T2, ty, pos, af, g⟩) = some (.value (.bool (!(a == b)))) := by
  simp only [execOp, hx, hy, eqGuard, binOp]
  have he : quiet P H (Op.equal T (.bool a) (.bool b)) = some (a == b) := by
    unfold Op.equal
    show quiet P H (Op.equalIn (9999 + 1) T (.bool a) (.bool b)) = _
    unfold Op.equalIn
    rw [q_underlying hT]
    rfl
  have e1 := quiet_bind (P := P) (H := H) ((Op.equal T (.bool a) (.bool b)) >>= fun b => pure (Value.bool (!b))) (fun v => (pure (Next.value v) : Sem Next))
  refine e1.trans ?_
  rw [quiet_bind, he]; rfl
theorem q_not {T : TypeId} {x : Operand} {b : Bool} (hx : ρ x = .bool b) : quiet P H (execOp ρ ⟨d, .unOp .not T x, ty, pos, af, g⟩) = some (.value (.bool (!b))) := by
  simp [execOp, hx, Op.unary, quiet_bind, quiet]; rfl
theorem q_neg {T : TypeId} {x : Operand} {k : IntKind} {m : Int} (hx : ρ x = .int k m) : quiet P H (execOp ρ ⟨d, .unOp .neg T x, ty, pos, af, g⟩) = some (.value (.int k (k.wrap (0 - m)))) := by
  simp [execOp, hx, Op.unary, Op.intArith, quiet_bind, quiet]; rfl
theorem q_compl {T : TypeId} {x : Operand} {k : IntKind} {m : Int} (hx : ρ x = .int k m) : quiet P H (execOp ρ ⟨d, .unOp .xor T x, ty, pos, af, g⟩) = some (.value (.int k (bXor k (if k.signed then -1 else k.max) m))) := by
  simp only [execOp, hx, Op.unary, Op.intBits]; rfl
theorem q_conv {S T : TypeId} {x : Operand} {k k2 : IntKind} {m : Int} {td : TypeDesc} (hS : P.underlying S = some td) (hT : P.underlying T = some (.int k2)) (hx : ρ x = .int k m) : quiet P H (execOp ρ ⟨d, .convert S T x, ty, pos, af, g⟩) = some (.value (.int k2 (k2.wrap m))) := by
  simp only [execOp, hx]
  rw [quiet_bind]
  have : quiet P H (convert S T (.int k m)) = some (.int k2 (k2.wrap m)) := by
    unfold convert
    rw [q_underlying hS, q_underlying hT]
    rfl
  rw [this]; rfl
theorem q_max {x y : Operand} {tys : Array TypeId} {k : IntKind} {m n : Int} (hx : ρ x = .int k m) (hy : ρ y = .int k n) : quiet P H (execOp ρ ⟨d, .call ⟨.builtin .max, #[x, y], tys⟩, ty, pos, af, g⟩) = some (.value (.int k (max m n))) := by
  have : (if n > m then n else m) = max m n := by split <;> omega
  rw [← this]
  simp [execOp, resolve, invoke, builtin, Builtin.max_, Builtin.max2, hx, hy, quiet_bind, quiet]; rfl
theorem q_min {x y : Operand} {tys : Array TypeId} {k : IntKind} {m n : Int} (hx : ρ x = .int k m) (hy : ρ y = .int k n) : quiet P H (execOp ρ ⟨d, .call ⟨.builtin .min, #[x, y], tys⟩, ty, pos, af, g⟩) = some (.value (.int k (min m n))) := by
  have : (if n < m then n else m) = min m n := by split <;> omega
  rw [← this]
  simp [execOp, resolve, invoke, builtin, Builtin.min_, Builtin.min2, hx, hy, quiet_bind, quiet]; rfl
theorem q_extract {x : Operand} {k : Nat} {vs : Array Value} {v : Value} (hx : ρ x = .tuple vs) (hk : vs[k]? = some v) : quiet P H (execOp ρ ⟨d, .extract x k, ty, pos, af, g⟩) = some (.value v) := by
  simp [execOp, hx, Instr.extract, hk, quiet_bind, quiet]; rfl

/-! pointers, strings -/
theorem q_eqlNil {T T2 E : TypeId} {x y : Operand} {p : Option Addr} (hT : P.underlying T = some (.pointer E)) (hx : ρ x = .pointer p) (hy : ρ y = .pointer none) : quiet P H (execOp ρ ⟨d, .binOp .eql T x y T2, ty, pos, af, g⟩) = some (.value (.bool p.isNone)) := by
  simp only [execOp, hx, hy, eqGuard, binOp]
  have he : quiet P H (Op.equal T (.pointer p) (.pointer none)) = some p.isNone := by
    unfold Op.equal
    show quiet P H (Op.equalIn (9999 + 1) T (.pointer p) (.pointer none)) = _
    unfold Op.equalIn
    rw [q_underlying hT]
    cases p <;> rfl
  show quiet P H (((Op.equal T (.pointer p) (.pointer none)).bind fun b => Sem.pure (Value.bool b)).bind fun v => Sem.pure (Next.value v)) = _
  have e1 := quiet_bind (P := P) (H := H) ((Op.equal T (.pointer p) (.pointer none)) >>= fun b => pure (Value.bool b)) (fun v => (pure (Next.value v) : Sem Next))
  refine e1.trans ?_
  rw [quiet_bind, he]; rfl
theorem q_neqNil {T T2 E : TypeId} {x y : Operand} {p : Option Addr} (hT : P.underlying T = some (.pointer E)) (hx : ρ x = .pointer p) (hy : ρ y = .pointer none) : quiet P H (execOp ρ ⟨d, .binOp .neq T x y T2, ty, pos, af, g⟩) = some (.value (.bool p.isSome)) := by
  simp only [execOp, hx, hy, eqGuard, binOp]
  have he : quiet P H (Op.equal T (.pointer p) (.pointer none)) = some p.isNone := by
    unfold Op.equal
    show quiet P H (Op.equalIn (9999 + 1) T (.pointer p) (.pointer none)) = _
    unfold Op.equalIn
    rw [q_underlying hT]
    cases p <;> rfl
  have e1 := quiet_bind (P := P) (H := H) ((Op.equal T (.pointer p) (.pointer none)) >>= fun b => pure (Value.bool (!b))) (fun v => (pure (Next.value v) : Sem Next))
  refine e1.trans ?_
  rw [quiet_bind, he]; cases p <;> rfl

theorem q_eqlSome {T T2 E : TypeId} {x y : Operand} {a : Addr} (hT : P.underlying T = some (.pointer E)) (hx : ρ x = .pointer (some a)) (hy : ρ y = .pointer none) : quiet P H (execOp ρ ⟨d, .binOp .eql T x y T2, ty, pos, af, g⟩) = some (.value (.bool false)) := q_eqlNil hT hx hy
theorem q_neqSome {T T2 E : TypeId} {x y : Operand} {a : Addr} (hT : P.underlying T = some (.pointer E)) (hx : ρ x = .pointer (some a)) (hy : ρ y = .pointer none) : quiet P H (execOp ρ ⟨d, .binOp .neq T x y T2, ty, pos, af, g⟩) = some (.value (.bool true)) := q_neqNil hT hx hy
theorem q_eqlNone {T T2 E : TypeId} {x y : Operand} (hT : P.underlying T = some (.pointer E)) (hx : ρ x = .pointer none) (hy : ρ y = .pointer none) : quiet P H (execOp ρ ⟨d, .binOp .eql T x y T2, ty, pos, af, g⟩) = some (.value (.bool true)) := q_eqlNil hT hx hy
theorem q_neqNone {T T2 E : TypeId} {x y : Operand} (hT : P.underlying T = some (.pointer E)) (hx : ρ x = .pointer none) (hy : ρ y = .pointer none) : quiet P H (execOp ρ ⟨d, .binOp .neq T x y T2, ty, pos, af, g⟩) = some (.value (.bool false)) := q_neqNil hT hx hy

/-- A text's value. -/
abbrev str (l : List UInt8) : Value := .string ⟨l.toArray⟩
/-- A byte's value. -/
abbrev bV (b : UInt8) : Value := .int .u8 b.toNat

theorem bytes_eq {a b : List UInt8} : ((ByteArray.mk a.toArray).toList == (ByteArray.mk b.toArray).toList) = decide (a = b) := by
  rw [ByteArray.toList_mk, ByteArray.toList_mk]
  by_cases h : a = b <;> simp [h]

theorem q_streq {T T2 : TypeId} {x y : Operand} {a b : List UInt8} (hx : ρ x = str a) (hy : ρ y = str b) : quiet P H (execOp ρ ⟨d, .binOp .eql T x y T2, ty, pos, af, g⟩) = some (.value (.bool (decide (a = b)))) := by
  rw [← bytes_eq]; simp only [execOp, hx, hy]; rfl
theorem q_strneq {T T2 : TypeId} {x y : Operand} {a b : List UInt8} (hx : ρ x = str a) (hy : ρ y = str b) : quiet P H (execOp ρ ⟨d, .binOp .neq T x y T2, ty, pos, af, g⟩) = some (.value (.bool (decide (a ≠ b)))) := by
  have : decide (a ≠ b) = !decide (a = b) := by simp
  rw [this, ← bytes_eq]; simp only [execOp, hx, hy]; rfl
theorem q_strcat {T T2 : TypeId} {x y : Operand} {a b : List UInt8} (hx : ρ x = str a) (hy : ρ y = str b) (hb : a.length + b.length ≤ 9223372036854775807) : quiet P H (execOp ρ ⟨d, .binOp .add T x y T2, ty, pos, af, g⟩) = some (.value (str (a ++ b))) := by
  simp only [execOp, hx, hy]
  have h1 : quiet P H (binOp .add T (str a) (str b)) = some (str (a ++ b)) := by
    show quiet P H (Op.stringOp .add _ _) = _
    unfold Op.stringOp
    have : ¬ (((ByteArray.mk a.toArray).size + (ByteArray.mk b.toArray).size : Nat) : Int) > IntKind.i64.max := by
      simp [ByteArray.size, IntKind.max, IntKind.signed, IntKind.bits]; omega
    simp only [this, if_false]
    show some _ = _
    congr 2
  rw [quiet_bind]
  refine (congrArg (fun o : Option Value => o.bind fun a => quiet P H (pure (Next.value a) : Sem Next)) (show quiet P H (do eqGuard .add T x y (str a) (str b); binOp .add T (str a) (str b)) = some (str (a ++ b)) from ?_)).trans rfl
  rw [quiet_bind]
  exact h1

theorem map1 {α β : Type} {f : α → β} {x : α} : Array.map f #[x] = #[f x] := by simp
theorem map2 {α β : Type} {f : α → β} {x y : α} : Array.map f #[x, y] = #[f x, f y] := by simp
theorem len_str {l : List UInt8} : (ByteArray.mk l.toArray).size = l.length := by simp [ByteArray.size]
theorem q_lenStr {x : Operand} {T : TypeId} {a : List UInt8} (hT : P.underlying T = some .string) (hx : ρ x = str a) : quiet P H (execOp ρ ⟨d, .call ⟨.builtin .len, #[x], #[T]⟩, ty, pos, af, g⟩) = some (.value (.int .i64 a.length)) := by
  have h1 : quiet P H (Builtin.len_ #[T] ty #[str a]) = some (.int .i64 a.length) := by
    unfold Builtin.len_
    show quiet P H (underlying T >>= _) = _
    rw [q_underlying hT]
    show some (goInt _) = _
    rw [len_str]; rfl
  show quiet P H (Builtin.len_ #[T] ty (Array.map ρ #[x]) >>= fun v => pure (Next.value v)) = _
  rw [map1, hx, quiet_bind, h1]; rfl
theorem q_lenSl {x : Operand} {T E : TypeId} {a : Option Addr} {n c : Nat} (hT : P.underlying T = some (.slice E)) (hx : ρ x = .slice a n c) : quiet P H (execOp ρ ⟨d, .call ⟨.builtin .len, #[x], #[T]⟩, ty, pos, af, g⟩) = some (.value (.int .i64 n)) := by
  have h1 : quiet P H (Builtin.len_ #[T] ty #[.slice a n c]) = some (.int .i64 n) := by
    unfold Builtin.len_
    show quiet P H (underlying T >>= _) = _
    rw [q_underlying hT]; rfl
  show quiet P H (Builtin.len_ #[T] ty (Array.map ρ #[x]) >>= fun v => pure (Next.value v)) = _
  rw [map1, hx, quiet_bind, h1]; rfl
theorem q_lenArr {x : Operand} {T E : TypeId} {n : Nat} (hT : P.underlying T = some (.array n E)) : quiet P H (execOp ρ ⟨d, .call ⟨.builtin .len, #[x], #[T]⟩, ty, pos, af, g⟩) = some (.value (.int .i64 n)) := by
  have h1 : quiet P H (Builtin.len_ #[T] ty #[ρ x]) = some (.int .i64 n) := by
    unfold Builtin.len_
    show quiet P H (underlying T >>= _) = _
    rw [q_underlying hT]; rfl
  show quiet P H (Builtin.len_ #[T] ty (Array.map ρ #[x]) >>= fun v => pure (Next.value v)) = _
  rw [map1, quiet_bind, h1]; rfl

theorem q_indexStr {x ix : Operand} {T : TypeId} {a : List UInt8} {k : IntKind} {i : Int} {b : UInt8} (hT : P.underlying T = some .string) (hx : ρ x = str a) (hi : ρ ix = .int k i) (h0 : 0 ≤ i) (hb : a[i.toNat]? = some b) :
    quiet P H (execOp ρ ⟨d, .index T x ix, ty, pos, af, g⟩) = some (.value (bV b)) := by
  have h1 : quiet P H (Instr.index T (str a) (.int k i)) = some (bV b) := by
    unfold Instr.index
    show quiet P H (underlying T >>= _) = _
    rw [q_underlying hT]
    have : (if 0 ≤ i then (ByteArray.mk a.toArray)[i.toNat]? else (none : Option UInt8)) = some b := by
      rw [if_pos h0]
      obtain ⟨hlt, hv⟩ := List.getElem?_eq_some_iff.1 hb
      have hlt' : i.toNat < (ByteArray.mk a.toArray).size := by rw [len_str]; exact hlt
      rw [getElem?_pos (ByteArray.mk a.toArray) i.toNat hlt']
      congr 1
    simp only [this]; rfl
  show quiet P H (Instr.index T (ρ x) (ρ ix) >>= fun v => pure (Next.value v)) = _
  rw [hx, hi, quiet_bind, h1]; rfl

/-- A scalar's type; a type of so many cells. -/
def scal (P : Program) (T : TypeId) : Bool := match P.underlying T with
  | some (.struct _) => false
  | some (.array _ _) => false
  | some _ => true
  | none => false
def aggr (P : Program) (T : TypeId) (n : Nat) : Bool := (match P.underlying T with
  | some (.struct _) => true
  | some (.array _ _) => true
  | _ => false) && ((P.info? T).map (·.size) == some n)

theorem q_isAggF {T : TypeId} (h : scal P T = true) {α : Type} (k : Bool → Sem α) : quiet P H (isAgg T >>= k) = quiet P H (k false) := by
  unfold scal at h
  rw [quiet_bind]
  have : quiet P H (isAgg T) = some false := by
    unfold isAgg
    cases hu : P.underlying T with
    | none => simp [hu] at h
    | some td => rw [q_underlying hu]; simp only [hu] at h; cases td <;> simp at h <;> rfl
  rw [this]; rfl
theorem q_isAggT {T : TypeId} {n : Nat} (h : aggr P T n = true) {α : Type} (k : Bool → Sem α) : quiet P H (isAgg T >>= k) = quiet P H (k true) := by
  unfold aggr at h
  rw [Bool.and_eq_true] at h
  rw [quiet_bind]
  have : quiet P H (isAgg T) = some true := by
    unfold isAgg
    cases hu : P.underlying T with
    | none => simp [hu] at h
    | some td => rw [q_underlying hu]; simp only [hu] at h; cases td <;> simp at h <;> rfl
  rw [this]; rfl
theorem aggr_size {T : TypeId} {n : Nat} (h : aggr P T n = true) : (P.info? T).map (·.size) = some n := by
  unfold aggr at h
  rw [Bool.and_eq_true] at h
  exact eq_of_beq h.2

theorem add_cell {b off i : Nat} : (⟨b, off, none⟩ : Addr).add i = ⟨b, off + i, none⟩ := by
  unfold Addr.add; split
  · rename_i h; subst h; rfl
  · rfl

theorem cell_at {H : Hp} {b : Nat} {c : Array Value} {e : TypeId} {fr : Nat × Nat} (hb : H b = some (.cells c e fr)) (o : Nat) : H.cell? ⟨b, o, none⟩ = c[o]? := by
  unfold Hp.cell?
  simp only [hb]
  rfl

theorem q_loadCells {b : Nat} {c : Array Value} {e : TypeId} {fr : Nat × Nat} (hb : H b = some (.cells c e fr)) (off : Nat) : ∀ (n i : Nat) (acc : Array Value), off + i + n ≤ c.size →
    quiet P H (loadCellsFrom ⟨b, off, none⟩ i n acc) = some (acc ++ c.extract (off + i) (off + i + n)) := by
  intro n
  induction n with
  | zero => intro i acc _; show some acc = _; simp; omega
  | succ n ih =>
    intro i acc h
    unfold loadCellsFrom
    show quiet P H (Sem.load _ _ _ >>= _) = _
    have hlt : off + i < c.size := by omega
    have e1 : quiet P H ((load ((⟨b, off, none⟩ : Addr).add i)) >>= fun v => loadCellsFrom ⟨b, off, none⟩ (i + 1) n (acc.push v)) = quiet P H (loadCellsFrom ⟨b, off, none⟩ (i + 1) n (acc.push c[off + i])) := by
      rw [quiet_bind]
      have : quiet P H (load ((⟨b, off, none⟩ : Addr).add i)) = some c[off + i] := by
        unfold load
        simp only [quiet, add_cell, cell_at hb]
        rw [getElem?_pos c (off + i) hlt]
      rw [this]; rfl
    refine e1.trans ?_
    rw [ih (i + 1) _ (by omega)]
    congr 1
    apply Array.ext'
    simp only [Array.toList_append, Array.toList_push, Array.toList_extract, List.append_assoc]
    congr 1
    rw [List.extract_eq_take_drop, List.extract_eq_take_drop]
    have : c.toList.drop (off + i) = c[off + i] :: c.toList.drop (off + i + 1) := by
      rw [List.drop_eq_getElem_cons (by simpa using hlt)]; simp
    rw [this]
    have e2 : off + i + (n + 1) - (off + i) = n + 1 := by omega
    have e3 : off + (i + 1) + n - (off + (i + 1)) = n := by omega
    rw [e2, e3]
    rfl

theorem q_load1 {T : TypeId} {x : Operand} {b off : Nat} {c : Array Value} {e : TypeId} {fr : Nat × Nat} {v : Value} (hT : scal P T = true) (hx : ρ x = .pointer (some ⟨b, off, none⟩)) (hb : H b = some (.cells c e fr)) (hv : c[off]? = some v) :
    quiet P H (execOp ρ ⟨d, .load T x, ty, pos, af, g⟩) = some (.value v) := by
  have h1 : quiet P H (Instr.loadAt T (.pointer (some ⟨b, off, none⟩))) = some v := by
    unfold Instr.loadAt
    show quiet P H (loadVar T ⟨b, off, none⟩) = _
    unfold loadVar
    rw [q_isAggF hT]
    show quiet P H (load _) = _
    unfold load
    simp only [quiet, cell_at hb, hv]
  show quiet P H (Instr.loadAt T (ρ x) >>= fun v => pure (Next.value v)) = _
  rw [hx, quiet_bind, h1]; rfl

theorem q_loadVarA {T : TypeId} {b off n : Nat} {c : Array Value} {e : TypeId} {fr : Nat × Nat} (hT : aggr P T n = true) (hb : H b = some (.cells c e fr)) (hv : off + n ≤ c.size) :
    quiet P H (loadVar T ⟨b, off, none⟩) = some (.agg (c.extract off (off + n))) := by
  unfold loadVar
  rw [q_isAggT hT]
  simp only [if_true]
  rw [q_sizeOf (aggr_size hT), quiet_bind]
  have := q_loadCells (P := P) hb off n 0 #[] (by omega)
  unfold loadCells
  rw [this]
  simp
  rfl

theorem q_loadA {T : TypeId} {x : Operand} {b off n : Nat} {c : Array Value} {e : TypeId} {fr : Nat × Nat} (hT : aggr P T n = true) (hx : ρ x = .pointer (some ⟨b, off, none⟩)) (hb : H b = some (.cells c e fr)) (hv : off + n ≤ c.size) :
    quiet P H (execOp ρ ⟨d, .load T x, ty, pos, af, g⟩) = some (.value (.agg (c.extract off (off + n)))) := by
  show quiet P H (Instr.loadAt T (ρ x) >>= fun v => pure (Next.value v)) = _
  rw [hx, quiet_bind]
  show (quiet P H (loadVar T ⟨b, off, none⟩)).bind _ = _
  rw [q_loadVarA hT hb hv]; rfl

theorem q_field1 {S : TypeId} {x : Operand} {f : Nat} {fs : Array Field} {fd : Field} {c : Array Value} {v : Value} (hS : P.underlying S = some (.struct fs)) (hf : fs[f]? = some fd) (hT : scal P fd.type = true) (hx : ρ x = .agg c) (hv : c[fd.offset]? = some v) :
    quiet P H (execOp ρ ⟨d, .field S x f, ty, pos, af, g⟩) = some (.value v) := by
  have h1 : quiet P H (Instr.field S (.agg c) f) = some v := by
    unfold Instr.field
    rw [q_underlying hS]
    simp only [hf]
    show quiet P H (part fd.type c fd.offset) = _
    unfold part
    rw [q_isAggF hT]
    simp only [Bool.false_eq_true, if_false, hv]; rfl
  show quiet P H (Instr.field S (ρ x) f >>= fun v => pure (Next.value v)) = _
  rw [hx, quiet_bind, h1]; rfl
theorem q_fieldA {S : TypeId} {x : Operand} {f n : Nat} {fs : Array Field} {fd : Field} {c : Array Value} (hS : P.underlying S = some (.struct fs)) (hf : fs[f]? = some fd) (hT : aggr P fd.type n = true) (hx : ρ x = .agg c) :
    quiet P H (execOp ρ ⟨d, .field S x f, ty, pos, af, g⟩) = some (.value (.agg (c.extract fd.offset (fd.offset + n)))) := by
  have h1 : quiet P H (Instr.field S (.agg c) f) = some (.agg (c.extract fd.offset (fd.offset + n))) := by
    unfold Instr.field
    rw [q_underlying hS]
    simp only [hf]
    show quiet P H (part fd.type c fd.offset) = _
    unfold part
    rw [q_isAggT hT]
    simp only [if_true]
    rw [q_sizeOf (aggr_size hT)]; rfl
  show quiet P H (Instr.field S (ρ x) f >>= fun v => pure (Next.value v)) = _
  rw [hx, quiet_bind, h1]; rfl

theorem q_idxSl {T E : TypeId} {x ix : Operand} {b off n c s : Nat} {k : IntKind} {i : Int} (hT : P.underlying T = some (.slice E)) (hs : (P.info? E).map (·.size) = some s) (hx : ρ x = .slice (some ⟨b, off, none⟩) n c) (hi : ρ ix = .int k i) (h0 : 0 ≤ i) (h1 : i < n) :
    quiet P H (execOp ρ ⟨d, .indexAddr T x ix, ty, pos, af, g⟩) = some (.value (.pointer (some ⟨b, off + i.toNat * s, none⟩))) := by
  have h1 : quiet P H (Instr.indexAt T (.slice (some ⟨b, off, none⟩) n c) (.int k i)) = some (.pointer (some ⟨b, off + i.toNat * s, none⟩)) := by
    unfold Instr.indexAt
    show quiet P H (underlying T >>= _) = _
    rw [q_underlying hT]
    show quiet P H (underlying T >>= _) = _
    rw [q_underlying hT]
    simp only [h0, h1, and_self, if_true]
    rw [q_sizeOf hs, add_cell]; rfl
  show quiet P H (Instr.indexAt T (ρ x) (ρ ix) >>= fun v => pure (Next.value v)) = _
  rw [hx, hi, quiet_bind, h1]; rfl
theorem q_idxArr {T E : TypeId} {x ix : Operand} {b off n s : Nat} {k : IntKind} {i : Int} (hT : P.underlying T = some (.array n E)) (hs : (P.info? E).map (·.size) = some s) (hx : ρ x = .pointer (some ⟨b, off, none⟩)) (hi : ρ ix = .int k i) (h0 : 0 ≤ i) (h1 : i < n) :
    quiet P H (execOp ρ ⟨d, .indexAddr T x ix, ty, pos, af, g⟩) = some (.value (.pointer (some ⟨b, off + i.toNat * s, none⟩))) := by
  have h1 : quiet P H (Instr.indexAt T (.pointer (some ⟨b, off, none⟩)) (.int k i)) = some (.pointer (some ⟨b, off + i.toNat * s, none⟩)) := by
    unfold Instr.indexAt
    show quiet P H (underlying T >>= _) = _
    rw [q_underlying hT]
    show quiet P H (underlying T >>= _) = _
    rw [q_underlying hT]
    simp only [h0, h1, and_self, if_true]
    rw [q_sizeOf hs, add_cell]; rfl
  show quiet P H (Instr.indexAt T (ρ x) (ρ ix) >>= fun v => pure (Next.value v)) = _
  rw [hx, hi, quiet_bind, h1]; rfl

end
end Go.Proofs.YtedkoebbijpnfaaGreatDoor.TH

/- The operations that do something. -/
namespace Go.Proofs.YtedkoebbijpnfaaGreatDoor.TH
open Go

def setL (c : Array Value) (o : Nat) : List Value → Array Value
  | [] => c
  | v :: vs => setL (c.setIfInBounds o v) (o + 1) vs

theorem setL_size {c : Array Value} {o : Nat} {vs : List Value} : (setL c o vs).size = c.size := by
  induction vs generalizing c o with
  | nil => rfl
  | cons v vs ih => simp [setL, ih]

theorem setL_toList {vs : List Value} : ∀ {c : Array Value} {o : Nat}, o + vs.length ≤ c.size → (setL c o vs).toList = c.toList.take o ++ vs ++ c.toList.drop (o + vs.length) := by
  induction vs with
  | nil => intro c o _; simp [setL]
  | cons v vs ih =>
    intro c o h
    simp only [List.length_cons] at h
    simp only [setL]
    rw [ih (by simp; omega)]
    simp only [Array.toList_setIfInBounds, List.length_cons]
    rw [List.take_set, List.drop_set_of_lt (by omega)]
    have hlt : o < c.toList.length := by simp; omega
    have e1 : List.take (o + 1) c.toList = List.take o c.toList ++ [c.toList[o]] := by rw [List.take_succ_eq_append_getElem hlt]
    rw [e1]
    have e2 : (List.take o c.toList ++ [c.toList[o]]).set o v = List.take o c.toList ++ [v] := by
      rw [List.set_append_right _ _ (by simp; omega)]
      have : o - (List.take o c.toList).length = 0 := by simp; omega
      rw [this]; rfl
    rw [e2]
    have e3 : o + 1 + vs.length = o + (vs.length + 1) := by omega
    rw [e3]
    simp

theorem setL_one {c : Array Value} {o : Nat} {v : Value} : setL c o [v] = c.setIfInBounds o v := rfl

theorem frozen0 {H : Hp} {a : Addr} {c : Array Value} {e : TypeId} (hb : H a.block = some (.cells c e (0, 0))) : H.frozen? a = false := by
  simp [Hp.frozen?, hb]

theorem Hp.set_self {H : Hp} {b : Nat} {o : Obj} : H.set b o b = some o := by simp [Hp.set]
theorem Hp.set_set {H : Hp} {b : Nat} {o o' : Obj} : (H.set b o).set b o' = H.set b o' := by
  funext k; simp only [Hp.set]; split <;> rfl
theorem sg_set {b : Nat} {o o' : Obj} : (sg b o).set b o' = sg b o' := by
  funext k; simp only [Hp.set, sg]; split <;> rfl
theorem Hp.set_ne {H : Hp} {b k : Nat} {o : Obj} (h : k ≠ b) : H.set b o k = H k := by simp [Hp.set, h]

section
variable {P : Program}

/-- No frozen cell is one of the first so many. -/
def okF (fr : Nat × Nat) (n : Nat) : Prop := ∀ o, o < n → (decide (fr.1 ≤ o) && decide (o < fr.2)) = false
theorem okF.z {n : Nat} : okF (0, 0) n := fun o _ => by simp

theorem sem_storeCellsF {b : Nat} {e : TypeId} {off : Nat} {fr : Nat × Nat} : ∀ (vs : List Value) (i : Nat) {H : Hp} {c : Array Value} {K : Unit → Hp → Prop}, H b = some (.cells c e fr) → okF fr c.size → off + i + vs.length ≤ c.size → (∀ u ∈ vs, u.oneCell' = true) →
    (∀ H', H' = H.set b (.cells (setL c (off + i) vs) e fr) → K () H') → SemH P (storeCells ⟨b, off, none⟩ vs i) H K := by
  intro vs
  induction vs with
  | nil =>
    intro i H c K hb _ _ _ hk
    refine hk H ?_
    funext k
    by_cases h : k = b
    · subst h; rw [hb, Hp.set_self]; rfl
    · rw [Hp.set_ne h]
  | cons v vs ih =>
    intro i H c K hb hok hl h1 hk
    simp only [List.length_cons] at hl
    unfold storeCells
    rw [SemH_bind]
    show SemH P (Sem.store _ _ _ _) _ _
    rw [add_cell]
    refine ⟨h1 v List.mem_cons_self, c, e, fr, hb, rfl, by show off + i < c.size; omega, by simp only [Hp.frozen?, hb]; exact hok (off + i) (by omega), ?_⟩
    show SemH P (storeCells _ vs (i + 1)) _ _
    refine ih (i + 1) Hp.set_self (by simpa using hok) (by simp; omega) (fun u hu => h1 u (List.mem_cons_of_mem _ hu)) fun H' hH' => hk H' ?_
    rw [hH', Hp.set_set]
    rfl

theorem sem_storeCells {b : Nat} {e : TypeId} {off : Nat} : ∀ (vs : List Value) (i : Nat) {H : Hp} {c : Array Value} {K : Unit → Hp → Prop}, H b = some (.cells c e (0, 0)) → off + i + vs.length ≤ c.size → (∀ u ∈ vs, u.oneCell' = true) →
    (∀ H', H' = H.set b (.cells (setL c (off + i) vs) e (0, 0)) → K () H') → SemH P (storeCells ⟨b, off, none⟩ vs i) H K := by
  intro vs
  induction vs with
  | nil =>
    intro i H c K hb _ _ hk
    refine hk H ?_
    funext k
    by_cases h : k = b
    · subst h; rw [hb, Hp.set_self]; rfl
    · rw [Hp.set_ne h]
  | cons v vs ih =>
    intro i H c K hb hl h1 hk
    simp only [List.length_cons] at hl
    unfold storeCells
    rw [SemH_bind]
    show SemH P (Sem.store _ _ _ _) _ _
    rw [add_cell]
    refine ⟨h1 v List.mem_cons_self, c, e, (0, 0), hb, rfl, by show off + i < c.size; omega, frozen0 hb, ?_⟩
    show SemH P (storeCells _ vs (i + 1)) _ _
    refine ih (i + 1) Hp.set_self (by simp; omega) (fun u hu => h1 u (List.mem_cons_of_mem _ hu)) fun H' hH' => hk H' ?_
    rw [hH', Hp.set_set]
    rfl

theorem sem_sizeOf {α : Type} {t : TypeId} {n : Nat} (h : (P.info? t).map (·.size) = some n) {k : Nat → Sem α} {H : Hp} {K : α → Hp → Prop} (hk : SemH P (k n) H K) : SemH P (sizeOf t >>= k) H K := by
  rw [SemH_bind]
  obtain ⟨ti, h1, h2⟩ := Option.map_eq_some_iff.1 h
  refine SemH_of_quiet (a := n) (sizeOf t) ?_ hk
  have := q_sizeOf (P := P) (H := H) h (fun n => (pure n : Sem Nat))
  rw [quiet_bind] at this
  cases hq : quiet P H (sizeOf t) with
  | none => rw [hq] at this; cases this
  | some m => rw [hq] at this; exact this
theorem sem_underlying {α : Type} {t : TypeId} {td : TypeDesc} (h : P.underlying t = some td) {k : TypeDesc → Sem α} {H : Hp} {K : α → Hp → Prop} (hk : SemH P (k td) H K) : SemH P (underlying t >>= k) H K := by
  rw [SemH_bind]
  refine SemH_of_quiet (a := td) (underlying t) ?_ hk
  have := q_underlying (P := P) (H := H) h (fun n => (pure n : Sem TypeDesc))
  rw [quiet_bind] at this
  cases hq : quiet P H (underlying t) with
  | none => rw [hq] at this; cases this
  | some m => rw [hq] at this; exact this
theorem sem_typeInfo {α : Type} {t : TypeId} {ti : TypeInfo} (h : P.info? t = some ti) {k : TypeInfo → Sem α} {H : Hp} {K : α → Hp → Prop} (hk : SemH P (k ti) H K) : SemH P (typeInfo t >>= k) H K := by
  rw [SemH_bind]
  refine SemH_of_quiet (a := ti) (typeInfo t) ?_ hk
  show quiet P H ((Sem.program .pure).bind fun p => match p.info? t with | some i => pure i | none => stuck "no such type") = some ti
  simp only [Sem.bind, quiet, h]; rfl
theorem sem_zeroValue {α : Type} {t : TypeId} {ti : TypeInfo} {z : Value} (h : P.info? t = some ti) (hz : ti.zero = some z) {k : Value → Sem α} {H : Hp} {K : α → Hp → Prop} (hk : SemH P (k z) H K) : SemH P (zeroValue t >>= k) H K := by
  rw [SemH_bind]
  unfold zeroValue
  refine sem_typeInfo h ?_
  rw [hz]
  exact hk
theorem sem_quiet {α β : Type} {s : Sem α} {a : α} {k : α → Sem β} {H : Hp} {K : β → Hp → Prop} (h : quiet P H s = some a) (hk : SemH P (k a) H K) : SemH P (s >>= k) H K := by
  rw [SemH_bind]; exact SemH_of_quiet s h hk

theorem sem_storeVar {T : TypeId} {b off n : Nat} {v : Value} {c : Array Value} {e : TypeId} {H : Hp} {K : Unit → Hp → Prop} (hT : (P.info? T).map (·.size) = some n) (hn : v.cells.size = n) (hb : H b = some (.cells c e (0, 0))) (hl : off + n ≤ c.size)
    (h1 : ∀ u ∈ v.cells.toList, u.oneCell' = true) (hk : K () (H.set b (.cells (setL c off v.cells.toList) e (0, 0)))) : SemH P (storeVar T ⟨b, off, none⟩ v) H K := by
  unfold storeVar
  refine sem_sizeOf hT ?_
  rw [if_neg (by simp [hn])]
  refine sem_storeCells v.cells.toList 0 hb (by simp [hn]; omega) h1 fun H' hH' => ?_
  rw [hH']; exact hk
end

section
variable {P : Program} {ol : List Oper} {rest : Stp} {K : Env → Hp → Prop} {env : Env} {Hs : List Hp} {i : Nat} {held : List Nat} {d : Option Nat} {ty : TypeId} {pos : String} {af : Array Edge} {g : Option (Nat × Bool)}

/-- Into a block of a piece. -/
theorem EPL.store {T : TypeId} {x y : Operand} {b off n : Nat} {c : Array Value} {e : TypeId} {v : Value} (j : Nat) {Hj : Hp} (ho : nth ol i = some ⟨d, .store T x y, ty, pos, af, g⟩) (hw : wantE ol env ⟨d, .store T x y, ty, pos, af, g⟩ = true)
    (hT : (P.info? T).map (·.size) = some n) (hx : ev env x = .pointer (some ⟨b, off, none⟩)) (hy : ev env y = v) (hn : v.cells.size = n) (h1 : ∀ u ∈ v.cells.toList, u.oneCell' = true) (hj : Hs[j]? = some Hj) (hb : Hj b = some (.cells c e (0, 0))) (hl : off + n ≤ c.size)
    (hh : HeldL P ol held (putE env d undef) (Hs.set j (Hj.set b (.cells (setL c off v.cells.toList) e (0, 0)))))
    (h : EPL P ol rest K (putE env d undef) (Hs.set j (Hj.set b (.cells (setL c off v.cells.toList) e (0, 0))))) : EPL P ol (.x i held rest) K env Hs := by
  refine EPL.x ho hw fun hd => ?_
  unfold EO
  show SemH P (Instr.storeAt T (ev env x) (ev env y) >>= fun _ => pure Next.skip) _ _
  rw [hx, hy, SemH_bind]
  show SemH P (storeVar T ⟨b, off, none⟩ v) _ _
  obtain ⟨e1, e2⟩ := join_set hd (o' := .cells (setL c off v.cells.toList) e (0, 0)) hj hb
  refine sem_storeVar hT hn (join_get hd hj hb) hl h1 ?_
  show ∃ Hs', _
  exact ⟨_, e1.symm, e2, hh, h⟩

/-- The same, a piece that is one block. -/
theorem EPL.storeS {T : TypeId} {x y : Operand} {b off n : Nat} {c : Array Value} {e : TypeId} {v : Value} (j : Nat) (ho : nth ol i = some ⟨d, .store T x y, ty, pos, af, g⟩) (hw : wantE ol env ⟨d, .store T x y, ty, pos, af, g⟩ = true)
    (hT : (P.info? T).map (·.size) = some n) (hx : ev env x = .pointer (some ⟨b, off, none⟩)) (hy : ev env y = v) (hn : v.cells.size = n) (h1 : ∀ u ∈ v.cells.toList, u.oneCell' = true) (hj : Hs[j]? = some (sg b (.cells c e (0, 0)))) (hl : off + n ≤ c.size)
    (hh : HeldL P ol held (putE env d undef) (Hs.set j (sg b (.cells (setL c off v.cells.toList) e (0, 0)))))
    (h : EPL P ol rest K (putE env d undef) (Hs.set j (sg b (.cells (setL c off v.cells.toList) e (0, 0))))) : EPL P ol (.x i held rest) K env Hs :=
  EPL.store j ho hw hT hx hy hn h1 hj sg_self hl (by rw [sg_set]; exact hh) (by rw [sg_set]; exact h)

theorem EPL.box {T : TypeId} {x : Operand} {c : Array Value} (ho : nth ol i = some ⟨d, .box T x, ty, pos, af, g⟩) (hw : wantE ol env ⟨d, .box T x, ty, pos, af, g⟩ = true) (hc : (ev env x).cells = c)
    (hh : ∀ b, HeldL P ol held (putE env d (.pointer (some ⟨b, 0, none⟩))) (sg b (.cells c T (0, 0)) :: Hs))
    (h : ∀ b, EPL P ol rest K (putE env d (.pointer (some ⟨b, 0, none⟩))) (sg b (.cells c T (0, 0)) :: Hs)) : EPL P ol (.x i held rest) K env Hs := by
  subst hc
  refine EPL.x ho hw fun hd => ?_
  unfold EO
  intro b hb
  obtain ⟨e1, e2⟩ := join_new hd (o := .cells (ev env x).cells T (0, 0)) hb
  exact ⟨_, e1.symm, e2, hh b, h b⟩

theorem EPL.alloc {T : TypeId} {ti : TypeInfo} {z : Value} (ho : nth ol i = some ⟨d, .alloc T, ty, pos, af, g⟩) (hw : wantE ol env ⟨d, .alloc T, ty, pos, af, g⟩ = true) (hi : P.info? T = some ti) (hz : ti.zero = some z)
    (hh : ∀ b, HeldL P ol held (putE env d (.pointer (some ⟨b, 0, none⟩))) (sg b (.cells z.cells T (0, 0)) :: Hs))
    (h : ∀ b, EPL P ol rest K (putE env d (.pointer (some ⟨b, 0, none⟩))) (sg b (.cells z.cells T (0, 0)) :: Hs)) : EPL P ol (.x i held rest) K env Hs := by
  refine EPL.x ho hw fun hd => ?_
  unfold EO
  show SemH P (Instr.alloc T true (.tuple #[]) >>= fun v => pure (Next.value v)) _ _
  rw [SemH_bind]
  unfold Instr.alloc
  refine sem_zeroValue hi hz ?_
  intro b hb
  obtain ⟨e1, e2⟩ := join_new hd (o := .cells z.cells T (0, 0)) hb
  exact ⟨_, e1.symm, e2, hh b, h b⟩

/-- A slice that is written out. -/
theorem EPL.buildSlice {T E : TypeId} {len s : Nat} {parts : Array (Nat × Operand)} {ti : TypeInfo} {z : Value} {cells : Array Value} (ho : nth ol i = some ⟨d, .buildSlice T len parts, ty, pos, af, g⟩) (hw : wantE ol env ⟨d, .buildSlice T len parts, ty, pos, af, g⟩ = true)
    (hT : P.underlying T = some (.slice E)) (hi : P.info? E = some ti) (hz : ti.zero = some z) (hs : ti.size = s) (h24 : len * s ≤ 16777216) (h0 : len * s ≠ 0)
    (hf : Instr.fill (fun i => some (i * s, s)) ((Array.range (len * s)).map (z.cells[· % z.cells.size]!)) (parts.toList.map fun p => (p.1, ev env p.2)) = some cells)
    (hh : ∀ b, HeldL P ol held (putE env d (.slice (some ⟨b, 0, none⟩) len len)) (sg b (.cells cells E (0, 0)) :: Hs))
    (h : ∀ b, EPL P ol rest K (putE env d (.slice (some ⟨b, 0, none⟩) len len)) (sg b (.cells cells E (0, 0)) :: Hs)) : EPL P ol (.x i held rest) K env Hs := by
  refine EPL.x ho hw fun hd => ?_
  unfold EO
  have hm : (parts.map fun (i, x) => (i, ev env x)).toList = parts.toList.map fun p => (p.1, ev env p.2) := by simp
  have key : SemH P (Instr.buildSlice T len (parts.map fun (i, x) => (i, ev env x))) (join Hs) (fun v H' => ∃ b, join Hs b = none ∧ v = .slice (some ⟨b, 0, none⟩) len len ∧ H' = (join Hs).set b (.cells cells E (0, 0))) := by
    unfold Instr.buildSlice
    refine sem_underlying hT ?_
    refine sem_sizeOf (n := s) (by rw [hi]; simp [hs]) ?_
    have hn : ¬ len * s > 2 ^ 24 := Nat.not_lt.2 h24
    simp only [if_neg hn, if_neg h0]
    simp only [hm]
    refine (SemH_bind (zeroValue E) _).2 ?_
    have hzz : quiet P (join Hs) (zeroValue E) = some z := by
      unfold zeroValue
      have : quiet P (join Hs) (typeInfo E) = some ti := by
        show quiet P (join Hs) ((Sem.program .pure).bind fun p => match p.info? E with | some i => pure i | none => stuck "no such type") = some ti
        simp only [Sem.bind, quiet, hi]; rfl
      rw [quiet_bind, this]
      simp only [Option.bind_some, hz]; rfl
    refine SemH_of_quiet (zeroValue E) hzz ?_
    refine (SemH_bind (pure z.cells) _).2 ?_
    refine SemH_of_quiet (pure z.cells) (a := z.cells) rfl ?_
    rw [hf]
    intro b hb
    exact ⟨b, hb, rfl, rfl⟩
  refine (SemH_bind _ _).2 (SemH_mono _ ?_ key)
  rintro v H' ⟨b, hb, rfl, rfl⟩
  obtain ⟨e1, e2⟩ := join_new hd (o := .cells cells E (0, 0)) hb
  exact ⟨_, e1.symm, e2, hh b, h b⟩

/-- A call of a function, by what is known of it. -/
theorem EPL.call {f : FuncId} {fn : Func} {args : Array Operand} {tys : Array TypeId} {vs : List Value} {A B : List Hp} {R : Value → List Hp → Prop} (is : List Nat) (ho : nth ol i = some ⟨d, .call ⟨.value (.func f), args, tys⟩, ty, pos, af, g⟩) (hw : wantE ol env ⟨d, .call ⟨.value (.func f), args, tys⟩, ty, pos, af, g⟩ = true)
    (hf : P.funcs[f]? = some fn) (hnum : (fn.name == "runtime.NumGoroutine") = false) (hbody : fn.body.isNone = false) (ha : args.toList.map (ev env) = vs) (ht : takes is Hs = some (A, B)) (hc : CallL P f vs A R)
    (h : ∀ v Hs', R v Hs' → HeldL P ol held (putE env d v) (Hs' ++ B) ∧ EPL P ol rest K (putE env d v) (Hs' ++ B)) : EPL P ol (.x i held rest) K env Hs := by
  refine EPL.x ho hw fun hd => ?_
  unfold EO
  have e0 : execOp (ev env) ⟨d, .call ⟨.value (.func f), args, tys⟩, ty, pos, af, g⟩ = callFunc f (#[] ++ args.map (ev env) ++ #[]) := rfl
  rw [e0]
  have e1 : (#[] ++ args.map (ev env) ++ #[]) = vs.toArray := by rw [← ha]; apply Array.ext'; simp
  rw [e1]
  unfold callFunc
  show SemH P (program >>= _) _ _
  rw [SemH_bind]
  show SemH P (match P.funcs[f]? with | none => _ | some fn => _) _ _
  rw [hf]
  simp only [hnum, hbody, Bool.false_eq_true, if_false]
  show CallH P f vs.toArray (join Hs) _
  refine (hc.frame ht hd).mono fun v H' ⟨Hs', e, hd', hR⟩ => ?_
  exact ⟨Hs' ++ B, e, hd', h v Hs' hR⟩

end
end Go.Proofs.YtedkoebbijpnfaaGreatDoor.TH

/- append; slices that a piece owns. -/
namespace Go.Proofs.YtedkoebbijpnfaaGreatDoor.TH
open Go

/-- Slice value v, of n elements of sz cells each, of type T, owns the cells xs in that piece. -/
def OwnS (T sz : Nat) (v : Value) (n : Nat) (xs : List Value) (H : Hp) : Prop :=
  xs.length = n * sz ∧
  ((v = .slice none 0 0 ∧ n = 0) ∨
   ∃ b off cap c fr, v = .slice (some ⟨b, off, none⟩) n cap ∧ H b = some (.cells c T fr) ∧ okF fr c.size ∧ n ≤ cap ∧ cap ≤ maxLen ∧ off + cap * sz ≤ c.size ∧ (c.toList.drop off).take (n * sz) = xs)

theorem OwnS.nil (T sz : Nat) (H : Hp) : OwnS T sz (.slice none 0 0) 0 [] H := ⟨by simp, .inl ⟨rfl, rfl⟩⟩

theorem join_set_new {Hs : List Hp} (hd : Disj Hs) : ∀ {j : Nat} {Hj : Hp} {b : Nat} {o : Obj}, Hs[j]? = some Hj → join Hs b = none → join (Hs.set j (Hj.set b o)) = (join Hs).set b o ∧ Disj (Hs.set j (Hj.set b o)) := by
  induction Hs with
  | nil => intro j Hj b o h; simp at h
  | cons K Hs ih =>
    intro j Hj b o h hb
    obtain ⟨h1, h2⟩ := List.pairwise_cons.1 hd
    have hall := join_none.1 hb
    have hK : K b = none := hall K List.mem_cons_self
    have hb' : join Hs b = none := join_none.2 fun L hL => hall L (List.mem_cons_of_mem _ hL)
    cases j with
    | zero =>
      simp at h; subst h
      refine ⟨?_, List.pairwise_cons.2 ⟨fun L hL k => ?_, h2⟩⟩
      · funext k
        simp only [List.set_cons_zero, join, Hp.set]
        by_cases hk : k = b <;> simp [hk]
      · simp only [Hp.set]
        split
        · rename_i hk; subst hk; exact .inr (hall L (List.mem_cons_of_mem _ hL))
        · exact h1 L hL k
    | succ j =>
      simp at h
      obtain ⟨e1, e2⟩ := ih h2 (o := o) h hb'
      refine ⟨?_, List.pairwise_cons.2 ⟨fun L hL k => ?_, e2⟩⟩
      · funext k
        simp only [List.set_cons_succ, join, Hp.set, e1]
        by_cases hk : k = b
        · subst hk; simp [hK]
        · simp [hk]
      · rcases List.mem_or_eq_of_mem_set hL with h3 | h3
        · exact h1 L h3 k
        · subst h3
          simp only [Hp.set]
          split
          · rename_i hk; subst hk; exact .inl hK
          · exact h1 Hj (List.mem_of_getElem? h) k

theorem List.set_getElem?_self' {α : Type} : ∀ {l : List α} {j : Nat} {x : α}, l[j]? = some x → l.set j x = l
  | [], _, _, h => by simp at h
  | y :: l, 0, x, h => by simp at h; simp [h]
  | y :: l, j + 1, x, h => by simp at h; simp [List.set_getElem?_self' h]

section
variable {P : Program}

theorem q_typeInfo {t : TypeId} {ti : TypeInfo} {H : Hp} (hi : P.info? t = some ti) : quiet P H (typeInfo t) = some ti := by
  show quiet P H ((Sem.program .pure).bind fun p => match p.info? t with | some i => pure i | none => stuck "no such type") = some ti
  simp only [Sem.bind, quiet, hi]; rfl
theorem q_zeroValue {t : TypeId} {ti : TypeInfo} {z : Value} {H : Hp} (hi : P.info? t = some ti) (hz : ti.zero = some z) : quiet P H (zeroValue t) = some z := by
  unfold zeroValue
  rw [quiet_bind, q_typeInfo hi]
  simp only [Option.bind_some, hz]; rfl

/-- A slice's or a text's first cells can be read. -/
def Src (P : Program) (H : Hp) (sz : Nat) (x : Value) (m : Nat) (news : List Value) : Prop :=
  quiet P H (Builtin.lenOf x) = some m ∧ quiet P H (Builtin.firstCells sz m x) = some news.toArray ∧ news.length = m * sz ∧ ∀ u ∈ news, u.oneCell' = true

theorem Src.slice {H : Hp} {sz b off m cp : Nat} {c : Array Value} {e : TypeId} {fr : Nat × Nat} (hb : H b = some (.cells c e fr)) (hl : off + m * sz ≤ c.size) {news : List Value} (hn : (c.toList.drop off).take (m * sz) = news) (h1 : ∀ u ∈ news, u.oneCell' = true) :
    Src P H sz (.slice (some ⟨b, off, none⟩) m cp) m news := by
  refine ⟨rfl, ?_, ?_, h1⟩
  · show quiet P H (loadCells ⟨b, off, none⟩ (m * sz)) = _
    unfold loadCells
    rw [q_loadCells hb off (m * sz) 0 #[] (by omega)]
    congr 1
    apply Array.ext'
    simp only [Nat.add_zero, Array.toList_append, Array.toList_extract, List.nil_append]
    rw [List.extract_eq_take_drop, ← hn]
    congr 1
    omega
  · rw [← hn]; simp; omega

theorem Src.nil {H : Hp} {sz : Nat} : Src P H sz (.slice none 0 0) 0 [] := ⟨rfl, rfl, by simp, by simp⟩

theorem Src.str {H : Hp} {a : List UInt8} : Src P H 1 (str a) a.length (a.map bV) := by
  refine ⟨?_, ?_, by simp, ?_⟩
  · show some (ByteArray.mk a.toArray).size = _; rw [len_str]
  · show some (((ByteArray.mk a.toArray).extract 0 a.length).data.map fun b => Value.int .u8 b.toNat) = _
    congr 1
    apply Array.ext'
    have : ((ByteArray.mk a.toArray).extract 0 a.length) = ByteArray.mk a.toArray := by
      apply ByteArray.ext
      simp
    rw [this]
    simp
  · intro u hu; obtain ⟨x, _, rfl⟩ := List.mem_map.1 hu; rfl


theorem sem_append {Hs : List Hp} {j : Nat} {Hj : Hp} {t t2 ty e : TypeId} {ti : TypeInfo} {z : Value} {sz bytes n m : Nat} {v x : Value} {xs news : List Value}
    (ht : P.underlying t = some (.slice e)) (ht2 : P.underlying t2 = some .string ∨ ∃ e2, P.underlying t2 = some (.slice e2)) (hi : P.info? e = some ti) (hz : ti.zero = some z) (hs : ti.size = sz) (hby : ti.bytes = bytes) (hzs : z.cells.size = sz)
    (hd : Disj Hs) (hj : Hs[j]? = some Hj) (hown : OwnS e sz v n xs Hj) (hsrc : Src P (join Hs) sz x m news) (h63 : n + m ≤ maxLen) (h47 : (n + m) * bytes ≤ 140737488355328) :
    SemH P (Builtin.append_ #[t, t2] ty #[v, x]) (join Hs) (fun v' H' => ∃ Hj', H' = join (Hs.set j Hj') ∧ Disj (Hs.set j Hj') ∧ OwnS e sz v' (n + m) (xs ++ news) Hj') := by
  obtain ⟨s1, s2, s3, s4⟩ := hsrc
  obtain ⟨o1, o2⟩ := hown
  have hlen : (xs ++ news).length = (n + m) * sz := by rw [List.length_append, o1, s3, Nat.add_mul]
  have hsize : (P.info? e).map (·.size) = some sz := by rw [hi]; simp [hs]
  have grow : ∀ (base : Option Addr) (cap : Nat), cap < n + m → v = .slice base n cap → quiet P (join Hs) (Builtin.firstCells sz n v) = some xs.toArray →
      SemH P (do
        if ((n + m : Nat) : Int) > IntKind.i64.max ∧ (false = true ∨ (← typeInfo e).bytes = 0) then runtimePanic (.error "growslice: len out of range")
        if Builtin.nextslicecap (n + m) cap * (← typeInfo e).bytes > 2 ^ 48 then (if false then runtimePanic (.error "growslice: len out of range") else do
          if !(← Builtin.mayShare sz n m base x) then mark .noRoom
          unsupported (.resourceLimit "append: a slice or a string whose bytes no memory bears"))
        let newCap ← choose (.appendCap (n + m) cap e)
        askRoom (newCap * (← typeInfo e).bytes)
        let old ← Builtin.firstCells sz n v
        let new ← Builtin.firstCells sz m x
        let rest := Builtin.zeroCells (← zeroValue e).cells (newCap - (n + m))
        pure (Value.slice (some (← newRow e (old ++ new ++ rest))) (n + m) newCap)) (join Hs) (fun v' H' => ∃ Hj', H' = join (Hs.set j Hj') ∧ Disj (Hs.set j Hj') ∧ OwnS e sz v' (n + m) (xs ++ news) Hj') := by
    intro base cap hcap hv hold
    refine sem_typeInfo hi ?_
    have hn1 : ¬ (((n + m : Nat) : Int) > IntKind.i64.max ∧ (false = true ∨ ti.bytes = 0)) := by
      intro h; have := h.1; unfold maxLen at h63
      simp [IntKind.max, IntKind.signed, IntKind.bits] at this; omega
    rw [if_neg hn1]
    refine sem_typeInfo hi ?_
    have hn2 : ¬ (Builtin.nextslicecap (n + m) cap * ti.bytes > 2 ^ 48) := by
      rw [hby]
      exact Nat.not_lt.2 (growslice_fits hcap h47)
    rw [if_neg hn2]
    refine (SemH_bind (choose _) _).2 ?_
    intro newCap hcan
    have hge : n + m ≤ newCap ∧ newCap ≤ maxLen := by
      simp only [can, Question.forced, Bool.false_eq_true, if_false] at hcan
      obtain ⟨tt, rfl⟩ := hcan
      simp only [Question.cut]
      unfold maxLen at h63 ⊢
      have hlt := Nat.mod_lt tt (show 0 < 2 ^ 63 - (n + m) by omega)
      omega
    show SemH P (typeInfo e >>= _) _ _
    refine sem_typeInfo hi ?_
    have hask : ∀ (k : Unit → Sem Value) K', SemH P (k ()) (join Hs) K' → SemH P (askRoom (newCap * ti.bytes) >>= k) (join Hs) K' := by
      intro k K' hk
      unfold askRoom
      split <;> exact hk
    refine hask _ _ ?_
    refine sem_quiet hold ?_
    refine sem_quiet s2 ?_
    refine sem_quiet (q_zeroValue hi hz) ?_
    intro b hb
    obtain ⟨e1, e2⟩ := join_set_new hd (o := .cells (xs.toArray ++ news.toArray ++ Builtin.zeroCells z.cells (newCap - (n + m))) e) hj hb
    refine ⟨_, e1.symm, e2, hlen, .inr ⟨b, 0, newCap, _, (0, 0), rfl, Hp.set_self, okF.z, hge.1, hge.2, ?_, ?_⟩⟩
    · have hzc : (Builtin.zeroCells z.cells (newCap - (n + m))).size = (newCap - (n + m)) * sz := by simp [Builtin.zeroCells, hzs]
      simp only [Array.size_append, List.size_toArray, hzc, o1, s3, ← Nat.add_mul]
      have : n + m + (newCap - (n + m)) = newCap := by omega
      rw [this]; omega
    · simp only [Array.toList_append, List.drop_zero]
      rw [← hlen]; exact List.take_left
  rcases ht2 with ht2 | ⟨e2, ht2⟩
  all_goals
    unfold Builtin.append_
    show SemH P (underlying t >>= _) _ _
    refine sem_underlying ht ?_
    rcases o2 with ⟨rfl, rfl⟩ | ⟨b, off, cap, c, fr, rfl, hb, hok, hnc, hcm, hcs, htake⟩
    · have hxs : xs = [] := List.eq_nil_of_length_eq_zero (by simpa using o1)
      subst hxs
      refine sem_sizeOf hsize ?_
      refine sem_underlying ht2 ?_
      refine sem_quiet (a := false) rfl ?_
      refine sem_quiet s1 ?_
      show SemH P (if 0 + m ≤ 0 then _ else _) _ _
      by_cases hm : m = 0
      · subst hm
        have hnn : news = [] := List.eq_nil_of_length_eq_zero (by simpa using s3)
        subst hnn
        rw [if_pos (by omega)]
        refine sem_quiet s2 ?_
        refine ⟨Hj, ?_, ?_, hlen, .inl ⟨rfl, rfl⟩⟩
        · congr 1; exact (List.set_getElem?_self' hj).symm
        · rw [List.set_getElem?_self' hj]; exact hd
      · rw [if_neg (by omega)]
        exact grow none 0 (by omega) rfl rfl
    · refine sem_sizeOf hsize ?_
      refine sem_underlying ht2 ?_
      refine sem_quiet (a := false) rfl ?_
      refine sem_quiet s1 ?_
      show SemH P (if n + m ≤ cap then _ else _) _ _
      by_cases hroom : n + m ≤ cap
      · rw [if_pos hroom]
        refine sem_quiet s2 ?_
        refine (SemH_bind _ _).2 ?_
        show SemH P (storeCells ((⟨b, off, none⟩ : Addr).add (n * sz)) news 0) _ _
        rw [add_cell]
        have hfit : off + n * sz + news.length ≤ c.size := by
          rw [s3, Nat.add_assoc, ← Nat.add_mul]
          exact Nat.le_trans (Nat.add_le_add_left (Nat.mul_le_mul_right sz hroom) off) hcs
        have hJ := join_get hd hj hb
        refine sem_storeCellsF news 0 hJ hok (by omega) s4 fun H' hH' => ?_
        obtain ⟨e1, e2⟩ := join_set hd (o' := .cells (setL c (off + n * sz + 0) news) e fr) hj hb
        refine ⟨_, by rw [hH', e1], e2, hlen, .inr ⟨b, off, cap, _, fr, rfl, Hp.set_self, by rw [setL_size]; exact hok, hroom, hcm, by rw [setL_size]; exact hcs, ?_⟩⟩
        rw [setL_toList (by omega), Nat.add_zero]
        have hl1 : (c.toList.take (off + n * sz)).drop off = xs := by
          rw [← htake, List.drop_take]; congr 1; omega
        have hlo : off ≤ (c.toList.take (off + n * sz)).length := by simp; omega
        rw [List.append_assoc, List.drop_append_of_le_length hlo, hl1, ← List.append_assoc, ← hlen]
        exact List.take_left
      · rw [if_neg hroom]
        refine grow (some ⟨b, off, none⟩) cap (by omega) rfl ?_
        show quiet P (join Hs) (loadCells ⟨b, off, none⟩ (n * sz)) = _
        unfold loadCells
        have : n * sz ≤ cap * sz := Nat.mul_le_mul_right sz hnc
        rw [q_loadCells (join_get hd hj hb) off (n * sz) 0 #[] (by omega)]
        congr 1
        apply Array.ext'
        simp only [Nat.add_zero, Array.toList_append, Array.toList_extract, List.nil_append]
        rw [List.extract_eq_take_drop, ← htake]
        congr 1
        omega


end
end Go.Proofs.YtedkoebbijpnfaaGreatDoor.TH

/- The walk over code, from pieces. -/
namespace Go.Proofs.YtedkoebbijpnfaaGreatDoor.TH
open Go

/-- What a piecewise end says. -/
def PQ (R : Value → List Hp → Prop) (v : Value) (H : Hp) : Prop := ∃ Hs tl, H = join (Hs ++ tl) ∧ Disj (Hs ++ tl) ∧ R v Hs

theorem join_le {A B : List Hp} : (join A).Le (join (A ++ B)) := fun b o hb => by rw [join_append]; simp [join, hb]

section
variable {P : Program} {N : Nat} {Q : Exit → Env → Hp → Prop} {env : Env} {Hs : List Hp}

theorem CallL.enter {f : FuncId} {fn : Func} {c : Code} {args : List Value} {rs : List ResultVar} {R : Value → List Hp → Prop} (hf : P.funcs[f]? = some fn) (hn : fn.ntmps = N) (hb : fn.body = some c) (hr : fn.results = rs.toArray)
    (hsz : Nat.ble args.length N = true) (h : EL P N c (RetQ P rs (PQ R)) (env0 args) Hs) : CallL P f args Hs R := fun hd =>
  (CallH_enter hf hn hb hr hsz (h hd)).drop fun v H' ⟨Hs', tl, e, hd', hR⟩ => ⟨join Hs', by rw [e]; exact join_le, Hs', rfl, (disj_append.1 hd').1, hR⟩

theorem EL.skip (h : Disj Hs → Q .normal env (join Hs)) : EL P N .skip Q env Hs := fun hd => E_skip (h hd)
theorem EL.label {n : Nat} (h : Disj Hs → Q .normal env (join Hs)) : EL P N (.label n) Q env Hs := fun hd => E_label (h hd)
theorem EL.exit {i : Nat} (h : Disj Hs → Q (.exit i) env (join Hs)) : EL P N (.exit i) Q env Hs := fun hd => E_exit (h hd)
theorem EL.ret (h : Disj Hs → Q .ret env (join Hs)) : EL P N .ret Q env Hs := fun hd => E_ret (h hd)
theorem EL.seq {x y : Code} (h : EL P N x (thenQ (E P N y Q) Q) env Hs) : EL P N (.seq x y) Q env Hs := fun hd => E_seq (h hd)
theorem EL.cond {c : Operand} {x y : Code} {t : Bool} (hc : ev env c = .bool t) (h1 : t = true → EL P N x Q env Hs) (h2 : t = false → EL P N y Q env Hs) : EL P N (.cond c x y) Q env Hs := fun hd => E_cond hc (fun e => h1 e hd) (fun e => h2 e hd)
theorem EL.yes {c : Operand} {x y : Code} (hc : ev env c = .bool true) (h : EL P N x Q env Hs) : EL P N (.cond c x y) Q env Hs := fun hd => E_true hc (h hd)
theorem EL.no {c : Operand} {x y : Code} (hc : ev env c = .bool false) (h : EL P N y Q env Hs) : EL P N (.cond c x y) Q env Hs := fun hd => E_false hc (h hd)
theorem EL.block {id : Nat} {c : Code} (h : EL P N c (blockQ id Q) env Hs) : EL P N (.block id c) Q env Hs := fun hd => E_block (h hd)
theorem EL.region {id : Nat} {l : List Oper} (plan : Stp) (hok : (decide (plan.idxs = List.range l.length) && dstOK l N) = true) (h : EPL P l plan (Q .normal) env Hs) : EL P N (.region id l.toArray false) Q env Hs := fun hd => E_region plan hok (h hd)
theorem EL.draw {id : Nat} {l : List Oper} (plan : Stp) (X L : List Nat) (hm : P.follows .mixedOrders = true)
    (hok : (Region.noSelect l.toArray && decide (lenP plan = l.toArray.size) && planOK l.toArray X L N [] plan (Array.replicate l.toArray.size false) && dstOK l N) = true) (h : EPL P l plan (Q .normal) env Hs) : EL P N (.region id l.toArray true) Q env Hs := fun hd => E_draw plan X L hm hok (h hd)
theorem EL.perm {c : Code} {Hs' : List Hp} (hp : Hs.Perm Hs') (h : EL P N c Q env Hs') : EL P N c Q env Hs := fun hd => by
  rw [join_perm hp hd]; exact h (disj_perm hp hd)

/-- The end of a function. -/
theorem end_ret {rs : List ResultVar} {R : Value → List Hp → Prop} {vs : List Value} (hv : Disj Hs → resL P (join Hs) env rs = some vs) (h : Disj Hs → R (retV vs) Hs) : Disj Hs → RetQ P rs (PQ R) .ret env (join Hs) :=
  fun hd => ⟨vs, hv hd, Hs, [], by simp, by simpa using hd, h hd⟩
theorem end_normal {rs : List ResultVar} {R : Value → List Hp → Prop} {vs : List Value} (hv : Disj Hs → resL P (join Hs) env rs = some vs) (h : Disj Hs → R (retV vs) Hs) : Disj Hs → RetQ P rs (PQ R) .normal env (join Hs) :=
  fun hd => ⟨vs, hv hd, Hs, [], by simp, by simpa using hd, h hd⟩

def mix (W : List Nat) (e0 e : Env) : Env := fun t => bif W.elem t then e t else e0 t
def upds (e : Env) : List (Nat × Value) → Env
  | [] => e
  | (d, v) :: l => upd (upds e l) d v

/-- Outside these slots the frame is as it was. -/
def Off (W : List Nat) (e0 e : Env) : Prop := ∀ t, W.elem t = false → e t = e0 t
theorem Off.refl {W : List Nat} {e : Env} : Off W e e := fun _ _ => rfl
theorem Off.upd {W : List Nat} {e0 e : Env} {d : Nat} {v : Value} (hd : W.elem d = true) (h : Off W e0 e) : Off W e0 (upd e d v) := fun t ht => by
  have : Nat.beq t d = false := by
    cases hb : Nat.beq t d with
    | false => rfl
    | true => rw [Nat.eq_of_beq_eq_true hb, hd] at ht; cases ht
  simp only [Go.Proofs.YtedkoebbijpnfaaGreatDoor.TH.upd, this, cond_false]
  exact h t ht
theorem Off.put {W : List Nat} {e0 e : Env} {d : Nat} {v : Value} (hd : W.elem d = true) (h : Off W e0 e) : Off W e0 (putE e (some d) v) := Off.upd hd h
theorem Off.put0 {W : List Nat} {e0 e : Env} {v : Value} (h : Off W e0 e) : Off W e0 (putE e none v) := h
theorem Off.mix {W : List Nat} {e0 e : Env} : Off W e0 (mix W e0 e) := fun t ht => by simp only [Go.Proofs.YtedkoebbijpnfaaGreatDoor.TH.mix, ht, cond_false]
theorem Off.mixs {W W2 : List Nat} {e0 e j : Env} (hs : W2.all (W.elem ·) = true) (h : Off W e0 e) : Off W e0 (Go.Proofs.YtedkoebbijpnfaaGreatDoor.TH.mix W2 e j) := fun t ht => by
  have : W2.elem t = false := by
    cases hb : W2.elem t with
    | false => rfl
    | true =>
      have := List.all_eq_true.1 hs t (by simpa using hb)
      rw [ht] at this; cases this
  simp only [Go.Proofs.YtedkoebbijpnfaaGreatDoor.TH.mix, this, cond_false]
  exact h t ht
theorem Off.upds {W : List Nat} {e0 e : Env} {l : List (Nat × Value)} (hs : l.all (fun p => W.elem p.1) = true) (h : Off W e0 e) : Off W e0 (upds e l) := by
  induction l with
  | nil => exact h
  | cons p l ih =>
    simp only [List.all_cons, Bool.and_eq_true] at hs
    exact Off.upd hs.1 (ih hs.2)

theorem Off.eq {W : List Nat} {e0 e : Env} (h : Off W e0 e) : Go.Proofs.YtedkoebbijpnfaaGreatDoor.TH.mix W e0 e = e := by
  funext t
  simp only [Go.Proofs.YtedkoebbijpnfaaGreatDoor.TH.mix]
  cases hb : W.elem t with
  | true => rfl
  | false => exact (h t hb).symm

theorem upd_same {e : Env} {d : Nat} {v : Value} (h : e d = v) : upd e d v = e := by
  funext t
  simp only [upd]
  cases hb : Nat.beq t d with
  | false => rfl
  | true => rw [Nat.eq_of_beq_eq_true hb, h]; rfl
theorem upds_same {e : Env} : ∀ {l : List (Nat × Value)}, (∀ p ∈ l, e p.1 = p.2) → upds e l = e
  | [], _ => rfl
  | (d, v) :: l, h => by
    have : upds e l = e := upds_same fun p hp => h p (List.mem_cons_of_mem _ hp)
    simp only [upds, this]
    exact upd_same (h (d, v) List.mem_cons_self)

/-- Slots that hold values. -/
def Slots : Env → List (Nat × Value) → Prop
  | _, [] => True
  | e, (d, v) :: l => e d = v ∧ Slots e l
theorem Slots.all {e : Env} : ∀ {l : List (Nat × Value)}, Slots e l → ∀ p ∈ l, e p.1 = p.2
  | [], _, _, hp => by cases hp
  | (d, v) :: l, h, p, hp => by
    rcases List.mem_cons.1 hp with rfl | hp
    · exact h.1
    · exact Slots.all h.2 p hp

/-- What holds at a round's end. -/
def RoundQ {σ : Type} (W : List Nat) (sl : σ → List (Nat × Value)) (J : Nat → σ → List Hp → Prop) (e0 : Env) (n : Nat) (env : Env) (H : Hp) : Prop :=
  ∃ m s Hs tl, m < n ∧ H = join (Hs ++ tl) ∧ Disj (Hs ++ tl) ∧ J m s Hs ∧ Off W e0 env ∧ Slots env (sl s)

theorem RoundQ.mk {σ : Type} {W : List Nat} {sl : σ → List (Nat × Value)} {J : Nat → σ → List Hp → Prop} {e0 : Env} {n : Nat} (m : Nat) (s : σ) (hm : m < n) (hJ : J m s Hs) (ho : Off W e0 env) (hs : Slots env (sl s)) :
    Disj Hs → RoundQ W sl J e0 n env (join Hs) := fun hd => ⟨m, s, Hs, [], hm, by simp, by simpa using hd, hJ, ho, hs⟩

theorem EL.loop {c : Code} {σ : Type} (W : List Nat) (sl : σ → List (Nat × Value)) (J : Nat → σ → List Hp → Prop) (n : Nat) (s : σ) (h0 : J n s Hs) (hs : Slots env (sl s))
    (round : ∀ n s Hs j, J n s Hs → EL P N c (thenQ (RoundQ W sl J env n) Q) (upds (Go.Proofs.YtedkoebbijpnfaaGreatDoor.TH.mix W env j) (sl s)) Hs) : EL P N (.loop c) Q env Hs := by
  intro hd
  refine E_loop (fun n env' H' => ∃ s Hs tl, H' = join (Hs ++ tl) ∧ Disj (Hs ++ tl) ∧ J n s Hs ∧ Off W env env' ∧ Slots env' (sl s)) (n := n) ⟨s, Hs, [], by simp, by simpa using hd, h0, Off.refl, hs⟩ ?_
  rintro n env' H' ⟨s, Hs, tl, rfl, hd, hJ, ho, hsl⟩
  refine E_drop join_le ?_
  replace hd := (disj_append.1 hd).1
  have he : upds (Go.Proofs.YtedkoebbijpnfaaGreatDoor.TH.mix W env env') (sl s) = env' := by
    rw [ho.eq]; exact upds_same hsl.all
  have := round n s Hs env' hJ hd
  rw [he] at this
  refine E_mono this fun e env2 H2 hq => ?_
  cases e with
  | normal =>
    obtain ⟨m, s', Hs', tl', hm, rfl, hd', hJ', ho', hs'⟩ := hq
    exact ⟨m, hm, s', Hs', tl', rfl, hd', hJ', ho', hs'⟩
  | _ => exact hq

end

section
variable {P : Program} {N : Nat} {Q : Exit → Env → Hp → Prop} {env : Env} {Hs : List Hp}
/-- Where ways meet: what holds there is told. -/
theorem EL.mid {x y : Code} {σ : Type} (W : List Nat) (sl : σ → List (Nat × Value)) (J : σ → List Hp → Prop) (h1 : EL P N x (thenQ (RoundQ W sl (fun _ => J) env 1) Q) env Hs)
    (h2 : ∀ s Hs' j, J s Hs' → EL P N y Q (upds (Go.Proofs.YtedkoebbijpnfaaGreatDoor.TH.mix W env j) (sl s)) Hs') : EL P N (.seq x y) Q env Hs := fun hd => by
  refine E_seq (E_mono (h1 hd) fun e env2 H2 hq => ?_)
  cases e with
  | normal =>
    obtain ⟨m, s, Hs', tl, _, rfl, hd', hJ, ho, hs⟩ := hq
    refine E_drop join_le ?_
    have := h2 s Hs' env2 hJ (disj_append.1 hd').1
    have he : upds (Go.Proofs.YtedkoebbijpnfaaGreatDoor.TH.mix W env env2) (sl s) = env2 := by rw [ho.eq]; exact upds_same hs.all
    rw [he] at this
    exact this
  | _ => exact hq
end

section
variable {P : Program} {ol : List Oper} {rest : Stp} {K : Env → Hp → Prop} {env : Env} {Hs : List Hp} {i : Nat} {held : List Nat} {d : Option Nat} {ty : TypeId} {pos : String} {af : Array Edge} {g : Option (Nat × Bool)}

/-- What is known of an element type: its cells, its bytes, its zero. -/
def ElemT (P : Program) (e : TypeId) (sz bytes : Nat) (z : Value) : Prop := ∃ ti, P.info? e = some ti ∧ ti.zero = some z ∧ ti.size = sz ∧ ti.bytes = bytes ∧ z.cells.size = sz

theorem ElemT.of {P : Program} {e : TypeId} {sz bytes : Nat} {z : Value} (h : (P.info? e).map (fun i => (i.zero, i.size, i.bytes)) = some (some z, sz, bytes)) (hz : z.cells.size = sz) : ElemT P e sz bytes z := by
  obtain ⟨ti, h1, h2⟩ := Option.map_eq_some_iff.1 h
  simp only [Prod.mk.injEq] at h2
  exact ⟨ti, h1, h2.1, h2.2.1, h2.2.2, hz⟩

theorem EPL.append {t t2 e : TypeId} {x y : Operand} {sz bytes n m : Nat} {z : Value} {xs news : List Value} (j : Nat) {Hj : Hp} (ho : nth ol i = some ⟨d, .call ⟨.builtin .append, #[x, y], #[t, t2]⟩, ty, pos, af, g⟩) (hw : wantE ol env ⟨d, .call ⟨.builtin .append, #[x, y], #[t, t2]⟩, ty, pos, af, g⟩ = true)
    (ht : P.underlying t = some (.slice e)) (ht2 : P.underlying t2 = some .string ∨ ∃ e2, P.underlying t2 = some (.slice e2)) (hE : ElemT P e sz bytes z)
    (hj : Hs[j]? = some Hj) (hown : OwnS e sz (ev env x) n xs Hj) (hsrc : Disj Hs → Src P (join Hs) sz (ev env y) m news) (h63 : n + m ≤ maxLen) (h47 : (n + m) * bytes ≤ 140737488355328)
    (h : ∀ v' Hj', OwnS e sz v' (n + m) (xs ++ news) Hj' → HeldL P ol held (putE env d v') (Hs.set j Hj') ∧ EPL P ol rest K (putE env d v') (Hs.set j Hj')) : EPL P ol (.x i held rest) K env Hs := by
  refine EPL.x ho hw fun hd => ?_
  obtain ⟨ti, hi, hz, hs, hby, hzs⟩ := hE
  unfold EO
  show SemH P (Builtin.append_ #[t, t2] ty (Array.map (ev env) #[x, y]) >>= fun v => pure (Next.value v)) _ _
  rw [Go.Proofs.YtedkoebbijpnfaaGreatDoor.TH.map2]
  refine (SemH_bind _ _).2 (SemH_mono _ ?_ (sem_append ht ht2 hi hz hs hby hzs hd hj hown (hsrc hd) h63 h47))
  rintro v' H' ⟨Hj', e1, e2, e3⟩
  exact ⟨_, e1, e2, h v' Hj' e3⟩

end
end Go.Proofs.YtedkoebbijpnfaaGreatDoor.TH
