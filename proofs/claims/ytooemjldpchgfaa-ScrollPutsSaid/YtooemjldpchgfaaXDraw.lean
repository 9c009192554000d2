/- A region that draws its order: one walk in a fixed order serves, where what is read ahead of an effect reads the same behind it. -/
import Derived.Test.YtooemjldpchgfaaXSem
import Derived.Orders
namespace Go.Proofs.Ytooemjldpchgfaa.TH
open Go

/-- A step of a plan: an operation that hangs on no memory; one that reads; one that does something, and what was read ahead of it that may as well be read behind it. -/
inductive Stp where
  | p (i : Nat)
  | l (i : Nat)
  | x (i : Nat) (held : List Nat)

/-- Must operation i come ahead of operation j? -/
def reach (ops : Array Oper) : Nat → Nat → Nat → Bool
  | 0, _, _ => false
  | n + 1, j, i => match ops[j]? with
    | none => false
    | some o => o.after.any fun e => Region.binds .any e && (e.on == i || reach ops n e.on i)

def down (ops : Array Oper) (listed : Array Bool) : Prop :=
  ∀ j o, ops[j]? = some o → listed.getD j false = true → ∀ e ∈ o.after, Region.binds .any e = true → listed.getD e.on false = true

theorem reach_listed {ops : Array Oper} {listed : Array Bool} (hd : down ops listed) : ∀ (n j i : Nat), reach ops n j i = true → listed.getD j false = true → listed.getD i false = true := by
  intro n
  induction n with
  | zero => intro j i h; simp [reach] at h
  | succ n ih =>
    intro j i h hj
    simp only [reach] at h
    cases ho : ops[j]? with
    | none => simp [ho] at h
    | some o =>
      simp only [ho] at h
      obtain ⟨e, he, hb⟩ := Array.any_eq_true'.1 h
      simp only [Bool.and_eq_true, Bool.or_eq_true, beq_iff_eq] at hb
      have h1 := hd j o ho hj e he hb.1
      rcases hb.2 with h2 | h2
      · rw [← h2]; exact h1
      · exact ih _ _ h2 h1

theorem down_set {ops : Array Oper} {listed : Array Bool} {j : Nat} (hd : down ops listed) (hj : j ∈ Region.ready .any ops listed) : down ops (listed.setIfInBounds j true) := by
  intro k o ho hk e he hb
  by_cases hkj : j = k
  · subst hkj
    obtain ⟨_, o', ho', hall⟩ := mem_ready.1 hj
    rw [ho] at ho'; cases ho'
    exact getD_set_true (hall e he hb)
  · rw [getD_set_ne false hkj] at hk
    exact getD_set_true (hd k o ho hk e he hb)

section
variable (P : Program) (ops : Array Oper) (Q : Exit → Act → World → Prop) (X L : List Nat) (N : Nat)

def YieldsAt (o : Oper) (v : Value) (a : Act) (w : World) : Prop :=
  (Region.wanted o (yielded ops a.tmps) = true ∧ (execOp a.eval o).run P w = .ok (.value v) w) ∨ (Region.wanted o (yielded ops a.tmps) = false ∧ v = undef)

/-- What was read, and may be read yet, reads as it did. -/
def Held (listed : Array Bool) (a : Act) (w : World) : Prop :=
  ∀ i ∈ L, listed.getD i false = true → (∀ x ∈ X, listed.getD x false = true → reach ops ops.size x i = false) →
    ∀ o, ops[i]? = some o → ∃ d, o.dst = some d ∧ YieldsAt P ops o (a.tmps.getD d undef) a w

def Inv (listed : Array Bool) (a : Act) (w : World) : Prop := a.tmps.size = N ∧ Held P ops X L listed a w

def wpAnyI : Nat → Array Bool → Act → World → Prop
  | 0, listed, a, w => Inv P ops X L N listed a w ∧ Region.ready .any ops listed = [] ∧ Q .normal a w
  | fuel + 1, listed, a, w => Inv P ops X L N listed a w ∧ (Region.ready .any ops listed = [] → Q .normal a w) ∧
    ∀ i ∈ Region.ready .any ops listed, wpOp P ops Q i (wpAnyI fuel (listed.setIfInBounds i true)) a w
end

section
variable {P : Program} {ops : Array Oper} {Q : Exit → Act → World → Prop} {X L : List Nat} {N : Nat}

theorem wpAnyI.inv : ∀ {fuel : Nat} {listed : Array Bool} {a : Act} {w : World}, wpAnyI P ops Q X L N fuel listed a w → Inv P ops X L N listed a w
  | 0, _, _, _, h => h.1
  | _ + 1, _, _, _, h => h.1

theorem wpAny_of_I : ∀ (fuel : Nat) (listed : Array Bool) (a : Act) (w : World), wpAnyI P ops Q X L N fuel listed a w → wpAny P .any ops Q fuel listed a w
  | 0, _, _, _, h => h.2
  | fuel + 1, _, _, _, h => ⟨h.2.1, fun i hi => wpOp_mono (fun a' w' h' => wpAny_of_I fuel _ a' w' h') (h.2.2 i hi)⟩

theorem wpOp_comm {j : Nat} {oi oj : Oper} {v : Value} (hj : ops[j]? = some oj) (hap : oi.apart ops oj = true)
    (hsj : ∀ cs b, oj.op ≠ .select cs b) (hQ : ∀ c a w, Q (.panic c) a w → False) {K : Act → World → Prop} {a : Act} {w : World}
    (h : wpOp P ops Q j K (a.put oi.dst v) w) : wpOp P ops Q j (fun a' w' => K (a'.put oi.dst v) w') a w := by
  obtain ⟨h1, h2, _⟩ := Oper.apart_spec hap
  unfold wpOp at *
  simp only [hj] at *
  rw [wanted_put oj a oi.dst v h1] at h
  split
  · rename_i hw
    simp only [hw, if_true] at h
    rcases h with h | ⟨hasks, hlets⟩
    case inr => exact .inr ⟨by unfold Oper.asks at *; rw [execOp_put oj hsj a oi.dst v h1] at hasks; exact hasks, hlets⟩
    refine .inl ?_
    unfold Oper.wp at *
    rw [execOp_put oj hsj a oi.dst v h1] at h
    generalize (execOp a.eval oj).run P w = r at *
    cases r with
    | ok n w' =>
      cases n <;> simp only [Oper.upon] at h ⊢
      case value u => rw [← Act.put_comm a v u h2]; exact h
      case skip => rw [← Act.put_comm a v undef h2]; exact h
      case defer d => rw [← Act.put_comm _ v undef h2, ← Act.put_defers]; exact h
      case enter f args =>
        refine Calls.mono h fun e w'' he => ?_
        cases e with
        | returned u => show K _ _; rw [← Act.put_comm a v u h2]; exact he
        | panicked c => exact (hQ _ _ _ he).elim
        | outgrown => exact he
      case row row args => exact Rows.mono h fun u w'' he => by rw [← Act.put_comm a v u h2]; exact he
    | halt x w' =>
      cases x <;> simp only [Oper.upon] at h ⊢
      case panic u => exact (hQ _ _ _ h).elim
  · rename_i hw
    simp only [hw] at h
    rw [← Act.put_comm a v undef h2]; exact h

theorem YieldsAt.wpOp {i : Nat} {o : Oper} {v : Value} {a : Act} {w : World} (hi : ops[i]? = some o) (hy : YieldsAt P ops o v a w)
    {K : Act → World → Prop} (h : K (a.put o.dst v) w) : wpOp P ops Q i K a w := by
  unfold Go.wpOp
  simp only [hi]
  rcases hy with ⟨hw, hv⟩ | ⟨hw, rfl⟩
  · simp only [hw, if_true, Oper.wp, hv, Oper.upon]; exact .inl h
  · simp only [hw, Bool.false_eq_true, if_false]; exact h

theorem YieldsAt.same {o : Oper} {v : Value} {a a' : Act} {w : World} (hy : YieldsAt P ops o v a w) (he : execOp a'.eval o = execOp a.eval o)
    (hw : Region.wanted o (yielded ops a'.tmps) = Region.wanted o (yielded ops a.tmps)) : YieldsAt P ops o v a' w := by
  unfold YieldsAt at *
  rw [he, hw]
  exact hy

theorem getD_put_self {a : Act} {d : Nat} {v : Value} (h : d < a.tmps.size) : (a.put (some d) v).tmps.getD d undef = v := by
  simp [Act.put, h]

theorem getD_put_ne {a : Act} {d t : Nat} {v : Value} (h : d ≠ t) : (a.put (some d) v).tmps.getD t undef = a.tmps.getD t undef := by
  simp [Act.put, Array.getElem?_setIfInBounds_ne h]

theorem size_put {a : Act} {d : Option Tmp} {v : Value} : (a.put d v).tmps.size = a.tmps.size := by
  cases d <;> simp [Act.put]

/-- Operation i may be taken first. -/
structure Takes (ops : Array Oper) (X L : List Nat) (N : Nat) (i : Nat) (oi : Oper) (d : Nat) : Prop where
  at_ : ops[i]? = some oi
  dst : oi.dst = some d
  lt : d < N
  self : d ∉ oi.looksAt ops
  notX : i ∉ X
  sel : ∀ (j : Nat) (o : Oper) cs b, ops[j]? = some o → o.op ≠ .select cs b
  loads : ∀ i' ∈ L, i' ≠ i → ∀ o', ops[i']? = some o' → (d ∉ o'.looksAt ops ∧ o'.dst ≠ some d) ∨ reach ops ops.size i' i = true

theorem takeI {i : Nat} {oi : Oper} {d : Nat} {v : Value} (T : Takes ops X L N i oi d) (hQ : ∀ c a w, Q (.panic c) a w → False) :
    ∀ (fuel : Nat) (listed : Array Bool) (a : Act) (w : World),
      (∀ j oj, ops[j]? = some oj → j ≠ i → listed.getD j true = false → (∀ e ∈ oj.after, Region.binds .any e = true → e.on ≠ i) → oi.apart ops oj = true) →
      i ∈ Region.ready .any ops listed → down ops listed → YieldsAt P ops oi v a w → (i ∈ L ∨ ∀ a' w', execOp a'.eval oi = execOp a.eval oi → Region.wanted oi (yielded ops a'.tmps) = Region.wanted oi (yielded ops a.tmps) → YieldsAt P ops oi v a' w') →
      Inv P ops X L N listed a w →
      wpAnyI P ops Q X L N fuel (listed.setIfInBounds i true) (a.put oi.dst v) w → wpAnyI P ops Q X L N (fuel + 1) listed a w := by
  intro fuel
  induction fuel with
  | zero =>
    intro listed a w _ hr _ hy _ hI H
    refine ⟨hI, fun h => (by rw [h] at hr; cases hr), fun j hj => ?_⟩
    by_cases hji : j = i
    · subst hji; exact hy.wpOp T.at_ H
    · have := ready_mono hj hji
      rw [H.2.1] at this
      cases this
  | succ fuel ih =>
    intro listed a w hfree hr hdn hy hor hI H
    refine ⟨hI, fun h => (by rw [h] at hr; cases hr), fun j hj => ?_⟩
    by_cases hji : j = i
    · subst hji; exact hy.wpOp T.at_ H
    · have h1 := H.2.2 j (ready_mono hj hji)
      obtain ⟨hjun, oj, hoj, hall⟩ := mem_ready.1 hj
      have hiun := (mem_ready.1 hr).1
      have hiunf : listed.getD i false = false := by
        rcases Nat.lt_or_ge i listed.size with h' | h'
        · simp [h'] at hiun ⊢; exact hiun
        · simp [Array.getElem?_eq_none h']
      have hnot : ∀ e ∈ oj.after, Region.binds .any e = true → e.on ≠ i := fun e he hb heq => by
        have h1 := hall e he hb
        rw [heq, hiunf] at h1
        cases h1
      have hapart := hfree j oj hoj hji hjun hnot
      obtain ⟨ha1, ha2, ha3⟩ := Oper.apart_spec hapart
      have h2 := wpOp_comm hoj hapart (fun cs b => T.sel j oj cs b hoj) hQ h1
      have hfree' : ∀ k ok, ops[k]? = some ok → k ≠ i → (listed.setIfInBounds j true).getD k true = false →
          (∀ e ∈ ok.after, Region.binds .any e = true → e.on ≠ i) → oi.apart ops ok = true := fun k ok hk hki hun hno => by
        refine hfree k ok hk hki ?_ hno
        by_cases hjk : j = k
        · subst hjk; exact hjun
        · rw [getD_set_ne true hjk] at hun; exact hun
      have hdn' := down_set hdn hj
      have hiun' : (listed.setIfInBounds j true).getD i false = false := by rw [getD_set_ne false hji]; exact hiunf
      -- where operation j leaves a frame, its operands of i are as they were: told of the frame alone
      have hjput : wpOp P ops Q j (fun a' w' => (execOp a'.eval oi = execOp a.eval oi ∧ Region.wanted oi (yielded ops a'.tmps) = Region.wanted oi (yielded ops a.tmps)) ∧
          wpAnyI P ops Q X L N fuel ((listed.setIfInBounds i true).setIfInBounds j true) (a'.put oi.dst v) w') a w := by
        have keep : ∀ (u : Value), (execOp (a.put oj.dst u).eval oi = execOp a.eval oi ∧ Region.wanted oi (yielded ops (a.put oj.dst u).tmps) = Region.wanted oi (yielded ops a.tmps)) :=
          fun u => ⟨execOp_put oi (fun cs b => T.sel i oi cs b T.at_) a oj.dst u ha3, wanted_put oi a oj.dst u ha3⟩
        unfold wpOp at h2 ⊢
        simp only [hoj] at h2 ⊢
        split
        · rename_i hw
          simp only [hw, if_true] at h2
          rcases h2 with h2 | h2
          case inr => exact .inr h2
          refine .inl ?_
          unfold Oper.wp at h2 ⊢
          generalize (execOp a.eval oj).run P w = r at *
          cases r with
          | ok n w' =>
            cases n <;> simp only [Oper.upon] at h2 ⊢
            case value u => exact ⟨keep u, h2⟩
            case skip => exact ⟨keep _, h2⟩
            case defer dd =>
              refine ⟨?_, h2⟩
              have k1 := execOp_put oi (fun cs b => T.sel i oi cs b T.at_) { a with defers := dd :: a.defers } oj.dst undef ha3
              have k2 := wanted_put oi { a with defers := dd :: a.defers } oj.dst undef ha3
              exact ⟨k1.trans rfl, k2.trans rfl⟩
            case enter f args =>
              refine Calls.mono h2 fun e w'' he => ?_
              cases e with
              | returned u => exact ⟨keep u, he⟩
              | panicked c => exact he
              | outgrown => exact he
            case row row args => exact Rows.mono h2 fun u w'' he => ⟨keep u, he⟩
          | halt x w' => cases x <;> simp only [Oper.upon] at h2 ⊢ <;> exact h2
        · rename_i hw
          simp only [hw] at h2
          exact ⟨keep _, h2⟩
      refine wpOp_mono (fun a' w' h3 => ?_) hjput
      obtain ⟨⟨hex, hwa⟩, hG⟩ := h3
      have hInv := hG.inv
      have hsz : a'.tmps.size = N := by have := hInv.1; rwa [size_put] at this
      have hXj : ∀ x ∈ X, ((listed.setIfInBounds i true).setIfInBounds j true).getD x false = true → (listed.setIfInBounds j true).getD x false = true := fun x hx hl => by
        have hxi : i ≠ x := fun e => T.notX (e ▸ hx)
        rw [Array.setIfInBounds_comm _ _ (Ne.symm hji), getD_set_ne false hxi] at hl
        exact hl
      have hyi : YieldsAt P ops oi v a' w' := by
        rcases hor with hiL | hany
        · obtain ⟨d', hd', hyy⟩ := hInv.2 i hiL (by
            rw [getD_set_ne false hji]
            have hlt : i < listed.size := by
              rcases Nat.lt_or_ge i listed.size with h' | h'
              · exact h'
              · simp [Array.getElem?_eq_none h'] at hiun
            simp [hlt]) (fun x hx hl => by
            have hl2 := hXj x hx hl
            cases hre : reach ops ops.size x i with
            | false => rfl
            | true =>
              have := reach_listed hdn' _ _ _ hre hl2
              rw [hiun'] at this; cases this) oi T.at_
          rw [T.dst] at hd'; cases hd'
          rw [T.dst, getD_put_self (by rw [hsz]; exact T.lt)] at hyy
          exact hyy.same (execOp_put oi (fun cs b => T.sel i oi cs b T.at_) a' (some d) v (fun d' hd' => by cases hd'; exact T.self)).symm
            (wanted_put oi a' (some d) v (fun d' hd' => by cases hd'; exact T.self)).symm
        · exact hany a' w' hex hwa
      have hI' : Inv P ops X L N (listed.setIfInBounds j true) a' w' := by
        refine ⟨hsz, fun i' hi' hl hal o' ho' => ?_⟩
        have hne : i' ≠ i := fun e => by rw [e, hiun'] at hl; cases hl
        obtain ⟨d', hd', hyy⟩ := hInv.2 i' hi' (by rw [Array.setIfInBounds_comm _ _ (Ne.symm hji)]; exact getD_set_true hl) (fun x hx hlx => hal x hx (hXj x hx hlx)) o' ho'
        rcases T.loads i' hi' hne o' ho' with ⟨hl1, hl2⟩ | hre
        · refine ⟨d', hd', ?_⟩
          have hdd : d ≠ d' := fun e => hl2 (by rw [hd', e])
          rw [T.dst, getD_put_ne hdd] at hyy
          exact hyy.same (execOp_put o' (fun cs b => T.sel i' o' cs b ho') a' (some d) v (fun d' hd' => by cases hd'; exact hl1)).symm
            (wanted_put o' a' (some d) v (fun d' hd' => by cases hd'; exact hl1)).symm
        · have := reach_listed hdn' _ _ _ hre hl
          rw [hiun'] at this; cases this
      refine ih (listed.setIfInBounds j true) a' w' hfree' (ready_mono hr (Ne.symm hji)) hdn' hyi ?_ hI' ?_
      · rcases hor with h | h
        · exact .inl h
        · exact .inr fun a2 w2 e1 e2 => h a2 w2 (e1.trans hex) (e2.trans hwa)
      · rw [Array.setIfInBounds_comm _ _ hji]; exact hG

/-- The plan's own walk. -/
def wpPlan (P : Program) (ops : Array Oper) (Q : Exit → Act → World → Prop) (N : Nat) : List Stp → Act → World → Prop
  | [], a, w => Q .normal a w
  | .p i :: rest, a, w => ∃ o v, ops[i]? = some o ∧ (∀ w', YieldsAt P ops o v a w') ∧ wpPlan P ops Q N rest (a.put o.dst v) w
  | .l i :: rest, a, w => ∃ o v, ops[i]? = some o ∧ YieldsAt P ops o v a w ∧ wpPlan P ops Q N rest (a.put o.dst v) w
  | .x i held :: rest, a, w => wpOp P ops Q i (fun a' w' => a'.tmps.size = N ∧ (∀ h ∈ held, ∀ o d, ops[h]? = some o → o.dst = some d → YieldsAt P ops o (a'.tmps.getD d undef) a' w') ∧ wpPlan P ops Q N rest a' w') a w

def takeOK (ops : Array Oper) (X L : List Nat) (N : Nat) (listed : Array Bool) (i : Nat) : Bool :=
  (Region.ready .any ops listed).contains i && Region.free .any ops listed i && !X.contains i &&
  match ops[i]? with
  | none => false
  | some oi => match oi.dst with
    | none => false
    | some d => decide (d < N) && !(oi.looksAt ops).contains d && L.all fun i' => i' == i || match ops[i']? with
        | none => true
        | some o' => (!(o'.looksAt ops).contains d && o'.dst != some d) || reach ops ops.size i' i

def heldOK (ops : Array Oper) (X L : List Nat) (listed : Array Bool) (x : Nat) (held : List Nat) : Bool :=
  L.all fun i => held.contains i || !listed.getD i false || X.any fun y => (listed.setIfInBounds x true).getD y false && reach ops ops.size y i

def planOK (ops : Array Oper) (X L : List Nat) (N : Nat) : List Stp → Array Bool → Bool
  | [], listed => (Region.ready .any ops listed).isEmpty
  | .p i :: rest, listed => takeOK ops X L N listed i && planOK ops X L N rest (listed.setIfInBounds i true)
  | .l i :: rest, listed => takeOK ops X L N listed i && L.contains i && planOK ops X L N rest (listed.setIfInBounds i true)
  | .x i held :: rest, listed => (Region.ready .any ops listed == [i]) && !L.contains i && L.all (fun k => match ops[k]? with | some o => o.dst.isSome | none => true) && heldOK ops X L listed i held && planOK ops X L N rest (listed.setIfInBounds i true)

theorem takes_of {listed : Array Bool} {i : Nat} (hs : Region.noSelect ops = true) (h : takeOK ops X L N listed i = true) :
    i ∈ Region.ready .any ops listed ∧ Region.free .any ops listed i = true ∧ ∃ oi d, Takes ops X L N i oi d := by
  simp only [takeOK, Bool.and_eq_true] at h
  obtain ⟨⟨⟨h1, h2⟩, h3⟩, h4⟩ := h
  refine ⟨by simpa using h1, h2, ?_⟩
  cases ho : ops[i]? with
  | none => simp [ho] at h4
  | some oi =>
    simp only [ho] at h4
    cases hd : oi.dst with
    | none => simp [hd] at h4
    | some d =>
      simp only [hd, Bool.and_eq_true, decide_eq_true_eq, List.all_eq_true] at h4
      refine ⟨oi, d, ho, hd, h4.1.1, by simpa using h4.1.2, by simpa using h3, Region.noSelect_spec hs, fun i' hi' hne o' ho' => ?_⟩
      have := h4.2 i' hi'
      simp only [ho', Bool.or_eq_true, beq_iff_eq, hne, false_or] at this
      rcases this with h5 | h5
      · left; simpa using h5
      · right; exact h5

theorem held_step {listed : Array Bool} {a : Act} {w : World} {i : Nat} {oi : Oper} {d : Nat} {v : Value} (T : Takes ops X L N i oi d) (hr : i ∈ Region.ready .any ops listed) (hdn : down ops listed)
    (hI : Inv P ops X L N listed a w) (hy : i ∈ L → YieldsAt P ops oi v a w) : Inv P ops X L N (listed.setIfInBounds i true) (a.put oi.dst v) w := by
  refine ⟨by rw [size_put]; exact hI.1, fun i' hi' hl hal o' ho' => ?_⟩
  have hiun := (mem_ready.1 hr).1
  have hiunf : listed.getD i false = false := by
    rcases Nat.lt_or_ge i listed.size with h' | h'
    · simp [h'] at hiun ⊢; exact hiun
    · simp [Array.getElem?_eq_none h']
  by_cases hii : i' = i
  · subst hii
    rw [T.at_] at ho'; cases ho'
    refine ⟨d, T.dst, ?_⟩
    rw [T.dst, getD_put_self (by rw [hI.1]; exact T.lt)]
    exact (hy hi').same (execOp_put oi (fun cs b => T.sel _ oi cs b T.at_) a (some d) v (fun d' hd' => by cases hd'; exact T.self))
      (wanted_put oi a (some d) v (fun d' hd' => by cases hd'; exact T.self))
  · rw [getD_set_ne false (Ne.symm hii)] at hl
    obtain ⟨d', hd', hyy⟩ := hI.2 i' hi' hl (fun x hx hlx => hal x hx (getD_set_true hlx)) o' ho'
    rcases T.loads i' hi' hii o' ho' with ⟨hl1, hl2⟩ | hre
    · refine ⟨d', hd', ?_⟩
      have hdd : d ≠ d' := fun e => hl2 (by rw [hd', e])
      rw [T.dst, getD_put_ne hdd]
      exact hyy.same (execOp_put o' (fun cs b => T.sel i' o' cs b ho') a (some d) v (fun d' hd' => by cases hd'; exact hl1))
        (wanted_put o' a (some d) v (fun d' hd' => by cases hd'; exact hl1))
    · have := reach_listed hdn _ _ _ hre hl
      rw [hiunf] at this; cases this

theorem plan_sound (hs : Region.noSelect ops = true) (hQ : ∀ c a w, Q (.panic c) a w → False) : ∀ (plan : List Stp) (fuel : Nat) (listed : Array Bool) (a : Act) (w : World),
    plan.length = fuel → planOK ops X L N plan listed = true → down ops listed → Inv P ops X L N listed a w → wpPlan P ops Q N plan a w → wpAnyI P ops Q X L N fuel listed a w := by
  intro plan
  induction plan with
  | nil =>
    intro fuel listed a w hf hok _ hI h
    subst hf
    exact ⟨hI, by simpa [planOK] using hok, h⟩
  | cons s rest ih =>
    intro fuel listed a w hf hok hdn hI h
    obtain ⟨f, rfl⟩ : ∃ f, fuel = f + 1 := ⟨rest.length, by simpa using hf.symm⟩
    have hf' : rest.length = f := by simpa using hf
    cases s with
    | p i =>
      simp only [planOK, Bool.and_eq_true] at hok
      obtain ⟨hr, hfree, oi, d, T⟩ := takes_of hs hok.1
      obtain ⟨o, v, ho, hy, hrest⟩ := h
      rw [T.at_] at ho; cases ho
      have hI' := held_step (v := v) T hr hdn hI (fun _ => hy w)
      refine takeI T hQ f listed a w (Region.free_spec T.at_ hfree) hr hdn (hy w) (.inr fun a' w' e1 e2 => (hy w').same e1 e2) hI ?_
      exact ih f _ _ _ hf' hok.2 (down_set hdn hr) hI' hrest
    | l i =>
      simp only [planOK, Bool.and_eq_true] at hok
      obtain ⟨hr, hfree, oi, d, T⟩ := takes_of hs hok.1.1
      obtain ⟨o, v, ho, hy, hrest⟩ := h
      rw [T.at_] at ho; cases ho
      have hI' := held_step (v := v) T hr hdn hI (fun _ => hy)
      refine takeI T hQ f listed a w (Region.free_spec T.at_ hfree) hr hdn hy (.inl (by simpa using hok.1.2)) hI ?_
      exact ih f _ _ _ hf' hok.2 (down_set hdn hr) hI' hrest
    | x i held =>
      simp only [planOK, Bool.and_eq_true, beq_iff_eq] at hok
      obtain ⟨⟨⟨⟨hr, hnl⟩, hdst⟩, hh⟩, hrest⟩ := hok
      have hmem : i ∈ Region.ready .any ops listed := by rw [hr]; simp
      refine ⟨hI, fun h0 => (by rw [h0] at hmem; cases hmem), fun j hj => ?_⟩
      rw [hr] at hj
      obtain rfl : j = i := by simpa using hj
      refine wpOp_mono (fun a' w' h3 => ?_) h
      obtain ⟨hsz, hheld, hp⟩ := h3
      refine ih f _ a' w' hf' hrest (down_set hdn hmem) ⟨hsz, fun k hk hl hal o ho => ?_⟩ hp
      have hkj : j ≠ k := fun e => by subst e; simp [hk] at hnl
      rw [getD_set_ne false hkj] at hl
      have hd1 := List.all_eq_true.1 hdst k hk
      simp only [ho] at hd1
      obtain ⟨d, hd⟩ := Option.isSome_iff_exists.1 hd1
      refine ⟨d, hd, hheld k ?_ o d ho hd⟩
      have h4 := List.all_eq_true.1 hh k hk
      simp only [Bool.or_eq_true, hl, Bool.not_true, Bool.false_eq_true, or_false] at h4
      rcases h4 with h4 | h4
      · simpa using h4
      · exfalso
        obtain ⟨y, hy, hyy⟩ := List.any_eq_true.1 h4
        simp only [Bool.and_eq_true] at hyy
        rw [hal y hy hyy.1] at hyy
        exact absurd hyy.2 (by simp)

theorem wp_region_plan {id : Nat} {a : Act} {w : World} (plan : List Stp) (X L : List Nat) (hm : P.follows .mixedOrders = true) (hQ : ∀ c a w, Q (.panic c) a w → False)
    (hok : (Region.noSelect ops && decide (plan.length = ops.size) && planOK ops X L N plan (Array.replicate ops.size false)) = true) (hN : a.tmps.size = N)
    (h : wpPlan P ops Q N plan a { w with drawn := w.drawn + 1 }) : (Code.region id ops true).wp P Q a w := by
  simp only [Bool.and_eq_true, decide_eq_true_eq] at hok
  refine wp_region_any hm (wpAny_of_I (X := X) (L := L) (N := N) _ _ _ _ ?_)
  refine plan_sound hok.1.1 hQ plan _ _ _ _ hok.1.2 hok.2 (fun j o _ hj => ?_) ⟨hN, fun i _ hl => ?_⟩ h
  · simp only [Array.getD_eq_getD_getElem?, Array.getElem?_replicate] at hj; split at hj <;> cases hj
  · simp only [Array.getD_eq_getD_getElem?, Array.getElem?_replicate] at hl; split at hl <;> cases hl

end
end Go.Proofs.Ytooemjldpchgfaa.TH
