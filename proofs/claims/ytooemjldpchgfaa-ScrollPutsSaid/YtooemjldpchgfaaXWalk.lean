/- The walk over a function's code, told of slots and of a part of the heap alone. -/
import Derived.Test.YtooemjldpchgfaaXDraw
namespace Go.Proofs.Ytooemjldpchgfaa.TH
open Go

abbrev Env := Nat → Value
def upd (env : Env) (d : Nat) (v : Value) : Env := fun t => bif Nat.beq t d then v else env t
def putE (env : Env) (d : Option Nat) (v : Value) : Env := match d with
  | some d => upd env d v
  | none => env
def ev (env : Env) : Operand → Value
  | .tmp t => env t
  | .const v => v
  | .global g => .pointer (some ⟨g, 0, none⟩)
  | .func f => .func (.func f) #[] #[]

structure Ag (N : Nat) (a : Act) (env : Env) : Prop where
  size : a.tmps.size = N
  defers : a.defers = []
  get : ∀ t, a.tmps.getD t undef = env t

theorem Ag.eval {N : Nat} {a : Act} {env : Env} (h : Ag N a env) : a.eval = ev env := by
  funext x
  cases x with
  | tmp t => exact h.get t
  | _ => rfl

theorem Ag.put {N : Nat} {a : Act} {env : Env} (h : Ag N a env) {d : Option Nat} (hd : ∀ t, d = some t → t < N) (v : Value) : Ag N (a.put d v) (putE env d v) := by
  cases d with
  | none => exact h
  | some d =>
    have hlt := hd d rfl
    refine ⟨by rw [size_put]; exact h.size, h.defers, fun t => ?_⟩
    by_cases ht : d = t
    · subst ht
      rw [getD_put_self (by rw [h.size]; exact hlt)]
      simp [putE, upd]
    · rw [getD_put_ne ht, h.get t]
      have : Nat.beq t d = false := by
        cases hb : Nat.beq t d with
        | false => rfl
        | true => exact absurd (Nat.eq_of_beq_eq_true hb).symm ht
      simp [putE, upd, this]

def nth : List Oper → Nat → Option Oper
  | [], _ => none
  | o :: _, 0 => some o
  | _ :: l, n + 1 => nth l n

theorem nth_eq : ∀ (l : List Oper) (i : Nat), nth l i = l.toArray[i]?
  | [], i => by simp [nth]
  | o :: l, 0 => by simp [nth]
  | o :: l, n + 1 => by
    have := nth_eq l n
    simp at this
    simp [nth, this]

/-- What the guard's operation answered. -/
def yE (l : List Oper) (env : Env) (j : Nat) : Option Bool :=
  match (nth l j).bind (·.dst) with
  | some t => match env t with
    | .bool b => some b
    | _ => none
  | none => none
def wantE (l : List Oper) (env : Env) (o : Oper) : Bool := Region.wanted o (yE l env)

theorem yielded_eq {l : List Oper} {N : Nat} {a : Act} {env : Env} (h : Ag N a env) (j : Nat) : yielded l.toArray a.tmps j = yE l env j := by
  unfold yielded yE
  rw [nth_eq]
  cases hd : (l.toArray[j]?).bind (·.dst) with
  | none => simp
  | some t =>
    have hg := h.get t
    simp only [Array.getD_eq_getD_getElem?] at hg
    simp only [Option.bind_some]
    cases ht : a.tmps[t]? with
    | none =>
      simp only [ht, Option.getD_none] at hg
      rw [← hg]; rfl
    | some v =>
      simp only [ht, Option.getD_some] at hg
      rw [← hg]
      cases v <;> rfl

theorem wanted_eq {l : List Oper} {N : Nat} {a : Act} {env : Env} (h : Ag N a env) (o : Oper) : Region.wanted o (yielded l.toArray a.tmps) = wantE l env o := by
  unfold wantE
  congr 1
  funext j
  exact yielded_eq h j

/-- A call, from a part of the heap. -/
def CallH (P : Program) (f : FuncId) (args : Array Value) (H : Hp) (R : Value → Hp → Prop) : Prop :=
  ∀ w, Sub H w → Calls P f args w fun e w' => ∃ v H', e = .returned v ∧ R v H' ∧ Ext H H' w w'

theorem CallH.mono {P : Program} {f : FuncId} {args : Array Value} {H : Hp} {R R' : Value → Hp → Prop} (h : CallH P f args H R) (hr : ∀ v H', R v H' → R' v H') : CallH P f args H R' :=
  fun w hs => (h w hs).mono fun _ _ ⟨v, H', e, r, x⟩ => ⟨v, H', e, hr _ _ r, x⟩

/-- A part of a part. -/
def Hp.Le (H2 H : Hp) : Prop := ∀ b o, H2 b = some o → H b = some o

theorem Ext.drop {H H' H2 : Hp} {w w' : World} (h : Ext H H' w w') (hl : H2.Le H') : Ext H H2 w w' :=
  ⟨fun b o hb => h.sub b o (hl b o hb), h.os, h.tape, h.output, h.size, h.frame, fun b hb => by
    cases h2 : H2 b with
    | none => exact absurd h2 hb
    | some o => exact h.dom b (by rw [hl b o h2]; simp)⟩
theorem Hp.Le.none {H2 H : Hp} (hl : H2.Le H) {b : Nat} (hb : H b = Option.none) : H2 b = Option.none := by
  cases h2 : H2 b with
  | none => rfl
  | some o => rw [hl b o h2] at hb; cases hb
theorem Ext.more {H H' H2 : Hp} {w w' : World} (h : Ext H2 H' w w') (hl : H2.Le H) : Ext H H' w w' :=
  ⟨h.sub, h.os, h.tape, h.output, h.size, fun k hk hn => h.frame k hk (hl.none hn), fun b hb => by
    rcases h.dom b hb with h1 | h1
    · left; intro h2; exact h1 (hl.none h2)
    · exact .inr h1⟩

theorem CallH.drop {P : Program} {f : FuncId} {args : Array Value} {H : Hp} {R R' : Value → Hp → Prop} (h : CallH P f args H R) (hr : ∀ v H', R v H' → ∃ H2, H2.Le H' ∧ R' v H2) : CallH P f args H R' :=
  fun w hs => (h w hs).mono fun _ _ ⟨v, H', e, r, x⟩ => let ⟨H2, hl, r'⟩ := hr _ _ r; ⟨v, H2, e, r', x.drop hl⟩

def NextH (P : Program) (K : Value → Hp → Prop) : Next → Hp → Prop
  | .value v, H => K v H
  | .skip, H => K undef H
  | .enter f args, H => CallH P f args H K
  | _, _ => False

def EO (P : Program) (s : Sem Next) (H : Hp) (K : Value → Hp → Prop) : Prop := SemH P s H (NextH P K)

def YE (P : Program) (l : List Oper) (H : Hp) (o : Oper) (v : Value) (env : Env) : Prop :=
  (wantE l env o = true ∧ quiet P H (execOp (ev env) o) = some (.value v)) ∨ (wantE l env o = false ∧ v = undef)

def HeldE (P : Program) (l : List Oper) (held : List Nat) (env : Env) (H : Hp) : Prop :=
  ∀ h ∈ held, ∀ o d, nth l h = some o → o.dst = some d → YE P l H o (env d) env

def EP (P : Program) (l : List Oper) : List Stp → (Env → Hp → Prop) → Env → Hp → Prop
  | [], K, env, H => K env H
  | .p i :: rest, K, env, H => ∃ o v, nth l i = some o ∧ YE P l Hp.nil o v env ∧ EP P l rest K (putE env o.dst v) H
  | .l i :: rest, K, env, H => ∃ o v, nth l i = some o ∧ YE P l H o v env ∧ EP P l rest K (putE env o.dst v) H
  | .x i held :: rest, K, env, H => ∃ o, nth l i = some o ∧
      ((wantE l env o = true ∧ EO P (execOp (ev env) o) H fun v H' => HeldE P l held (putE env o.dst v) H' ∧ EP P l rest K (putE env o.dst v) H') ∨
       (wantE l env o = false ∧ HeldE P l held (putE env o.dst undef) H ∧ EP P l rest K (putE env o.dst undef) H))

def dstOK (l : List Oper) (N : Nat) : Bool := l.all fun o => match o.dst with
  | some d => Nat.blt d N
  | none => true

theorem dst_lt {l : List Oper} {N i : Nat} {o : Oper} (h : dstOK l N = true) (ho : nth l i = some o) : ∀ t, o.dst = some t → t < N := by
  intro t ht
  rw [nth_eq] at ho
  have hm : o ∈ l := by
    have := Array.mem_of_getElem? ho
    simpa using this
  have := List.all_eq_true.1 h o hm
  simp only [ht] at this
  exact Nat.le_of_ble_eq_true this

theorem Sub.nil (w : World) : Sub Hp.nil w := fun b o h => by simp [Hp.nil] at h

theorem YE.at {P : Program} {l : List Oper} {H : Hp} {o : Oper} {v : Value} {env : Env} {N : Nat} {a : Act} {w : World} (hy : YE P l H o v env) (ha : Ag N a env) (hs : Sub H w) :
    YieldsAt P l.toArray o v a w := by
  unfold YieldsAt
  rw [wanted_eq ha, ha.eval]
  exact hy.imp (fun ⟨h1, h2⟩ => ⟨h1, quiet_run _ h2 hs⟩) id

/-- What a walk's end says: no panic; a part of the heap, and nothing else, has become another one. -/
def QW (Q : Exit → Env → Hp → Prop) (N : Nat) (H : Hp) (w : World) : Exit → Act → World → Prop
  | .panic _, _, _ => False
  | .outgrown, _, _ => False
  | e, a', w' => ∃ env' H', Q e env' H' ∧ Ag N a' env' ∧ Ext H H' w w'

theorem EP_sound {P : Program} {l : List Oper} {N : Nat} {K : Env → Hp → Prop} {Q : Exit → Env → Hp → Prop} (hd : dstOK l N = true) {H0 : Hp} {w0 : World} (hK : ∀ env H, K env H → Q .normal env H) :
    ∀ (plan : List Stp) (env : Env) (H : Hp) (a : Act) (w : World), EP P l plan K env H → Ag N a env → Ext H0 H w0 w → wpPlan P l.toArray (QW Q N H0 w0) N plan a w := by
  intro plan
  induction plan with
  | nil => intro env H a w h ha he; exact ⟨env, H, hK _ _ h, ha, he⟩
  | cons s rest ih =>
    intro env H a w h ha he
    cases s with
    | p i =>
      obtain ⟨o, v, ho, hy, hr⟩ := h
      exact ⟨o, v, by rw [← nth_eq]; exact ho, fun w' => hy.at ha (Sub.nil w'), ih _ _ _ _ hr (ha.put (dst_lt hd ho) v) he⟩
    | l i =>
      obtain ⟨o, v, ho, hy, hr⟩ := h
      exact ⟨o, v, by rw [← nth_eq]; exact ho, hy.at ha he.sub, ih _ _ _ _ hr (ha.put (dst_lt hd ho) v) he⟩
    | x i held =>
      obtain ⟨o, ho, hr⟩ := h
      have ho' : l.toArray[i]? = some o := by rw [← nth_eq]; exact ho
      have fin : ∀ (v : Value) (H' : Hp) (w' : World), Ext H0 H' w0 w' → HeldE P l held (putE env o.dst v) H' → EP P l rest K (putE env o.dst v) H' →
          ((a.put o.dst v).tmps.size = N ∧ (∀ h ∈ held, ∀ o' d, l.toArray[h]? = some o' → o'.dst = some d → YieldsAt P l.toArray o' ((a.put o.dst v).tmps.getD d undef) (a.put o.dst v) w') ∧ wpPlan P l.toArray (QW Q N H0 w0) N rest (a.put o.dst v) w') := by
        intro v H' w' he' hh hr'
        have ha' := ha.put (dst_lt hd ho) v
        refine ⟨ha'.size, fun h hm o' d ho2 hd2 => ?_, ih _ _ _ _ hr' ha' he'⟩
        have := hh h hm o' d (by rw [nth_eq]; exact ho2) hd2
        rw [ha'.get d]
        exact this.at ha' he'.sub
      show wpOp P l.toArray _ i _ a w
      unfold wpOp
      simp only [ho']
      rw [wanted_eq ha]
      rcases hr with ⟨hw, hx⟩ | ⟨hw, hh, hr'⟩
      · rw [if_pos hw]
        refine .inl ?_
        unfold Oper.wp
        rw [ha.eval]
        obtain ⟨nx, w', H', hrun, hk, hext⟩ := SemH_run _ hx he.sub
        rw [hrun]
        cases nx <;> simp only [NextH] at hk
        case value v => exact fin v H' w' (he.trans hext) hk.1 hk.2
        case skip => exact fin undef H' w' (he.trans hext) hk.1 hk.2
        case enter f args =>
          refine (hk w' hext.sub).mono fun e w'' ⟨v, H2, hev, hR, hext2⟩ => ?_
          subst hev
          exact fin v H2 w'' ((he.trans hext).trans hext2) hR.1 hR.2
      · rw [if_neg (by simp [hw])]
        exact fin undef H w he hh hr'

/-- The walk over code. -/
def E (P : Program) (N : Nat) (c : Code) (Q : Exit → Env → Hp → Prop) (env : Env) (H : Hp) : Prop :=
  ∀ a w, Ag N a env → Sub H w → c.wp P (QW Q N H w) a w

def thenQ (K : Env → Hp → Prop) (Q : Exit → Env → Hp → Prop) : Exit → Env → Hp → Prop
  | .normal => K
  | e => Q e
def blockQ (id : Nat) (Q : Exit → Env → Hp → Prop) : Exit → Env → Hp → Prop
  | .exit i => if i = id then Q .normal else Q (.exit i)
  | e => Q e

theorem QW.trans {Q : Exit → Env → Hp → Prop} {N : Nat} {H H1 : Hp} {w w1 : World} (he : Ext H H1 w w1) : ∀ (e : Exit) (a : Act) (w' : World), QW Q N H1 w1 e a w' → QW Q N H w e a w' := by
  intro e a w' h
  cases e <;> first
    | exact h
    | (obtain ⟨env', H', h1, h2, h3⟩ := h; exact ⟨env', H', h1, h2, he.trans h3⟩)

section
variable {P : Program} {N : Nat} {Q : Exit → Env → Hp → Prop} {env : Env} {H : Hp}

theorem E_skip (h : Q .normal env H) : E P N .skip Q env H := fun _ _ ha hs => wp_skip ⟨env, H, h, ha, .refl hs⟩
theorem E_label {n : Nat} (h : Q .normal env H) : E P N (.label n) Q env H := fun _ _ ha hs => wp_label ⟨env, H, h, ha, .refl hs⟩
theorem E_exit {i : Nat} (h : Q (.exit i) env H) : E P N (.exit i) Q env H := fun _ _ ha hs => wp_exit ⟨env, H, h, ha, .refl hs⟩
theorem E_goto {i : Nat} (h : Q (.goto i) env H) : E P N (.goto i) Q env H := fun _ _ ha hs => wp_goto ⟨env, H, h, ha, .refl hs⟩
theorem E_ret (h : Q .ret env H) : E P N .ret Q env H := fun _ _ ha hs => wp_ret ⟨env, H, h, ha, .refl hs⟩

theorem E_seq {x y : Code} (h : E P N x (thenQ (E P N y Q) Q) env H) : E P N (.seq x y) Q env H := by
  intro a w ha hs
  refine wp_seq (wp_mono (h a w ha hs) fun e a' w' hq => ?_)
  cases e with
  | normal =>
    obtain ⟨env', H', h1, h2, h3⟩ := hq
    exact wp_mono (h1 a' w' h2 h3.sub) (QW.trans h3)
  | exit i => exact hq
  | goto i => exact hq
  | ret => exact hq
  | panic c => exact hq
  | outgrown => exact hq

theorem E_cond {c : Operand} {x y : Code} {t : Bool} (hc : ev env c = .bool t) (h1 : t = true → E P N x Q env H) (h2 : t = false → E P N y Q env H) : E P N (.cond c x y) Q env H := by
  intro a w ha hs
  exact wp_cond_split (t := t) (by rw [ha.eval]; exact hc) (fun e => h1 e a w ha hs) (fun e => h2 e a w ha hs)

theorem E_true {c : Operand} {x y : Code} (hc : ev env c = .bool true) (h : E P N x Q env H) : E P N (.cond c x y) Q env H := E_cond hc (fun _ => h) (fun e => by cases e)
theorem E_false {c : Operand} {x y : Code} (hc : ev env c = .bool false) (h : E P N y Q env H) : E P N (.cond c x y) Q env H := E_cond hc (fun e => by cases e) (fun _ => h)

theorem E_block {id : Nat} {c : Code} (h : E P N c (blockQ id Q) env H) : E P N (.block id c) Q env H := by
  intro a w ha hs
  refine wp_block (wp_mono (h a w ha hs) fun e a' w' hq => ?_)
  cases e with
  | exit i =>
    show if i = id then QW Q N H w .normal a' w' else QW Q N H w (.exit i) a' w'
    obtain ⟨env', H', h1, h2, h3⟩ := hq
    simp only [blockQ] at h1
    split
    · rename_i hi; rw [if_pos hi] at h1; exact ⟨env', H', h1, h2, h3⟩
    · rename_i hi; rw [if_neg hi] at h1; exact ⟨env', H', h1, h2, h3⟩
  | normal => exact hq
  | goto i => exact hq
  | ret => exact hq
  | panic c => exact hq
  | outgrown => exact hq

theorem E_mono {c : Code} {Q' : Exit → Env → Hp → Prop} (h : E P N c Q env H) (hq : ∀ e env H, Q e env H → Q' e env H) : E P N c Q' env H := by
  intro a w ha hs
  refine wp_mono (h a w ha hs) fun e a' w' hw => ?_
  cases e <;> first
    | exact hw
    | (obtain ⟨env', H', h1, h2, h3⟩ := hw; exact ⟨env', H', hq _ _ _ h1, h2, h3⟩)

/-- A loop, by what holds at the head of each round, with a number that goes down. -/
theorem E_drop {c : Code} {H2 : Hp} (hl : H2.Le H) (h : E P N c Q env H2) : E P N c Q env H := fun a w ha hs =>
  wp_mono (h a w ha fun b o hb => hs b o (hl b o hb)) fun e a' w' hq => by
    cases e with
    | panic ch => exact hq.elim
    | outgrown => exact hq.elim
    | _ => obtain ⟨env', H', h1, h2, h3⟩ := hq; exact ⟨env', H', h1, h2, h3.more hl⟩

theorem E_loop {c : Code} (I : Nat → Env → Hp → Prop) {n : Nat} (h0 : I n env H)
    (round : ∀ n env H, I n env H → E P N c (thenQ (fun env' H' => ∃ m, m < n ∧ I m env' H') Q) env H) : E P N (.loop c) Q env H := by
  intro a w ha hs b k cs
  have key : ∀ n env H a w1, I n env H → Ag N a env → Sub H w1 → ∃ e a' w', QW Q N H w1 e a' w' ∧ Arrives P (lone (b.at a (.code c :: .inLoop c :: k)) cs w1) b k cs e a' w' := by
    intro n
    induction n using Nat.strongRecOn with
    | _ n ih =>
      intro env H a w1 hI ha hs
      obtain ⟨e, a₁, w₁, hq, harr⟩ := round n env H hI a w1 ha hs b (.inLoop c :: k) cs
      cases e with
      | normal =>
        obtain ⟨env', H', ⟨m, hm, hI'⟩, ha', he'⟩ := hq
        obtain ⟨e₂, a₂, w₂, hq₂, harr₂⟩ := ih m hm env' H' a₁ w₁ hI' ha' he'.sub
        exact ⟨e₂, a₂, w₂, QW.trans he' _ _ _ hq₂, .of_steps (Steps.trans harr (.one step_inLoop)) harr₂⟩
      | exit id => exact ⟨.exit id, a₁, w₁, hq, .pass (x := .inLoop c) rfl (fun _ _ => .inl (by simp)) harr⟩
      | goto l => exact ⟨.goto l, a₁, w₁, hq, .pass (x := .inLoop c) rfl (fun _ _ => .inl (by simp)) harr⟩
      | ret => exact ⟨.ret, a₁, w₁, hq, .pass (x := .inLoop c) rfl (fun _ _ => .inl (by simp)) harr⟩
      | panic ch => exact hq.elim
      | outgrown => exact hq.elim
  obtain ⟨e, a', w', hq, harr⟩ := key n env H a w h0 ha hs
  exact ⟨e, a', w', hq, .of_steps (.one step_loop) harr⟩

def Stp.idx : Stp → Nat
  | .p i => i
  | .l i => i
  | .x i _ => i

theorem wpOps_of_plan {ops : Array Oper} {Q : Exit → Act → World → Prop} : ∀ (plan : List Stp) (a : Act) (w : World), wpPlan P ops Q N plan a w → wpOps P ops Q (plan.map Stp.idx) a w := by
  intro plan
  induction plan with
  | nil => intro a w h; exact h
  | cons s rest ih =>
    intro a w h
    simp only [List.map_cons]
    rw [wpOps_cons]
    cases s with
    | p i => obtain ⟨o, v, ho, hy, hr⟩ := h; exact (hy w).wpOp ho (ih _ _ hr)
    | l i => obtain ⟨o, v, ho, hy, hr⟩ := h; exact hy.wpOp ho (ih _ _ hr)
    | x i held => exact wpOp_mono (fun a' w' h' => ih _ _ h'.2.2) h

/-- A region in the order of the text. -/
theorem E_region {id : Nat} {l : List Oper} (plan : List Stp) (hok : (decide (plan.map Stp.idx = List.range l.length) && dstOK l N) = true) (h : EP P l plan (Q .normal) env H) : E P N (.region id l.toArray false) Q env H := by
  simp only [Bool.and_eq_true, decide_eq_true_eq] at hok
  intro a w ha hs
  refine wp_region ?_
  have := wpOps_of_plan plan a w (EP_sound hok.2 (fun _ _ h => h) plan env H a w h ha (.refl hs))
  rw [hok.1] at this
  simpa using this

/-- A region that draws its order. -/
theorem E_draw {id : Nat} {l : List Oper} (plan : List Stp) (X L : List Nat) (hm : P.follows .mixedOrders = true)
    (hok : (Region.noSelect l.toArray && decide (plan.length = l.toArray.size) && planOK l.toArray X L N plan (Array.replicate l.toArray.size false) && dstOK l N) = true) (h : EP P l plan (Q .normal) env H) : E P N (.region id l.toArray true) Q env H := by
  rw [Bool.and_eq_true] at hok
  intro a w ha hs
  have hs' : Sub H { w with drawn := w.drawn + 1 } := hs
  have hext : Ext H H w { w with drawn := w.drawn + 1 } := ⟨hs', rfl, rfl, rfl, Nat.le_refl _, fun _ _ _ => rfl, fun _ h => .inl h⟩
  exact wp_region_plan plan X L hm (fun c a w h => h) hok.1 ha.size (EP_sound hok.2 (fun _ _ h => h) plan env H a _ h ha hext)

/-- What stands in a function's results. -/
def rv (P : Program) (H : Hp) (env : Env) : ResultVar → Option Value
  | .tmp t => some (env t)
  | .cell a t => quiet P H (do loadVar t (← asAddr (env a)))

def resL (P : Program) (H : Hp) (env : Env) : List ResultVar → Option (List Value)
  | [] => some []
  | r :: rs => match rv P H env r, resL P H env rs with
    | some v, some vs => some (v :: vs)
    | _, _ => none

def retV : List Value → Value
  | [v] => v
  | vs => .tuple vs.toArray

theorem quiet_results {fn : Func} {rs : List ResultVar} (hr : fn.results = rs.toArray) {tmps : Array Value} (hg : ∀ t, tmps.getD t undef = env t) {vs : List Value} (hv : resL P H env rs = some vs) :
    quiet P H (results fn tmps) = some (retV vs) := by
  unfold results
  rw [hr]
  rw [quiet_bind]
  have key : ∀ (rs : List ResultVar) (vs : List Value), resL P H env rs = some vs → quiet P H (rs.mapM fun
      | .tmp t => (pure (tmps.getD t undef) : Sem Value)
      | .cell a t => do loadVar t (← asAddr (tmps.getD a undef))) = some vs := by
    intro rs
    induction rs with
    | nil => intro vs h; simp [resL] at h; subst h; rfl
    | cons r rs ih =>
      intro vs h
      simp only [resL] at h
      split at h
      · rename_i v vs' h1 h2
        cases h
        rw [List.mapM_cons, quiet_bind]
        have hhd : quiet P H (match r with
            | .tmp t => (pure (tmps.getD t undef) : Sem Value)
            | .cell a t => do loadVar t (← asAddr (tmps.getD a undef))) = some v := by
          cases r with
          | tmp t => simp only [rv] at h1; show quiet P H (pure (tmps.getD t undef) : Sem Value) = some v; rw [hg t]; exact h1
          | cell a t => simp only [rv] at h1; show quiet P H (do loadVar t (← asAddr (tmps.getD a undef))) = some v; rw [hg a]; exact h1
        rw [hhd]
        simp only [Option.bind_some]
        rw [quiet_bind, ih _ h2]
        rfl
      · cases h
  have hm : quiet P H (rs.toArray.mapM fun
      | .tmp t => (pure (tmps.getD t undef) : Sem Value)
      | .cell a t => do loadVar t (← asAddr (tmps.getD a undef))) = some vs.toArray := by
    rw [List.mapM_toArray]
    rw [map_eq_pure_bind, quiet_bind, key rs vs hv]
    rfl
  refine (congrArg (fun o : Option (Array Value) => o.bind fun a => quiet P H (pure (if h : a.size = 1 then a[0] else Value.tuple a))) hm).trans ?_
  simp only [Option.bind_some]
  show some _ = _
  congr 1
  match vs with
  | [] => rfl
  | [v] => rfl
  | v :: u :: vs => simp [retV]

/-- At a function's end. -/
def RetQ (P : Program) (rs : List ResultVar) (R : Value → Hp → Prop) : Exit → Env → Hp → Prop
  | .normal, env, H => ∃ vs, resL P H env rs = some vs ∧ R (retV vs) H
  | .ret, env, H => ∃ vs, resL P H env rs = some vs ∧ R (retV vs) H
  | _, _, _ => False

def env0 (args : List Value) : Env := fun t => args.getD t undef

theorem CallH_enter {f : FuncId} {fn : Func} {c : Code} {args : List Value} {rs : List ResultVar} {R : Value → Hp → Prop} (hf : P.funcs[f]? = some fn) (hn : fn.ntmps = N) (hb : fn.body = some c) (hr : fn.results = rs.toArray)
    (hsz : Nat.ble args.length N = true) (h : E P N c (RetQ P rs R) (env0 args) H) : CallH P f args.toArray H R := by
  intro w hs
  have hle := Nat.le_of_ble_eq_true hsz
  refine calls_of_wp hf hb (wp_mono (h _ w ⟨?_, rfl, fun t => ?_⟩ hs) fun e a' w' hq => ?_)
  · simp [hn]; omega
  · simp only [Array.getD_eq_getD_getElem?, env0, List.getD_eq_getElem?_getD]
    rcases Nat.lt_or_ge t args.length with ht | ht
    · rw [Array.getElem?_append_left (by simpa using ht)]; simp
    · rw [Array.getElem?_append_right (by simpa using ht), List.getElem?_eq_none ht]
      simp only [Array.getElem?_replicate, Option.getD_none]
      split <;> rfl
  · cases e with
    | normal =>
      obtain ⟨env', H', ⟨vs, h1, h2⟩, ha, he⟩ := hq
      exact ⟨ha.defers, _, quiet_run _ (quiet_results hr ha.get h1) he.sub, _, H', rfl, h2, he⟩
    | ret =>
      obtain ⟨env', H', ⟨vs, h1, h2⟩, ha, he⟩ := hq
      exact ⟨ha.defers, _, quiet_run _ (quiet_results hr ha.get h1) he.sub, _, H', rfl, h2, he⟩
    | exit i => obtain ⟨env', H', h1, _⟩ := hq; exact h1.elim
    | goto i => obtain ⟨env', H', h1, _⟩ := hq; exact h1.elim
    | panic ch => exact hq.elim
    | outgrown => exact hq.elim
end

/-! Pieces of the heap, apart from one another. -/
def join : List Hp → Hp
  | [] => Hp.nil
  | H :: Hs => fun b => match H b with
    | some o => some o
    | none => join Hs b

def Apart (H K : Hp) : Prop := ∀ b, H b = none ∨ K b = none
def Disj (Hs : List Hp) : Prop := Hs.Pairwise Apart
/-- One block. -/
def sg (b : Nat) (o : Obj) : Hp := fun k => if k = b then some o else none

theorem Apart.symm {H K : Hp} (h : Apart H K) : Apart K H := fun b => (h b).symm
theorem sg_self {b : Nat} {o : Obj} : sg b o b = some o := by simp [sg]

theorem join_none {Hs : List Hp} {b : Nat} : join Hs b = none ↔ ∀ H ∈ Hs, H b = none := by
  induction Hs with
  | nil => simp [join, Hp.nil]
  | cons H Hs ih =>
    simp only [join, List.mem_cons, forall_eq_or_imp]
    cases h : H b <;> simp [ih]

theorem join_get {Hs : List Hp} (hd : Disj Hs) : ∀ {i : Nat} {H : Hp} {b : Nat} {o : Obj}, Hs[i]? = some H → H b = some o → join Hs b = some o := by
  induction Hs with
  | nil => intro i H b o h; simp at h
  | cons K Hs ih =>
    intro i H b o h hb
    obtain ⟨h1, h2⟩ := List.pairwise_cons.1 hd
    cases i with
    | zero => simp at h; subst h; simp [join, hb]
    | succ i =>
      simp at h
      have hK : K b = none := by
        rcases h1 H (List.mem_of_getElem? h) b with h3 | h3
        · exact h3
        · rw [hb] at h3; cases h3
      simp only [join, hK]
      exact ih h2 h hb

theorem join_set {Hs : List Hp} (hd : Disj Hs) : ∀ {i : Nat} {H : Hp} {b : Nat} {o o' : Obj}, Hs[i]? = some H → H b = some o →
    join (Hs.set i (H.set b o')) = (join Hs).set b o' ∧ Disj (Hs.set i (H.set b o')) := by
  induction Hs with
  | nil => intro i H b o o' h; simp at h
  | cons K Hs ih =>
    intro i H b o o' h hb
    obtain ⟨h1, h2⟩ := List.pairwise_cons.1 hd
    cases i with
    | zero =>
      simp at h; subst h
      refine ⟨?_, List.pairwise_cons.2 ⟨fun L hL k => ?_, h2⟩⟩
      · funext k
        simp only [List.set_cons_zero, join, Hp.set]
        by_cases hk : k = b <;> simp [hk]
      · simp only [Hp.set]
        split
        · rename_i hk; subst hk
          rcases h1 L hL k with h3 | h3
          · rw [hb] at h3; cases h3
          · exact .inr h3
        · exact h1 L hL k
    | succ i =>
      simp at h
      have hK : K b = none := by
        rcases h1 H (List.mem_of_getElem? h) b with h3 | h3
        · exact h3
        · rw [hb] at h3; cases h3
      obtain ⟨e1, e2⟩ := ih h2 (o' := o') h hb
      refine ⟨?_, List.pairwise_cons.2 ⟨fun L hL k => ?_, e2⟩⟩
      · funext k
        simp only [List.set_cons_succ, join, Hp.set, e1]
        by_cases hk : k = b
        · subst hk; simp [hK]
        · simp [hk]
      · rcases List.mem_or_eq_of_mem_set hL with h3 | h3
        · exact h1 L h3 k
        · subst h3
          simp only [Hp.set]
          split
          · rename_i hk; subst hk; exact .inl hK
          · exact h1 H (List.mem_of_getElem? h) k

theorem join_new {Hs : List Hp} (hd : Disj Hs) {b : Nat} {o : Obj} (hb : join Hs b = none) : join (sg b o :: Hs) = (join Hs).set b o ∧ Disj (sg b o :: Hs) := by
  refine ⟨?_, List.pairwise_cons.2 ⟨fun L hL k => ?_, hd⟩⟩
  · funext k
    simp only [join, sg, Hp.set]
    by_cases hk : k = b <;> simp [hk]
  · simp only [sg]
    split
    · rename_i hk; subst hk; exact .inr (join_none.1 hb L hL)
    · exact .inl rfl

theorem join_append (A B : List Hp) : join (A ++ B) = join [join A, join B] := by
  induction A with
  | nil =>
    funext k
    simp only [List.nil_append, join, Hp.nil]
    cases join B k <;> rfl
  | cons H A ih =>
    funext k
    simp only [List.cons_append, join]
    cases hh : H k with
    | some o => rfl
    | none => simp only [ih, join]

theorem disj_perm {A B : List Hp} (h : A.Perm B) (hd : Disj A) : Disj B := (h.pairwise_iff Apart.symm).1 hd

theorem join_perm {A B : List Hp} (h : A.Perm B) (hd : Disj A) : join A = join B := by
  have hB := disj_perm h hd
  funext b
  cases hb : join B b with
  | none =>
    rw [join_none] at hb ⊢
    exact fun H hH => hb H (h.mem_iff.1 hH)
  | some o =>
    have : ∃ H ∈ B, H b = some o := by
      clear h hd hB
      induction B with
      | nil => simp [join, Hp.nil] at hb
      | cons K B ih =>
        simp only [join] at hb
        cases hK : K b with
        | some x => rw [hK] at hb; exact ⟨K, List.mem_cons_self, hK.trans hb⟩
        | none =>
          rw [hK] at hb
          obtain ⟨H, h1, h2⟩ := ih hb
          exact ⟨H, List.mem_cons_of_mem _ h1, h2⟩
    obtain ⟨H, hH, hHb⟩ := this
    obtain ⟨i, hi, he⟩ := List.getElem_of_mem (h.mem_iff.2 hH)
    exact join_get hd (i := i) (by rw [List.getElem?_eq_getElem hi, he]) hHb

def takeAt : Nat → List Hp → Option (Hp × List Hp)
  | _, [] => none
  | 0, H :: Hs => some (H, Hs)
  | n + 1, H :: Hs => match takeAt n Hs with
    | some (K, Ks) => some (K, H :: Ks)
    | none => none

def takes : List Nat → List Hp → Option (List Hp × List Hp)
  | [], Hs => some ([], Hs)
  | i :: is, Hs => match takeAt i Hs with
    | some (H, Ks) => match takes is Ks with
      | some (A, B) => some (H :: A, B)
      | none => none
    | none => none

theorem takeAt_perm : ∀ {n : Nat} {Hs : List Hp} {K : Hp} {Ks : List Hp}, takeAt n Hs = some (K, Ks) → Hs.Perm (K :: Ks) := by
  intro n Hs
  induction Hs generalizing n with
  | nil => intro K Ks h; cases n <;> simp [takeAt] at h
  | cons H Hs ih =>
    intro K Ks h
    cases n with
    | zero => simp [takeAt] at h; obtain ⟨rfl, rfl⟩ := h; exact .refl _
    | succ n =>
      simp only [takeAt] at h
      split at h
      · rename_i K' Ks' hk
        cases h
        exact ((ih hk).cons H).trans (.swap ..)
      · cases h

theorem takes_perm : ∀ {is : List Nat} {Hs A B : List Hp}, takes is Hs = some (A, B) → Hs.Perm (A ++ B) := by
  intro is
  induction is with
  | nil => intro Hs A B h; simp [takes] at h; obtain ⟨rfl, rfl⟩ := h; exact .refl _
  | cons i is ih =>
    intro Hs A B h
    simp only [takes] at h
    split at h
    · rename_i H Ks hk
      split at h
      · rename_i A' B' hk'
        cases h
        exact (takeAt_perm hk).trans ((ih hk').cons H)
      · cases h
    · cases h

/-- A call, from pieces, to pieces. -/
def CallL (P : Program) (f : FuncId) (args : List Value) (Hs : List Hp) (R : Value → List Hp → Prop) : Prop :=
  Disj Hs → CallH P f args.toArray (join Hs) fun v H' => ∃ Hs', H' = join Hs' ∧ Disj Hs' ∧ R v Hs'

theorem apart_join {H : Hp} {Hs : List Hp} : (∀ K ∈ Hs, Apart H K) → Apart H (join Hs) := by
  intro h b
  cases hb : H b with
  | none => exact .inl rfl
  | some o => exact .inr (join_none.2 fun K hK => (h K hK b).resolve_left (by simp [hb]))

theorem disj_append {A B : List Hp} : Disj (A ++ B) ↔ Disj A ∧ Disj B ∧ Apart (join A) (join B) := by
  unfold Disj
  rw [List.pairwise_append]
  refine ⟨fun ⟨h1, h2, h3⟩ => ⟨h1, h2, (apart_join fun K hK => (apart_join fun L hL => (h3 L hL K hK).symm).symm)⟩, fun ⟨h1, h2, h3⟩ => ⟨h1, h2, fun H hH K hK b => ?_⟩⟩
  rcases h3 b with h | h
  · exact .inl (join_none.1 h H hH)
  · exact .inr (join_none.1 h K hK)

/-- What is handed to a call aside stays as it is. -/
theorem CallL.frame {P : Program} {f : FuncId} {args : List Value} {Hs A B : List Hp} {is : List Nat} {R : Value → List Hp → Prop} (ht : takes is Hs = some (A, B)) (hd : Disj Hs) (h : CallL P f args A R) :
    CallH P f args.toArray (join Hs) fun v H' => ∃ Hs', H' = join (Hs' ++ B) ∧ Disj (Hs' ++ B) ∧ R v Hs' := by
  have hp := takes_perm ht
  have hd' := disj_perm hp hd
  rw [join_perm hp hd]
  obtain ⟨hA, hB, hAB⟩ := disj_append.1 hd'
  intro w hs
  have hsA : Sub (join A) w := fun b o hb => hs b o (by rw [join_append]; simp [join, hb])
  have hsB : Sub (join B) w := fun b o hb => hs b o (by
    rw [join_append]
    have : join A b = none := (hAB b).resolve_right (by simp [hb])
    simp [join, this, hb])
  refine (h hA w hsA).mono fun e w' ⟨v, H', he, ⟨Hs', hj, hd2, hR⟩, hext⟩ => ?_
  subst hj
  have hap : Apart (join Hs') (join B) := fun b => by
    cases hb : join B b with
    | none => exact .inr rfl
    | some o =>
      left
      cases hb' : join Hs' b with
      | none => rfl
      | some o' =>
        rcases hext.dom b (by simp [hb']) with h1 | h1
        · exact absurd ((hAB b).resolve_right (by simp [hb])) h1
        · have := hsB.lt hb; omega
  refine ⟨v, join (Hs' ++ B), he, ⟨Hs', rfl, disj_append.2 ⟨hd2, hB, hap⟩, hR⟩, ⟨fun b o hb => ?_, hext.os, hext.tape, hext.output, hext.size, fun k hk hn => ?_, fun b hb => ?_⟩⟩
  · rw [join_append] at hb
    simp only [join] at hb
    cases h1 : join Hs' b with
    | some o' => rw [h1] at hb; cases hb; exact hext.sub b o h1
    | none =>
      rw [h1] at hb
      cases h2 : join B b with
      | none => rw [h2] at hb; simp [Hp.nil] at hb
      | some o' =>
        rw [h2] at hb; cases hb
        rw [hext.frame b (hsB.lt h2) ((hAB b).resolve_right (by simp [h2]))]
        exact hsB b o h2
  · refine hext.frame k hk ?_
    rw [join_append] at hn
    simp only [join] at hn
    cases h1 : join A k with
    | none => rfl
    | some o => rw [h1] at hn; cases hn
  · rw [join_append] at hb
    simp only [join] at hb
    cases h1 : join Hs' b with
    | some o' =>
      rcases hext.dom b (by simp [h1]) with h2 | h2
      · left
        rw [join_append]
        simp only [join]
        cases h3 : join A b with
        | none => exact absurd h3 h2
        | some o => simp
      · exact .inr h2
    | none =>
      rw [h1] at hb
      left
      rw [join_append]
      simp only [join]
      cases h3 : join A b with
      | some o => simp
      | none => simpa [join] using hb

/-- The walk from pieces. -/
def EL (P : Program) (N : Nat) (c : Code) (Q : Exit → Env → Hp → Prop) (env : Env) (Hs : List Hp) : Prop := Disj Hs → E P N c Q env (join Hs)
def EPL (P : Program) (l : List Oper) (plan : List Stp) (K : Env → Hp → Prop) (env : Env) (Hs : List Hp) : Prop := Disj Hs → EP P l plan K env (join Hs)
/-- What holds of pieces. -/
def QL (R : Env → List Hp → Prop) (env : Env) (H : Hp) : Prop := ∃ Hs, H = join Hs ∧ Disj Hs ∧ R env Hs

end Go.Proofs.Ytooemjldpchgfaa.TH
