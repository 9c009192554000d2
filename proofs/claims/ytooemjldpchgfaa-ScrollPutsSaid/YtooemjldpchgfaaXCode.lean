/- The walk over code, from pieces. -/
import Derived.Test.YtooemjldpchgfaaXApp
namespace Go.Proofs.Ytooemjldpchgfaa.TH
open Go

/-- What a piecewise end says. -/
def PQ (R : Value → List Hp → Prop) (v : Value) (H : Hp) : Prop := ∃ Hs tl, H = join (Hs ++ tl) ∧ Disj (Hs ++ tl) ∧ R v Hs

theorem join_le {A B : List Hp} : (join A).Le (join (A ++ B)) := fun b o hb => by rw [join_append]; simp [join, hb]

section
variable {P : Program} {N : Nat} {Q : Exit → Env → Hp → Prop} {env : Env} {Hs : List Hp}

theorem CallL.enter {f : FuncId} {fn : Func} {c : Code} {args : List Value} {rs : List ResultVar} {R : Value → List Hp → Prop} (hf : P.funcs[f]? = some fn) (hn : fn.ntmps = N) (hb : fn.body = some c) (hr : fn.results = rs.toArray)
    (hsz : Nat.ble args.length N = true) (h : EL P N c (RetQ P rs (PQ R)) (env0 args) Hs) : CallL P f args Hs R := fun hd =>
  (CallH_enter hf hn hb hr hsz (h hd)).drop fun v H' ⟨Hs', tl, e, hd', hR⟩ => ⟨join Hs', by rw [e]; exact join_le, Hs', rfl, (disj_append.1 hd').1, hR⟩

theorem EL.skip (h : Disj Hs → Q .normal env (join Hs)) : EL P N .skip Q env Hs := fun hd => E_skip (h hd)
theorem EL.label {n : Nat} (h : Disj Hs → Q .normal env (join Hs)) : EL P N (.label n) Q env Hs := fun hd => E_label (h hd)
theorem EL.exit {i : Nat} (h : Disj Hs → Q (.exit i) env (join Hs)) : EL P N (.exit i) Q env Hs := fun hd => E_exit (h hd)
theorem EL.ret (h : Disj Hs → Q .ret env (join Hs)) : EL P N .ret Q env Hs := fun hd => E_ret (h hd)
theorem EL.seq {x y : Code} (h : EL P N x (thenQ (E P N y Q) Q) env Hs) : EL P N (.seq x y) Q env Hs := fun hd => E_seq (h hd)
theorem EL.cond {c : Operand} {x y : Code} {t : Bool} (hc : ev env c = .bool t) (h1 : t = true → EL P N x Q env Hs) (h2 : t = false → EL P N y Q env Hs) : EL P N (.cond c x y) Q env Hs := fun hd => E_cond hc (fun e => h1 e hd) (fun e => h2 e hd)
theorem EL.yes {c : Operand} {x y : Code} (hc : ev env c = .bool true) (h : EL P N x Q env Hs) : EL P N (.cond c x y) Q env Hs := fun hd => E_true hc (h hd)
theorem EL.no {c : Operand} {x y : Code} (hc : ev env c = .bool false) (h : EL P N y Q env Hs) : EL P N (.cond c x y) Q env Hs := fun hd => E_false hc (h hd)
theorem EL.block {id : Nat} {c : Code} (h : EL P N c (blockQ id Q) env Hs) : EL P N (.block id c) Q env Hs := fun hd => E_block (h hd)
theorem EL.region {id : Nat} {l : List Oper} (plan : List Stp) (hok : (decide (plan.map Stp.idx = List.range l.length) && dstOK l N) = true) (h : EPL P l plan (Q .normal) env Hs) : EL P N (.region id l.toArray false) Q env Hs := fun hd => E_region plan hok (h hd)
theorem EL.draw {id : Nat} {l : List Oper} (plan : List Stp) (X L : List Nat) (hm : P.follows .mixedOrders = true)
    (hok : (Region.noSelect l.toArray && decide (plan.length = l.toArray.size) && planOK l.toArray X L N plan (Array.replicate l.toArray.size false) && dstOK l N) = true) (h : EPL P l plan (Q .normal) env Hs) : EL P N (.region id l.toArray true) Q env Hs := fun hd => E_draw plan X L hm hok (h hd)
theorem EL.perm {c : Code} {Hs' : List Hp} (hp : Hs.Perm Hs') (h : EL P N c Q env Hs') : EL P N c Q env Hs := fun hd => by
  rw [join_perm hp hd]; exact h (disj_perm hp hd)

/-- The end of a function. -/
theorem end_ret {rs : List ResultVar} {R : Value → List Hp → Prop} {vs : List Value} (hv : Disj Hs → resL P (join Hs) env rs = some vs) (h : Disj Hs → R (retV vs) Hs) : Disj Hs → RetQ P rs (PQ R) .ret env (join Hs) :=
  fun hd => ⟨vs, hv hd, Hs, [], by simp, by simpa using hd, h hd⟩
theorem end_normal {rs : List ResultVar} {R : Value → List Hp → Prop} {vs : List Value} (hv : Disj Hs → resL P (join Hs) env rs = some vs) (h : Disj Hs → R (retV vs) Hs) : Disj Hs → RetQ P rs (PQ R) .normal env (join Hs) :=
  fun hd => ⟨vs, hv hd, Hs, [], by simp, by simpa using hd, h hd⟩

def mix (W : List Nat) (e0 e : Env) : Env := fun t => bif W.elem t then e t else e0 t
def upds (e : Env) : List (Nat × Value) → Env
  | [] => e
  | (d, v) :: l => upd (upds e l) d v

/-- Outside these slots the frame is as it was. -/
def Off (W : List Nat) (e0 e : Env) : Prop := ∀ t, W.elem t = false → e t = e0 t
theorem Off.refl {W : List Nat} {e : Env} : Off W e e := fun _ _ => rfl
theorem Off.upd {W : List Nat} {e0 e : Env} {d : Nat} {v : Value} (hd : W.elem d = true) (h : Off W e0 e) : Off W e0 (upd e d v) := fun t ht => by
  have : Nat.beq t d = false := by
    cases hb : Nat.beq t d with
    | false => rfl
    | true => rw [Nat.eq_of_beq_eq_true hb, hd] at ht; cases ht
  simp only [Go.Proofs.Ytooemjldpchgfaa.TH.upd, this, cond_false]
  exact h t ht
theorem Off.put {W : List Nat} {e0 e : Env} {d : Nat} {v : Value} (hd : W.elem d = true) (h : Off W e0 e) : Off W e0 (putE e (some d) v) := Off.upd hd h
theorem Off.put0 {W : List Nat} {e0 e : Env} {v : Value} (h : Off W e0 e) : Off W e0 (putE e none v) := h
theorem Off.mix {W : List Nat} {e0 e : Env} : Off W e0 (mix W e0 e) := fun t ht => by simp only [Go.Proofs.Ytooemjldpchgfaa.TH.mix, ht, cond_false]
theorem Off.mixs {W W2 : List Nat} {e0 e j : Env} (hs : W2.all (W.elem ·) = true) (h : Off W e0 e) : Off W e0 (Go.Proofs.Ytooemjldpchgfaa.TH.mix W2 e j) := fun t ht => by
  have : W2.elem t = false := by
    cases hb : W2.elem t with
    | false => rfl
    | true =>
      have := List.all_eq_true.1 hs t (by simpa using hb)
      rw [ht] at this; cases this
  simp only [Go.Proofs.Ytooemjldpchgfaa.TH.mix, this, cond_false]
  exact h t ht
theorem Off.upds {W : List Nat} {e0 e : Env} {l : List (Nat × Value)} (hs : l.all (fun p => W.elem p.1) = true) (h : Off W e0 e) : Off W e0 (upds e l) := by
  induction l with
  | nil => exact h
  | cons p l ih =>
    simp only [List.all_cons, Bool.and_eq_true] at hs
    exact Off.upd hs.1 (ih hs.2)

theorem Off.eq {W : List Nat} {e0 e : Env} (h : Off W e0 e) : Go.Proofs.Ytooemjldpchgfaa.TH.mix W e0 e = e := by
  funext t
  simp only [Go.Proofs.Ytooemjldpchgfaa.TH.mix]
  cases hb : W.elem t with
  | true => rfl
  | false => exact (h t hb).symm

theorem upd_same {e : Env} {d : Nat} {v : Value} (h : e d = v) : upd e d v = e := by
  funext t
  simp only [upd]
  cases hb : Nat.beq t d with
  | false => rfl
  | true => rw [Nat.eq_of_beq_eq_true hb, h]; rfl
theorem upds_same {e : Env} : ∀ {l : List (Nat × Value)}, (∀ p ∈ l, e p.1 = p.2) → upds e l = e
  | [], _ => rfl
  | (d, v) :: l, h => by
    have : upds e l = e := upds_same fun p hp => h p (List.mem_cons_of_mem _ hp)
    simp only [upds, this]
    exact upd_same (h (d, v) List.mem_cons_self)

/-- Slots that hold values. -/
def Slots : Env → List (Nat × Value) → Prop
  | _, [] => True
  | e, (d, v) :: l => e d = v ∧ Slots e l
theorem Slots.all {e : Env} : ∀ {l : List (Nat × Value)}, Slots e l → ∀ p ∈ l, e p.1 = p.2
  | [], _, _, hp => by cases hp
  | (d, v) :: l, h, p, hp => by
    rcases List.mem_cons.1 hp with rfl | hp
    · exact h.1
    · exact Slots.all h.2 p hp

/-- What holds at a round's end. -/
def RoundQ {σ : Type} (W : List Nat) (sl : σ → List (Nat × Value)) (J : Nat → σ → List Hp → Prop) (e0 : Env) (n : Nat) (env : Env) (H : Hp) : Prop :=
  ∃ m s Hs tl, m < n ∧ H = join (Hs ++ tl) ∧ Disj (Hs ++ tl) ∧ J m s Hs ∧ Off W e0 env ∧ Slots env (sl s)

theorem RoundQ.mk {σ : Type} {W : List Nat} {sl : σ → List (Nat × Value)} {J : Nat → σ → List Hp → Prop} {e0 : Env} {n : Nat} (m : Nat) (s : σ) (hm : m < n) (hJ : J m s Hs) (ho : Off W e0 env) (hs : Slots env (sl s)) :
    Disj Hs → RoundQ W sl J e0 n env (join Hs) := fun hd => ⟨m, s, Hs, [], hm, by simp, by simpa using hd, hJ, ho, hs⟩

theorem EL.loop {c : Code} {σ : Type} (W : List Nat) (sl : σ → List (Nat × Value)) (J : Nat → σ → List Hp → Prop) (n : Nat) (s : σ) (h0 : J n s Hs) (hs : Slots env (sl s))
    (round : ∀ n s Hs j, J n s Hs → EL P N c (thenQ (RoundQ W sl J env n) Q) (upds (Go.Proofs.Ytooemjldpchgfaa.TH.mix W env j) (sl s)) Hs) : EL P N (.loop c) Q env Hs := by
  intro hd
  refine E_loop (fun n env' H' => ∃ s Hs tl, H' = join (Hs ++ tl) ∧ Disj (Hs ++ tl) ∧ J n s Hs ∧ Off W env env' ∧ Slots env' (sl s)) (n := n) ⟨s, Hs, [], by simp, by simpa using hd, h0, Off.refl, hs⟩ ?_
  rintro n env' H' ⟨s, Hs, tl, rfl, hd, hJ, ho, hsl⟩
  refine E_drop join_le ?_
  replace hd := (disj_append.1 hd).1
  have he : upds (Go.Proofs.Ytooemjldpchgfaa.TH.mix W env env') (sl s) = env' := by
    rw [ho.eq]; exact upds_same hsl.all
  have := round n s Hs env' hJ hd
  rw [he] at this
  refine E_mono this fun e env2 H2 hq => ?_
  cases e with
  | normal =>
    obtain ⟨m, s', Hs', tl', hm, rfl, hd', hJ', ho', hs'⟩ := hq
    exact ⟨m, hm, s', Hs', tl', rfl, hd', hJ', ho', hs'⟩
  | _ => exact hq

end

section
variable {P : Program} {N : Nat} {Q : Exit → Env → Hp → Prop} {env : Env} {Hs : List Hp}
/-- Where ways meet: what holds there is told. -/
theorem EL.mid {x y : Code} {σ : Type} (W : List Nat) (sl : σ → List (Nat × Value)) (J : σ → List Hp → Prop) (h1 : EL P N x (thenQ (RoundQ W sl (fun _ => J) env 1) Q) env Hs)
    (h2 : ∀ s Hs' j, J s Hs' → EL P N y Q (upds (Go.Proofs.Ytooemjldpchgfaa.TH.mix W env j) (sl s)) Hs') : EL P N (.seq x y) Q env Hs := fun hd => by
  refine E_seq (E_mono (h1 hd) fun e env2 H2 hq => ?_)
  cases e with
  | normal =>
    obtain ⟨m, s, Hs', tl, _, rfl, hd', hJ, ho, hs⟩ := hq
    refine E_drop join_le ?_
    have := h2 s Hs' env2 hJ (disj_append.1 hd').1
    have he : upds (Go.Proofs.Ytooemjldpchgfaa.TH.mix W env env2) (sl s) = env2 := by rw [ho.eq]; exact upds_same hs.all
    rw [he] at this
    exact this
  | _ => exact hq
end

section
variable {P : Program} {ol : List Oper} {rest : List Stp} {K : Env → Hp → Prop} {env : Env} {Hs : List Hp} {i : Nat} {held : List Nat} {d : Option Nat} {ty : TypeId} {pos : String} {af : Array Edge} {g : Option (Nat × Bool)}

/-- What is known of an element type: its cells, its bytes, its zero. -/
def ElemT (P : Program) (e : TypeId) (sz bytes : Nat) (z : Value) : Prop := ∃ ti, P.info? e = some ti ∧ ti.zero = some z ∧ ti.size = sz ∧ ti.bytes = bytes ∧ z.cells.size = sz

theorem ElemT.of {P : Program} {e : TypeId} {sz bytes : Nat} {z : Value} (h : (P.info? e).map (fun i => (i.zero, i.size, i.bytes)) = some (some z, sz, bytes)) (hz : z.cells.size = sz) : ElemT P e sz bytes z := by
  obtain ⟨ti, h1, h2⟩ := Option.map_eq_some_iff.1 h
  simp only [Prod.mk.injEq] at h2
  exact ⟨ti, h1, h2.1, h2.2.1, h2.2.2, hz⟩

theorem EPL.append {t t2 e : TypeId} {x y : Operand} {sz bytes n m : Nat} {z : Value} {xs news : List Value} (j : Nat) {Hj : Hp} (ho : nth ol i = some ⟨d, .call ⟨.builtin .append, #[x, y], #[t, t2]⟩, ty, pos, af, g⟩) (hw : wantE ol env ⟨d, .call ⟨.builtin .append, #[x, y], #[t, t2]⟩, ty, pos, af, g⟩ = true)
    (ht : P.underlying t = some (.slice e)) (ht2 : P.underlying t2 = some .string ∨ ∃ e2, P.underlying t2 = some (.slice e2)) (hE : ElemT P e sz bytes z)
    (hj : Hs[j]? = some Hj) (hown : OwnS e sz (ev env x) n xs Hj) (hsrc : Disj Hs → Src P (join Hs) sz (ev env y) m news) (h63 : n + m ≤ maxLen) (h47 : (n + m) * bytes ≤ 140737488355328)
    (h : ∀ v' Hj', OwnS e sz v' (n + m) (xs ++ news) Hj' → HeldL P ol held (putE env d v') (Hs.set j Hj') ∧ EPL P ol rest K (putE env d v') (Hs.set j Hj')) : EPL P ol (.x i held :: rest) K env Hs := by
  refine EPL.x ho hw fun hd => ?_
  obtain ⟨ti, hi, hz, hs, hby, hzs⟩ := hE
  unfold EO
  show SemH P (Builtin.append_ #[t, t2] ty (Array.map (ev env) #[x, y]) >>= fun v => pure (Next.value v)) _ _
  rw [Go.Proofs.Ytooemjldpchgfaa.TH.map2]
  refine (SemH_bind _ _).2 (SemH_mono _ ?_ (sem_append ht ht2 hi hz hs hby hzs hd hj hown (hsrc hd) h63 h47))
  rintro v' H' ⟨Hj', e1, e2, e3⟩
  exact ⟨_, e1, e2, h v' Hj' e3⟩

end
end Go.Proofs.Ytooemjldpchgfaa.TH
