/- The operations' rules. -/
import Derived.Test.YtooemjldpchgfaaXWalk
namespace Go.Proofs.Ytooemjldpchgfaa.TH
open Go

section
variable {P : Program} {ol : List Oper} {rest : List Stp} {K : Env → Hp → Prop} {env : Env} {Hs : List Hp} {i : Nat}

theorem EPL.nil (h : Disj Hs → K env (join Hs)) : EPL P ol [] K env Hs := h

theorem EPL.p {op : Op} {d : Nat} {ty : TypeId} {pos : String} {af : Array Edge} {g : Option (Nat × Bool)} {v : Value} (ho : nth ol i = some ⟨some d, op, ty, pos, af, g⟩) (hw : wantE ol env ⟨some d, op, ty, pos, af, g⟩ = true) (hq : quiet P Hp.nil (execOp (ev env) ⟨some d, op, ty, pos, af, g⟩) = some (.value v))
    (h : EPL P ol rest K (upd env d v) Hs) : EPL P ol (.p i :: rest) K env Hs := fun hd => ⟨_, v, ho, .inl ⟨hw, hq⟩, h hd⟩
theorem EPL.pno {op : Op} {d : Nat} {ty : TypeId} {pos : String} {af : Array Edge} {g : Option (Nat × Bool)} (ho : nth ol i = some ⟨some d, op, ty, pos, af, g⟩) (hw : wantE ol env ⟨some d, op, ty, pos, af, g⟩ = false)
    (h : EPL P ol rest K (upd env d undef) Hs) : EPL P ol (.p i :: rest) K env Hs := fun hd => ⟨_, undef, ho, .inr ⟨hw, rfl⟩, h hd⟩
theorem EPL.r {op : Op} {d : Nat} {ty : TypeId} {pos : String} {af : Array Edge} {g : Option (Nat × Bool)} {v : Value} (ho : nth ol i = some ⟨some d, op, ty, pos, af, g⟩) (hw : wantE ol env ⟨some d, op, ty, pos, af, g⟩ = true) (hq : Disj Hs → quiet P (join Hs) (execOp (ev env) ⟨some d, op, ty, pos, af, g⟩) = some (.value v))
    (h : EPL P ol rest K (upd env d v) Hs) : EPL P ol (.l i :: rest) K env Hs := fun hd => ⟨_, v, ho, .inl ⟨hw, hq hd⟩, h hd⟩
theorem EPL.rno {op : Op} {d : Nat} {ty : TypeId} {pos : String} {af : Array Edge} {g : Option (Nat × Bool)} (ho : nth ol i = some ⟨some d, op, ty, pos, af, g⟩) (hw : wantE ol env ⟨some d, op, ty, pos, af, g⟩ = false)
    (h : EPL P ol rest K (upd env d undef) Hs) : EPL P ol (.l i :: rest) K env Hs := fun hd => ⟨_, undef, ho, .inr ⟨hw, rfl⟩, h hd⟩
theorem EPL.xno {o : Oper} (ho : nth ol i = some o) (hw : wantE ol env o = false)
    (h : EPL P ol rest K (putE env o.dst undef) Hs) : EPL P ol (.x i [] :: rest) K env Hs :=
  fun hd => ⟨o, ho, .inr ⟨hw, (fun _ hm => by cases hm), h hd⟩⟩

/-- What was read still reads so. -/
def HeldL (P : Program) (ol : List Oper) (held : List Nat) (env : Env) (Hs : List Hp) : Prop := Disj Hs → HeldE P ol held env (join Hs)
theorem HeldL.nil : HeldL P ol [] env Hs := fun _ _ h => by cases h
theorem HeldL.cons {h : Nat} {hs : List Nat} {o : Oper} {d : Nat} (ho : nth ol h = some o) (hd : o.dst = some d)
    (hy : (wantE ol env o = true ∧ (Disj Hs → quiet P (join Hs) (execOp (ev env) o) = some (.value (env d)))) ∨ (wantE ol env o = false ∧ env d = undef))
    (ht : HeldL P ol hs env Hs) : HeldL P ol (h :: hs) env Hs := fun hdj k hk o' d' ho' hd' => by
  rcases List.mem_cons.1 hk with rfl | hk
  · rw [ho] at ho'; cases ho'
    rw [hd] at hd'; cases hd'
    exact hy.imp (fun ⟨h1, h2⟩ => ⟨h1, h2 hdj⟩) id
  · exact ht hdj k hk o' d' ho' hd'

/-- An effect, by what it does. -/
theorem EPL.x {o : Oper} {held : List Nat} (ho : nth ol i = some o) (hw : wantE ol env o = true)
    (hx : Disj Hs → EO P (execOp (ev env) o) (join Hs) (fun v H' => ∃ Hs', H' = join Hs' ∧ Disj Hs' ∧ HeldL P ol held (putE env o.dst v) Hs' ∧ EPL P ol rest K (putE env o.dst v) Hs')) :
    EPL P ol (.x i held :: rest) K env Hs := fun hd => ⟨o, ho, .inl ⟨hw, SemH_mono _ (fun nx H' h => by
      cases nx <;> simp only [NextH] at h ⊢
      case value v => obtain ⟨Hs', rfl, hd', hh, hr⟩ := h; exact ⟨hh hd', hr hd'⟩
      case skip => obtain ⟨Hs', rfl, hd', hh, hr⟩ := h; exact ⟨hh hd', hr hd'⟩
      case enter f args => exact CallH.mono h fun v H' ⟨Hs', e, hd', hh, hr⟩ => by subst e; exact ⟨hh hd', hr hd'⟩) (hx hd)⟩⟩

theorem EPL.bool (t : Nat) {plan : List Stp} {b : Bool} (hb : env t = .bool b) (h1 : b = true → EPL P ol plan K (upd env t (.bool true)) Hs) (h2 : b = false → EPL P ol plan K (upd env t (.bool false)) Hs) : EPL P ol plan K env Hs := by
  have hu : ∀ u, env t = u → upd env t u = env := fun u hu => by
    funext k
    simp only [upd]
    cases hk : Nat.beq k t with
    | false => rfl
    | true => rw [Nat.eq_of_beq_eq_true hk, hu]; rfl
  cases b with
  | true => have := h1 rfl; rwa [hu _ hb] at this
  | false => have := h2 rfl; rwa [hu _ hb] at this

theorem EPL.perm {plan : List Stp} {Hs' : List Hp} (hp : Hs.Perm Hs') (h : EPL P ol plan K env Hs') : EPL P ol plan K env Hs := fun hd => by
  rw [join_perm hp hd]; exact h (disj_perm hp hd)

end

/-! What an operation answers. -/
section
variable {P : Program} {H : Hp} {ρ : Operand → Value} {d : Option Nat} {ty : TypeId} {pos : String} {af : Array Edge} {g : Option (Nat × Bool)}

theorem q_move {x : Operand} {v : Value} (hx : ρ x = v) : quiet P H (execOp ρ ⟨d, .move x, ty, pos, af, g⟩) = some (.value v) := by rw [← hx]; rfl
theorem q_assign {x : Operand} {v : Value} (hx : ρ x = v) : quiet P H (execOp ρ ⟨d, .assign x, ty, pos, af, g⟩) = some (.value v) := by rw [← hx]; rfl
theorem q_pickT {c x y : Operand} {v : Value} (hc : ρ c = .bool true) (hx : ρ x = v) : quiet P H (execOp ρ ⟨d, .pick c x y, ty, pos, af, g⟩) = some (.value v) := by
  rw [← hx]; simp only [execOp, hc]; rfl
theorem q_pickF {c x y : Operand} {v : Value} (hc : ρ c = .bool false) (hy : ρ y = v) : quiet P H (execOp ρ ⟨d, .pick c x y, ty, pos, af, g⟩) = some (.value v) := by
  rw [← hy]; simp only [execOp, hc]; rfl
theorem q_nilCheck {x : Operand} {a : Addr} (hx : ρ x = .pointer (some a)) : quiet P H (execOp ρ ⟨d, .nilCheck x, ty, pos, af, g⟩) = some (.value (.pointer (some a))) := by
  simp only [execOp, hx]; rfl

theorem q_underlying {α : Type} {t : TypeId} {td : TypeDesc} (h : P.underlying t = some td) (k : TypeDesc → Sem α) : quiet P H (underlying t >>= k) = quiet P H (k td) := by
  rw [quiet_bind]
  have : quiet P H (underlying t) = some td := by
    show quiet P H ((Sem.program .pure).bind fun p => match p.underlying t with | some d => pure d | none => stuck "no such type") = some td
    simp only [Sem.bind, quiet, h]; rfl
  rw [this]; rfl
theorem q_sizeOf {α : Type} {t : TypeId} {n : Nat} (h : (P.info? t).map (·.size) = some n) (k : Nat → Sem α) : quiet P H (sizeOf t >>= k) = quiet P H (k n) := by
  rw [quiet_bind]
  obtain ⟨ti, h1, h2⟩ := Option.map_eq_some_iff.1 h
  have : quiet P H (sizeOf t) = some n := by
    show quiet P H (((Sem.program .pure).bind fun p => match p.info? t with | some i => pure i | none => stuck "no such type").bind fun i => pure i.size) = some n
    simp only [Sem.bind, quiet, h1]; rw [← h2]; rfl
  rw [this]; rfl

theorem q_fieldAddr {s : TypeId} {x : Operand} {f : Nat} {fs : Array Field} {fd : Field} {n : Nat} {a p : Addr} (hs : P.underlying s = some (.struct fs)) (hf : fs[f]? = some fd) (hn : (P.info? fd.type).map (·.size) = some (n + 1))
    (hx : ρ x = .pointer (some a)) (hp : a.add fd.offset = p) : quiet P H (execOp ρ ⟨d, .fieldAddr s x f, ty, pos, af, g⟩) = some (.value (.pointer (some p))) := by
  subst hp
  simp only [execOp, hx]
  rw [quiet_bind]
  have : quiet P H (Instr.fieldAt s (.pointer (some a)) f) = some (.pointer (some (a.add fd.offset))) := by
    unfold Instr.fieldAt
    rw [q_underlying hs]
    simp only [hf]
    show quiet P H (Instr.sureAddr (.pointer (some a)) >>= _) = _
    rw [quiet_bind]
    show quiet P H (fieldPlace a fd >>= _) = _
    unfold fieldPlace
    rw [quiet_bind, q_sizeOf hn]
    rfl
  rw [this]; rfl


/-! integers -/
theorem q_add {T T2 : TypeId} {x y : Operand} {k : IntKind} {m n : Int} (hx : ρ x = .int k m) (hy : ρ y = .int k n) : quiet P H (execOp ρ ⟨d, .binOp .add T x y T2, ty, pos, af, g⟩) = some (.value (.int k (k.wrap (m + n)))) := by
  simp [execOp, hx, hy, eqGuard, binOp, Op.intArith, quiet_bind, quiet]; rfl
theorem q_sub {T T2 : TypeId} {x y : Operand} {k : IntKind} {m n : Int} (hx : ρ x = .int k m) (hy : ρ y = .int k n) : quiet P H (execOp ρ ⟨d, .binOp .sub T x y T2, ty, pos, af, g⟩) = some (.value (.int k (k.wrap (m - n)))) := by
  simp [execOp, hx, hy, eqGuard, binOp, Op.intArith, quiet_bind, quiet]; rfl
theorem q_mul {T T2 : TypeId} {x y : Operand} {k : IntKind} {m n : Int} (hx : ρ x = .int k m) (hy : ρ y = .int k n) : quiet P H (execOp ρ ⟨d, .binOp .mul T x y T2, ty, pos, af, g⟩) = some (.value (.int k (k.wrap (m * n)))) := by
  simp [execOp, hx, hy, eqGuard, binOp, Op.intArith, quiet_bind, quiet]; rfl
theorem q_quo {T T2 : TypeId} {x y : Operand} {k : IntKind} {m n : Int} (hx : ρ x = .int k m) (hy : ρ y = .int k n) (hn : n ≠ 0) : quiet P H (execOp ρ ⟨d, .binOp .quo T x y T2, ty, pos, af, g⟩) = some (.value (.int k (k.wrap (m.tdiv n)))) := by
  simp [execOp, hx, hy, eqGuard, binOp, Op.intDiv, hn, quiet_bind, quiet]; rfl
theorem q_rem {T T2 : TypeId} {x y : Operand} {k : IntKind} {m n : Int} (hx : ρ x = .int k m) (hy : ρ y = .int k n) (hn : n ≠ 0) : quiet P H (execOp ρ ⟨d, .binOp .rem T x y T2, ty, pos, af, g⟩) = some (.value (.int k (m.tmod n))) := by
  simp [execOp, hx, hy, eqGuard, binOp, Op.intDiv, hn, quiet_bind, quiet]; rfl
def bAnd (k : IntKind) (m n : Int) : Int := k.wrap (BitVec.ofInt k.bits m &&& BitVec.ofInt k.bits n).toNat
def bOr (k : IntKind) (m n : Int) : Int := k.wrap (BitVec.ofInt k.bits m ||| BitVec.ofInt k.bits n).toNat
def bXor (k : IntKind) (m n : Int) : Int := k.wrap (BitVec.ofInt k.bits m ^^^ BitVec.ofInt k.bits n).toNat
def bAndNot (k : IntKind) (m n : Int) : Int := k.wrap (BitVec.ofInt k.bits m &&& ~~~BitVec.ofInt k.bits n).toNat
theorem q_and {T T2 : TypeId} {x y : Operand} {k : IntKind} {m n : Int} (hx : ρ x = .int k m) (hy : ρ y = .int k n) : quiet P H (execOp ρ ⟨d, .binOp .and T x y T2, ty, pos, af, g⟩) = some (.value (.int k (bAnd k m n))) := by
  simp only [execOp, hx, hy, binOp, ne_eq, not_true_eq_false, if_false, Op.intBits]; rfl
theorem q_or {T T2 : TypeId} {x y : Operand} {k : IntKind} {m n : Int} (hx : ρ x = .int k m) (hy : ρ y = .int k n) : quiet P H (execOp ρ ⟨d, .binOp .or T x y T2, ty, pos, af, g⟩) = some (.value (.int k (bOr k m n))) := by
  simp only [execOp, hx, hy, binOp, ne_eq, not_true_eq_false, if_false, Op.intBits]; rfl
theorem q_xor {T T2 : TypeId} {x y : Operand} {k : IntKind} {m n : Int} (hx : ρ x = .int k m) (hy : ρ y = .int k n) : quiet P H (execOp ρ ⟨d, .binOp .xor T x y T2, ty, pos, af, g⟩) = some (.value (.int k (bXor k m n))) := by
  simp only [execOp, hx, hy, binOp, ne_eq, not_true_eq_false, if_false, Op.intBits]; rfl
theorem q_andNot {T T2 : TypeId} {x y : Operand} {k : IntKind} {m n : Int} (hx : ρ x = .int k m) (hy : ρ y = .int k n) : quiet P H (execOp ρ ⟨d, .binOp .andNot T x y T2, ty, pos, af, g⟩) = some (.value (.int k (bAndNot k m n))) := by
  simp only [execOp, hx, hy, binOp, ne_eq, not_true_eq_false, if_false, Op.intBits]; rfl
def bShl (k : IntKind) (m n : Int) : Int := k.wrap (m * 2 ^ (min n.toNat k.bits))
def bShr (k : IntKind) (m n : Int) : Int := m.fdiv (2 ^ (min n.toNat k.bits))
theorem q_shl {T T2 : TypeId} {x y : Operand} {k k2 : IntKind} {m n : Int} (hx : ρ x = .int k m) (hy : ρ y = .int k2 n) (hn : 0 ≤ n) : quiet P H (execOp ρ ⟨d, .binOp .shl T x y T2, ty, pos, af, g⟩) = some (.value (.int k (bShl k m n))) := by
  have h : ¬ n < 0 := by omega
  simp [execOp, hx, hy, eqGuard, binOp, Op.shift, h, quiet_bind, quiet]; rfl
theorem q_shr {T T2 : TypeId} {x y : Operand} {k k2 : IntKind} {m n : Int} (hx : ρ x = .int k m) (hy : ρ y = .int k2 n) (hn : 0 ≤ n) : quiet P H (execOp ρ ⟨d, .binOp .shr T x y T2, ty, pos, af, g⟩) = some (.value (.int k (bShr k m n))) := by
  have h : ¬ n < 0 := by omega
  simp [execOp, hx, hy, eqGuard, binOp, Op.shift, h, quiet_bind, quiet]; rfl
theorem q_lss {T T2 : TypeId} {x y : Operand} {k : IntKind} {m n : Int} (hx : ρ x = .int k m) (hy : ρ y = .int k n) : quiet P H (execOp ρ ⟨d, .binOp .lss T x y T2, ty, pos, af, g⟩) = some (.value (.bool (decide (m < n)))) := by
  simp [execOp, hx, hy, eqGuard, binOp, Op.intCmp, quiet_bind, quiet]; rfl
theorem q_leq {T T2 : TypeId} {x y : Operand} {k : IntKind} {m n : Int} (hx : ρ x = .int k m) (hy : ρ y = .int k n) : quiet P H (execOp ρ ⟨d, .binOp .leq T x y T2, ty, pos, af, g⟩) = some (.value (.bool (decide (m ≤ n)))) := by
  simp [execOp, hx, hy, eqGuard, binOp, Op.intCmp, quiet_bind, quiet]; rfl
theorem q_gtr {T T2 : TypeId} {x y : Operand} {k : IntKind} {m n : Int} (hx : ρ x = .int k m) (hy : ρ y = .int k n) : quiet P H (execOp ρ ⟨d, .binOp .gtr T x y T2, ty, pos, af, g⟩) = some (.value (.bool (decide (n < m)))) := by
  simp [execOp, hx, hy, eqGuard, binOp, Op.intCmp, quiet_bind, quiet]; rfl
theorem q_geq {T T2 : TypeId} {x y : Operand} {k : IntKind} {m n : Int} (hx : ρ x = .int k m) (hy : ρ y = .int k n) : quiet P H (execOp ρ ⟨d, .binOp .geq T x y T2, ty, pos, af, g⟩) = some (.value (.bool (decide (n ≤ m)))) := by
  simp [execOp, hx, hy, eqGuard, binOp, Op.intCmp, quiet_bind, quiet]; rfl
theorem beq_dec (m n : Int) : (m == n) = decide (m = n) := by by_cases h : m = n <;> simp [h]
theorem bne_dec (m n : Int) : (m != n) = decide (m ≠ n) := by by_cases h : m = n <;> simp [h]
theorem q_eql {T T2 : TypeId} {x y : Operand} {k : IntKind} {m n : Int} (hx : ρ x = .int k m) (hy : ρ y = .int k n) : quiet P H (execOp ρ ⟨d, .binOp .eql T x y T2, ty, pos, af, g⟩) = some (.value (.bool (decide (m = n)))) := by
  rw [← beq_dec]; simp [execOp, hx, hy, eqGuard, binOp, Op.intCmp, quiet_bind, quiet]; rfl
theorem q_neq {T T2 : TypeId} {x y : Operand} {k : IntKind} {m n : Int} (hx : ρ x = .int k m) (hy : ρ y = .int k n) : quiet P H (execOp ρ ⟨d, .binOp .neq T x y T2, ty, pos, af, g⟩) = some (.value (.bool (decide (m ≠ n)))) := by
  rw [← bne_dec]; simp [execOp, hx, hy, eqGuard, binOp, Op.intCmp, quiet_bind, quiet]; rfl
theorem q_beql {T T2 : TypeId} {x y : Operand} {a b : Bool} (hT : P.underlying T = some .bool) (hx : ρ x = .bool a) (hy : ρ y = .bool b) : quiet P H (execOp ρ ⟨d, .binOp .eql T x y T2, ty, pos, af, g⟩) = some (.value (.bool (a == b))) := by
  simp only [execOp, hx, hy, eqGuard, binOp]
  have he : quiet P H (Op.equal T (.bool a) (.bool b)) = some (a == b) := by
    unfold Op.equal
    show quiet P H (Op.equalIn (9999 + 1) T (.bool a) (.bool b)) = _
    unfold Op.equalIn
    rw [q_underlying hT]
    rfl
  have e1 := quiet_bind (P := P) (H := H) ((Op.equal T (.bool a) (.bool b)) >>= fun b => pure (Value.bool b)) (fun v => (pure (Next.value v) : Sem Next))
  refine e1.trans ?_
  rw [quiet_bind, he]; rfl
theorem q_bneq {T T2 : TypeId} {x y : Operand} {a b : Bool} (hT : P.underlying T = some .bool) (hx : ρ x = .bool a) (hy : ρ y = .bool b) : quiet P H (execOp ρ ⟨d, .binOp .neq T x y T2, ty, pos, af, g⟩) = some (.value (.bool (!(a == b)))) := by
  simp only [execOp, hx, hy, eqGuard, binOp]
  have he : quiet P H (Op.equal T (.bool a) (.bool b)) = some (a == b) := by
    unfold Op.equal
    show quiet P H (Op.equalIn (9999 + 1) T (.bool a) (.bool b)) = _
    unfold Op.equalIn
    rw [q_underlying hT]
    rfl
  have e1 := quiet_bind (P := P) (H := H) ((Op.equal T (.bool a) (.bool b)) >>= fun b => pure (Value.bool (!b))) (fun v => (pure (Next.value v) : Sem Next))
  refine e1.trans ?_
  rw [quiet_bind, he]; rfl
theorem q_not {T : TypeId} {x : Operand} {b : Bool} (hx : ρ x = .bool b) : quiet P H (execOp ρ ⟨d, .unOp .not T x, ty, pos, af, g⟩) = some (.value (.bool (!b))) := by
  simp [execOp, hx, Op.unary, quiet_bind, quiet]; rfl
theorem q_neg {T : TypeId} {x : Operand} {k : IntKind} {m : Int} (hx : ρ x = .int k m) : quiet P H (execOp ρ ⟨d, .unOp .neg T x, ty, pos, af, g⟩) = some (.value (.int k (k.wrap (0 - m)))) := by
  simp [execOp, hx, Op.unary, Op.intArith, quiet_bind, quiet]; rfl
theorem q_compl {T : TypeId} {x : Operand} {k : IntKind} {m : Int} (hx : ρ x = .int k m) : quiet P H (execOp ρ ⟨d, .unOp .xor T x, ty, pos, af, g⟩) = some (.value (.int k (bXor k (if k.signed then -1 else k.max) m))) := by
  simp only [execOp, hx, Op.unary, Op.intBits]; rfl
theorem q_conv {S T : TypeId} {x : Operand} {k k2 : IntKind} {m : Int} {td : TypeDesc} (hS : P.underlying S = some td) (hT : P.underlying T = some (.int k2)) (hx : ρ x = .int k m) : quiet P H (execOp ρ ⟨d, .convert S T x, ty, pos, af, g⟩) = some (.value (.int k2 (k2.wrap m))) := by
  simp only [execOp, hx]
  rw [quiet_bind]
  have : quiet P H (convert S T (.int k m)) = some (.int k2 (k2.wrap m)) := by
    unfold convert
    rw [q_underlying hS, q_underlying hT]
    rfl
  rw [this]; rfl
theorem q_max {x y : Operand} {tys : Array TypeId} {k : IntKind} {m n : Int} (hx : ρ x = .int k m) (hy : ρ y = .int k n) : quiet P H (execOp ρ ⟨d, .call ⟨.builtin .max, #[x, y], tys⟩, ty, pos, af, g⟩) = some (.value (.int k (max m n))) := by
  have : (if n > m then n else m) = max m n := by split <;> omega
  rw [← this]
  simp [execOp, resolve, invoke, builtin, Builtin.max_, Builtin.max2, hx, hy, quiet_bind, quiet]; rfl
theorem q_min {x y : Operand} {tys : Array TypeId} {k : IntKind} {m n : Int} (hx : ρ x = .int k m) (hy : ρ y = .int k n) : quiet P H (execOp ρ ⟨d, .call ⟨.builtin .min, #[x, y], tys⟩, ty, pos, af, g⟩) = some (.value (.int k (min m n))) := by
  have : (if n < m then n else m) = min m n := by split <;> omega
  rw [← this]
  simp [execOp, resolve, invoke, builtin, Builtin.min_, Builtin.min2, hx, hy, quiet_bind, quiet]; rfl
theorem q_extract {x : Operand} {k : Nat} {vs : Array Value} {v : Value} (hx : ρ x = .tuple vs) (hk : vs[k]? = some v) : quiet P H (execOp ρ ⟨d, .extract x k, ty, pos, af, g⟩) = some (.value v) := by
  simp [execOp, hx, Instr.extract, hk, quiet_bind, quiet]; rfl

/-! pointers, strings -/
theorem q_eqlNil {T T2 E : TypeId} {x y : Operand} {p : Option Addr} (hT : P.underlying T = some (.pointer E)) (hx : ρ x = .pointer p) (hy : ρ y = .pointer none) : quiet P H (execOp ρ ⟨d, .binOp .eql T x y T2, ty, pos, af, g⟩) = some (.value (.bool p.isNone)) := by
  simp only [execOp, hx, hy, eqGuard, binOp]
  have he : quiet P H (Op.equal T (.pointer p) (.pointer none)) = some p.isNone := by
    unfold Op.equal
    show quiet P H (Op.equalIn (9999 + 1) T (.pointer p) (.pointer none)) = _
    unfold Op.equalIn
    rw [q_underlying hT]
    cases p <;> rfl
  show quiet P H (((Op.equal T (.pointer p) (.pointer none)).bind fun b => Sem.pure (Value.bool b)).bind fun v => Sem.pure (Next.value v)) = _
  have e1 := quiet_bind (P := P) (H := H) ((Op.equal T (.pointer p) (.pointer none)) >>= fun b => pure (Value.bool b)) (fun v => (pure (Next.value v) : Sem Next))
  refine e1.trans ?_
  rw [quiet_bind, he]; rfl
theorem q_neqNil {T T2 E : TypeId} {x y : Operand} {p : Option Addr} (hT : P.underlying T = some (.pointer E)) (hx : ρ x = .pointer p) (hy : ρ y = .pointer none) : quiet P H (execOp ρ ⟨d, .binOp .neq T x y T2, ty, pos, af, g⟩) = some (.value (.bool p.isSome)) := by
  simp only [execOp, hx, hy, eqGuard, binOp]
  have he : quiet P H (Op.equal T (.pointer p) (.pointer none)) = some p.isNone := by
    unfold Op.equal
    show quiet P H (Op.equalIn (9999 + 1) T (.pointer p) (.pointer none)) = _
    unfold Op.equalIn
    rw [q_underlying hT]
    cases p <;> rfl
  have e1 := quiet_bind (P := P) (H := H) ((Op.equal T (.pointer p) (.pointer none)) >>= fun b => pure (Value.bool (!b))) (fun v => (pure (Next.value v) : Sem Next))
  refine e1.trans ?_
  rw [quiet_bind, he]; cases p <;> rfl

theorem q_eqlSome {T T2 E : TypeId} {x y : Operand} {a : Addr} (hT : P.underlying T = some (.pointer E)) (hx : ρ x = .pointer (some a)) (hy : ρ y = .pointer none) : quiet P H (execOp ρ ⟨d, .binOp .eql T x y T2, ty, pos, af, g⟩) = some (.value (.bool false)) := q_eqlNil hT hx hy
theorem q_neqSome {T T2 E : TypeId} {x y : Operand} {a : Addr} (hT : P.underlying T = some (.pointer E)) (hx : ρ x = .pointer (some a)) (hy : ρ y = .pointer none) : quiet P H (execOp ρ ⟨d, .binOp .neq T x y T2, ty, pos, af, g⟩) = some (.value (.bool true)) := q_neqNil hT hx hy
theorem q_eqlNone {T T2 E : TypeId} {x y : Operand} (hT : P.underlying T = some (.pointer E)) (hx : ρ x = .pointer none) (hy : ρ y = .pointer none) : quiet P H (execOp ρ ⟨d, .binOp .eql T x y T2, ty, pos, af, g⟩) = some (.value (.bool true)) := q_eqlNil hT hx hy
theorem q_neqNone {T T2 E : TypeId} {x y : Operand} (hT : P.underlying T = some (.pointer E)) (hx : ρ x = .pointer none) (hy : ρ y = .pointer none) : quiet P H (execOp ρ ⟨d, .binOp .neq T x y T2, ty, pos, af, g⟩) = some (.value (.bool false)) := q_neqNil hT hx hy

/-- A text's value. -/
abbrev str (l : List UInt8) : Value := .string ⟨l.toArray⟩
/-- A byte's value. -/
abbrev bV (b : UInt8) : Value := .int .u8 b.toNat

theorem bytes_eq {a b : List UInt8} : ((ByteArray.mk a.toArray).toList == (ByteArray.mk b.toArray).toList) = decide (a = b) := by
  rw [ByteArray.toList_mk, ByteArray.toList_mk]
  by_cases h : a = b <;> simp [h]

theorem q_streq {T T2 : TypeId} {x y : Operand} {a b : List UInt8} (hx : ρ x = str a) (hy : ρ y = str b) : quiet P H (execOp ρ ⟨d, .binOp .eql T x y T2, ty, pos, af, g⟩) = some (.value (.bool (decide (a = b)))) := by
  rw [← bytes_eq]; simp only [execOp, hx, hy]; rfl
theorem q_strneq {T T2 : TypeId} {x y : Operand} {a b : List UInt8} (hx : ρ x = str a) (hy : ρ y = str b) : quiet P H (execOp ρ ⟨d, .binOp .neq T x y T2, ty, pos, af, g⟩) = some (.value (.bool (decide (a ≠ b)))) := by
  have : decide (a ≠ b) = !decide (a = b) := by simp
  rw [this, ← bytes_eq]; simp only [execOp, hx, hy]; rfl
theorem q_strcat {T T2 : TypeId} {x y : Operand} {a b : List UInt8} (hx : ρ x = str a) (hy : ρ y = str b) (hb : a.length + b.length ≤ 9223372036854775807) : quiet P H (execOp ρ ⟨d, .binOp .add T x y T2, ty, pos, af, g⟩) = some (.value (str (a ++ b))) := by
  simp only [execOp, hx, hy]
  have h1 : quiet P H (binOp .add T (str a) (str b)) = some (str (a ++ b)) := by
    show quiet P H (Op.stringOp .add _ _) = _
    unfold Op.stringOp
    have : ¬ (((ByteArray.mk a.toArray).size + (ByteArray.mk b.toArray).size : Nat) : Int) > IntKind.i64.max := by
      simp [ByteArray.size, IntKind.max, IntKind.signed, IntKind.bits]; omega
    simp only [this, if_false]
    show some _ = _
    congr 2
  rw [quiet_bind]
  refine (congrArg (fun o : Option Value => o.bind fun a => quiet P H (pure (Next.value a) : Sem Next)) (show quiet P H (do eqGuard .add T x y (str a) (str b); binOp .add T (str a) (str b)) = some (str (a ++ b)) from ?_)).trans rfl
  rw [quiet_bind]
  exact h1

theorem map1 {α β : Type} {f : α → β} {x : α} : Array.map f #[x] = #[f x] := by simp
theorem map2 {α β : Type} {f : α → β} {x y : α} : Array.map f #[x, y] = #[f x, f y] := by simp
theorem len_str {l : List UInt8} : (ByteArray.mk l.toArray).size = l.length := by simp [ByteArray.size]
theorem q_lenStr {x : Operand} {T : TypeId} {a : List UInt8} (hT : P.underlying T = some .string) (hx : ρ x = str a) : quiet P H (execOp ρ ⟨d, .call ⟨.builtin .len, #[x], #[T]⟩, ty, pos, af, g⟩) = some (.value (.int .i64 a.length)) := by
  have h1 : quiet P H (Builtin.len_ #[T] ty #[str a]) = some (.int .i64 a.length) := by
    unfold Builtin.len_
    show quiet P H (underlying T >>= _) = _
    rw [q_underlying hT]
    show some (goInt _) = _
    rw [len_str]; rfl
  show quiet P H (Builtin.len_ #[T] ty (Array.map ρ #[x]) >>= fun v => pure (Next.value v)) = _
  rw [map1, hx, quiet_bind, h1]; rfl
theorem q_lenSl {x : Operand} {T E : TypeId} {a : Option Addr} {n c : Nat} (hT : P.underlying T = some (.slice E)) (hx : ρ x = .slice a n c) : quiet P H (execOp ρ ⟨d, .call ⟨.builtin .len, #[x], #[T]⟩, ty, pos, af, g⟩) = some (.value (.int .i64 n)) := by
  have h1 : quiet P H (Builtin.len_ #[T] ty #[.slice a n c]) = some (.int .i64 n) := by
    unfold Builtin.len_
    show quiet P H (underlying T >>= _) = _
    rw [q_underlying hT]; rfl
  show quiet P H (Builtin.len_ #[T] ty (Array.map ρ #[x]) >>= fun v => pure (Next.value v)) = _
  rw [map1, hx, quiet_bind, h1]; rfl
theorem q_lenArr {x : Operand} {T E : TypeId} {n : Nat} (hT : P.underlying T = some (.array n E)) : quiet P H (execOp ρ ⟨d, .call ⟨.builtin .len, #[x], #[T]⟩, ty, pos, af, g⟩) = some (.value (.int .i64 n)) := by
  have h1 : quiet P H (Builtin.len_ #[T] ty #[ρ x]) = some (.int .i64 n) := by
    unfold Builtin.len_
    show quiet P H (underlying T >>= _) = _
    rw [q_underlying hT]; rfl
  show quiet P H (Builtin.len_ #[T] ty (Array.map ρ #[x]) >>= fun v => pure (Next.value v)) = _
  rw [map1, quiet_bind, h1]; rfl

theorem q_indexStr {x ix : Operand} {T : TypeId} {a : List UInt8} {k : IntKind} {i : Int} {b : UInt8} (hT : P.underlying T = some .string) (hx : ρ x = str a) (hi : ρ ix = .int k i) (h0 : 0 ≤ i) (hb : a[i.toNat]? = some b) :
    quiet P H (execOp ρ ⟨d, .index T x ix, ty, pos, af, g⟩) = some (.value (bV b)) := by
  have h1 : quiet P H (Instr.index T (str a) (.int k i)) = some (bV b) := by
    unfold Instr.index
    show quiet P H (underlying T >>= _) = _
    rw [q_underlying hT]
    have : (if 0 ≤ i then (ByteArray.mk a.toArray)[i.toNat]? else (none : Option UInt8)) = some b := by
      rw [if_pos h0]
      obtain ⟨hlt, hv⟩ := List.getElem?_eq_some_iff.1 hb
      have hlt' : i.toNat < (ByteArray.mk a.toArray).size := by rw [len_str]; exact hlt
      rw [getElem?_pos (ByteArray.mk a.toArray) i.toNat hlt']
      congr 1
    simp only [this]; rfl
  show quiet P H (Instr.index T (ρ x) (ρ ix) >>= fun v => pure (Next.value v)) = _
  rw [hx, hi, quiet_bind, h1]; rfl

/-- A scalar's type; a type of so many cells. -/
def scal (P : Program) (T : TypeId) : Bool := match P.underlying T with
  | some (.struct _) => false
  | some (.array _ _) => false
  | some _ => true
  | none => false
def aggr (P : Program) (T : TypeId) (n : Nat) : Bool := (match P.underlying T with
  | some (.struct _) => true
  | some (.array _ _) => true
  | _ => false) && ((P.info? T).map (·.size) == some n)

theorem q_isAggF {T : TypeId} (h : scal P T = true) {α : Type} (k : Bool → Sem α) : quiet P H (isAgg T >>= k) = quiet P H (k false) := by
  unfold scal at h
  rw [quiet_bind]
  have : quiet P H (isAgg T) = some false := by
    unfold isAgg
    cases hu : P.underlying T with
    | none => simp [hu] at h
    | some td => rw [q_underlying hu]; simp only [hu] at h; cases td <;> simp at h <;> rfl
  rw [this]; rfl
theorem q_isAggT {T : TypeId} {n : Nat} (h : aggr P T n = true) {α : Type} (k : Bool → Sem α) : quiet P H (isAgg T >>= k) = quiet P H (k true) := by
  unfold aggr at h
  rw [Bool.and_eq_true] at h
  rw [quiet_bind]
  have : quiet P H (isAgg T) = some true := by
    unfold isAgg
    cases hu : P.underlying T with
    | none => simp [hu] at h
    | some td => rw [q_underlying hu]; simp only [hu] at h; cases td <;> simp at h <;> rfl
  rw [this]; rfl
theorem aggr_size {T : TypeId} {n : Nat} (h : aggr P T n = true) : (P.info? T).map (·.size) = some n := by
  unfold aggr at h
  rw [Bool.and_eq_true] at h
  exact eq_of_beq h.2

theorem add_cell {b off i : Nat} : (⟨b, off, none⟩ : Addr).add i = ⟨b, off + i, none⟩ := by
  unfold Addr.add; split
  · rename_i h; subst h; rfl
  · rfl

theorem cell_at {H : Hp} {b : Nat} {c : Array Value} {e : TypeId} {fr : Nat × Nat} (hb : H b = some (.cells c e fr)) (o : Nat) : H.cell? ⟨b, o, none⟩ = c[o]? := by
  unfold Hp.cell?
  simp only [hb]
  rfl

theorem q_loadCells {b : Nat} {c : Array Value} {e : TypeId} {fr : Nat × Nat} (hb : H b = some (.cells c e fr)) (off : Nat) : ∀ (n i : Nat) (acc : Array Value), off + i + n ≤ c.size →
    quiet P H (loadCellsFrom ⟨b, off, none⟩ i n acc) = some (acc ++ c.extract (off + i) (off + i + n)) := by
  intro n
  induction n with
  | zero => intro i acc _; show some acc = _; simp; omega
  | succ n ih =>
    intro i acc h
    unfold loadCellsFrom
    show quiet P H (Sem.load _ _ _ >>= _) = _
    have hlt : off + i < c.size := by omega
    have e1 : quiet P H ((load ((⟨b, off, none⟩ : Addr).add i)) >>= fun v => loadCellsFrom ⟨b, off, none⟩ (i + 1) n (acc.push v)) = quiet P H (loadCellsFrom ⟨b, off, none⟩ (i + 1) n (acc.push c[off + i])) := by
      rw [quiet_bind]
      have : quiet P H (load ((⟨b, off, none⟩ : Addr).add i)) = some c[off + i] := by
        unfold load
        simp only [quiet, add_cell, cell_at hb]
        rw [getElem?_pos c (off + i) hlt]
      rw [this]; rfl
    refine e1.trans ?_
    rw [ih (i + 1) _ (by omega)]
    congr 1
    apply Array.ext'
    simp only [Array.toList_append, Array.toList_push, Array.toList_extract, List.append_assoc]
    congr 1
    rw [List.extract_eq_take_drop, List.extract_eq_take_drop]
    have : c.toList.drop (off + i) = c[off + i] :: c.toList.drop (off + i + 1) := by
      rw [List.drop_eq_getElem_cons (by simpa using hlt)]; simp
    rw [this]
    have e2 : off + i + (n + 1) - (off + i) = n + 1 := by omega
    have e3 : off + (i + 1) + n - (off + (i + 1)) = n := by omega
    rw [e2, e3]
    rfl

theorem q_load1 {T : TypeId} {x : Operand} {b off : Nat} {c : Array Value} {e : TypeId} {fr : Nat × Nat} {v : Value} (hT : scal P T = true) (hx : ρ x = .pointer (some ⟨b, off, none⟩)) (hb : H b = some (.cells c e fr)) (hv : c[off]? = some v) :
    quiet P H (execOp ρ ⟨d, .load T x, ty, pos, af, g⟩) = some (.value v) := by
  have h1 : quiet P H (Instr.loadAt T (.pointer (some ⟨b, off, none⟩))) = some v := by
    unfold Instr.loadAt
    show quiet P H (loadVar T ⟨b, off, none⟩) = _
    unfold loadVar
    rw [q_isAggF hT]
    show quiet P H (load _) = _
    unfold load
    simp only [quiet, cell_at hb, hv]
  show quiet P H (Instr.loadAt T (ρ x) >>= fun v => pure (Next.value v)) = _
  rw [hx, quiet_bind, h1]; rfl

theorem q_loadVarA {T : TypeId} {b off n : Nat} {c : Array Value} {e : TypeId} {fr : Nat × Nat} (hT : aggr P T n = true) (hb : H b = some (.cells c e fr)) (hv : off + n ≤ c.size) :
    quiet P H (loadVar T ⟨b, off, none⟩) = some (.agg (c.extract off (off + n))) := by
  unfold loadVar
  rw [q_isAggT hT]
  simp only [if_true]
  rw [q_sizeOf (aggr_size hT), quiet_bind]
  have := q_loadCells (P := P) hb off n 0 #[] (by omega)
  unfold loadCells
  rw [this]
  simp
  rfl

theorem q_loadA {T : TypeId} {x : Operand} {b off n : Nat} {c : Array Value} {e : TypeId} {fr : Nat × Nat} (hT : aggr P T n = true) (hx : ρ x = .pointer (some ⟨b, off, none⟩)) (hb : H b = some (.cells c e fr)) (hv : off + n ≤ c.size) :
    quiet P H (execOp ρ ⟨d, .load T x, ty, pos, af, g⟩) = some (.value (.agg (c.extract off (off + n)))) := by
  show quiet P H (Instr.loadAt T (ρ x) >>= fun v => pure (Next.value v)) = _
  rw [hx, quiet_bind]
  show (quiet P H (loadVar T ⟨b, off, none⟩)).bind _ = _
  rw [q_loadVarA hT hb hv]; rfl

theorem q_field1 {S : TypeId} {x : Operand} {f : Nat} {fs : Array Field} {fd : Field} {c : Array Value} {v : Value} (hS : P.underlying S = some (.struct fs)) (hf : fs[f]? = some fd) (hT : scal P fd.type = true) (hx : ρ x = .agg c) (hv : c[fd.offset]? = some v) :
    quiet P H (execOp ρ ⟨d, .field S x f, ty, pos, af, g⟩) = some (.value v) := by
  have h1 : quiet P H (Instr.field S (.agg c) f) = some v := by
    unfold Instr.field
    rw [q_underlying hS]
    simp only [hf]
    show quiet P H (part fd.type c fd.offset) = _
    unfold part
    rw [q_isAggF hT]
    simp only [Bool.false_eq_true, if_false, hv]; rfl
  show quiet P H (Instr.field S (ρ x) f >>= fun v => pure (Next.value v)) = _
  rw [hx, quiet_bind, h1]; rfl
theorem q_fieldA {S : TypeId} {x : Operand} {f n : Nat} {fs : Array Field} {fd : Field} {c : Array Value} (hS : P.underlying S = some (.struct fs)) (hf : fs[f]? = some fd) (hT : aggr P fd.type n = true) (hx : ρ x = .agg c) :
    quiet P H (execOp ρ ⟨d, .field S x f, ty, pos, af, g⟩) = some (.value (.agg (c.extract fd.offset (fd.offset + n)))) := by
  have h1 : quiet P H (Instr.field S (.agg c) f) = some (.agg (c.extract fd.offset (fd.offset + n))) := by
    unfold Instr.field
    rw [q_underlying hS]
    simp only [hf]
    show quiet P H (part fd.type c fd.offset) = _
    unfold part
    rw [q_isAggT hT]
    simp only [if_true]
    rw [q_sizeOf (aggr_size hT)]; rfl
  show quiet P H (Instr.field S (ρ x) f >>= fun v => pure (Next.value v)) = _
  rw [hx, quiet_bind, h1]; rfl

theorem q_idxSl {T E : TypeId} {x ix : Operand} {b off n c s : Nat} {k : IntKind} {i : Int} (hT : P.underlying T = some (.slice E)) (hs : (P.info? E).map (·.size) = some s) (hx : ρ x = .slice (some ⟨b, off, none⟩) n c) (hi : ρ ix = .int k i) (h0 : 0 ≤ i) (h1 : i < n) :
    quiet P H (execOp ρ ⟨d, .indexAddr T x ix, ty, pos, af, g⟩) = some (.value (.pointer (some ⟨b, off + i.toNat * s, none⟩))) := by
  have h1 : quiet P H (Instr.indexAt T (.slice (some ⟨b, off, none⟩) n c) (.int k i)) = some (.pointer (some ⟨b, off + i.toNat * s, none⟩)) := by
    unfold Instr.indexAt
    show quiet P H (underlying T >>= _) = _
    rw [q_underlying hT]
    show quiet P H (underlying T >>= _) = _
    rw [q_underlying hT]
    simp only [h0, h1, and_self, if_true]
    rw [q_sizeOf hs, add_cell]; rfl
  show quiet P H (Instr.indexAt T (ρ x) (ρ ix) >>= fun v => pure (Next.value v)) = _
  rw [hx, hi, quiet_bind, h1]; rfl
theorem q_idxArr {T E : TypeId} {x ix : Operand} {b off n s : Nat} {k : IntKind} {i : Int} (hT : P.underlying T = some (.array n E)) (hs : (P.info? E).map (·.size) = some s) (hx : ρ x = .pointer (some ⟨b, off, none⟩)) (hi : ρ ix = .int k i) (h0 : 0 ≤ i) (h1 : i < n) :
    quiet P H (execOp ρ ⟨d, .indexAddr T x ix, ty, pos, af, g⟩) = some (.value (.pointer (some ⟨b, off + i.toNat * s, none⟩))) := by
  have h1 : quiet P H (Instr.indexAt T (.pointer (some ⟨b, off, none⟩)) (.int k i)) = some (.pointer (some ⟨b, off + i.toNat * s, none⟩)) := by
    unfold Instr.indexAt
    show quiet P H (underlying T >>= _) = _
    rw [q_underlying hT]
    show quiet P H (underlying T >>= _) = _
    rw [q_underlying hT]
    simp only [h0, h1, and_self, if_true]
    rw [q_sizeOf hs, add_cell]; rfl
  show quiet P H (Instr.indexAt T (ρ x) (ρ ix) >>= fun v => pure (Next.value v)) = _
  rw [hx, hi, quiet_bind, h1]; rfl

end
end Go.Proofs.Ytooemjldpchgfaa.TH
