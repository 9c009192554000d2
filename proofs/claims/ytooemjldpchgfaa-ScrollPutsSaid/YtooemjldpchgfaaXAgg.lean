/- Arrays and structs as values: laid whole, compared. -/
import Derived.Test.YtooemjldpchgfaaXNum
namespace Go.Proofs.Ytooemjldpchgfaa.TH
open Go

theorem setL_all {c : Array Value} {l : List Value} (h : c.size = l.length) : setL c 0 l = l.toArray := by
  apply Array.ext'
  rw [setL_toList (by omega)]
  simp only [List.take_zero, List.nil_append, Nat.zero_add]
  rw [List.drop_of_length_le (by simp [h]), List.append_nil]

section
variable {P : Program} {ol : List Oper} {rest : List Stp} {K : Env → Hp → Prop} {env : Env} {Hs : List Hp} {i : Nat} {held : List Nat} {d : Option Nat} {ty : TypeId} {pos : String} {af : Array Edge} {g : Option (Nat × Bool)}

/-- A whole block is laid anew. -/
theorem EPL.stA {T : TypeId} {x y : Operand} {b n : Nat} {c v : Array Value} {e : TypeId} {Hs' : List Hp} (ho : nth ol i = some ⟨d, .store T x y, ty, pos, af, g⟩) (hw : wantE ol env ⟨d, .store T x y, ty, pos, af, g⟩ = true)
    (hT : (P.info? T).map (·.size) = some n) (hx : ev env x = .pointer (some ⟨b, 0, none⟩)) (hy : ev env y = .agg v) (hn : v.size = n) (h1 : ∀ u ∈ v.toList, u.oneCell' = true) [hs : SetS Hs b (.cells c e (0, 0)) (.cells v e (0, 0)) Hs'] (hl : c.size = n)
    (hh : HeldL P ol held (putE env d undef) Hs') (h : EPL P ol rest K (putE env d undef) Hs') : EPL P ol (.x i held :: rest) K env Hs := by
  obtain ⟨j, hj, he⟩ := hs.ok
  subst he
  have e1 : setL c 0 (Value.agg v).cells.toList = v := by
    show setL c 0 v.toList = v
    rw [setL_all (by simp [hl, hn])]
  refine EPL.storeS j ho hw hT hx hy hn h1 hj (by omega) ?_ ?_
  · rw [e1]; exact hh
  · rw [e1]; exact h
theorem bvAll (l : List UInt8) : ∀ u ∈ (l.map bV).toArray.toList, u.oneCell' = true := by
  intro u hu
  obtain ⟨x, _, rfl⟩ := List.mem_map.1 (by simpa using hu)
  rfl
end

theorem extract_of {c : Array Value} {o n : Nat} {l : List Value} (h : (c.toList.drop o).take n = l) : c.extract o (o + n) = l.toArray := by
  apply Array.ext'
  rw [Array.toList_extract, List.extract_eq_take_drop, ← h]
  congr 1
  omega
theorem flat_get {α : Type} {f : α → List Value} {k : Nat} : ∀ {xs : List α} {i : Nat} {x : α}, (∀ x ∈ xs, (f x).length = k) → xs[i]? = some x → ((xs.flatMap f).drop (i * k)).take k = f x
  | [], _, _, _, h => by simp at h
  | y :: ys, 0, x, hk, h => by
    simp at h; subst h
    have := hk y List.mem_cons_self
    rw [Nat.zero_mul, List.drop_zero, List.flatMap_cons, ← this, List.take_left]
  | y :: ys, i + 1, x, hk, h => by
    have h1 := hk y List.mem_cons_self
    have := flat_get (f := f) (k := k) (xs := ys) (i := i) (fun z hz => hk z (List.mem_cons_of_mem _ hz)) (by simpa using h)
    rw [List.flatMap_cons, Nat.add_mul, Nat.one_mul, Nat.add_comm, ← List.drop_drop, ← h1, List.drop_left]
    rw [h1]; exact this
theorem flat_len {α : Type} {f : α → List Value} {k : Nat} : ∀ {xs : List α}, (∀ x ∈ xs, (f x).length = k) → (xs.flatMap f).length = xs.length * k
  | [], _ => by simp
  | y :: ys, hk => by
    rw [List.flatMap_cons, List.length_append, hk y List.mem_cons_self, flat_len fun z hz => hk z (List.mem_cons_of_mem _ hz), List.length_cons, Nat.add_mul, Nat.one_mul, Nat.add_comm]
/-- An element of more cells. -/
theorem OwnS.getA {α : Type} {f : α → List Value} {T k : Nat} {v : Value} {xs : List α} {H : Hp} (h : OwnS T k v xs.length (xs.flatMap f) H) (hk : ∀ x ∈ xs, (f x).length = k) {i : Nat} {x : α} (hx : xs[i]? = some x) :
    ∃ b off cap c fr, v = .slice (some ⟨b, off, none⟩) xs.length cap ∧ H b = some (.cells c T fr) ∧ off + i * k + k ≤ c.size ∧ c.extract (off + i * k) (off + i * k + k) = (f x).toArray := by
  obtain ⟨hi, _⟩ := List.getElem?_eq_some_iff.1 hx
  obtain ⟨b, off, cap, c, fr, e, hb, ht, hc⟩ := h.get hi
  exact ⟨b, off, cap, c, fr, e, hb, hc, extract_of (ht.trans (flat_get hk hx))⟩

theorem fill2 {v u w : Value} (hu : u.oneCell' = true) (hw : w.oneCell' = true) (hz : v.cells.size = 1) : Instr.fill (fun i => some (i * 1, 1)) ((Array.range (2 * 1)).map (v.cells[· % v.cells.size]!)) [(0, u), (1, w)] = some #[u, w] := by
  have hc : u.cells = #[u] := by cases u <;> first | rfl | (simp [Value.oneCell'] at hu)
  have hd : w.cells = #[w] := by cases w <;> first | rfl | (simp [Value.oneCell'] at hw)
  have h0 : ((Array.range (2 * 1)).map (v.cells[· % v.cells.size]!)) = #[v.cells[0]!, v.cells[0]!] := by
    apply Array.ext'
    simp [Array.range, hz, Array.ofFn, Nat.mod_one]
    rfl
  rw [h0]
  simp [Instr.fill, hc, hd]

theorem fillA {v : Value} {c : Array Value} {n : Nat} (hc : c.size = n) : Instr.fill (fun i => some (i * n, n)) ((Array.range (1 * n)).map (v.cells[· % v.cells.size]!)) [(0, .agg c)] = some c := by
  have h0 : ((Array.range (1 * n)).map (v.cells[· % v.cells.size]!)).size = c.size := by simp [hc]
  have : FillP (fun i => some (i * n, n)) ((Array.range (1 * n)).map (v.cells[· % v.cells.size]!)) [(0, .agg c)] c := by
    refine .cons rfl hc (by rw [h0, hc]; omega) ?_ .nil
    show setL _ (0 * n) c.toList = c
    rw [Nat.zero_mul, setL_all (by rw [h0]; simp)]
  exact this.eq

section
variable {P : Program} {H : Hp} {ρ : Operand → Value} {d : Option Nat} {ty : TypeId} {pos : String} {af : Array Edge} {g : Option (Nat × Bool)}

theorem q_isAgg0 {T : TypeId} (hT : scal P T = true) : quiet P H (isAgg T) = some false := by
  unfold scal at hT
  unfold isAgg
  cases hu : P.underlying T with
  | none => simp [hu] at hT
  | some td =>
    rw [q_underlying hu]
    cases td <;> simp [hu] at hT <;> rfl

theorem q_part1 {T : TypeId} {cs : Array Value} {off : Nat} {v : Value} (hT : scal P T = true) (hv : cs[off]? = some v) : quiet P H (part T cs off) = some v := by
  unfold part
  rw [quiet_bind, q_isAgg0 hT]
  simp only [Option.bind_some, Bool.false_eq_true, if_false, hv]
  rfl

theorem q_forAll {β : Type} (f : Nat → β → Sem (ForInStep β)) (s0 s1 : β) (p : Nat → Bool) : ∀ l : List Nat, (∀ i ∈ l, quiet P H (f i s0) = some (if p i then .yield s0 else .done s1)) → quiet P H (forIn l s0 f) = some (if l.all p then s0 else s1) := by
  intro l
  induction l with
  | nil => intro _; rfl
  | cons a l ih =>
    intro h
    rw [List.forIn_cons, quiet_bind, h a List.mem_cons_self]
    simp only [Option.bind_some, List.all_cons]
    by_cases hp : p a = true
    · simp only [hp, if_true, Bool.true_and]
      exact ih fun i hi => h i (List.mem_cons_of_mem _ hi)
    · simp only [hp, Bool.false_eq_true, if_false, Bool.false_and]; rfl

theorem q_equalInt {e : TypeId} {k : IntKind} {m n : Int} {D : Nat} (he : P.underlying e = some (.int k)) : quiet P H (Op.equalIn (D + 1) e (.int k m) (.int k n)) = some (m == n) := by
  unfold Op.equalIn
  rw [q_underlying he]
  show quiet P H (if k = k then pure (m == n) else _) = _
  rw [if_pos rfl]; rfl

theorem q_equalArr {T e : TypeId} {len D : Nat} {xs ys : List Int} {k : IntKind} (hT : P.underlying T = some (.array len e)) (he : P.underlying e = some (.int k)) (hs : (P.info? e).map (·.size) = some 1) (hx : xs.length = len) (hy : ys.length = len) :
    quiet P H (Op.equalIn (D + 2) T (.agg (xs.map (Value.int k)).toArray) (.agg (ys.map (Value.int k)).toArray)) = some (decide (xs = ys)) := by
  have hsc : scal P e = true := by unfold scal; rw [he]
  unfold Op.equalIn
  rw [q_underlying hT]
  show quiet P H (sizeOf e >>= _) = _
  rw [q_sizeOf hs]
  rw [quiet_bind]
  rw [Std.Legacy.Range.forIn_eq_forIn_range']
  rw [q_forAll (s0 := ((none, ()) : Option Bool × Unit)) (s1 := ((some false, ()) : Option Bool × Unit)) (p := fun i => decide (xs[i]? = ys[i]?))]
  · simp only [Option.bind_some]
    have hall : ((List.range' 0 ([0:len].size) 1).all fun i => decide (xs[i]? = ys[i]?)) = decide (xs = ys) := by
      rw [Bool.eq_iff_iff]
      simp only [List.all_eq_true, decide_eq_true_eq, List.mem_range'_1]
      constructor
      · intro h
        apply List.ext_getElem?
        intro i
        by_cases hi : i < len
        · exact h i ⟨Nat.zero_le _, by simp [Std.Legacy.Range.size]; omega⟩
        · rw [List.getElem?_eq_none (by omega), List.getElem?_eq_none (by omega)]
      · intro h i _; rw [h]
    rw [hall]
    by_cases h : xs = ys
    · simp only [h, decide_true, if_true]; rfl
    · simp only [h, decide_false, Bool.false_eq_true, if_false]; rfl
  · intro i hi
    have hi' : i < len := by
      have := (List.mem_range'_1.1 hi).2
      simp [Std.Legacy.Range.size] at this; omega
    have h1 : xs[i]? = some xs[i] := List.getElem?_eq_getElem (by omega)
    have h2 : ys[i]? = some ys[i] := List.getElem?_eq_getElem (by omega)
    rw [quiet_bind, q_part1 hsc (v := .int k xs[i]) (by simp [h1])]
    simp only [Option.bind_some]
    rw [quiet_bind, q_part1 hsc (v := .int k ys[i]) (by simp [h2])]
    simp only [Option.bind_some]
    rw [quiet_bind, q_equalInt he]
    simp only [Option.bind_some, h1, h2, Option.some.injEq]
    by_cases h : xs[i] = ys[i]
    · simp [h]; rfl
    · simp [h]; rfl

theorem q_arrNeq {T T2 e : TypeId} {x y : Operand} {len : Nat} {xs ys : List Int} {k : IntKind} (hT : P.underlying T = some (.array len e)) (he : P.underlying e = some (.int k)) (hs : (P.info? e).map (·.size) = some 1) (hg : P.eqGuardType P.depth T = false) (hl : xs.length = len) (hl2 : ys.length = len)
    (hx : ρ x = .agg (xs.map (Value.int k)).toArray) (hy : ρ y = .agg (ys.map (Value.int k)).toArray) : quiet P H (execOp ρ ⟨d, .binOp .neq T x y T2, ty, pos, af, g⟩) = some (.value (.bool (decide (xs ≠ ys)))) := by
  have hde : decide (xs ≠ ys) = !decide (xs = ys) := by simp
  rw [hde]
  have he2 : quiet P H (Op.equal T (.agg (xs.map (Value.int k)).toArray) (.agg (ys.map (Value.int k)).toArray)) = some (decide (xs = ys)) := q_equalArr (D := 9998) hT he hs hl hl2
  simp only [execOp, hx, hy]
  have hgd : quiet P H (eqGuard .neq T x y (.agg (xs.map (Value.int k)).toArray) (.agg (ys.map (Value.int k)).toArray)) = some () := by
    unfold eqGuard
    show quiet P H (do if !(← program).eqGuardType (← program).depth T then return
                       if ← Op.eqGuardIn Op.maxDepth T _ _ then unsupported _) = _
    show quiet P H (if (!P.eqGuardType P.depth T) = true then pure () else _) = _
    rw [hg]; rfl
  rw [quiet_bind]
  have hb : quiet P H (do eqGuard .neq T x y (.agg (xs.map (Value.int k)).toArray) (.agg (ys.map (Value.int k)).toArray); binOp .neq T (.agg (xs.map (Value.int k)).toArray) (.agg (ys.map (Value.int k)).toArray)) = some (.bool (!decide (xs = ys))) := by
    rw [quiet_bind, hgd]
    simp only [Option.bind_some]
    show quiet P H (Op.equal T _ _ >>= fun b => pure (Value.bool (!b))) = _
    rw [quiet_bind, he2]; rfl
  rw [hb]; rfl
theorem q_arrEql {T T2 e : TypeId} {x y : Operand} {len : Nat} {xs ys : List Int} {k : IntKind} (hT : P.underlying T = some (.array len e)) (he : P.underlying e = some (.int k)) (hs : (P.info? e).map (·.size) = some 1) (hg : P.eqGuardType P.depth T = false) (hl : xs.length = len) (hl2 : ys.length = len)
    (hx : ρ x = .agg (xs.map (Value.int k)).toArray) (hy : ρ y = .agg (ys.map (Value.int k)).toArray) : quiet P H (execOp ρ ⟨d, .binOp .eql T x y T2, ty, pos, af, g⟩) = some (.value (.bool (decide (xs = ys)))) := by
  have he2 : quiet P H (Op.equal T (.agg (xs.map (Value.int k)).toArray) (.agg (ys.map (Value.int k)).toArray)) = some (decide (xs = ys)) := q_equalArr (D := 9998) hT he hs hl hl2
  simp only [execOp, hx, hy]
  have hgd : quiet P H (eqGuard .eql T x y (.agg (xs.map (Value.int k)).toArray) (.agg (ys.map (Value.int k)).toArray)) = some () := by
    unfold eqGuard
    show quiet P H (if (!P.eqGuardType P.depth T) = true then pure () else _) = _
    rw [hg]; rfl
  rw [quiet_bind]
  have hb : quiet P H (do eqGuard .eql T x y (.agg (xs.map (Value.int k)).toArray) (.agg (ys.map (Value.int k)).toArray); binOp .eql T (.agg (xs.map (Value.int k)).toArray) (.agg (ys.map (Value.int k)).toArray)) = some (.bool (decide (xs = ys))) := by
    rw [quiet_bind, hgd]
    simp only [Option.bind_some]
    show quiet P H (Op.equal T _ _ >>= fun b => pure (Value.bool b)) = _
    rw [quiet_bind, he2]; rfl
  rw [hb]; rfl

/-- Texts of bytes as cells. -/
theorem bv_inj {a b : List UInt8} : (a.map fun x => (x.toNat : Int)) = (b.map fun x => (x.toNat : Int)) ↔ a = b := by
  constructor
  · intro h
    exact (List.map_inj_right (f := fun x : UInt8 => (x.toNat : Int)) (fun x y h => UInt8.toNat_inj.1 (by omega))).1 h
  · intro h; rw [h]
theorem bv_map (a : List UInt8) : a.map bV = (a.map fun x => (x.toNat : Int)).map (Value.int .u8) := by simp

/-- A result that stands in a block. -/
theorem rv_cellA {a T n b : Nat} {env : Env} {c : Array Value} {e : TypeId} {fr : Nat × Nat} (hT : aggr P T n = true) (ha : env a = .pointer (some ⟨b, 0, none⟩)) (hb : H b = some (.cells c e fr)) (hn : c.size = n) : rv P H env (.cell a T) = some (.agg c) := by
  show quiet P H (do loadVar T (← asAddr (env a))) = _
  rw [ha]
  show quiet P H (loadVar T ⟨b, 0, none⟩) = _
  have h := q_loadA (ρ := fun _ => Value.pointer (some ⟨b, 0, none⟩)) (d := none) (x := .tmp 0) (ty := 0) (pos := "") (af := #[]) (g := none) hT rfl hb (off := 0) (by omega)
  have h2 : quiet P H (loadVar T ⟨b, 0, none⟩ >>= fun v => pure (Next.value v)) = some (.value (.agg (c.extract 0 (0 + n)))) := h
  rw [quiet_bind] at h2
  cases hq : quiet P H (loadVar T ⟨b, 0, none⟩) with
  | none => rw [hq] at h2; cases h2
  | some v =>
    rw [hq] at h2
    have h3 : Next.value v = Next.value (Value.agg (c.extract 0 (0 + n))) := Option.some.inj h2
    have h4 : v = Value.agg (c.extract 0 (0 + n)) := by injection h3
    rw [h4, Nat.zero_add, ← hn]
    simp
theorem resL_one {env : Env} {r : ResultVar} {v : Value} (h : rv P H env r = some v) : resL P H env [r] = some [v] := by simp [resL, h]
end

section
variable {P : Program} {ol : List Oper} {rest : List Stp} {K : Env → Hp → Prop} {env : Env} {Hs : List Hp} {i : Nat} {held : List Nat} {d : Option Nat} {ty : TypeId} {pos : String} {af : Array Edge} {g : Option (Nat × Bool)}
/-- A whole block is loaded. -/
theorem EPL.ldAw {dd : Nat} {T : TypeId} {x : Operand} {b n : Nat} {c : Array Value} {e : TypeId} {fr : Nat × Nat} (ho : nth ol i = some ⟨some dd, .load T x, ty, pos, af, g⟩) (hw : wantE ol env ⟨some dd, .load T x, ty, pos, af, g⟩ = true)
    (hT : aggr P T n = true) (hx : ev env x = .pointer (some ⟨b, 0, none⟩)) [hp : PickS Hs b (.cells c e fr)] (hn : c.size = n)
    (h : EPL P ol rest K (upd env dd (.agg c)) Hs) : EPL P ol (.l i :: rest) K env Hs :=
  EPL.ldA ho hw hT hx (by omega) (by rw [Nat.zero_add, ← hn]; simp) h
theorem HeldL.ldAp {h : Nat} {hs : List Nat} {dd : Nat} {T : TypeId} {x : Operand} {b off n : Nat} {c : Array Value} {e : TypeId} {fr : Nat × Nat} (ho : nth ol h = some ⟨some dd, .load T x, ty, pos, af, g⟩) (hw : wantE ol env ⟨some dd, .load T x, ty, pos, af, g⟩ = true)
    (hT : aggr P T n = true) (hx : ev env x = .pointer (some ⟨b, off, none⟩)) [hp : PickS Hs b (.cells c e fr)] (hl : off + n ≤ c.size) (hv : .agg (c.extract off (off + n)) = env dd) (ht : HeldL P ol hs env Hs) : HeldL P ol (h :: hs) env Hs :=
  HeldL.cons ho rfl (.inl ⟨hw, fun hd => let ⟨_, hj⟩ := hp.ok; by rw [← hv]; exact q_loadA hT hx (join_get hd hj sg_self) hl⟩) ht
/-- A part of a block is loaded. -/
theorem EPL.ldAp {dd : Nat} {T : TypeId} {x : Operand} {b off n : Nat} {c v : Array Value} {e : TypeId} {fr : Nat × Nat} (ho : nth ol i = some ⟨some dd, .load T x, ty, pos, af, g⟩) (hw : wantE ol env ⟨some dd, .load T x, ty, pos, af, g⟩ = true)
    (hT : aggr P T n = true) (hx : ev env x = .pointer (some ⟨b, off, none⟩)) [hp : PickS Hs b (.cells c e fr)] (hl : off + n ≤ c.size) (hv : c.extract off (off + n) = v)
    (h : EPL P ol rest K (upd env dd (.agg v)) Hs) : EPL P ol (.l i :: rest) K env Hs :=
  EPL.ldA ho hw hT hx hl (by rw [hv]) h
end
end Go.Proofs.Ytooemjldpchgfaa.TH
