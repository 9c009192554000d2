/- The operations that do something. -/
import Derived.Test.YtooemjldpchgfaaXOps
namespace Go.Proofs.Ytooemjldpchgfaa.TH
open Go

def setL (c : Array Value) (o : Nat) : List Value → Array Value
  | [] => c
  | v :: vs => setL (c.setIfInBounds o v) (o + 1) vs

theorem setL_size {c : Array Value} {o : Nat} {vs : List Value} : (setL c o vs).size = c.size := by
  induction vs generalizing c o with
  | nil => rfl
  | cons v vs ih => simp [setL, ih]

theorem setL_toList {vs : List Value} : ∀ {c : Array Value} {o : Nat}, o + vs.length ≤ c.size → (setL c o vs).toList = c.toList.take o ++ vs ++ c.toList.drop (o + vs.length) := by
  induction vs with
  | nil => intro c o _; simp [setL]
  | cons v vs ih =>
    intro c o h
    simp only [List.length_cons] at h
    simp only [setL]
    rw [ih (by simp; omega)]
    simp only [Array.toList_setIfInBounds, List.length_cons]
    rw [List.take_set, List.drop_set_of_lt (by omega)]
    have hlt : o < c.toList.length := by simp; omega
    have e1 : List.take (o + 1) c.toList = List.take o c.toList ++ [c.toList[o]] := by rw [List.take_succ_eq_append_getElem hlt]
    rw [e1]
    have e2 : (List.take o c.toList ++ [c.toList[o]]).set o v = List.take o c.toList ++ [v] := by
      rw [List.set_append_right _ _ (by simp; omega)]
      have : o - (List.take o c.toList).length = 0 := by simp; omega
      rw [this]; rfl
    rw [e2]
    have e3 : o + 1 + vs.length = o + (vs.length + 1) := by omega
    rw [e3]
    simp

theorem setL_one {c : Array Value} {o : Nat} {v : Value} : setL c o [v] = c.setIfInBounds o v := rfl

theorem frozen0 {H : Hp} {a : Addr} {c : Array Value} {e : TypeId} (hb : H a.block = some (.cells c e (0, 0))) : H.frozen? a = false := by
  simp [Hp.frozen?, hb]

theorem Hp.set_self {H : Hp} {b : Nat} {o : Obj} : H.set b o b = some o := by simp [Hp.set]
theorem Hp.set_set {H : Hp} {b : Nat} {o o' : Obj} : (H.set b o).set b o' = H.set b o' := by
  funext k; simp only [Hp.set]; split <;> rfl
theorem sg_set {b : Nat} {o o' : Obj} : (sg b o).set b o' = sg b o' := by
  funext k; simp only [Hp.set, sg]; split <;> rfl
theorem Hp.set_ne {H : Hp} {b k : Nat} {o : Obj} (h : k ≠ b) : H.set b o k = H k := by simp [Hp.set, h]

section
variable {P : Program}

/-- No frozen cell is one of the first so many. -/
def okF (fr : Nat × Nat) (n : Nat) : Prop := ∀ o, o < n → (decide (fr.1 ≤ o) && decide (o < fr.2)) = false
theorem okF.z {n : Nat} : okF (0, 0) n := fun o _ => by simp

theorem sem_storeCellsF {b : Nat} {e : TypeId} {off : Nat} {fr : Nat × Nat} : ∀ (vs : List Value) (i : Nat) {H : Hp} {c : Array Value} {K : Unit → Hp → Prop}, H b = some (.cells c e fr) → okF fr c.size → off + i + vs.length ≤ c.size → (∀ u ∈ vs, u.oneCell' = true) →
    (∀ H', H' = H.set b (.cells (setL c (off + i) vs) e fr) → K () H') → SemH P (storeCells ⟨b, off, none⟩ vs i) H K := by
  intro vs
  induction vs with
  | nil =>
    intro i H c K hb _ _ _ hk
    refine hk H ?_
    funext k
    by_cases h : k = b
    · subst h; rw [hb, Hp.set_self]; rfl
    · rw [Hp.set_ne h]
  | cons v vs ih =>
    intro i H c K hb hok hl h1 hk
    simp only [List.length_cons] at hl
    unfold storeCells
    rw [SemH_bind]
    show SemH P (Sem.store _ _ _ _) _ _
    rw [add_cell]
    refine ⟨h1 v List.mem_cons_self, c, e, fr, hb, rfl, by show off + i < c.size; omega, by simp only [Hp.frozen?, hb]; exact hok (off + i) (by omega), ?_⟩
    show SemH P (storeCells _ vs (i + 1)) _ _
    refine ih (i + 1) Hp.set_self (by simpa using hok) (by simp; omega) (fun u hu => h1 u (List.mem_cons_of_mem _ hu)) fun H' hH' => hk H' ?_
    rw [hH', Hp.set_set]
    rfl

theorem sem_storeCells {b : Nat} {e : TypeId} {off : Nat} : ∀ (vs : List Value) (i : Nat) {H : Hp} {c : Array Value} {K : Unit → Hp → Prop}, H b = some (.cells c e (0, 0)) → off + i + vs.length ≤ c.size → (∀ u ∈ vs, u.oneCell' = true) →
    (∀ H', H' = H.set b (.cells (setL c (off + i) vs) e (0, 0)) → K () H') → SemH P (storeCells ⟨b, off, none⟩ vs i) H K := by
  intro vs
  induction vs with
  | nil =>
    intro i H c K hb _ _ hk
    refine hk H ?_
    funext k
    by_cases h : k = b
    · subst h; rw [hb, Hp.set_self]; rfl
    · rw [Hp.set_ne h]
  | cons v vs ih =>
    intro i H c K hb hl h1 hk
    simp only [List.length_cons] at hl
    unfold storeCells
    rw [SemH_bind]
    show SemH P (Sem.store _ _ _ _) _ _
    rw [add_cell]
    refine ⟨h1 v List.mem_cons_self, c, e, (0, 0), hb, rfl, by show off + i < c.size; omega, frozen0 hb, ?_⟩
    show SemH P (storeCells _ vs (i + 1)) _ _
    refine ih (i + 1) Hp.set_self (by simp; omega) (fun u hu => h1 u (List.mem_cons_of_mem _ hu)) fun H' hH' => hk H' ?_
    rw [hH', Hp.set_set]
    rfl

theorem sem_sizeOf {α : Type} {t : TypeId} {n : Nat} (h : (P.info? t).map (·.size) = some n) {k : Nat → Sem α} {H : Hp} {K : α → Hp → Prop} (hk : SemH P (k n) H K) : SemH P (sizeOf t >>= k) H K := by
  rw [SemH_bind]
  obtain ⟨ti, h1, h2⟩ := Option.map_eq_some_iff.1 h
  refine SemH_of_quiet (a := n) (sizeOf t) ?_ hk
  have := q_sizeOf (P := P) (H := H) h (fun n => (pure n : Sem Nat))
  rw [quiet_bind] at this
  cases hq : quiet P H (sizeOf t) with
  | none => rw [hq] at this; cases this
  | some m => rw [hq] at this; exact this
theorem sem_underlying {α : Type} {t : TypeId} {td : TypeDesc} (h : P.underlying t = some td) {k : TypeDesc → Sem α} {H : Hp} {K : α → Hp → Prop} (hk : SemH P (k td) H K) : SemH P (underlying t >>= k) H K := by
  rw [SemH_bind]
  refine SemH_of_quiet (a := td) (underlying t) ?_ hk
  have := q_underlying (P := P) (H := H) h (fun n => (pure n : Sem TypeDesc))
  rw [quiet_bind] at this
  cases hq : quiet P H (underlying t) with
  | none => rw [hq] at this; cases this
  | some m => rw [hq] at this; exact this
theorem sem_typeInfo {α : Type} {t : TypeId} {ti : TypeInfo} (h : P.info? t = some ti) {k : TypeInfo → Sem α} {H : Hp} {K : α → Hp → Prop} (hk : SemH P (k ti) H K) : SemH P (typeInfo t >>= k) H K := by
  rw [SemH_bind]
  refine SemH_of_quiet (a := ti) (typeInfo t) ?_ hk
  show quiet P H ((Sem.program .pure).bind fun p => match p.info? t with | some i => pure i | none => stuck "no such type") = some ti
  simp only [Sem.bind, quiet, h]; rfl
theorem sem_zeroValue {α : Type} {t : TypeId} {ti : TypeInfo} {z : Value} (h : P.info? t = some ti) (hz : ti.zero = some z) {k : Value → Sem α} {H : Hp} {K : α → Hp → Prop} (hk : SemH P (k z) H K) : SemH P (zeroValue t >>= k) H K := by
  rw [SemH_bind]
  unfold zeroValue
  refine sem_typeInfo h ?_
  rw [hz]
  exact hk
theorem sem_quiet {α β : Type} {s : Sem α} {a : α} {k : α → Sem β} {H : Hp} {K : β → Hp → Prop} (h : quiet P H s = some a) (hk : SemH P (k a) H K) : SemH P (s >>= k) H K := by
  rw [SemH_bind]; exact SemH_of_quiet s h hk

theorem sem_storeVar {T : TypeId} {b off n : Nat} {v : Value} {c : Array Value} {e : TypeId} {H : Hp} {K : Unit → Hp → Prop} (hT : (P.info? T).map (·.size) = some n) (hn : v.cells.size = n) (hb : H b = some (.cells c e (0, 0))) (hl : off + n ≤ c.size)
    (h1 : ∀ u ∈ v.cells.toList, u.oneCell' = true) (hk : K () (H.set b (.cells (setL c off v.cells.toList) e (0, 0)))) : SemH P (storeVar T ⟨b, off, none⟩ v) H K := by
  unfold storeVar
  refine sem_sizeOf hT ?_
  rw [if_neg (by simp [hn])]
  refine sem_storeCells v.cells.toList 0 hb (by simp [hn]; omega) h1 fun H' hH' => ?_
  rw [hH']; exact hk
end

section
variable {P : Program} {ol : List Oper} {rest : List Stp} {K : Env → Hp → Prop} {env : Env} {Hs : List Hp} {i : Nat} {held : List Nat} {d : Option Nat} {ty : TypeId} {pos : String} {af : Array Edge} {g : Option (Nat × Bool)}

/-- Into a block of a piece. -/
theorem EPL.store {T : TypeId} {x y : Operand} {b off n : Nat} {c : Array Value} {e : TypeId} {v : Value} (j : Nat) {Hj : Hp} (ho : nth ol i = some ⟨d, .store T x y, ty, pos, af, g⟩) (hw : wantE ol env ⟨d, .store T x y, ty, pos, af, g⟩ = true)
    (hT : (P.info? T).map (·.size) = some n) (hx : ev env x = .pointer (some ⟨b, off, none⟩)) (hy : ev env y = v) (hn : v.cells.size = n) (h1 : ∀ u ∈ v.cells.toList, u.oneCell' = true) (hj : Hs[j]? = some Hj) (hb : Hj b = some (.cells c e (0, 0))) (hl : off + n ≤ c.size)
    (hh : HeldL P ol held (putE env d undef) (Hs.set j (Hj.set b (.cells (setL c off v.cells.toList) e (0, 0)))))
    (h : EPL P ol rest K (putE env d undef) (Hs.set j (Hj.set b (.cells (setL c off v.cells.toList) e (0, 0))))) : EPL P ol (.x i held :: rest) K env Hs := by
  refine EPL.x ho hw fun hd => ?_
  unfold EO
  show SemH P (Instr.storeAt T (ev env x) (ev env y) >>= fun _ => pure Next.skip) _ _
  rw [hx, hy, SemH_bind]
  show SemH P (storeVar T ⟨b, off, none⟩ v) _ _
  obtain ⟨e1, e2⟩ := join_set hd (o' := .cells (setL c off v.cells.toList) e (0, 0)) hj hb
  refine sem_storeVar hT hn (join_get hd hj hb) hl h1 ?_
  show ∃ Hs', _
  exact ⟨_, e1.symm, e2, hh, h⟩

/-- The same, a piece that is one block. -/
theorem EPL.storeS {T : TypeId} {x y : Operand} {b off n : Nat} {c : Array Value} {e : TypeId} {v : Value} (j : Nat) (ho : nth ol i = some ⟨d, .store T x y, ty, pos, af, g⟩) (hw : wantE ol env ⟨d, .store T x y, ty, pos, af, g⟩ = true)
    (hT : (P.info? T).map (·.size) = some n) (hx : ev env x = .pointer (some ⟨b, off, none⟩)) (hy : ev env y = v) (hn : v.cells.size = n) (h1 : ∀ u ∈ v.cells.toList, u.oneCell' = true) (hj : Hs[j]? = some (sg b (.cells c e (0, 0)))) (hl : off + n ≤ c.size)
    (hh : HeldL P ol held (putE env d undef) (Hs.set j (sg b (.cells (setL c off v.cells.toList) e (0, 0)))))
    (h : EPL P ol rest K (putE env d undef) (Hs.set j (sg b (.cells (setL c off v.cells.toList) e (0, 0))))) : EPL P ol (.x i held :: rest) K env Hs :=
  EPL.store j ho hw hT hx hy hn h1 hj sg_self hl (by rw [sg_set]; exact hh) (by rw [sg_set]; exact h)

theorem EPL.box {T : TypeId} {x : Operand} {c : Array Value} (ho : nth ol i = some ⟨d, .box T x, ty, pos, af, g⟩) (hw : wantE ol env ⟨d, .box T x, ty, pos, af, g⟩ = true) (hc : (ev env x).cells = c)
    (hh : ∀ b, HeldL P ol held (putE env d (.pointer (some ⟨b, 0, none⟩))) (sg b (.cells c T (0, 0)) :: Hs))
    (h : ∀ b, EPL P ol rest K (putE env d (.pointer (some ⟨b, 0, none⟩))) (sg b (.cells c T (0, 0)) :: Hs)) : EPL P ol (.x i held :: rest) K env Hs := by
  subst hc
  refine EPL.x ho hw fun hd => ?_
  unfold EO
  intro b hb
  obtain ⟨e1, e2⟩ := join_new hd (o := .cells (ev env x).cells T (0, 0)) hb
  exact ⟨_, e1.symm, e2, hh b, h b⟩

theorem EPL.alloc {T : TypeId} {ti : TypeInfo} {z : Value} (ho : nth ol i = some ⟨d, .alloc T, ty, pos, af, g⟩) (hw : wantE ol env ⟨d, .alloc T, ty, pos, af, g⟩ = true) (hi : P.info? T = some ti) (hz : ti.zero = some z)
    (hh : ∀ b, HeldL P ol held (putE env d (.pointer (some ⟨b, 0, none⟩))) (sg b (.cells z.cells T (0, 0)) :: Hs))
    (h : ∀ b, EPL P ol rest K (putE env d (.pointer (some ⟨b, 0, none⟩))) (sg b (.cells z.cells T (0, 0)) :: Hs)) : EPL P ol (.x i held :: rest) K env Hs := by
  refine EPL.x ho hw fun hd => ?_
  unfold EO
  show SemH P (Instr.alloc T true (.tuple #[]) >>= fun v => pure (Next.value v)) _ _
  rw [SemH_bind]
  unfold Instr.alloc
  refine sem_zeroValue hi hz ?_
  intro b hb
  obtain ⟨e1, e2⟩ := join_new hd (o := .cells z.cells T (0, 0)) hb
  exact ⟨_, e1.symm, e2, hh b, h b⟩

/-- A slice that is written out. -/
theorem EPL.buildSlice {T E : TypeId} {len s : Nat} {parts : Array (Nat × Operand)} {ti : TypeInfo} {z : Value} {cells : Array Value} (ho : nth ol i = some ⟨d, .buildSlice T len parts, ty, pos, af, g⟩) (hw : wantE ol env ⟨d, .buildSlice T len parts, ty, pos, af, g⟩ = true)
    (hT : P.underlying T = some (.slice E)) (hi : P.info? E = some ti) (hz : ti.zero = some z) (hs : ti.size = s) (h24 : len * s ≤ 16777216) (h0 : len * s ≠ 0)
    (hf : Instr.fill (fun i => some (i * s, s)) ((Array.range (len * s)).map (z.cells[· % z.cells.size]!)) (parts.toList.map fun p => (p.1, ev env p.2)) = some cells)
    (hh : ∀ b, HeldL P ol held (putE env d (.slice (some ⟨b, 0, none⟩) len len)) (sg b (.cells cells E (0, 0)) :: Hs))
    (h : ∀ b, EPL P ol rest K (putE env d (.slice (some ⟨b, 0, none⟩) len len)) (sg b (.cells cells E (0, 0)) :: Hs)) : EPL P ol (.x i held :: rest) K env Hs := by
  refine EPL.x ho hw fun hd => ?_
  unfold EO
  have hm : (parts.map fun (i, x) => (i, ev env x)).toList = parts.toList.map fun p => (p.1, ev env p.2) := by simp
  have key : SemH P (Instr.buildSlice T len (parts.map fun (i, x) => (i, ev env x))) (join Hs) (fun v H' => ∃ b, join Hs b = none ∧ v = .slice (some ⟨b, 0, none⟩) len len ∧ H' = (join Hs).set b (.cells cells E (0, 0))) := by
    unfold Instr.buildSlice
    refine sem_underlying hT ?_
    refine sem_sizeOf (n := s) (by rw [hi]; simp [hs]) ?_
    have hn : ¬ len * s > 2 ^ 24 := Nat.not_lt.2 h24
    simp only [if_neg hn, if_neg h0]
    simp only [hm]
    refine (SemH_bind (zeroValue E) _).2 ?_
    have hzz : quiet P (join Hs) (zeroValue E) = some z := by
      unfold zeroValue
      have : quiet P (join Hs) (typeInfo E) = some ti := by
        show quiet P (join Hs) ((Sem.program .pure).bind fun p => match p.info? E with | some i => pure i | none => stuck "no such type") = some ti
        simp only [Sem.bind, quiet, hi]; rfl
      rw [quiet_bind, this]
      simp only [Option.bind_some, hz]; rfl
    refine SemH_of_quiet (zeroValue E) hzz ?_
    refine (SemH_bind (pure z.cells) _).2 ?_
    refine SemH_of_quiet (pure z.cells) (a := z.cells) rfl ?_
    rw [hf]
    intro b hb
    exact ⟨b, hb, rfl, rfl⟩
  refine (SemH_bind _ _).2 (SemH_mono _ ?_ key)
  rintro v H' ⟨b, hb, rfl, rfl⟩
  obtain ⟨e1, e2⟩ := join_new hd (o := .cells cells E (0, 0)) hb
  exact ⟨_, e1.symm, e2, hh b, h b⟩

/-- A call of a function, by what is known of it. -/
theorem EPL.call {f : FuncId} {fn : Func} {args : Array Operand} {tys : Array TypeId} {vs : List Value} {A B : List Hp} {R : Value → List Hp → Prop} (is : List Nat) (ho : nth ol i = some ⟨d, .call ⟨.value (.func f), args, tys⟩, ty, pos, af, g⟩) (hw : wantE ol env ⟨d, .call ⟨.value (.func f), args, tys⟩, ty, pos, af, g⟩ = true)
    (hf : P.funcs[f]? = some fn) (hnum : (fn.name == "runtime.NumGoroutine") = false) (hbody : fn.body.isNone = false) (ha : args.toList.map (ev env) = vs) (ht : takes is Hs = some (A, B)) (hc : CallL P f vs A R)
    (h : ∀ v Hs', R v Hs' → HeldL P ol held (putE env d v) (Hs' ++ B) ∧ EPL P ol rest K (putE env d v) (Hs' ++ B)) : EPL P ol (.x i held :: rest) K env Hs := by
  refine EPL.x ho hw fun hd => ?_
  unfold EO
  have e0 : execOp (ev env) ⟨d, .call ⟨.value (.func f), args, tys⟩, ty, pos, af, g⟩ = callFunc f (#[] ++ args.map (ev env) ++ #[]) := rfl
  rw [e0]
  have e1 : (#[] ++ args.map (ev env) ++ #[]) = vs.toArray := by rw [← ha]; apply Array.ext'; simp
  rw [e1]
  unfold callFunc
  show SemH P (program >>= _) _ _
  rw [SemH_bind]
  show SemH P (match P.funcs[f]? with | none => _ | some fn => _) _ _
  rw [hf]
  simp only [hnum, hbody, Bool.false_eq_true, if_false]
  show CallH P f vs.toArray (join Hs) _
  refine (hc.frame ht hd).mono fun v H' ⟨Hs', e, hd', hR⟩ => ?_
  exact ⟨Hs' ++ B, e, hd', h v Hs' hR⟩

end
end Go.Proofs.Ytooemjldpchgfaa.TH
