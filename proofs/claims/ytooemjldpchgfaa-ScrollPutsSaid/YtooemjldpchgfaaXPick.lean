/- The rules by which the pieces are found where they lie. -/
import Derived.Test.YtooemjldpchgfaaXCode
namespace Go.Proofs.Ytooemjldpchgfaa.TH
open Go

/-- A block among the pieces. -/
class PickS (Hs : List Hp) (b : Nat) (o : outParam Obj) : Prop where
  ok : ∃ j : Nat, Hs[j]? = some (sg b o)
instance PickS.here {Hs : List Hp} {b : Nat} {o : Obj} : PickS (sg b o :: Hs) b o := ⟨0, rfl⟩
instance (priority := low) PickS.there {H : Hp} {Hs : List Hp} {b : Nat} {o : Obj} [h : PickS Hs b o] : PickS (H :: Hs) b o := ⟨let ⟨j, hj⟩ := h.ok; ⟨j + 1, hj⟩⟩

/-- A block among the pieces is another one. -/
class SetS (Hs : List Hp) (b : Nat) (o : outParam Obj) (o' : Obj) (Hs' : outParam (List Hp)) : Prop where
  ok : ∃ j : Nat, Hs[j]? = some (sg b o) ∧ Hs' = Hs.set j (sg b o')
instance SetS.here {Hs : List Hp} {b : Nat} {o o' : Obj} : SetS (sg b o :: Hs) b o o' (sg b o' :: Hs) := ⟨0, rfl, rfl⟩
instance (priority := low) SetS.there {H : Hp} {Hs Hs' : List Hp} {b : Nat} {o o' : Obj} [h : SetS Hs b o o' Hs'] : SetS (H :: Hs) b o o' (H :: Hs') := ⟨let ⟨j, hj, he⟩ := h.ok; ⟨j + 1, hj, by rw [he]; rfl⟩⟩

/-- A piece among the pieces is another one. -/
class SetP (Hs : List Hp) (H : Hp) (H' : Hp) (Hs' : outParam (List Hp)) : Prop where
  ok : ∃ j : Nat, Hs[j]? = some H ∧ Hs' = Hs.set j H'
instance SetP.here {Hs : List Hp} {H H' : Hp} : SetP (H :: Hs) H H' (H' :: Hs) := ⟨0, rfl, rfl⟩
instance (priority := low) SetP.there {K : Hp} {Hs Hs' : List Hp} {H H' : Hp} [h : SetP Hs H H' Hs'] : SetP (K :: Hs) H H' (K :: Hs') := ⟨let ⟨j, hj, he⟩ := h.ok; ⟨j + 1, hj, by rw [he]; rfl⟩⟩

class TakeP (Hs : List Hp) (H : Hp) (Ks : outParam (List Hp)) : Prop where
  ok : Hs.Perm (H :: Ks)
instance TakeP.here {Hs : List Hp} {H : Hp} : TakeP (H :: Hs) H Hs := ⟨.refl _⟩
instance (priority := low) TakeP.there {K : Hp} {Hs Ks : List Hp} {H : Hp} [h : TakeP Hs H Ks] : TakeP (K :: Hs) H (K :: Ks) := ⟨(h.ok.cons K).trans (.swap ..)⟩

class TakesP (Hs : List Hp) (A : List Hp) (B : outParam (List Hp)) : Prop where
  ok : Hs.Perm (A ++ B)
instance TakesP.nil {Hs : List Hp} : TakesP Hs [] Hs := ⟨.refl _⟩
instance TakesP.cons {Hs Ks A B : List Hp} {H : Hp} [h1 : TakeP Hs H Ks] [h2 : TakesP Ks A B] : TakesP Hs (H :: A) B := ⟨h1.ok.trans (h2.ok.cons H)⟩

instance PickS.app {H : Hp} {A B : List Hp} {b : Nat} {o : Obj} [h : PickS (H :: (A ++ B)) b o] : PickS ((H :: A) ++ B) b o := ⟨h.ok⟩
instance PickS.app0 {B : List Hp} {b : Nat} {o : Obj} [h : PickS B b o] : PickS ([] ++ B) b o := ⟨h.ok⟩
instance SetS.app {H : Hp} {A B Hs' : List Hp} {b : Nat} {o o' : Obj} [h : SetS (H :: (A ++ B)) b o o' Hs'] : SetS ((H :: A) ++ B) b o o' Hs' := ⟨h.ok⟩
instance SetS.app0 {B Hs' : List Hp} {b : Nat} {o o' : Obj} [h : SetS B b o o' Hs'] : SetS ([] ++ B) b o o' Hs' := ⟨h.ok⟩
instance SetP.app {H K K' : Hp} {A B Hs' : List Hp} [h : SetP (H :: (A ++ B)) K K' Hs'] : SetP ((H :: A) ++ B) K K' Hs' := ⟨h.ok⟩
instance SetP.app0 {K K' : Hp} {B Hs' : List Hp} [h : SetP B K K' Hs'] : SetP ([] ++ B) K K' Hs' := ⟨h.ok⟩
instance TakeP.app {H K : Hp} {A B Ks : List Hp} [h : TakeP (H :: (A ++ B)) K Ks] : TakeP ((H :: A) ++ B) K Ks := ⟨h.ok⟩
instance TakeP.app0 {K : Hp} {B Ks : List Hp} [h : TakeP B K Ks] : TakeP ([] ++ B) K Ks := ⟨h.ok⟩

theorem CallL.frameP {P : Program} {f : FuncId} {args : List Value} {Hs A B : List Hp} {R : Value → List Hp → Prop} (hp : Hs.Perm (A ++ B)) (hd : Disj Hs) (h : CallL P f args A R) :
    CallH P f args.toArray (join Hs) fun v H' => ∃ Hs', H' = join (Hs' ++ B) ∧ Disj (Hs' ++ B) ∧ R v Hs' := by
  rw [join_perm hp hd]
  have key : ∀ (A' : List Hp), takes (A'.map fun _ => 0) (A' ++ B) = some (A', B) := by
    intro A'
    induction A' with
    | nil => rfl
    | cons H A' ih => simp only [List.map_cons, List.cons_append, takes, takeAt, ih]
  exact CallL.frame (key A) (disj_perm hp hd) h

theorem CallL.mono {P : Program} {f : FuncId} {args : List Value} {Hs : List Hp} {R R' : Value → List Hp → Prop} (h : CallL P f args Hs R) (hr : ∀ v Hs', R v Hs' → R' v Hs') : CallL P f args Hs R' :=
  fun hd => (h hd).mono fun v H' ⟨Hs', e, hd', r⟩ => ⟨Hs', e, hd', hr _ _ r⟩

theorem mem_get {Hs : List Hp} {A B : List Hp} (h : Hs.Perm (A ++ B)) {j : Nat} {H : Hp} (hj : A[j]? = some H) : ∃ k : Nat, Hs[k]? = some H := by
  have : H ∈ Hs := h.mem_iff.2 (List.mem_append_left _ (List.mem_of_getElem? hj))
  obtain ⟨k, hk, he⟩ := List.getElem_of_mem this
  exact ⟨k, by rw [List.getElem?_eq_getElem hk, he]⟩

theorem end_retP {P : Program} {env : Env} {Hs : List Hp} {rs : List ResultVar} {R : Value → List Hp → Prop} {vs : List Value} (A : List Hp) {B : List Hp} [ht : TakesP Hs A B] (hv : Disj Hs → resL P (join Hs) env rs = some vs) (h : Disj Hs → R (retV vs) A) : Disj Hs → RetQ P rs (PQ R) .ret env (join Hs) :=
  fun hd => ⟨vs, hv hd, A, B, join_perm ht.ok hd, disj_perm ht.ok hd, h hd⟩
theorem end_normalP {P : Program} {env : Env} {Hs : List Hp} {rs : List ResultVar} {R : Value → List Hp → Prop} {vs : List Value} (A : List Hp) {B : List Hp} [ht : TakesP Hs A B] (hv : Disj Hs → resL P (join Hs) env rs = some vs) (h : Disj Hs → R (retV vs) A) : Disj Hs → RetQ P rs (PQ R) .normal env (join Hs) :=
  fun hd => ⟨vs, hv hd, A, B, join_perm ht.ok hd, disj_perm ht.ok hd, h hd⟩
theorem RoundQ.mkP {env : Env} {Hs : List Hp} {σ : Type} {W : List Nat} {sl : σ → List (Nat × Value)} {J : Nat → σ → List Hp → Prop} {e0 : Env} {n : Nat} (m : Nat) (s : σ) (A : List Hp) {B : List Hp} [ht : TakesP Hs A B] (hm : m < n) (hJ : J m s A) (ho : Off W e0 env) (hs : Slots env (sl s)) :
    Disj Hs → RoundQ W sl J e0 n env (join Hs) := fun hd => ⟨m, s, A, B, hm, join_perm ht.ok hd, disj_perm ht.ok hd, hJ, ho, hs⟩

section
variable {P : Program} {N : Nat} {Q : Exit → Env → Hp → Prop} {ol : List Oper} {rest : List Stp} {K : Env → Hp → Prop} {env : Env} {Hs : List Hp} {i : Nat} {held : List Nat} {d : Option Nat} {ty : TypeId} {pos : String} {af : Array Edge} {g : Option (Nat × Bool)}

/-- These pieces are enough. -/
theorem EL.useP {c : Code} (A : List Hp) {B : List Hp} [ht : TakesP Hs A B] (h : EL P N c Q env A) : EL P N c Q env Hs := fun hd => by
  rw [join_perm ht.ok hd]
  exact E_drop join_le (h (disj_append.1 (disj_perm ht.ok hd)).1)

theorem EL.go {c : Code} (h : EL P N c Q env Hs) : Disj Hs → E P N c Q env (join Hs) := h

theorem EPL.ld1 {dd : Nat} {T : TypeId} {x : Operand} {b off : Nat} {c : Array Value} {e : TypeId} {fr : Nat × Nat} {v : Value} (ho : nth ol i = some ⟨some dd, .load T x, ty, pos, af, g⟩) (hw : wantE ol env ⟨some dd, .load T x, ty, pos, af, g⟩ = true)
    (hT : scal P T = true) (hx : ev env x = .pointer (some ⟨b, off, none⟩)) [hp : PickS Hs b (.cells c e fr)] (hv : c[off]? = some v)
    (h : EPL P ol rest K (upd env dd v) Hs) : EPL P ol (.l i :: rest) K env Hs :=
  EPL.r ho hw (fun hd => let ⟨_, hj⟩ := hp.ok; q_load1 hT hx (join_get hd hj sg_self) hv) h
theorem EPL.ldA {dd : Nat} {T : TypeId} {x : Operand} {b off n : Nat} {c : Array Value} {e : TypeId} {fr : Nat × Nat} {v : Value} (ho : nth ol i = some ⟨some dd, .load T x, ty, pos, af, g⟩) (hw : wantE ol env ⟨some dd, .load T x, ty, pos, af, g⟩ = true)
    (hT : aggr P T n = true) (hx : ev env x = .pointer (some ⟨b, off, none⟩)) [hp : PickS Hs b (.cells c e fr)] (hl : off + n ≤ c.size) (hv : .agg (c.extract off (off + n)) = v)
    (h : EPL P ol rest K (upd env dd v) Hs) : EPL P ol (.l i :: rest) K env Hs :=
  EPL.r ho hw (fun hd => let ⟨_, hj⟩ := hp.ok; by rw [← hv]; exact q_loadA hT hx (join_get hd hj sg_self) hl) h
/-- Out of a piece of whatever make. -/
theorem EPL.ld1P {dd : Nat} {T : TypeId} {x : Operand} {b off : Nat} {c : Array Value} {e : TypeId} {fr : Nat × Nat} {v : Value} {H : Hp} {Ks : List Hp} (ho : nth ol i = some ⟨some dd, .load T x, ty, pos, af, g⟩) (hw : wantE ol env ⟨some dd, .load T x, ty, pos, af, g⟩ = true)
    (hT : scal P T = true) (hx : ev env x = .pointer (some ⟨b, off, none⟩)) (hH : H b = some (.cells c e fr)) [hp : TakeP Hs H Ks] (hv : c[off]? = some v)
    (h : EPL P ol rest K (upd env dd v) Hs) : EPL P ol (.l i :: rest) K env Hs :=
  EPL.r ho hw (fun hd => let ⟨_, hj⟩ := mem_get (A := [H]) (B := Ks) hp.ok (j := 0) rfl; q_load1 hT hx (join_get hd hj hH) hv) h
theorem EPL.ldAP {dd : Nat} {T : TypeId} {x : Operand} {b off n : Nat} {c : Array Value} {e : TypeId} {fr : Nat × Nat} {v : Value} {H : Hp} {Ks : List Hp} (ho : nth ol i = some ⟨some dd, .load T x, ty, pos, af, g⟩) (hw : wantE ol env ⟨some dd, .load T x, ty, pos, af, g⟩ = true)
    (hT : aggr P T n = true) (hx : ev env x = .pointer (some ⟨b, off, none⟩)) (hH : H b = some (.cells c e fr)) [hp : TakeP Hs H Ks] (hl : off + n ≤ c.size) (hv : .agg (c.extract off (off + n)) = v)
    (h : EPL P ol rest K (upd env dd v) Hs) : EPL P ol (.l i :: rest) K env Hs :=
  EPL.r ho hw (fun hd => let ⟨_, hj⟩ := mem_get (A := [H]) (B := Ks) hp.ok (j := 0) rfl; by rw [← hv]; exact q_loadA hT hx (join_get hd hj hH) hl) h

/-- What was loaded out of a block still stands there. -/
theorem HeldL.ld1 {h : Nat} {hs : List Nat} {dd : Nat} {T : TypeId} {x : Operand} {b off : Nat} {c : Array Value} {e : TypeId} {fr : Nat × Nat} (ho : nth ol h = some ⟨some dd, .load T x, ty, pos, af, g⟩) (hw : wantE ol env ⟨some dd, .load T x, ty, pos, af, g⟩ = true)
    (hT : scal P T = true) (hx : ev env x = .pointer (some ⟨b, off, none⟩)) [hp : PickS Hs b (.cells c e fr)] (hv : c[off]? = some (env dd)) (ht : HeldL P ol hs env Hs) : HeldL P ol (h :: hs) env Hs :=
  HeldL.cons ho rfl (.inl ⟨hw, fun hd => let ⟨_, hj⟩ := hp.ok; q_load1 hT hx (join_get hd hj sg_self) hv⟩) ht
theorem HeldL.no {h : Nat} {hs : List Nat} {dd : Nat} {op : Op} (ho : nth ol h = some ⟨some dd, op, ty, pos, af, g⟩) (hw : wantE ol env ⟨some dd, op, ty, pos, af, g⟩ = false) (hu : env dd = undef) (ht : HeldL P ol hs env Hs) : HeldL P ol (h :: hs) env Hs :=
  HeldL.cons ho rfl (.inr ⟨hw, hu⟩) ht

theorem EPL.st {T : TypeId} {x y : Operand} {b off n : Nat} {c c' : Array Value} {e : TypeId} {v : Value} {Hs' : List Hp} (ho : nth ol i = some ⟨d, .store T x y, ty, pos, af, g⟩) (hw : wantE ol env ⟨d, .store T x y, ty, pos, af, g⟩ = true)
    (hT : (P.info? T).map (·.size) = some n) (hx : ev env x = .pointer (some ⟨b, off, none⟩)) (hy : ev env y = v) (hn : v.cells.size = n) (h1 : ∀ u ∈ v.cells.toList, u.oneCell' = true) [hs : SetS Hs b (.cells c e (0, 0)) (.cells c' e (0, 0)) Hs'] (hl : off + n ≤ c.size) (hc : setL c off v.cells.toList = c')
    (hh : HeldL P ol held (putE env d undef) Hs') (h : EPL P ol rest K (putE env d undef) Hs') : EPL P ol (.x i held :: rest) K env Hs := by
  obtain ⟨j, hj, he⟩ := hs.ok
  subst he; subst hc
  exact EPL.storeS j ho hw hT hx hy hn h1 hj hl hh h

theorem EPL.app {t t2 e : TypeId} {x y : Operand} {sz bytes n m : Nat} {z vx vy : Value} {xs news : List Value} {Hj : Hp} (ho : nth ol i = some ⟨d, .call ⟨.builtin .append, #[x, y], #[t, t2]⟩, ty, pos, af, g⟩) (hw : wantE ol env ⟨d, .call ⟨.builtin .append, #[x, y], #[t, t2]⟩, ty, pos, af, g⟩ = true)
    (ht : P.underlying t = some (.slice e)) (ht2 : P.underlying t2 = some .string ∨ ∃ e2, P.underlying t2 = some (.slice e2)) (hE : ElemT P e sz bytes z)
    (hvx : ev env x = vx) (hown : OwnS e sz vx n xs Hj) (hvy : ev env y = vy) (hsrc : Disj Hs → Src P (join Hs) sz vy m news) (h63 : n + m ≤ maxLen) (h47 : (n + m) * bytes ≤ 140737488355328) {Hs' : Hp → List Hp} [hs : ∀ Hj', SetP Hs Hj Hj' (Hs' Hj')]
    (h : ∀ v' Hj', OwnS e sz v' (n + m) (xs ++ news) Hj' → HeldL P ol held (putE env d v') (Hs' Hj') ∧ EPL P ol rest K (putE env d v') (Hs' Hj')) : EPL P ol (.x i held :: rest) K env Hs := by
  subst hvx; subst hvy
  refine EPL.x ho hw fun hd => ?_
  obtain ⟨j, hj, _⟩ := (hs Hj).ok
  obtain ⟨ti, hi, hz, hsz, hby, hzs⟩ := hE
  unfold EO
  show SemH P (Builtin.append_ #[t, t2] ty (Array.map (ev env) #[x, y]) >>= fun v => pure (Next.value v)) _ _
  rw [Go.Proofs.Ytooemjldpchgfaa.TH.map2]
  refine (SemH_bind _ _).2 (SemH_mono _ ?_ (sem_append ht ht2 hi hz hsz hby hzs hd hj hown (hsrc hd) h63 h47))
  rintro v' H' ⟨Hj', e1, e2, e3⟩
  obtain ⟨h1, h2⟩ := h v' Hj' e3
  have hp : (Hs' Hj').Perm (Hs.set j Hj') := by
    obtain ⟨j', hj', he'⟩ := (hs Hj').ok
    rw [he']
    have key : ∀ (l : List Hp) (j j' : Nat), l[j]? = some Hj → l[j']? = some Hj → (l.set j Hj').Perm (l.set j' Hj') := by
      intro l
      induction l with
      | nil => intro j j' h; simp at h
      | cons a l ih =>
        intro j j' ha hb
        cases j with
        | zero =>
          simp at ha; subst ha
          cases j' with
          | zero => exact .refl _
          | succ j' =>
            simp at hb
            simp only [List.set_cons_zero, List.set_cons_succ]
            obtain ⟨l1, l2, rfl, rfl⟩ : ∃ l1 l2, l = l1 ++ a :: l2 ∧ l1.length = j' := by
              obtain ⟨hlt, hv⟩ := List.getElem?_eq_some_iff.1 hb
              exact ⟨l.take j', l.drop (j' + 1), by rw [← hv]; simp, by simp; omega⟩
            rw [List.set_append_right _ _ (by omega)]
            simp only [Nat.sub_self, List.set_cons_zero]
            exact ((List.perm_middle (a := a)).cons Hj').trans ((List.Perm.swap ..).trans ((List.perm_middle (a := Hj')).symm.cons a))
        | succ j =>
          cases j' with
          | zero =>
            simp at hb; subst hb
            simp at ha
            simp only [List.set_cons_zero, List.set_cons_succ]
            obtain ⟨l1, l2, rfl, rfl⟩ : ∃ l1 l2, l = l1 ++ a :: l2 ∧ l1.length = j := by
              obtain ⟨hlt, hv⟩ := List.getElem?_eq_some_iff.1 ha
              exact ⟨l.take j, l.drop (j + 1), by rw [← hv]; simp, by simp; omega⟩
            rw [List.set_append_right _ _ (by omega)]
            simp only [Nat.sub_self, List.set_cons_zero]
            exact (((List.perm_middle (a := a)).cons Hj').trans ((List.Perm.swap ..).trans ((List.perm_middle (a := Hj')).symm.cons a))).symm
          | succ j' => simp only [List.set_cons_succ]; exact (ih j j' (by simpa using ha) (by simpa using hb)).cons a
    exact key Hs j' j hj' hj
  exact ⟨Hs' Hj', by rw [e1]; exact (join_perm hp.symm e2), disj_perm hp.symm e2, h1, h2⟩

theorem EPL.cl {f : FuncId} {fn : Func} {args : Array Operand} {tys : Array TypeId} {vs : List Value} {A B : List Hp} {R : Value → List Hp → Prop} (ho : nth ol i = some ⟨d, .call ⟨.value (.func f), args, tys⟩, ty, pos, af, g⟩) (hw : wantE ol env ⟨d, .call ⟨.value (.func f), args, tys⟩, ty, pos, af, g⟩ = true)
    (hf : P.funcs[f]? = some fn) (hnum : (fn.name == "runtime.NumGoroutine") = false) (hbody : fn.body.isNone = false) (hc : CallL P f vs A R) (ha : args.toList.map (ev env) = vs) [ht : TakesP Hs A B]
    (h : ∀ v Hs', R v Hs' → HeldL P ol held (putE env d v) (Hs' ++ B) ∧ EPL P ol rest K (putE env d v) (Hs' ++ B)) : EPL P ol (.x i held :: rest) K env Hs := by
  refine EPL.x ho hw fun hd => ?_
  unfold EO
  have e0 : execOp (ev env) ⟨d, .call ⟨.value (.func f), args, tys⟩, ty, pos, af, g⟩ = callFunc f (#[] ++ args.map (ev env) ++ #[]) := rfl
  rw [e0]
  have e1 : (#[] ++ args.map (ev env) ++ #[]) = vs.toArray := by rw [← ha]; apply Array.ext'; simp
  rw [e1]
  unfold callFunc
  show SemH P (program >>= _) _ _
  rw [SemH_bind]
  show SemH P (match P.funcs[f]? with | none => _ | some fn => _) _ _
  rw [hf]
  simp only [hnum, hbody, Bool.false_eq_true, if_false]
  show CallH P f vs.toArray (join Hs) _
  refine (hc.frameP ht.ok hd).mono fun v H' ⟨Hs', e, hd', hR⟩ => ?_
  exact ⟨Hs' ++ B, e, hd', h v Hs' hR⟩


theorem EPL.al {T : TypeId} {sz bytes : Nat} {z : Value} (ho : nth ol i = some ⟨d, .alloc T, ty, pos, af, g⟩) (hw : wantE ol env ⟨d, .alloc T, ty, pos, af, g⟩ = true) (hE : ElemT P T sz bytes z)
    (hh : ∀ b, HeldL P ol held (putE env d (.pointer (some ⟨b, 0, none⟩))) (sg b (.cells z.cells T (0, 0)) :: Hs))
    (h : ∀ b, EPL P ol rest K (putE env d (.pointer (some ⟨b, 0, none⟩))) (sg b (.cells z.cells T (0, 0)) :: Hs)) : EPL P ol (.x i held :: rest) K env Hs := by
  obtain ⟨ti, hi, hz, _⟩ := hE
  exact EPL.alloc ho hw hi hz hh h
theorem EPL.bs {T E : TypeId} {len s bytes : Nat} {parts : Array (Nat × Operand)} {z : Value} {cells : Array Value} (ho : nth ol i = some ⟨d, .buildSlice T len parts, ty, pos, af, g⟩) (hw : wantE ol env ⟨d, .buildSlice T len parts, ty, pos, af, g⟩ = true)
    (hT : P.underlying T = some (.slice E)) (hE : ElemT P E s bytes z) (h24 : Nat.ble (len * s) 16777216 = true) (h0 : Nat.beq (len * s) 0 = false)
    (hf : Instr.fill (fun i => some (i * s, s)) ((Array.range (len * s)).map (z.cells[· % z.cells.size]!)) (parts.toList.map fun p => (p.1, ev env p.2)) = some cells)
    (hh : ∀ b, HeldL P ol held (putE env d (.slice (some ⟨b, 0, none⟩) len len)) (sg b (.cells cells E (0, 0)) :: Hs))
    (h : ∀ b, EPL P ol rest K (putE env d (.slice (some ⟨b, 0, none⟩) len len)) (sg b (.cells cells E (0, 0)) :: Hs)) : EPL P ol (.x i held :: rest) K env Hs := by
  obtain ⟨ti, hi, hz, hs, _⟩ := hE
  exact EPL.buildSlice ho hw hT hi hz hs (Nat.le_of_ble_eq_true h24) (Nat.ne_of_beq_eq_false h0) hf hh h
theorem fill1 {v : Value} {u : Value} (hu : u.oneCell' = true) (hz : v.cells.size = 1) : Instr.fill (fun i => some (i * 1, 1)) ((Array.range (1 * 1)).map (v.cells[· % v.cells.size]!)) [(0, u)] = some #[u] := by
  have hc : u.cells = #[u] := by cases u <;> first | rfl | (simp [Value.oneCell'] at hu)
  have h0 : ((Array.range (1 * 1)).map (v.cells[· % v.cells.size]!)) = #[v.cells[0]!] := by
    apply Array.ext'
    simp [Array.range, hz]
  rw [h0]
  simp [Instr.fill, hc]
theorem oneV {v : Value} (h : v.oneCell' = true) : ∀ u ∈ v.cells.toList, u.oneCell' = true := by
  intro u hu
  cases v <;> simp [Value.oneCell'] at h <;> simp [Value.cells] at hu <;> subst hu <;> rfl
theorem one1 {k : IntKind} {n : Int} : ∀ u ∈ (Value.cells (.int k n)).toList, u.oneCell' = true := by intro u hu; simp [Value.cells] at hu; subst hu; rfl
end

/-! Values that are written out. -/
theorem fold_setL (vs : List Value) : ∀ (c : Array Value) (off k : Nat), (vs.zipIdx k).foldl (fun cs (x : Value × Nat) => cs.setIfInBounds (off + x.2) x.1) c = setL c (off + k) vs := by
  induction vs with
  | nil => intro c off k; rfl
  | cons v vs ih =>
    intro c off k
    simp only [List.zipIdx_cons, List.foldl_cons, setL]
    rw [ih]; rfl

/-- Parts are laid into cells. -/
inductive FillP (pl : Nat → Option (Nat × Nat)) : Array Value → List (Nat × Value) → Array Value → Prop where
  | nil {c : Array Value} : FillP pl c [] c
  | cons {c c' c2 : Array Value} {i : Nat} {v : Value} {rest : List (Nat × Value)} {off size : Nat} (hp : pl i = some (off, size)) (hs : v.cells.size = size) (hl : off + size ≤ c.size) (hc : setL c off v.cells.toList = c2) (h : FillP pl c2 rest c') : FillP pl c ((i, v) :: rest) c'

theorem FillP.eq {pl : Nat → Option (Nat × Nat)} {c c' : Array Value} {parts : List (Nat × Value)} (h : FillP pl c parts c') : Instr.fill pl c parts = some c' := by
  induction h with
  | nil => rfl
  | @cons c c' c2 i v rest off size hp hs hl hc h ih =>
    unfold Instr.fill
    simp only [hp]
    have : (decide (v.cells.size ≠ size) || decide (off + v.cells.size > c.size)) = false := by simp [hs]; omega
    rw [if_neg (by rw [this]; simp)]
    have e : v.cells.zipIdx.foldl (fun cs x => cs.setIfInBounds (off + x.2) x.1) c = c2 := by
      rw [← hc, ← Array.foldl_toList, Array.toList_zipIdx]
      exact fold_setL _ _ _ _
    rw [e]
    exact ih

def structPlaces (P : Program) (t : TypeId) : Option (List (Nat × Nat)) := match P.underlying t with
  | some (.struct fs) => fs.toList.mapM fun f => (P.info? f.type).map fun i => (f.offset, i.size)
  | _ => none

section
variable {P : Program} {H : Hp} {ρ : Operand → Value} {d : Option Nat} {ty : TypeId} {pos : String} {af : Array Edge} {g : Option (Nat × Bool)}

theorem q_places {fs : List Field} {pl : List (Nat × Nat)} (h : fs.mapM (fun f => (P.info? f.type).map fun i => (f.offset, i.size)) = some pl) : quiet P H (fs.mapM fun f => do pure (f.offset, ← sizeOf f.type)) = some pl := by
  induction fs generalizing pl with
  | nil => simp at h; subst h; rfl
  | cons f fs ih =>
    rw [List.mapM_cons] at h ⊢
    simp only [Option.bind_eq_bind, Option.bind_eq_some_iff] at h
    obtain ⟨x, h1, ys, h2, h3⟩ := h
    obtain ⟨ti, h4, h5⟩ := Option.map_eq_some_iff.1 h1
    rw [quiet_bind]
    have : quiet P H (do pure (f.offset, ← sizeOf f.type)) = some x := by
      rw [q_sizeOf (n := ti.size) (by rw [h4]; rfl), ← h5]; rfl
    rw [this]
    simp only [Option.bind_some]
    rw [quiet_bind, ih h2]
    exact h3

theorem q_build {t : TypeId} {parts : Array (Nat × Operand)} {pl : List (Nat × Nat)} {sz bytes : Nat} {z cells : Array Value} (ht : structPlaces P t = some pl) (hE : ElemT P t sz bytes (.agg z)) (hf : FillP (pl[·]?) z (parts.toList.map fun p => (p.1, ρ p.2)) cells) :
    quiet P H (execOp ρ ⟨d, .build t parts, ty, pos, af, g⟩) = some (.value (.agg cells)) := by
  obtain ⟨ti, hi, hz, _⟩ := hE
  unfold structPlaces at ht
  have key : quiet P H (Instr.build t (parts.map fun (i, x) => (i, ρ x))) = some (.agg cells) := by
    cases hu : P.underlying t with
    | none => simp [hu] at ht
    | some td =>
      simp only [hu] at ht
      cases td <;> simp only [reduceCtorEq] at ht
      rename_i fs
      unfold Instr.build
      rw [quiet_bind, q_zeroValue hi hz]
      simp only [Option.bind_some]
      rw [q_underlying hu]
      simp only
      rw [quiet_bind]
      have hpl : quiet P H (fs.mapM fun f => do pure (f.offset, ← sizeOf f.type)) = some pl.toArray := by
        rw [show fs = fs.toList.toArray from rfl, List.mapM_toArray, map_eq_pure_bind, quiet_bind, q_places ht]; rfl
      rw [hpl]
      simp only [Option.bind_some]
      have hm : (parts.map fun (i, x) => (i, ρ x)).toList = parts.toList.map fun p => (p.1, ρ p.2) := by simp
      have hf2 : Instr.fill (pl.toArray[·]?) (Value.agg z).cells (parts.map fun (i, x) => (i, ρ x)).toList = some cells := by
        rw [hm]
        have : (fun i => pl.toArray[i]?) = (fun i : Nat => pl[i]?) := by funext i; simp
        rw [this]
        exact hf.eq
      simp only [hf2]
      rfl
  show quiet P H (Instr.build t (parts.map fun (i, x) => (i, ρ x)) >>= fun v => pure (Next.value v)) = _
  rw [quiet_bind, key]; rfl

end
end Go.Proofs.Ytooemjldpchgfaa.TH
