/- Parts XPick, XSlice, XMore, XMath, XNum, XAgg, XRow, XRead, XSha, XCall, XEq of the proofs of this seat: what the functions of these layers answer, in worlds that hold their blocks. No condition beside those that each theorem names. -/
import Derived.Test.YtedkoebbijpnfaaGreatDoorPack1
import Derived.Carry
import Derived.ProofKit
import Derived.OpenShut
import Derived.JoinedOf
import Derived.JoinedAt
import Derived.Deep.Slices
import Derived.SizedLaws
import Derived.Below
/- The rules by which the pieces are found where they lie. -/
namespace Go.Proofs.YtedkoebbijpnfaaGreatDoor.TH
open Go

/-- A block among the pieces. -/
class PickS (Hs : List Hp) (b : Nat) (o : outParam Obj) : Prop where
  ok : ∃ j : Nat, Hs[j]? = some (sg b o)
instance PickS.here {Hs : List Hp} {b : Nat} {o : Obj} : PickS (sg b o :: Hs) b o := ⟨0, rfl⟩
instance (priority := low) PickS.there {H : Hp} {Hs : List Hp} {b : Nat} {o : Obj} [h : PickS Hs b o] : PickS (H :: Hs) b o := ⟨let ⟨j, hj⟩ := h.ok; ⟨j + 1, hj⟩⟩

/-- A block among the pieces is another one. -/
class SetS (Hs : List Hp) (b : Nat) (o : outParam Obj) (o' : Obj) (Hs' : outParam (List Hp)) : Prop where
  ok : ∃ j : Nat, Hs[j]? = some (sg b o) ∧ Hs' = Hs.set j (sg b o')
instance SetS.here {Hs : List Hp} {b : Nat} {o o' : Obj} : SetS (sg b o :: Hs) b o o' (sg b o' :: Hs) := ⟨0, rfl, rfl⟩
instance (priority := low) SetS.there {H : Hp} {Hs Hs' : List Hp} {b : Nat} {o o' : Obj} [h : SetS Hs b o o' Hs'] : SetS (H :: Hs) b o o' (H :: Hs') := ⟨let ⟨j, hj, he⟩ := h.ok; ⟨j + 1, hj, by rw [he]; rfl⟩⟩

/-- A piece among the pieces is another one. -/
class SetP (Hs : List Hp) (H : Hp) (H' : Hp) (Hs' : outParam (List Hp)) : Prop where
  ok : ∃ j : Nat, Hs[j]? = some H ∧ Hs' = Hs.set j H'
instance SetP.here {Hs : List Hp} {H H' : Hp} : SetP (H :: Hs) H H' (H' :: Hs) := ⟨0, rfl, rfl⟩
instance (priority := low) SetP.there {K : Hp} {Hs Hs' : List Hp} {H H' : Hp} [h : SetP Hs H H' Hs'] : SetP (K :: Hs) H H' (K :: Hs') := ⟨let ⟨j, hj, he⟩ := h.ok; ⟨j + 1, hj, by rw [he]; rfl⟩⟩

class TakeP (Hs : List Hp) (H : Hp) (Ks : outParam (List Hp)) : Prop where
  ok : Hs.Perm (H :: Ks)
instance TakeP.here {Hs : List Hp} {H : Hp} : TakeP (H :: Hs) H Hs := ⟨.refl _⟩
instance (priority := low) TakeP.there {K : Hp} {Hs Ks : List Hp} {H : Hp} [h : TakeP Hs H Ks] : TakeP (K :: Hs) H (K :: Ks) := ⟨(h.ok.cons K).trans (.swap ..)⟩

class TakesP (Hs : List Hp) (A : List Hp) (B : outParam (List Hp)) : Prop where
  ok : Hs.Perm (A ++ B)
instance TakesP.nil {Hs : List Hp} : TakesP Hs [] Hs := ⟨.refl _⟩
instance TakesP.cons {Hs Ks A B : List Hp} {H : Hp} [h1 : TakeP Hs H Ks] [h2 : TakesP Ks A B] : TakesP Hs (H :: A) B := ⟨h1.ok.trans (h2.ok.cons H)⟩

instance PickS.app {H : Hp} {A B : List Hp} {b : Nat} {o : Obj} [h : PickS (H :: (A ++ B)) b o] : PickS ((H :: A) ++ B) b o := ⟨h.ok⟩
instance PickS.app0 {B : List Hp} {b : Nat} {o : Obj} [h : PickS B b o] : PickS ([] ++ B) b o := ⟨h.ok⟩
instance SetS.app {H : Hp} {A B Hs' : List Hp} {b : Nat} {o o' : Obj} [h : SetS (H :: (A ++ B)) b o o' Hs'] : SetS ((H :: A) ++ B) b o o' Hs' := ⟨h.ok⟩
instance SetS.app0 {B Hs' : List Hp} {b : Nat} {o o' : Obj} [h : SetS B b o o' Hs'] : SetS ([] ++ B) b o o' Hs' := ⟨h.ok⟩
instance SetP.app {H K K' : Hp} {A B Hs' : List Hp} [h : SetP (H :: (A ++ B)) K K' Hs'] : SetP ((H :: A) ++ B) K K' Hs' := ⟨h.ok⟩
instance SetP.app0 {K K' : Hp} {B Hs' : List Hp} [h : SetP B K K' Hs'] : SetP ([] ++ B) K K' Hs' := ⟨h.ok⟩
instance TakeP.app {H K : Hp} {A B Ks : List Hp} [h : TakeP (H :: (A ++ B)) K Ks] : TakeP ((H :: A) ++ B) K Ks := ⟨h.ok⟩
instance TakeP.app0 {K : Hp} {B Ks : List Hp} [h : TakeP B K Ks] : TakeP ([] ++ B) K Ks := ⟨h.ok⟩

theorem CallL.frameP {P : Program} {f : FuncId} {args : List Value} {Hs A B : List Hp} {R : Value → List Hp → Prop} (hp : Hs.Perm (A ++ B)) (hd : Disj Hs) (h : CallL P f args A R) :
    CallH P f args.toArray (join Hs) fun v H' => ∃ Hs', H' = join (Hs' ++ B) ∧ Disj (Hs' ++ B) ∧ R v Hs' := by
  rw [join_perm hp hd]
  have key : ∀ (A' : List Hp), takes (A'.map fun _ => 0) (A' ++ B) = some (A', B) := by
    intro A'
    induction A' with
    | nil => rfl
    | cons H A' ih => simp only [List.map_cons, List.cons_append, takes, takeAt, ih]
  exact CallL.frame (key A) (disj_perm hp hd) h

theorem CallL.mono {P : Program} {f : FuncId} {args : List Value} {Hs : List Hp} {R R' : Value → List Hp → Prop} (h : CallL P f args Hs R) (hr : ∀ v Hs', R v Hs' → R' v Hs') : CallL P f args Hs R' :=
  fun hd => (h hd).mono fun v H' ⟨Hs', e, hd', r⟩ => ⟨Hs', e, hd', hr _ _ r⟩

theorem mem_get {Hs : List Hp} {A B : List Hp} (h : Hs.Perm (A ++ B)) {j : Nat} {H : Hp} (hj : A[j]? = some H) : ∃ k : Nat, Hs[k]? = some H := by
  have : H ∈ Hs := h.mem_iff.2 (List.mem_append_left _ (List.mem_of_getElem? hj))
  obtain ⟨k, hk, he⟩ := List.getElem_of_mem this
  exact ⟨k, by rw [List.getElem?_eq_getElem hk, he]⟩

theorem end_retP {P : Program} {env : Env} {Hs : List Hp} {rs : List ResultVar} {R : Value → List Hp → Prop} {vs : List Value} (A : List Hp) {B : List Hp} [ht : TakesP Hs A B] (hv : Disj Hs → resL P (join Hs) env rs = some vs) (h : Disj Hs → R (retV vs) A) : Disj Hs → RetQ P rs (PQ R) .ret env (join Hs) :=
  fun hd => ⟨vs, hv hd, A, B, join_perm ht.ok hd, disj_perm ht.ok hd, h hd⟩
theorem end_normalP {P : Program} {env : Env} {Hs : List Hp} {rs : List ResultVar} {R : Value → List Hp → Prop} {vs : List Value} (A : List Hp) {B : List Hp} [ht : TakesP Hs A B] (hv : Disj Hs → resL P (join Hs) env rs = some vs) (h : Disj Hs → R (retV vs) A) : Disj Hs → RetQ P rs (PQ R) .normal env (join Hs) :=
  fun hd => ⟨vs, hv hd, A, B, join_perm ht.ok hd, disj_perm ht.ok hd, h hd⟩
theorem RoundQ.mkP {env : Env} {Hs : List Hp} {σ : Type} {W : List Nat} {sl : σ → List (Nat × Value)} {J : Nat → σ → List Hp → Prop} {e0 : Env} {n : Nat} (m : Nat) (s : σ) (A : List Hp) {B : List Hp} [ht : TakesP Hs A B] (hm : m < n) (hJ : J m s A) (ho : Off W e0 env) (hs : Slots env (sl s)) :
    Disj Hs → RoundQ W sl J e0 n env (join Hs) := fun hd => ⟨m, s, A, B, hm, join_perm ht.ok hd, disj_perm ht.ok hd, hJ, ho, hs⟩

section
variable {P : Program} {N : Nat} {Q : Exit → Env → Hp → Prop} {ol : List Oper} {rest : Stp} {K : Env → Hp → Prop} {env : Env} {Hs : List Hp} {i : Nat} {held : List Nat} {d : Option Nat} {ty : TypeId} {pos : String} {af : Array Edge} {g : Option (Nat × Bool)}

/-- These pieces are enough. -/
theorem EL.useP {c : Code} (A : List Hp) {B : List Hp} [ht : TakesP Hs A B] (h : EL P N c Q env A) : EL P N c Q env Hs := fun hd => by
  rw [join_perm ht.ok hd]
  exact E_drop join_le (h (disj_append.1 (disj_perm ht.ok hd)).1)

theorem EL.go {c : Code} (h : EL P N c Q env Hs) : Disj Hs → E P N c Q env (join Hs) := h

theorem EPL.ld1 {dd : Nat} {T : TypeId} {x : Operand} {b off : Nat} {c : Array Value} {e : TypeId} {fr : Nat × Nat} {v : Value} (ho : nth ol i = some ⟨some dd, .load T x, ty, pos, af, g⟩) (hw : wantE ol env ⟨some dd, .load T x, ty, pos, af, g⟩ = true)
    (hT : scal P T = true) (hx : ev env x = .pointer (some ⟨b, off, none⟩)) [hp : PickS Hs b (.cells c e fr)] (hv : c[off]? = some v)
    (h : EPL P ol rest K (upd env dd v) Hs) : EPL P ol (.l i rest) K env Hs :=
  EPL.r ho hw (fun hd => let ⟨_, hj⟩ := hp.ok; q_load1 hT hx (join_get hd hj sg_self) hv) h
theorem EPL.ldA {dd : Nat} {T : TypeId} {x : Operand} {b off n : Nat} {c : Array Value} {e : TypeId} {fr : Nat × Nat} {v : Value} (ho : nth ol i = some ⟨some dd, .load T x, ty, pos, af, g⟩) (hw : wantE ol env ⟨some dd, .load T x, ty, pos, af, g⟩ = true)
    (hT : aggr P T n = true) (hx : ev env x = .pointer (some ⟨b, off, none⟩)) [hp : PickS Hs b (.cells c e fr)] (hl : off + n ≤ c.size) (hv : .agg (c.extract off (off + n)) = v)
    (h : EPL P ol rest K (upd env dd v) Hs) : EPL P ol (.l i rest) K env Hs :=
  EPL.r ho hw (fun hd => let ⟨_, hj⟩ := hp.ok; by rw [← hv]; exact q_loadA hT hx (join_get hd hj sg_self) hl) h
/-- Out of a piece of whatever make. -/
theorem EPL.ld1P {dd : Nat} {T : TypeId} {x : Operand} {b off : Nat} {c : Array Value} {e : TypeId} {fr : Nat × Nat} {v : Value} {H : Hp} {Ks : List Hp} (ho : nth ol i = some ⟨some dd, .load T x, ty, pos, af, g⟩) (hw : wantE ol env ⟨some dd, .load T x, ty, pos, af, g⟩ = true)
    (hT : scal P T = true) (hx : ev env x = .pointer (some ⟨b, off, none⟩)) (hH : H b = some (.cells c e fr)) [hp : TakeP Hs H Ks] (hv : c[off]? = some v)
    (h : EPL P ol rest K (upd env dd v) Hs) : EPL P ol (.l i rest) K env Hs :=
  EPL.r ho hw (fun hd => let ⟨_, hj⟩ := mem_get (A := [H]) (B := Ks) hp.ok (j := 0) rfl; q_load1 hT hx (join_get hd hj hH) hv) h
theorem EPL.ldAP {dd : Nat} {T : TypeId} {x : Operand} {b off n : Nat} {c : Array Value} {e : TypeId} {fr : Nat × Nat} {v : Value} {H : Hp} {Ks : List Hp} (ho : nth ol i = some ⟨some dd, .load T x, ty, pos, af, g⟩) (hw : wantE ol env ⟨some dd, .load T x, ty, pos, af, g⟩ = true)
    (hT : aggr P T n = true) (hx : ev env x = .pointer (some ⟨b, off, none⟩)) (hH : H b = some (.cells c e fr)) [hp : TakeP Hs H Ks] (hl : off + n ≤ c.size) (hv : .agg (c.extract off (off + n)) = v)
    (h : EPL P ol rest K (upd env dd v) Hs) : EPL P ol (.l i rest) K env Hs :=
  EPL.r ho hw (fun hd => let ⟨_, hj⟩ := mem_get (A := [H]) (B := Ks) hp.ok (j := 0) rfl; by rw [← hv]; exact q_loadA hT hx (join_get hd hj hH) hl) h

/-- What was loaded out of a block still stands there. -/
theorem HeldL.ld1 {h : Nat} {hs : List Nat} {dd : Nat} {T : TypeId} {x : Operand} {b off : Nat} {c : Array Value} {e : TypeId} {fr : Nat × Nat} (ho : nth ol h = some ⟨some dd, .load T x, ty, pos, af, g⟩) (hw : wantE ol env ⟨some dd, .load T x, ty, pos, af, g⟩ = true)
    (hT : scal P T = true) (hx : ev env x = .pointer (some ⟨b, off, none⟩)) [hp : PickS Hs b (.cells c e fr)] (hv : c[off]? = some (env dd)) (ht : HeldL P ol hs env Hs) : HeldL P ol (h :: hs) env Hs :=
  HeldL.cons ho rfl (.inl ⟨hw, fun hd => let ⟨_, hj⟩ := hp.ok; q_load1 hT hx (join_get hd hj sg_self) hv⟩) ht
theorem HeldL.no {h : Nat} {hs : List Nat} {dd : Nat} {op : Op} (ho : nth ol h = some ⟨some dd, op, ty, pos, af, g⟩) (hw : wantE ol env ⟨some dd, op, ty, pos, af, g⟩ = false) (hu : env dd = undef) (ht : HeldL P ol hs env Hs) : HeldL P ol (h :: hs) env Hs :=
  HeldL.cons ho rfl (.inr ⟨hw, hu⟩) ht

theorem EPL.st {T : TypeId} {x y : Operand} {b off n : Nat} {c c' : Array Value} {e : TypeId} {v : Value} {Hs' : List Hp} (ho : nth ol i = some ⟨d, .store T x y, ty, pos, af, g⟩) (hw : wantE ol env ⟨d, .store T x y, ty, pos, af, g⟩ = true)
    (hT : (P.info? T).map (·.size) = some n) (hx : ev env x = .pointer (some ⟨b, off, none⟩)) (hy : ev env y = v) (hn : v.cells.size = n) (h1 : ∀ u ∈ v.cells.toList, u.oneCell' = true) [hs : SetS Hs b (.cells c e (0, 0)) (.cells c' e (0, 0)) Hs'] (hl : off + n ≤ c.size) (hc : setL c off v.cells.toList = c')
    (hh : HeldL P ol held (putE env d undef) Hs') (h : EPL P ol rest K (putE env d undef) Hs') : EPL P ol (.x i held rest) K env Hs := by
  obtain ⟨j, hj, he⟩ := hs.ok
  subst he; subst hc
  exact EPL.storeS j ho hw hT hx hy hn h1 hj hl hh h

theorem EPL.app {t t2 e : TypeId} {x y : Operand} {sz bytes n m : Nat} {z vx vy : Value} {xs news : List Value} {Hj : Hp} (ho : nth ol i = some ⟨d, .call ⟨.builtin .append, #[x, y], #[t, t2]⟩, ty, pos, af, g⟩) (hw : wantE ol env ⟨d, .call ⟨.builtin .append, #[x, y], #[t, t2]⟩, ty, pos, af, g⟩ = true)
    (ht : P.underlying t = some (.slice e)) (ht2 : P.underlying t2 = some .string ∨ ∃ e2, P.underlying t2 = some (.slice e2)) (hE : ElemT P e sz bytes z)
    (hvx : ev env x = vx) (hown : OwnS e sz vx n xs Hj) (hvy : ev env y = vy) (hsrc : Disj Hs → Src P (join Hs) sz vy m news) (h63 : n + m ≤ maxLen) (h47 : (n + m) * bytes ≤ 140737488355328) {Hs' : Hp → List Hp} [hs : ∀ Hj', SetP Hs Hj Hj' (Hs' Hj')]
    (h : ∀ v' Hj', OwnS e sz v' (n + m) (xs ++ news) Hj' → HeldL P ol held (putE env d v') (Hs' Hj') ∧ EPL P ol rest K (putE env d v') (Hs' Hj')) : EPL P ol (.x i held rest) K env Hs := by
  subst hvx; subst hvy
  refine EPL.x ho hw fun hd => ?_
  obtain ⟨j, hj, _⟩ := (hs Hj).ok
  obtain ⟨ti, hi, hz, hsz, hby, hzs⟩ := hE
  unfold EO
  show SemH P (Builtin.append_ #[t, t2] ty (Array.map (ev env) #[x, y]) >>= fun v => pure (Next.value v)) _ _
  rw [Go.Proofs.YtedkoebbijpnfaaGreatDoor.TH.map2]
  refine (SemH_bind _ _).2 (SemH_mono _ ?_ (sem_append ht ht2 hi hz hsz hby hzs hd hj hown (hsrc hd) h63 h47))
  rintro v' H' ⟨Hj', e1, e2, e3⟩
  obtain ⟨h1, h2⟩ := h v' Hj' e3
  have hp : (Hs' Hj').Perm (Hs.set j Hj') := by
    obtain ⟨j', hj', he'⟩ := (hs Hj').ok
    rw [he']
    have key : ∀ (l : List Hp) (j j' : Nat), l[j]? = some Hj → l[j']? = some Hj → (l.set j Hj').Perm (l.set j' Hj') := by
      intro l
      induction l with
      | nil => intro j j' h; simp at h
      | cons a l ih =>
        intro j j' ha hb
        cases j with
        | zero =>
          simp at ha; subst ha
          cases j' with
          | zero => exact .refl _
          | succ j' =>
            simp at hb
            simp only [List.set_cons_zero, List.set_cons_succ]
            obtain ⟨l1, l2, rfl, rfl⟩ : ∃ l1 l2, l = l1 ++ a :: l2 ∧ l1.length = j' := by
              obtain ⟨hlt, hv⟩ := List.getElem?_eq_some_iff.1 hb
              exact ⟨l.take j', l.drop (j' + 1), by rw [← hv]; simp, by simp; omega⟩
            rw [List.set_append_right _ _ (by omega)]
            simp only [Nat.sub_self, List.set_cons_zero]
            exact ((List.perm_middle (a := a)).cons Hj').trans ((List.Perm.swap ..).trans ((List.perm_middle (a := Hj')).symm.cons a))
        | succ j =>
          cases j' with
          | zero =>
            simp at hb; subst hb
            simp at ha
            simp only [List.set_cons_zero, List.set_cons_succ]
            obtain ⟨l1, l2, rfl, rfl⟩ : ∃ l1 l2, l = l1 ++ a :: l2 ∧ l1.length = j := by
              obtain ⟨hlt, hv⟩ := List.getElem?_eq_some_iff.1 ha
              exact ⟨l.take j, l.drop (j + 1), by rw [← hv]; simp, by simp; omega⟩
            rw [List.set_append_right _ _ (by omega)]
            simp only [Nat.sub_self, List.set_cons_zero]
            exact (((List.perm_middle (a := a)).cons Hj').trans ((List.Perm.swap ..).trans ((List.perm_middle (a := Hj')).symm.cons a))).symm
          | succ j' => simp only [List.set_cons_succ]; exact (ih j j' (by simpa using ha) (by simpa using hb)).cons a
    exact key Hs j' j hj' hj
  exact ⟨Hs' Hj', by rw [e1]; exact (join_perm hp.symm e2), disj_perm hp.symm e2, h1, h2⟩

theorem EPL.cl {f : FuncId} {fn : Func} {args : Array Operand} {tys : Array TypeId} {vs : List Value} {A B : List Hp} {R : Value → List Hp → Prop} (ho : nth ol i = some ⟨d, .call ⟨.value (.func f), args, tys⟩, ty, pos, af, g⟩) (hw : wantE ol env ⟨d, .call ⟨.value (.func f), args, tys⟩, ty, pos, af, g⟩ = true)
    (hf : P.funcs[f]? = some fn) (hnum : (fn.name == "runtime.NumGoroutine") = false) (hbody : fn.body.isNone = false) (hc : CallL P f vs A R) (ha : args.toList.map (ev env) = vs) [ht : TakesP Hs A B]
    (h : ∀ v Hs', R v Hs' → HeldL P ol held (putE env d v) (Hs' ++ B) ∧ EPL P ol rest K (putE env d v) (Hs' ++ B)) : EPL P ol (.x i held rest) K env Hs := by
  refine EPL.x ho hw fun hd => ?_
  unfold EO
  have e0 : execOp (ev env) ⟨d, .call ⟨.value (.func f), args, tys⟩, ty, pos, af, g⟩ = callFunc f (#[] ++ args.map (ev env) ++ #[]) := rfl
  rw [e0]
  have e1 : (#[] ++ args.map (ev env) ++ #[]) = vs.toArray := by rw [← ha]; apply Array.ext'; simp
  rw [e1]
  unfold callFunc
  show SemH P (program >>= _) _ _
  rw [SemH_bind]
  show SemH P (match P.funcs[f]? with | none => _ | some fn => _) _ _
  rw [hf]
  simp only [hnum, hbody, Bool.false_eq_true, if_false]
  show CallH P f vs.toArray (join Hs) _
  refine (hc.frameP ht.ok hd).mono fun v H' ⟨Hs', e, hd', hR⟩ => ?_
  exact ⟨Hs' ++ B, e, hd', h v Hs' hR⟩


theorem EPL.al {T : TypeId} {sz bytes : Nat} {z : Value} (ho : nth ol i = some ⟨d, .alloc T, ty, pos, af, g⟩) (hw : wantE ol env ⟨d, .alloc T, ty, pos, af, g⟩ = true) (hE : ElemT P T sz bytes z)
    (hh : ∀ b, HeldL P ol held (putE env d (.pointer (some ⟨b, 0, none⟩))) (sg b (.cells z.cells T (0, 0)) :: Hs))
    (h : ∀ b, EPL P ol rest K (putE env d (.pointer (some ⟨b, 0, none⟩))) (sg b (.cells z.cells T (0, 0)) :: Hs)) : EPL P ol (.x i held rest) K env Hs := by
  obtain ⟨ti, hi, hz, _⟩ := hE
  exact EPL.alloc ho hw hi hz hh h
theorem EPL.bs {T E : TypeId} {len s bytes : Nat} {parts : Array (Nat × Operand)} {z : Value} {cells : Array Value} (ho : nth ol i = some ⟨d, .buildSlice T len parts, ty, pos, af, g⟩) (hw : wantE ol env ⟨d, .buildSlice T len parts, ty, pos, af, g⟩ = true)
    (hT : P.underlying T = some (.slice E)) (hE : ElemT P E s bytes z) (h24 : Nat.ble (len * s) 16777216 = true) (h0 : Nat.beq (len * s) 0 = false)
    (hf : Instr.fill (fun i => some (i * s, s)) ((Array.range (len * s)).map (z.cells[· % z.cells.size]!)) (parts.toList.map fun p => (p.1, ev env p.2)) = some cells)
    (hh : ∀ b, HeldL P ol held (putE env d (.slice (some ⟨b, 0, none⟩) len len)) (sg b (.cells cells E (0, 0)) :: Hs))
    (h : ∀ b, EPL P ol rest K (putE env d (.slice (some ⟨b, 0, none⟩) len len)) (sg b (.cells cells E (0, 0)) :: Hs)) : EPL P ol (.x i held rest) K env Hs := by
  obtain ⟨ti, hi, hz, hs, _⟩ := hE
  exact EPL.buildSlice ho hw hT hi hz hs (Nat.le_of_ble_eq_true h24) (Nat.ne_of_beq_eq_false h0) hf hh h
theorem fill1 {v : Value} {u : Value} (hu : u.oneCell' = true) (hz : v.cells.size = 1) : Instr.fill (fun i => some (i * 1, 1)) ((Array.range (1 * 1)).map (v.cells[· % v.cells.size]!)) [(0, u)] = some #[u] := by
  have hc : u.cells = #[u] := by cases u <;> first | rfl | (simp [Value.oneCell'] at hu)
  have h0 : ((Array.range (1 * 1)).map (v.cells[· % v.cells.size]!)) = #[v.cells[0]!] := by
    apply Array.ext'
    simp [Array.range, hz]
  rw [h0]
  simp [Instr.fill, hc]
theorem oneV {v : Value} (h : v.oneCell' = true) : ∀ u ∈ v.cells.toList, u.oneCell' = true := by
  intro u hu
  cases v <;> simp [Value.oneCell'] at h <;> simp [Value.cells] at hu <;> subst hu <;> rfl
theorem one1 {k : IntKind} {n : Int} : ∀ u ∈ (Value.cells (.int k n)).toList, u.oneCell' = true := by intro u hu; simp [Value.cells] at hu; subst hu; rfl
end

/-! Values that are written out. -/
theorem fold_setL (vs : List Value) : ∀ (c : Array Value) (off k : Nat), (vs.zipIdx k).foldl (fun cs (x : Value × Nat) => cs.setIfInBounds (off + x.2) x.1) c = setL c (off + k) vs := by
  induction vs with
  | nil => intro c off k; rfl
  | cons v vs ih =>
    intro c off k
    simp only [List.zipIdx_cons, List.foldl_cons, setL]
    rw [ih]; rfl

/-- Parts are laid into cells. -/
inductive FillP (pl : Nat → Option (Nat × Nat)) : Array Value → List (Nat × Value) → Array Value → Prop where
  | nil {c : Array Value} : FillP pl c [] c
  | cons {c c' c2 : Array Value} {i : Nat} {v : Value} {rest : List (Nat × Value)} {off size : Nat} (hp : pl i = some (off, size)) (hs : v.cells.size = size) (hl : off + size ≤ c.size) (hc : setL c off v.cells.toList = c2) (h : FillP pl c2 rest c') : FillP pl c ((i, v) :: rest) c'

theorem FillP.eq {pl : Nat → Option (Nat × Nat)} {c c' : Array Value} {parts : List (Nat × Value)} (h : FillP pl c parts c') : Instr.fill pl c parts = some c' := by
  induction h with
  | nil => rfl
  | @cons c c' c2 i v rest off size hp hs hl hc h ih =>
    unfold Instr.fill
    simp only [hp]
    have : (decide (v.cells.size ≠ size) || decide (off + v.cells.size > c.size)) = false := by simp [hs]; omega
    rw [if_neg (by rw [this]; simp)]
    have e : v.cells.zipIdx.foldl (fun cs x => cs.setIfInBounds (off + x.2) x.1) c = c2 := by
      rw [← hc, ← Array.foldl_toList, Array.toList_zipIdx]
      exact fold_setL _ _ _ _
    rw [e]
    exact ih

def structPlaces (P : Program) (t : TypeId) : Option (List (Nat × Nat)) := match P.underlying t with
  | some (.struct fs) => fs.toList.mapM fun f => (P.info? f.type).map fun i => (f.offset, i.size)
  | _ => none

section
variable {P : Program} {H : Hp} {ρ : Operand → Value} {d : Option Nat} {ty : TypeId} {pos : String} {af : Array Edge} {g : Option (Nat × Bool)}

theorem q_places {fs : List Field} {pl : List (Nat × Nat)} (h : fs.mapM (fun f => (P.info? f.type).map fun i => (f.offset, i.size)) = some pl) : quiet P H (fs.mapM fun f => do pure (f.offset, ← sizeOf f.type)) = some pl := by
  induction fs generalizing pl with
  | nil => simp at h; subst h; rfl
  | cons f fs ih =>
    rw [List.mapM_cons] at h ⊢
    simp only [Option.bind_eq_bind, Option.bind_eq_some_iff] at h
    obtain ⟨x, h1, ys, h2, h3⟩ := h
    obtain ⟨ti, h4, h5⟩ := Option.map_eq_some_iff.1 h1
    rw [quiet_bind]
    have : quiet P H (do pure (f.offset, ← sizeOf f.type)) = some x := by
      rw [q_sizeOf (n := ti.size) (by rw [h4]; rfl), ← h5]; rfl
    rw [this]
    simp only [Option.bind_some]
    rw [quiet_bind, ih h2]
    exact h3

theorem q_build {t : TypeId} {parts : Array (Nat × Operand)} {pl : List (Nat × Nat)} {sz bytes : Nat} {z cells : Array Value} (ht : structPlaces P t = some pl) (hE : ElemT P t sz bytes (.agg z)) (hf : FillP (pl[·]?) z (parts.toList.map fun p => (p.1, ρ p.2)) cells) :
    quiet P H (execOp ρ ⟨d, .build t parts, ty, pos, af, g⟩) = some (.value (.agg cells)) := by
  obtain ⟨ti, hi, hz, _⟩ := hE
  unfold structPlaces at ht
  have key : quiet P H (Instr.build t (parts.map fun (i, x) => (i, ρ x))) = some (.agg cells) := by
    cases hu : P.underlying t with
    | none => simp [hu] at ht
    | some td =>
      simp only [hu] at ht
      cases td <;> simp only [reduceCtorEq] at ht
      rename_i fs
      unfold Instr.build
      rw [quiet_bind, q_zeroValue hi hz]
      simp only [Option.bind_some]
      rw [q_underlying hu]
      simp only
      rw [quiet_bind]
      have hpl : quiet P H (fs.mapM fun f => do pure (f.offset, ← sizeOf f.type)) = some pl.toArray := by
        rw [show fs = fs.toList.toArray from rfl, List.mapM_toArray, map_eq_pure_bind, quiet_bind, q_places ht]; rfl
      rw [hpl]
      simp only [Option.bind_some]
      have hm : (parts.map fun (i, x) => (i, ρ x)).toList = parts.toList.map fun p => (p.1, ρ p.2) := by simp
      have hf2 : Instr.fill (pl.toArray[·]?) (Value.agg z).cells (parts.map fun (i, x) => (i, ρ x)).toList = some cells := by
        rw [hm]
        have : (fun i => pl.toArray[i]?) = (fun i : Nat => pl[i]?) := by funext i; simp
        rw [this]
        exact hf.eq
      simp only [hf2]
      rfl
  show quiet P H (Instr.build t (parts.map fun (i, x) => (i, ρ x)) >>= fun v => pure (Next.value v)) = _
  rw [quiet_bind, key]; rfl

end
end Go.Proofs.YtedkoebbijpnfaaGreatDoor.TH

/- Cuts of texts, slices and arrays. -/
namespace Go.Proofs.YtedkoebbijpnfaaGreatDoor.TH
open Go
section
variable {P : Program} {H : Hp} {ρ : Operand → Value} {d : Option Nat} {ty : TypeId} {pos : String} {af : Array Edge} {g : Option (Nat × Bool)}

theorem q_bound {α : Type} {k : IntKind} {i : Int} {y : Nat} {code : BoundsCode} (h0 : 0 ≤ i) (h1 : i ≤ y) (f : Nat → Sem α) : quiet P H (Instr.sliceBound (.int k i) y code >>= f) = quiet P H (f i.toNat) := by
  rw [quiet_bind]
  have : quiet P H (Instr.sliceBound (.int k i) y code) = some i.toNat := by
    unfold Instr.sliceBound
    show quiet P H (if 0 ≤ i ∧ i ≤ (y : Int) then pure i.toNat else boundsPanic k i y code) = _
    rw [if_pos ⟨h0, h1⟩]; rfl
  rw [this]; rfl

theorem q_bdHi {b : Bool} {len cap : Nat} {k : IntKind} {n : Int} (h0 : 0 ≤ n) (h1 : n ≤ cap) : quiet P H (Instr.sliceBounds b len cap none (some (.int k n)) none) = some (0, n.toNat, cap) := by
  show quiet P H (Instr.sliceBound (.int k n) cap (if b then .sliceAcap else .sliceAlen) >>= fun h => pure (0, h, cap)) = _
  rw [q_bound h0 h1]; rfl
theorem q_bdLo {b : Bool} {len cap : Nat} {k : IntKind} {n : Int} (h0 : 0 ≤ n) (h1 : n ≤ len) : quiet P H (Instr.sliceBounds b len cap (some (.int k n)) none none) = some (n.toNat, len, cap) := by
  show quiet P H (Instr.sliceBound (.int k n) len .sliceB >>= fun l => pure (l, len, cap)) = _
  rw [q_bound h0 h1]; rfl
theorem q_bdLH {b : Bool} {len cap : Nat} {k k2 : IntKind} {m n : Int} (h0 : 0 ≤ m) (h1 : m ≤ n) (h2 : n ≤ cap) : quiet P H (Instr.sliceBounds b len cap (some (.int k m)) (some (.int k2 n)) none) = some (m.toNat, n.toNat, cap) := by
  show quiet P H (Instr.sliceBound (.int k2 n) cap (if b then .sliceAcap else .sliceAlen) >>= fun h => Instr.sliceBound (.int k m) h .sliceB >>= fun l => pure (l, h, cap)) = _
  rw [q_bound (by omega) h2, q_bound h0 (by omega)]; rfl
theorem q_bd0 {b : Bool} {len cap : Nat} : quiet P H (Instr.sliceBounds b len cap none none none) = some (0, len, cap) := rfl

theorem extract_str {a : List UInt8} {l h : Nat} : (ByteArray.mk a.toArray).extract l h = ByteArray.mk ((a.take h).drop l).toArray := by
  apply ByteArray.ext
  apply Array.ext'
  simp [ByteArray.data_extract, List.extract_eq_take_drop, List.drop_take]

theorem q_ssHi {T : TypeId} {x hi : Operand} {a : List UInt8} {k : IntKind} {n : Int} (hT : P.underlying T = some .string) (hx : ρ x = str a) (hh : ρ hi = .int k n) (h0 : 0 ≤ n) (h1 : n ≤ a.length) :
    quiet P H (execOp ρ ⟨d, .slice T x none (some hi) none, ty, pos, af, g⟩) = some (.value (str (a.take n.toNat))) := by
  have key : quiet P H (Instr.sliceAt T (str a) none (some (.int k n)) none) = some (str (a.take n.toNat)) := by
    unfold Instr.sliceAt
    rw [q_underlying hT]
    show quiet P H (Instr.slice T (str a) none (some (.int k n)) none) = _
    unfold Instr.slice
    rw [q_underlying hT]
    show quiet P H (Instr.sliceBounds false _ _ none (some (.int k n)) none >>= _) = _
    rw [quiet_bind, q_bdHi h0 (by rw [len_str]; exact h1)]
    show some (Value.string ((ByteArray.mk a.toArray).extract 0 n.toNat)) = _
    rw [extract_str]; rfl
  show quiet P H (Instr.sliceAt T (ρ x) none (some (ρ hi)) none >>= fun v => pure (Next.value v)) = _
  rw [hx, hh, quiet_bind, key]; rfl
theorem q_ssLo {T : TypeId} {x lo : Operand} {a : List UInt8} {k : IntKind} {n : Int} (hT : P.underlying T = some .string) (hx : ρ x = str a) (hh : ρ lo = .int k n) (h0 : 0 ≤ n) (h1 : n ≤ a.length) :
    quiet P H (execOp ρ ⟨d, .slice T x (some lo) none none, ty, pos, af, g⟩) = some (.value (str (a.drop n.toNat))) := by
  have key : quiet P H (Instr.sliceAt T (str a) (some (.int k n)) none none) = some (str (a.drop n.toNat)) := by
    unfold Instr.sliceAt
    rw [q_underlying hT]
    show quiet P H (Instr.slice T (str a) (some (.int k n)) none none) = _
    unfold Instr.slice
    rw [q_underlying hT]
    show quiet P H (Instr.sliceBounds false _ _ (some (.int k n)) none none >>= _) = _
    rw [quiet_bind, q_bdLo h0 (by rw [len_str]; exact h1)]
    show some (Value.string ((ByteArray.mk a.toArray).extract n.toNat (ByteArray.mk a.toArray).size)) = _
    rw [extract_str, len_str, List.take_length]
  show quiet P H (Instr.sliceAt T (ρ x) (some (ρ lo)) none none >>= fun v => pure (Next.value v)) = _
  rw [hx, hh, quiet_bind, key]; rfl
theorem q_ssLH {T : TypeId} {x lo hi : Operand} {a : List UInt8} {k k2 : IntKind} {m n : Int} (hT : P.underlying T = some .string) (hx : ρ x = str a) (hl : ρ lo = .int k m) (hh : ρ hi = .int k2 n) (h0 : 0 ≤ m) (h1 : m ≤ n) (h2 : n ≤ a.length) :
    quiet P H (execOp ρ ⟨d, .slice T x (some lo) (some hi) none, ty, pos, af, g⟩) = some (.value (str ((a.take n.toNat).drop m.toNat))) := by
  have key : quiet P H (Instr.sliceAt T (str a) (some (.int k m)) (some (.int k2 n)) none) = some (str ((a.take n.toNat).drop m.toNat)) := by
    unfold Instr.sliceAt
    rw [q_underlying hT]
    show quiet P H (Instr.slice T (str a) (some (.int k m)) (some (.int k2 n)) none) = _
    unfold Instr.slice
    rw [q_underlying hT]
    show quiet P H (Instr.sliceBounds false _ _ (some (.int k m)) (some (.int k2 n)) none >>= _) = _
    rw [quiet_bind, q_bdLH h0 h1 (by rw [len_str]; exact h2)]
    show some (Value.string ((ByteArray.mk a.toArray).extract m.toNat n.toNat)) = _
    rw [extract_str]
  show quiet P H (Instr.sliceAt T (ρ x) (some (ρ lo)) (some (ρ hi)) none >>= fun v => pure (Next.value v)) = _
  rw [hx, hl, hh, quiet_bind, key]; rfl

/-- Where a cut begins. -/
def cutOff (c l off s : Nat) : Nat := if c = l then off else off + l * s

theorem q_slHi {T E : TypeId} {x hi : Operand} {a : Option Addr} {m c s : Nat} {k : IntKind} {n : Int} (hT : P.underlying T = some (.slice E)) (hs : (P.info? E).map (·.size) = some s) (hx : ρ x = .slice a m c) (hh : ρ hi = .int k n) (h0 : 0 ≤ n) (h1 : n ≤ c) :
    quiet P H (execOp ρ ⟨d, .slice T x none (some hi) none, ty, pos, af, g⟩) = some (.value (.slice a n.toNat c)) := by
  have key : quiet P H (Instr.sliceAt T (.slice a m c) none (some (.int k n)) none) = some (.slice a n.toNat c) := by
    unfold Instr.sliceAt
    rw [q_underlying hT]
    show quiet P H (Instr.slice T (.slice a m c) none (some (.int k n)) none) = _
    unfold Instr.slice
    rw [q_underlying hT]
    show quiet P H (Instr.sliceBounds true _ _ none (some (.int k n)) none >>= _) = _
    rw [quiet_bind, q_bdHi h0 h1]
    show quiet P H (sizeOf E >>= _) = _
    rw [q_sizeOf hs]
    show some (Value.slice (if c = 0 then a else a.map (·.add (0 * s))) (n.toNat - 0) (c - 0)) = _
    have : (if c = 0 then a else a.map (·.add (0 * s))) = a := by
      split
      · rfl
      · cases a <;> simp [Addr.add]
    rw [this]; rfl
  show quiet P H (Instr.sliceAt T (ρ x) none (some (ρ hi)) none >>= fun v => pure (Next.value v)) = _
  rw [hx, hh, quiet_bind, key]; rfl
theorem q_slLo {T E : TypeId} {x lo : Operand} {b off m c s : Nat} {k : IntKind} {n : Int} (hT : P.underlying T = some (.slice E)) (hs : (P.info? E).map (·.size) = some s) (hx : ρ x = .slice (some ⟨b, off, none⟩) m c) (hh : ρ lo = .int k n) (h0 : 0 ≤ n) (h1 : n ≤ m) :
    quiet P H (execOp ρ ⟨d, .slice T x (some lo) none none, ty, pos, af, g⟩) = some (.value (.slice (some ⟨b, cutOff c n.toNat off s, none⟩) (m - n.toNat) (c - n.toNat))) := by
  have key : quiet P H (Instr.sliceAt T (.slice (some ⟨b, off, none⟩) m c) (some (.int k n)) none none) = some (.slice (some ⟨b, cutOff c n.toNat off s, none⟩) (m - n.toNat) (c - n.toNat)) := by
    unfold Instr.sliceAt
    rw [q_underlying hT]
    show quiet P H (Instr.slice T _ (some (.int k n)) none none) = _
    unfold Instr.slice
    rw [q_underlying hT]
    show quiet P H (Instr.sliceBounds true _ _ (some (.int k n)) none none >>= _) = _
    rw [quiet_bind, q_bdLo h0 h1]
    show quiet P H (sizeOf E >>= _) = _
    rw [q_sizeOf hs]
    show some (Value.slice (if c = n.toNat then some ⟨b, off, none⟩ else (some (⟨b, off, none⟩ : Addr)).map (·.add (n.toNat * s))) (m - n.toNat) (c - n.toNat)) = _
    congr 2
    unfold cutOff
    split
    · rfl
    · simp [add_cell]
  show quiet P H (Instr.sliceAt T (ρ x) (some (ρ lo)) none none >>= fun v => pure (Next.value v)) = _
  rw [hx, hh, quiet_bind, key]; rfl
theorem q_slLH {T E : TypeId} {x lo hi : Operand} {b off p c s : Nat} {k k2 : IntKind} {m n : Int} (hT : P.underlying T = some (.slice E)) (hs : (P.info? E).map (·.size) = some s) (hx : ρ x = .slice (some ⟨b, off, none⟩) p c) (hl : ρ lo = .int k m) (hh : ρ hi = .int k2 n) (h0 : 0 ≤ m) (h1 : m ≤ n) (h2 : n ≤ c) :
    quiet P H (execOp ρ ⟨d, .slice T x (some lo) (some hi) none, ty, pos, af, g⟩) = some (.value (.slice (some ⟨b, cutOff c m.toNat off s, none⟩) (n.toNat - m.toNat) (c - m.toNat))) := by
  have key : quiet P H (Instr.sliceAt T (.slice (some ⟨b, off, none⟩) p c) (some (.int k m)) (some (.int k2 n)) none) = some (.slice (some ⟨b, cutOff c m.toNat off s, none⟩) (n.toNat - m.toNat) (c - m.toNat)) := by
    unfold Instr.sliceAt
    rw [q_underlying hT]
    show quiet P H (Instr.slice T _ (some (.int k m)) (some (.int k2 n)) none) = _
    unfold Instr.slice
    rw [q_underlying hT]
    show quiet P H (Instr.sliceBounds true _ _ (some (.int k m)) (some (.int k2 n)) none >>= _) = _
    rw [quiet_bind, q_bdLH h0 h1 h2]
    show quiet P H (sizeOf E >>= _) = _
    rw [q_sizeOf hs]
    show some (Value.slice (if c = m.toNat then some ⟨b, off, none⟩ else (some (⟨b, off, none⟩ : Addr)).map (·.add (m.toNat * s))) (n.toNat - m.toNat) (c - m.toNat)) = _
    congr 2
    unfold cutOff
    split
    · rfl
    · simp [add_cell]
  show quiet P H (Instr.sliceAt T (ρ x) (some (ρ lo)) (some (ρ hi)) none >>= fun v => pure (Next.value v)) = _
  rw [hx, hl, hh, quiet_bind, key]; rfl
/-- An array, whole. -/
theorem q_slArr {T E : TypeId} {x : Operand} {b off n s : Nat} (hT : P.underlying T = some (.array n E)) (hs : (P.info? E).map (·.size) = some s) (hn : n ≠ 0) (hx : ρ x = .pointer (some ⟨b, off, none⟩)) :
    quiet P H (execOp ρ ⟨d, .slice T x none none none, ty, pos, af, g⟩) = some (.value (.slice (some ⟨b, off, none⟩) n n)) := by
  have key : quiet P H (Instr.sliceAt T (.pointer (some ⟨b, off, none⟩)) none none none) = some (.slice (some ⟨b, off, none⟩) n n) := by
    unfold Instr.sliceAt
    rw [q_underlying hT]
    show quiet P H (sizeOf E >>= _) = _
    rw [q_sizeOf hs]
    show some (Value.slice (some (if n = 0 then ⟨b, off, none⟩ else (⟨b, off, none⟩ : Addr).add (0 * s))) (n - 0) (n - 0)) = _
    rw [if_neg hn]
    simp [Addr.add]
  show quiet P H (Instr.sliceAt T (ρ x) none none none >>= fun v => pure (Next.value v)) = _
  rw [hx, quiet_bind, key]; rfl
theorem q_slArrHi {T E : TypeId} {x hi : Operand} {b off p s : Nat} {k : IntKind} {n : Int} (hT : P.underlying T = some (.array p E)) (hs : (P.info? E).map (·.size) = some s) (hp : p ≠ 0) (hx : ρ x = .pointer (some ⟨b, off, none⟩)) (hh : ρ hi = .int k n) (h0 : 0 ≤ n) (h1 : n ≤ p) :
    quiet P H (execOp ρ ⟨d, .slice T x none (some hi) none, ty, pos, af, g⟩) = some (.value (.slice (some ⟨b, off, none⟩) n.toNat p)) := by
  have key : quiet P H (Instr.sliceAt T (.pointer (some ⟨b, off, none⟩)) none (some (.int k n)) none) = some (.slice (some ⟨b, off, none⟩) n.toNat p) := by
    unfold Instr.sliceAt
    rw [q_underlying hT]
    show quiet P H (Instr.sliceBounds false _ _ none (some (.int k n)) none >>= _) = _
    rw [quiet_bind, q_bdHi h0 h1]
    show quiet P H (sizeOf E >>= _) = _
    rw [q_sizeOf hs]
    show some (Value.slice (some (if p = 0 then ⟨b, off, none⟩ else (⟨b, off, none⟩ : Addr).add (0 * s))) (n.toNat - 0) (p - 0)) = _
    rw [if_neg hp]
    simp [Addr.add]
  show quiet P H (Instr.sliceAt T (ρ x) none (some (ρ hi)) none >>= fun v => pure (Next.value v)) = _
  rw [hx, hh, quiet_bind, key]; rfl
end
end Go.Proofs.YtedkoebbijpnfaaGreatDoor.TH

/- Texts out of bytes, copies. -/
namespace Go.Proofs.YtedkoebbijpnfaaGreatDoor.TH
open Go

theorem OwnS.sl {T sz : Nat} {v : Value} {n : Nat} {xs : List Value} {H : Hp} (h : OwnS T sz v n xs H) : ∃ a c, v = .slice a n c := by
  rcases h.2 with ⟨rfl, rfl⟩ | ⟨b, off, cap, c, fr, rfl, _⟩
  · exact ⟨_, _, rfl⟩
  · exact ⟨_, _, rfl⟩

theorem OwnS.max {T sz : Nat} {v : Value} {n : Nat} {xs : List Value} {H : Hp} (h : OwnS T sz v n xs H) : n ≤ 9223372036854775807 := by
  rcases h.2 with ⟨_, rfl⟩ | ⟨b, off, cap, c, fr, _, _, _, h1, h2, _⟩
  · omega
  · unfold maxLen at h2; omega

section
variable {P : Program} {H : Hp} {ρ : Operand → Value} {d : Option Nat} {ty : TypeId} {pos : String} {af : Array Edge} {g : Option (Nat × Bool)}

theorem q_cells {b off n : Nat} {c : Array Value} {e : TypeId} {fr : Nat × Nat} (hb : H b = some (.cells c e fr)) (h : off + n ≤ c.size) : quiet P H (loadCells ⟨b, off, none⟩ n) = some ((c.toList.drop off).take n).toArray := by
  unfold loadCells
  rw [q_loadCells hb off n 0 #[] (by omega)]
  congr 1
  apply Array.ext'
  simp only [Nat.add_zero, Array.toList_append, Array.toList_extract, List.nil_append]
  rw [List.extract_eq_take_drop]
  congr 1
  omega

/-- The first k elements of a slice that owns its cells. -/
theorem OwnS.first {T sz : Nat} {v : Value} {n : Nat} {xs : List Value} {Hj : Hp} (h : OwnS T sz v n xs Hj) (hs : ∀ b o, Hj b = some o → H b = some o) {k : Nat} (hk : k ≤ n) : quiet P H (Builtin.firstCells sz k v) = some (xs.take (k * sz)).toArray := by
  obtain ⟨h1, h2⟩ := h
  rcases h2 with ⟨rfl, rfl⟩ | ⟨b, off, cap, c, fr, rfl, hb, _, hnc, _, hcs, ht⟩
  · have : k = 0 := by omega
    subst this
    have : xs = [] := List.eq_nil_of_length_eq_zero (by simpa using h1)
    subst this; simp; rfl
  · show quiet P H (loadCells ⟨b, off, none⟩ (k * sz)) = _
    have h3 : k * sz ≤ cap * sz := Nat.mul_le_mul_right sz (by omega)
    have h4 : k * sz ≤ n * sz := Nat.mul_le_mul_right sz hk
    rw [q_cells (hs _ _ hb) (by omega), ← ht, List.take_take]
    congr 3
    omega

theorem q_forBytes (f : Value → ByteArray → Sem (ForInStep ByteArray)) (hf : ∀ (n : Int) (r : ByteArray), quiet P H (f (.int .u8 n) r) = some (.yield (r.push (UInt8.ofNat n.toNat)))) :
    ∀ (l : List UInt8) (s : ByteArray), quiet P H (forIn (l.map bV) s f) = some ⟨s.data ++ l.toArray⟩ := by
  intro l
  induction l with
  | nil => intro s; show some s = _; simp
  | cons x l ih =>
    intro s
    simp only [List.map_cons, List.forIn_cons]
    rw [quiet_bind, hf]
    simp only [Option.bind_some]
    rw [ih]
    congr 1
    apply ByteArray.ext
    simp

theorem q_bytesToString {v : Value} {T n : Nat} {l : List UInt8} {Hj : Hp} (h : OwnS T 1 v n (l.map bV) Hj) (hs : ∀ b o, Hj b = some o → H b = some o) : quiet P H (Conv.bytesToString v) = some (str l) := by
  rcases hh : h.2 with ⟨rfl, rfl⟩ | ⟨b, off, cap, c, fr, rfl, hb, _, hnc, _, hcs, ht⟩
  · have : l = [] := List.eq_nil_of_length_eq_zero (by simpa using h.1)
    subst this; rfl
  · unfold Conv.bytesToString
    have hq : quiet P H (loadCells ⟨b, off, none⟩ n) = some (l.map bV).toArray := by
      rw [q_cells (hs _ _ hb) (by omega)]
      rw [Nat.mul_one] at ht
      rw [ht]
    show quiet P H (loadCells ⟨b, off, none⟩ n >>= _) = _
    rw [quiet_bind, hq]
    simp only [Option.bind_some, List.forIn_toArray]
    rw [quiet_bind, q_forBytes _ (by intro n r; rfl)]
    simp only [Option.bind_some]
    show some (Value.string _) = _
    congr 2
    apply ByteArray.ext
    simp

theorem q_bts {S D e : TypeId} {x : Operand} {v : Value} {T n : Nat} {l : List UInt8} {Hj : Hp} (hS : P.underlying S = some (.slice e)) (he : P.underlying e = some (.int .u8)) (hD : P.underlying D = some .string) (hx : ρ x = v) (h : OwnS T 1 v n (l.map bV) Hj) (hs : ∀ b o, Hj b = some o → H b = some o) :
    quiet P H (execOp ρ ⟨d, .convert S D x, ty, pos, af, g⟩) = some (.value (str l)) := by
  obtain ⟨a, c, rfl⟩ := h.sl
  have key : quiet P H (convert S D (.slice a n c)) = some (str l) := by
    unfold convert
    rw [q_underlying hS, q_underlying hD]
    show quiet P H (underlying e >>= _) = _
    rw [q_underlying he]
    exact q_bytesToString h hs
  show quiet P H (convert S D (ρ x) >>= fun v => pure (Next.value v)) = _
  rw [hx, quiet_bind, key]; rfl

/-- Cells that are copied. -/
def CSrc (P : Program) (H : Hp) (sz : Nat) (x : Value) (m k : Nat) (news : List Value) : Prop :=
  quiet P H (Builtin.lenOf x) = some m ∧ quiet P H (Builtin.firstCells sz k x) = some news.toArray ∧ ∀ u ∈ news, u.oneCell' = true

theorem CSrc.str {a : List UInt8} {k : Nat} : CSrc P H 1 (str a) a.length k ((a.take k).map bV) := by
  refine ⟨?_, ?_, ?_⟩
  · show some (ByteArray.mk a.toArray).size = _; rw [len_str]
  · show some (((ByteArray.mk a.toArray).extract 0 k).data.map fun b => Value.int .u8 b.toNat) = _
    congr 1
    apply Array.ext'
    rw [extract_str]
    simp
  · intro u hu; obtain ⟨x, _, rfl⟩ := List.mem_map.1 hu; rfl
theorem CSrc.own {T sz : Nat} {v : Value} {n k : Nat} {xs : List Value} {Hj : Hp} (h : OwnS T sz v n xs Hj) (hs : ∀ b o, Hj b = some o → H b = some o) (hk : k ≤ n) (h1 : ∀ u ∈ xs, u.oneCell' = true) : CSrc P H sz v n k (xs.take (k * sz)) := by
  refine ⟨?_, h.first hs hk, fun u hu => h1 u (List.mem_of_mem_take hu)⟩
  obtain ⟨a, c, rfl⟩ := h.sl
  rfl

theorem join_sub {Hs : List Hp} (hd : Disj Hs) {j : Nat} {Hj : Hp} (hj : Hs[j]? = some Hj) : ∀ b o, Hj b = some o → join Hs b = some o := fun _ _ hb => join_get hd hj hb
end

theorem TakeP.sub {Hs Ks : List Hp} {H : Hp} [hp : TakeP Hs H Ks] (hd : Disj Hs) : ∀ b o, H b = some o → join Hs b = some o :=
  let ⟨_, hj⟩ := mem_get (A := [H]) (B := Ks) hp.ok (j := 0) rfl
  join_sub hd hj

theorem Src.own {P : Program} {H Hj : Hp} {T sz : Nat} {v : Value} {n : Nat} {xs : List Value} (h : OwnS T sz v n xs Hj) (hs : ∀ b o, Hj b = some o → H b = some o) (h1 : ∀ u ∈ xs, u.oneCell' = true) : Src P H sz v n xs := by
  refine ⟨?_, ?_, h.1, h1⟩
  · obtain ⟨a, c, rfl⟩ := h.sl; rfl
  · rw [h.first hs (Nat.le_refl _), List.take_of_length_le (by rw [h.1]; exact Nat.le_refl _)]

theorem Src.pick {P : Program} {Hs : List Hp} {b m cp sz : Nat} {c : Array Value} {e : TypeId} {fr : Nat × Nat} [h : PickS Hs b (.cells c e fr)] (hd : Disj Hs) (hl : m * sz = c.size) (h1 : (c.toList.all fun u => u.oneCell') = true) : Src P (join Hs) sz (.slice (some ⟨b, 0, none⟩) m cp) m c.toList :=
  let ⟨_, hj⟩ := h.ok
  Src.slice (join_get hd hj sg_self) (by omega) (by rw [hl]; exact List.take_of_length_le (by simp)) (fun u hu => List.all_eq_true.1 h1 u hu)

theorem OwnS.blk {T sz b n : Nat} {xs : List Value} (h : xs.length = n * sz) (hm : n ≤ maxLen) : OwnS T sz (.slice (some ⟨b, 0, none⟩) n n) n xs (sg b (.cells xs.toArray T (0, 0))) :=
  ⟨h, .inr ⟨b, 0, n, xs.toArray, (0, 0), rfl, sg_self, okF.z, Nat.le_refl _, hm, by simp [h], by simp [← h]⟩⟩
theorem OwnS.one {T b : Nat} {u : Value} : OwnS T 1 (.slice (some ⟨b, 0, none⟩) 1 1) 1 [u] (sg b (.cells #[u] T (0, 0))) := OwnS.blk (xs := [u]) rfl (by unfold maxLen; omega)

theorem OwnS.get {T sz : Nat} {v : Value} {n : Nat} {xs : List Value} {H : Hp} (h : OwnS T sz v n xs H) {i : Nat} (hi : i < n) : ∃ b off cap c fr, v = .slice (some ⟨b, off, none⟩) n cap ∧ H b = some (.cells c T fr) ∧ (c.toList.drop (off + i * sz)).take sz = (xs.drop (i * sz)).take sz ∧ off + i * sz + sz ≤ c.size := by
  obtain ⟨h1, h2⟩ := h
  rcases h2 with ⟨rfl, rfl⟩ | ⟨b, off, cap, c, fr, rfl, hb, _, hnc, _, hcs, ht⟩
  · omega
  · refine ⟨b, off, cap, c, fr, rfl, hb, ?_, ?_⟩
    · rw [← ht, List.drop_take, List.drop_drop, List.take_take]
      congr 1
      have : (i + 1) * sz ≤ n * sz := Nat.mul_le_mul_right sz hi
      rw [Nat.add_mul] at this
      omega
    · have h3 : (i + 1) * sz ≤ cap * sz := Nat.mul_le_mul_right sz (by omega)
      rw [Nat.add_mul] at h3
      omega
/-- An element of one cell. -/
theorem OwnS.get1 {T : Nat} {v : Value} {n : Nat} {xs : List Value} {H : Hp} (h : OwnS T 1 v n xs H) {i : Nat} {u : Value} (hu : xs[i]? = some u) : ∃ b off cap c fr, v = .slice (some ⟨b, off, none⟩) n cap ∧ H b = some (.cells c T fr) ∧ c[off + i]? = some u := by
  obtain ⟨hl, hx⟩ := List.getElem?_eq_some_iff.1 hu
  have hn : i < n := by have := h.1; omega
  obtain ⟨b, off, cap, c, fr, e, hb, ht, hc⟩ := h.get hn
  refine ⟨b, off, cap, c, fr, e, hb, ?_⟩
  simp only [Nat.mul_one] at ht hc
  have h1 : (c.toList.drop (off + i)).take 1 = [c[off + i]] := by
    rw [List.take_one]; simp
  have h2 : (xs.drop i).take 1 = [u] := by rw [List.take_one]; simp [hu]
  rw [h1, h2] at ht
  rw [Array.getElem?_eq_getElem (by omega)]
  simpa using ht

section
variable {P : Program} {ol : List Oper} {rest : Stp} {K : Env → Hp → Prop} {env : Env} {Hs : List Hp} {i : Nat} {held : List Nat} {d : Option Nat} {ty : TypeId} {pos : String} {af : Array Edge} {g : Option (Nat × Bool)}

/-- The same pieces, said in another way. -/
theorem EPL.as {plan : Stp} (Hs' : List Hp) (he : Hs = Hs') (h : EPL P ol plan K env Hs') : EPL P ol plan K env Hs := by subst he; exact h
theorem EPL.hd {plan : Stp} {H : Hp} (A : Hp) (he : H = A) (h : EPL P ol plan K env (A :: Hs)) : EPL P ol plan K env (H :: Hs) := by subst he; exact h
/-- An empty piece more. -/
theorem EPL.pad {plan : Stp} (h : EPL P ol plan K env (Hp.nil :: Hs)) : EPL P ol plan K env Hs := fun hd => by
  have hd' : Disj (Hp.nil :: Hs) := List.pairwise_cons.2 ⟨fun _ _ b => .inl rfl, hd⟩
  have e : join (Hp.nil :: Hs) = join Hs := by funext b; rfl
  have := h hd'
  rwa [e] at this

theorem EPL.bts {S D e : TypeId} {x : Operand} {dd : Nat} {v : Value} {T n : Nat} {l : List UInt8} {Hj : Hp} {Ks : List Hp} (ho : nth ol i = some ⟨some dd, .convert S D x, ty, pos, af, g⟩) (hw : wantE ol env ⟨some dd, .convert S D x, ty, pos, af, g⟩ = true)
    (hS : P.underlying S = some (.slice e)) (he : P.underlying e = some (.int .u8)) (hD : P.underlying D = some .string) (hx : ev env x = v) (h : OwnS T 1 v n (l.map bV) Hj) [hp : TakeP Hs Hj Ks]
    (hk : EPL P ol rest K (upd env dd (str l)) Hs) : EPL P ol (.l i rest) K env Hs :=
  EPL.r ho hw (fun hd => let ⟨_, hj⟩ := mem_get (A := [Hj]) (B := Ks) hp.ok (j := 0) rfl; q_bts hS he hD hx h (join_sub hd hj)) hk

/-- A text out of a block's bytes. -/
theorem EPL.btsP {S D e : TypeId} {x : Operand} {dd b m cp : Nat} {l : List UInt8} {c : Array Value} {T : TypeId} {fr : Nat × Nat} (ho : nth ol i = some ⟨some dd, .convert S D x, ty, pos, af, g⟩) (hw : wantE ol env ⟨some dd, .convert S D x, ty, pos, af, g⟩ = true)
    (hS : P.underlying S = some (.slice e)) (he : P.underlying e = some (.int .u8)) (hD : P.underlying D = some .string) (hx : ev env x = .slice (some ⟨b, 0, none⟩) m cp) [hp : PickS Hs b (.cells c T fr)] (hm : m = c.size) (hcp : m ≤ cp ∧ cp ≤ c.size) (hmx : cp ≤ maxLen) (hl : c.toList = l.map bV) (hf : okF fr c.size)
    (hk : EPL P ol rest K (upd env dd (str l)) Hs) : EPL P ol (.l i rest) K env Hs :=
  EPL.r ho hw (fun hd => let ⟨_, hj⟩ := hp.ok
    q_bts (T := T) (n := m) (Hj := sg b (.cells c T fr)) hS he hD hx ⟨by rw [← hl]; simp [hm], .inr ⟨b, 0, cp, c, fr, rfl, sg_self, hf, hcp.1, hmx, by omega, by rw [← hl]; subst hm; simp only [List.drop_zero, Nat.mul_one]; exact List.take_of_length_le (by simp)⟩⟩ (join_sub hd hj)) hk

/-- copy, into one block. -/
theorem EPL.cp {t t2 e E : TypeId} {x y : Operand} {sz b off dl cp m k : Nat} {c c' : Array Value} {fr : Nat × Nat} {news : List Value} {Hs' : List Hp} (ho : nth ol i = some ⟨d, .call ⟨.builtin .copy, #[x, y], #[t, t2]⟩, ty, pos, af, g⟩) (hw : wantE ol env ⟨d, .call ⟨.builtin .copy, #[x, y], #[t, t2]⟩, ty, pos, af, g⟩ = true)
    (ht : P.underlying t = some (.slice e)) (hz : (P.info? e).map (·.size) = some sz) (hx : ev env x = .slice (some ⟨b, off, none⟩) dl cp) (hsrc : Disj Hs → CSrc P (join Hs) sz (ev env y) m k news) (hk : min m dl = k)
    [hs : SetS Hs b (.cells c E fr) (.cells c' E fr) Hs'] (hok : okF fr c.size) (hl : off + news.length ≤ c.size) (hc : setL c off news = c')
    (hh : HeldL P ol held (putE env d (.int .i64 k)) Hs') (h : EPL P ol rest K (putE env d (.int .i64 k)) Hs') : EPL P ol (.x i held rest) K env Hs := by
  obtain ⟨j, hj, he⟩ := hs.ok
  subst he; subst hc
  refine EPL.x ho hw fun hd => ?_
  obtain ⟨s1, s2, s3⟩ := hsrc hd
  unfold EO
  show SemH P (Builtin.copy_ #[t, t2] ty (Array.map (ev env) #[x, y]) >>= fun v => pure (Next.value v)) _ _
  rw [map2, hx]
  refine (SemH_bind _ _).2 ?_
  unfold Builtin.copy_
  show SemH P (underlying t >>= _) _ _
  refine sem_underlying ht ?_
  show SemH P (Builtin.lenOf (ev env y) >>= _) _ _
  refine sem_quiet s1 ?_
  refine sem_sizeOf hz ?_
  have : Nat.min m dl = k := hk
  rw [this]
  refine sem_quiet s2 ?_
  show SemH P (storeCells ⟨b, off, none⟩ news >>= _) _ _
  refine (SemH_bind _ _).2 ?_
  refine sem_storeCellsF news 0 (join_get hd hj sg_self) hok (by simpa using hl) s3 fun H' hH' => ?_
  obtain ⟨e1, e2⟩ := join_set hd (o' := .cells (setL c off news) E fr) hj sg_self
  rw [sg_set] at e1 e2
  show ∃ Hs', _
  exact ⟨_, by rw [hH', e1]; rfl, e2, hh, h⟩

end
end Go.Proofs.YtedkoebbijpnfaaGreatDoor.TH

/- Plain facts: bytes and numbers, the lowest byte first. -/
namespace Go.Proofs.YtedkoebbijpnfaaGreatDoor.TH
open Go

def leN : List UInt8 → Nat
  | [] => 0
  | b :: l => b.toNat + 256 * leN l

theorem leN_append (l m : List UInt8) : leN (l ++ m) = leN l + 256 ^ l.length * leN m := by
  induction l with
  | nil => simp [leN]
  | cons b l ih => simp only [List.cons_append, leN, ih, List.length_cons, Nat.pow_succ]; rw [Nat.mul_add, ← Nat.mul_assoc, Nat.mul_comm 256 (256 ^ _)]; omega

theorem leN_lt (l : List UInt8) : leN l < 256 ^ l.length := by
  induction l with
  | nil => simp [leN]
  | cons b l ih =>
    have := b.toNat_lt
    simp only [leN, List.length_cons, Nat.pow_succ]
    omega

theorem leN_take {l : List UInt8} {i : Nat} {x : UInt8} (h : l[i]? = some x) : leN (l.take (i + 1)) = leN (l.take i) + x.toNat * 256 ^ i := by
  obtain ⟨hi, hx⟩ := List.getElem?_eq_some_iff.1 h
  rw [List.take_succ_eq_append_getElem hi, hx, leN_append, List.length_take, Nat.min_eq_left (by omega)]
  simp [leN, Nat.mul_comm]

theorem leN_take_lt (l : List UInt8) (i : Nat) : leN (l.take i) < 256 ^ i := by
  refine Nat.lt_of_lt_of_le (leN_lt _) (Nat.pow_le_pow_right (by decide) ?_)
  simp; omega

theorem or_low (a b i : Nat) (h : a < 2 ^ i) : a ||| (b * 2 ^ i) = a + b * 2 ^ i := by
  rw [Nat.or_comm, Nat.mul_comm, ← Nat.two_pow_add_eq_or_of_lt h]; omega

theorem wrap_u64_in {n : Int} (h : 0 ≤ n ∧ n < 18446744073709551616) : IntKind.u64.wrap n = n := by rw [IntKind.wrap_u64]; omega
theorem wrap_i64_in {n : Int} (h : -9223372036854775808 ≤ n ∧ n < 9223372036854775808) : IntKind.i64.wrap n = n := IntWalk.i64_in n (by omega)

theorem pow256 (i : Nat) : (256 : Nat) ^ i = 2 ^ (8 * i) := by rw [Nat.pow_mul]
theorem bShl_u64 {x i : Nat} (hx : x < 256) (hi : i < 8) : bShl .u64 (IntKind.u64.wrap x) (IntKind.i64.wrap (8 * i)) = (x * 256 ^ i : Nat) := by
  rw [wrap_u64_in (by omega), wrap_i64_in (by omega)]
  unfold bShl
  have e : min (8 * (i : Int)).toNat IntKind.u64.bits = 8 * i := by simp [IntKind.bits]; omega
  rw [e]
  have : x * 256 ^ i < 18446744073709551616 := by
    have h1 : 256 ^ i ≤ 256 ^ 7 := Nat.pow_le_pow_right (by decide) (by omega)
    calc x * 256 ^ i ≤ 255 * 256 ^ 7 := Nat.mul_le_mul (by omega) h1
      _ < _ := by decide
  have e2 : ((x : Int) * 2 ^ (8 * i)) = ((x * 256 ^ i : Nat) : Int) := by rw [pow256]; push_cast; rfl
  rw [e2, wrap_u64_in (by omega)]
theorem bShl_i64 {x i : Nat} (hx : x < 256) (hi : i < 7) : bShl .i64 (IntKind.i64.wrap x) (IntKind.i64.wrap (8 * i)) = (x * 256 ^ i : Nat) := by
  rw [wrap_i64_in (by omega), wrap_i64_in (by omega)]
  unfold bShl
  have e : min (8 * (i : Int)).toNat IntKind.i64.bits = 8 * i := by simp [IntKind.bits]; omega
  rw [e]
  have : x * 256 ^ i < 9223372036854775808 := by
    have h1 : 256 ^ i ≤ 256 ^ 6 := Nat.pow_le_pow_right (by decide) (by omega)
    calc x * 256 ^ i ≤ 255 * 256 ^ 6 := Nat.mul_le_mul (by omega) h1
      _ < _ := by decide
  have e2 : ((x : Int) * 2 ^ (8 * i)) = ((x * 256 ^ i : Nat) : Int) := by rw [pow256]; push_cast; rfl
  rw [e2, wrap_i64_in (by omega)]

theorem bOr_nat {k : IntKind} {a b : Nat} (ha : a < 2 ^ k.bits) (hb : b < 2 ^ k.bits) : bOr k a b = k.wrap (a ||| b : Nat) := by
  unfold bOr
  congr 2
  simp only [BitVec.toNat_or, BitVec.ofInt_natCast, BitVec.toNat_ofNat]
  rw [Nat.mod_eq_of_lt ha, Nat.mod_eq_of_lt hb]

/-- One more byte. -/
theorem or_u64 {l : List UInt8} {i : Nat} {x : UInt8} (h : l[i]? = some x) (hi : i < 8) : bOr .u64 (leN (l.take i)) (bShl .u64 (IntKind.u64.wrap x.toNat) (IntKind.i64.wrap (8 * i))) = leN (l.take (i + 1)) := by
  have hx := x.toNat_lt
  have h0 := leN_take_lt l i
  have h1 := leN_take_lt l (i + 1)
  have h2 := leN_take h
  have h3 : 256 ^ (i + 1) ≤ 256 ^ 8 := Nat.pow_le_pow_right (by decide) (by omega)
  have h4 : (256 : Nat) ^ 8 = 2 ^ 64 := by decide
  rw [bShl_u64 hx hi, bOr_nat (by simp only [IntKind.bits]; omega) (by simp only [IntKind.bits]; omega), pow256 i, or_low _ _ _ (by rw [← pow256]; exact h0), ← pow256, ← h2, wrap_u64_in (by omega)]
theorem or_i64 {l : List UInt8} {i : Nat} {x : UInt8} (h : l[i]? = some x) (hi : i < 7) : bOr .i64 (leN (l.take i)) (bShl .i64 (IntKind.i64.wrap x.toNat) (IntKind.i64.wrap (8 * i))) = leN (l.take (i + 1)) := by
  have hx := x.toNat_lt
  have h0 := leN_take_lt l i
  have h1 := leN_take_lt l (i + 1)
  have h2 := leN_take h
  have h3 : 256 ^ (i + 1) ≤ 256 ^ 7 := Nat.pow_le_pow_right (by decide) (by omega)
  have h4 : (256 : Nat) ^ 7 = 2 ^ 56 := by decide
  rw [bShl_i64 hx hi, bOr_nat (by simp only [IntKind.bits]; omega) (by simp only [IntKind.bits]; omega), pow256 i, or_low _ _ _ (by rw [← pow256]; exact h0), ← pow256, ← h2, wrap_i64_in (by omega)]

/-- A number's byte. -/
def byteAt (n : Int) (i : Nat) : UInt8 := UInt8.ofNat ((n / 2 ^ (8 * i)) % 256).toNat
def leB (k : Nat) (n : Int) : List UInt8 := (List.range k).map (byteAt n)

theorem byteAt_nat (n : Int) (i : Nat) : ((byteAt n i).toNat : Int) = (n / 2 ^ (8 * i)) % 256 := by
  unfold byteAt
  have h1 : (0 : Int) ≤ (n / 2 ^ (8 * i)) % 256 := Int.emod_nonneg _ (by decide)
  have h2 : (n / 2 ^ (8 * i)) % 256 < 256 := Int.emod_lt_of_pos _ (by decide)
  rw [UInt8.toNat_ofNat']
  generalize (n / 2 ^ (8 * i)) % 256 = y at h1 h2 ⊢
  omega

theorem shr_u8 (n : Int) {i : Nat} (hi : i < 8) : IntKind.u8.wrap (bShr .i64 n (IntKind.i64.wrap (8 * i))) = (byteAt n i).toNat := by
  rw [byteAt_nat, wrap_i64_in (by omega)]
  unfold bShr
  have e : min (8 * (i : Int)).toNat IntKind.i64.bits = 8 * i := by simp [IntKind.bits]; omega
  rw [e, Int.fdiv_eq_ediv_of_nonneg _ (Int.le_of_lt (Int.pow_pos (by decide))), IntKind.wrap_u8]

theorem leB_succ (k : Nat) (n : Int) : leB (k + 1) n = leB k n ++ [byteAt n k] := by simp [leB, List.range_succ]
theorem leB_length (k : Nat) (n : Int) : (leB k n).length = k := by simp [leB]

theorem emod_mul256 (n M : Int) (hM : 0 < M) : n % (M * 256) = n % M + M * ((n / M) % 256) := by
  have h1 := Int.mul_ediv_add_emod n M
  have h2 := Int.mul_ediv_add_emod (n / M) 256
  have h3 : 0 ≤ n % M := Int.emod_nonneg _ (by omega)
  have h4 : n % M < M := Int.emod_lt_of_pos _ hM
  have h5 : 0 ≤ (n / M) % 256 := Int.emod_nonneg _ (by decide)
  have h6 : (n / M) % 256 < 256 := Int.emod_lt_of_pos _ (by decide)
  have h7 : 0 ≤ M * ((n / M) % 256) := Int.mul_nonneg (by omega) h5
  have h8 : M * ((n / M) % 256) ≤ M * 255 := Int.mul_le_mul_of_nonneg_left (by omega) (by omega)
  have e : n = (n % M + M * ((n / M) % 256)) + M * 256 * (n / M / 256) := by
    conv => lhs; rw [← h1, ← h2]
    rw [Int.mul_add, ← Int.mul_assoc]
    omega
  generalize hq : n / M / 256 = q at e
  generalize hz : n % M + M * ((n / M) % 256) = z at e ⊢
  rw [e, Int.add_mul_emod_self_left, Int.emod_eq_of_lt (by omega) (by omega)]

theorem leN_leB (n : Int) : ∀ k : Nat, (leN (leB k n) : Int) = n % 2 ^ (8 * k)
  | 0 => by simp [leB, leN]
  | k + 1 => by
    rw [leB_succ, leN_append, leB_length]
    have e : ((256 ^ k : Nat) : Int) = 2 ^ (8 * k) := by rw [pow256]; push_cast; rfl
    have e0 : leN [byteAt n k] = (byteAt n k).toNat := by simp [leN]
    rw [e0, Int.natCast_add, Int.natCast_mul, leN_leB n k, byteAt_nat, e]
    have e2 : (2 : Int) ^ (8 * (k + 1)) = 2 ^ (8 * k) * 256 := by rw [Nat.mul_add, Int.pow_add]; rfl
    rw [e2, emod_mul256 _ _ (Int.pow_pos (by decide))]
end Go.Proofs.YtedkoebbijpnfaaGreatDoor.TH

/- Plain facts on numbers' bytes, read backwards and by division. -/
namespace Go.Proofs.YtedkoebbijpnfaaGreatDoor.TH
open Go

theorem leN_drop {l : List UInt8} {i : Nat} {x : UInt8} (h : l[i]? = some x) : leN (l.drop i) = x.toNat + 256 * leN (l.drop (i + 1)) := by
  obtain ⟨hi, hx⟩ := List.getElem?_eq_some_iff.1 h
  rw [List.drop_eq_getElem_cons hi, hx]; rfl
theorem leN_drop_lt (l : List UInt8) (h : l.length ≤ 8) (i : Nat) : leN (l.drop i) < 18446744073709551616 := by
  refine Nat.lt_of_lt_of_le (leN_lt _) ?_
  have h1 : 256 ^ (l.drop i).length ≤ 256 ^ 8 := Nat.pow_le_pow_right (by decide) (by simp; omega)
  have h2 : (256 : Nat) ^ 8 = 18446744073709551616 := by decide
  omega
theorem back_step {l : List UInt8} {i : Nat} {x : UInt8} (hl : l.length ≤ 8) (h : l[i]? = some x) :
    IntKind.u64.wrap (IntKind.u64.wrap (leN (l.drop (i + 1)) * 256) + IntKind.u64.wrap x.toNat) = leN (l.drop i) := by
  have h0 := leN_drop h
  have h1 := leN_drop_lt l hl i
  have h2 := x.toNat_lt
  rw [wrap_u64_in (n := (leN (l.drop (i + 1)) : Int) * 256) (by omega), wrap_u64_in (n := (x.toNat : Int)) (by omega), wrap_u64_in (by omega)]
  omega

/-- The number's rest. -/
def restU (n : Int) (i : Nat) : Int := (n % 18446744073709551616) / 2 ^ (8 * i)
theorem restU_0 (n : Int) : restU n 0 = IntKind.u64.wrap n := by rw [IntKind.wrap_u64]; simp [restU]
theorem pow_pos' (k : Nat) : (0 : Int) < 2 ^ k := Int.pow_pos (by decide)
theorem restU_nonneg (n : Int) (i : Nat) : 0 ≤ restU n i ∧ restU n i < 18446744073709551616 := by
  unfold restU
  have h0 : 0 ≤ n % 18446744073709551616 := Int.emod_nonneg _ (by decide)
  have h1 : n % 18446744073709551616 < 18446744073709551616 := Int.emod_lt_of_pos _ (by decide)
  refine ⟨Int.ediv_nonneg h0 (Int.le_of_lt (pow_pos' _)), ?_⟩
  have := Int.ediv_le_self (2 ^ (8 * i)) h0
  omega
theorem restU_succ (n : Int) (i : Nat) : IntKind.u64.wrap ((restU n i).tdiv 256) = restU n (i + 1) := by
  have h := restU_nonneg n i
  have h2 := restU_nonneg n (i + 1)
  rw [Int.tdiv_eq_ediv_of_nonneg h.1]
  have e : restU n i / 256 = restU n (i + 1) := by
    unfold restU
    have e2 : (2 : Int) ^ (8 * (i + 1)) = 2 ^ (8 * i) * 256 := by rw [Nat.mul_add, Int.pow_add]; rfl
    rw [e2, Int.ediv_ediv_of_nonneg (Int.le_of_lt (pow_pos' _))]
  rw [e, wrap_u64_in h2]
theorem restU_byte (n : Int) {i : Nat} (hi : i < 8) : IntKind.u8.wrap ((restU n i).tmod 256) = (byteAt n i).toNat := by
  have h := restU_nonneg n i
  rw [Int.tmod_eq_emod_of_nonneg h.1, IntKind.wrap_u8, byteAt_nat]
  unfold restU
  have e2 : (18446744073709551616 : Int) = 2 ^ (8 * i) * 2 ^ (64 - 8 * i) := by
    rw [← Int.pow_add]
    have : 8 * i + (64 - 8 * i) = 64 := by omega
    rw [this]; decide
  have e3 : (2 : Int) ^ (64 - 8 * i) = 256 * 2 ^ (56 - 8 * i) := by
    have : 64 - 8 * i = 8 + (56 - 8 * i) := by omega
    rw [this, Int.pow_add]; rfl
  have e1 := Int.mul_ediv_add_emod n 18446744073709551616
  generalize n % 18446744073709551616 = r at e1 ⊢
  generalize n / 18446744073709551616 = q at e1
  have e4 : n / 2 ^ (8 * i) = r / 2 ^ (8 * i) + 2 ^ (64 - 8 * i) * q := by
    rw [← e1, e2, Int.mul_assoc, Int.add_comm, Int.add_mul_ediv_left _ _ (Int.ne_of_gt (pow_pos' _))]
  rw [e4, e3, Int.mul_assoc, Int.add_mul_emod_self_left, Int.emod_emod_of_dvd _ (by decide)]
end Go.Proofs.YtedkoebbijpnfaaGreatDoor.TH

/- Arrays and structs as values: laid whole, compared. -/
namespace Go.Proofs.YtedkoebbijpnfaaGreatDoor.TH
open Go

theorem setL_all {c : Array Value} {l : List Value} (h : c.size = l.length) : setL c 0 l = l.toArray := by
  apply Array.ext'
  rw [setL_toList (by omega)]
  simp only [List.take_zero, List.nil_append, Nat.zero_add]
  rw [List.drop_of_length_le (by simp [h]), List.append_nil]

section
variable {P : Program} {ol : List Oper} {rest : Stp} {K : Env → Hp → Prop} {env : Env} {Hs : List Hp} {i : Nat} {held : List Nat} {d : Option Nat} {ty : TypeId} {pos : String} {af : Array Edge} {g : Option (Nat × Bool)}

/-- A whole block is laid anew. -/
theorem EPL.stA {T : TypeId} {x y : Operand} {b n : Nat} {c v : Array Value} {e : TypeId} {Hs' : List Hp} (ho : nth ol i = some ⟨d, .store T x y, ty, pos, af, g⟩) (hw : wantE ol env ⟨d, .store T x y, ty, pos, af, g⟩ = true)
    (hT : (P.info? T).map (·.size) = some n) (hx : ev env x = .pointer (some ⟨b, 0, none⟩)) (hy : ev env y = .agg v) (hn : v.size = n) (h1 : ∀ u ∈ v.toList, u.oneCell' = true) [hs : SetS Hs b (.cells c e (0, 0)) (.cells v e (0, 0)) Hs'] (hl : c.size = n)
    (hh : HeldL P ol held (putE env d undef) Hs') (h : EPL P ol rest K (putE env d undef) Hs') : EPL P ol (.x i held rest) K env Hs := by
  obtain ⟨j, hj, he⟩ := hs.ok
  subst he
  have e1 : setL c 0 (Value.agg v).cells.toList = v := by
    show setL c 0 v.toList = v
    rw [setL_all (by simp [hl, hn])]
  refine EPL.storeS j ho hw hT hx hy hn h1 hj (by omega) ?_ ?_
  · rw [e1]; exact hh
  · rw [e1]; exact h
theorem bvAll (l : List UInt8) : ∀ u ∈ (l.map bV).toArray.toList, u.oneCell' = true := by
  intro u hu
  obtain ⟨x, _, rfl⟩ := List.mem_map.1 (by simpa using hu)
  rfl
end

theorem extract_of {c : Array Value} {o n : Nat} {l : List Value} (h : (c.toList.drop o).take n = l) : c.extract o (o + n) = l.toArray := by
  apply Array.ext'
  rw [Array.toList_extract, List.extract_eq_take_drop, ← h]
  congr 1
  omega
theorem flat_get {α : Type} {f : α → List Value} {k : Nat} : ∀ {xs : List α} {i : Nat} {x : α}, (∀ x ∈ xs, (f x).length = k) → xs[i]? = some x → ((xs.flatMap f).drop (i * k)).take k = f x
  | [], _, _, _, h => by simp at h
  | y :: ys, 0, x, hk, h => by
    simp at h; subst h
    have := hk y List.mem_cons_self
    rw [Nat.zero_mul, List.drop_zero, List.flatMap_cons, ← this, List.take_left]
  | y :: ys, i + 1, x, hk, h => by
    have h1 := hk y List.mem_cons_self
    have := flat_get (f := f) (k := k) (xs := ys) (i := i) (fun z hz => hk z (List.mem_cons_of_mem _ hz)) (by simpa using h)
    rw [List.flatMap_cons, Nat.add_mul, Nat.one_mul, Nat.add_comm, ← List.drop_drop, ← h1, List.drop_left]
    rw [h1]; exact this
theorem flat_len {α : Type} {f : α → List Value} {k : Nat} : ∀ {xs : List α}, (∀ x ∈ xs, (f x).length = k) → (xs.flatMap f).length = xs.length * k
  | [], _ => by simp
  | y :: ys, hk => by
    rw [List.flatMap_cons, List.length_append, hk y List.mem_cons_self, flat_len fun z hz => hk z (List.mem_cons_of_mem _ hz), List.length_cons, Nat.add_mul, Nat.one_mul, Nat.add_comm]
/-- An element of more cells. -/
theorem OwnS.getA {α : Type} {f : α → List Value} {T k : Nat} {v : Value} {xs : List α} {H : Hp} (h : OwnS T k v xs.length (xs.flatMap f) H) (hk : ∀ x ∈ xs, (f x).length = k) {i : Nat} {x : α} (hx : xs[i]? = some x) :
    ∃ b off cap c fr, v = .slice (some ⟨b, off, none⟩) xs.length cap ∧ H b = some (.cells c T fr) ∧ off + i * k + k ≤ c.size ∧ c.extract (off + i * k) (off + i * k + k) = (f x).toArray := by
  obtain ⟨hi, _⟩ := List.getElem?_eq_some_iff.1 hx
  obtain ⟨b, off, cap, c, fr, e, hb, ht, hc⟩ := h.get hi
  exact ⟨b, off, cap, c, fr, e, hb, hc, extract_of (ht.trans (flat_get hk hx))⟩

theorem fill2 {v u w : Value} (hu : u.oneCell' = true) (hw : w.oneCell' = true) (hz : v.cells.size = 1) : Instr.fill (fun i => some (i * 1, 1)) ((Array.range (2 * 1)).map (v.cells[· % v.cells.size]!)) [(0, u), (1, w)] = some #[u, w] := by
  have hc : u.cells = #[u] := by cases u <;> first | rfl | (simp [Value.oneCell'] at hu)
  have hd : w.cells = #[w] := by cases w <;> first | rfl | (simp [Value.oneCell'] at hw)
  have h0 : ((Array.range (2 * 1)).map (v.cells[· % v.cells.size]!)) = #[v.cells[0]!, v.cells[0]!] := by
    apply Array.ext'
    simp [Array.range, hz, Array.ofFn, Nat.mod_one]
    rfl
  rw [h0]
  simp [Instr.fill, hc, hd]

theorem fillA {v : Value} {c : Array Value} {n : Nat} (hc : c.size = n) : Instr.fill (fun i => some (i * n, n)) ((Array.range (1 * n)).map (v.cells[· % v.cells.size]!)) [(0, .agg c)] = some c := by
  have h0 : ((Array.range (1 * n)).map (v.cells[· % v.cells.size]!)).size = c.size := by simp [hc]
  have : FillP (fun i => some (i * n, n)) ((Array.range (1 * n)).map (v.cells[· % v.cells.size]!)) [(0, .agg c)] c := by
    refine .cons rfl hc (by rw [h0, hc]; omega) ?_ .nil
    show setL _ (0 * n) c.toList = c
    rw [Nat.zero_mul, setL_all (by rw [h0]; simp)]
  exact this.eq

section
variable {P : Program} {H : Hp} {ρ : Operand → Value} {d : Option Nat} {ty : TypeId} {pos : String} {af : Array Edge} {g : Option (Nat × Bool)}

theorem q_isAgg0 {T : TypeId} (hT : scal P T = true) : quiet P H (isAgg T) = some false := by
  unfold scal at hT
  unfold isAgg
  cases hu : P.underlying T with
  | none => simp [hu] at hT
  | some td =>
    rw [q_underlying hu]
    cases td <;> simp [hu] at hT <;> rfl

theorem q_part1 {T : TypeId} {cs : Array Value} {off : Nat} {v : Value} (hT : scal P T = true) (hv : cs[off]? = some v) : quiet P H (part T cs off) = some v := by
  unfold part
  rw [quiet_bind, q_isAgg0 hT]
  simp only [Option.bind_some, Bool.false_eq_true, if_false, hv]
  rfl

theorem q_forAll {β : Type} (f : Nat → β → Sem (ForInStep β)) (s0 s1 : β) (p : Nat → Bool) : ∀ l : List Nat, (∀ i ∈ l, quiet P H (f i s0) = some (if p i then .yield s0 else .done s1)) → quiet P H (forIn l s0 f) = some (if l.all p then s0 else s1) := by
  intro l
  induction l with
  | nil => intro _; rfl
  | cons a l ih =>
    intro h
    rw [List.forIn_cons, quiet_bind, h a List.mem_cons_self]
    simp only [Option.bind_some, List.all_cons]
    by_cases hp : p a = true
    · simp only [hp, if_true, Bool.true_and]
      exact ih fun i hi => h i (List.mem_cons_of_mem _ hi)
    · simp only [hp, Bool.false_eq_true, if_false, Bool.false_and]; rfl

theorem q_equalInt {e : TypeId} {k : IntKind} {m n : Int} {D : Nat} (he : P.underlying e = some (.int k)) : quiet P H (Op.equalIn (D + 1) e (.int k m) (.int k n)) = some (m == n) := by
  unfold Op.equalIn
  rw [q_underlying he]
  show quiet P H (if k = k then pure (m == n) else _) = _
  rw [if_pos rfl]; rfl

theorem q_equalArr {T e : TypeId} {len D : Nat} {xs ys : List Int} {k : IntKind} (hT : P.underlying T = some (.array len e)) (he : P.underlying e = some (.int k)) (hs : (P.info? e).map (·.size) = some 1) (hx : xs.length = len) (hy : ys.length = len) :
    quiet P H (Op.equalIn (D + 2) T (.agg (xs.map (Value.int k)).toArray) (.agg (ys.map (Value.int k)).toArray)) = some (decide (xs = ys)) := by
  have hsc : scal P e = true := by unfold scal; rw [he]
  unfold Op.equalIn
  rw [q_underlying hT]
  show quiet P H (sizeOf e >>= _) = _
  rw [q_sizeOf hs]
  rw [quiet_bind]
  rw [Std.Legacy.Range.forIn_eq_forIn_range']
  rw [q_forAll (s0 := ((none, ()) : Option Bool × Unit)) (s1 := ((some false, ()) : Option Bool × Unit)) (p := fun i => decide (xs[i]? = ys[i]?))]
  · simp only [Option.bind_some]
    have hall : ((List.range' 0 ([0:len].size) 1).all fun i => decide (xs[i]? = ys[i]?)) = decide (xs = ys) := by
      rw [Bool.eq_iff_iff]
      simp only [List.all_eq_true, decide_eq_true_eq, List.mem_range'_1]
      constructor
      · intro h
        apply List.ext_getElem?
        intro i
        by_cases hi : i < len
        · exact h i ⟨Nat.zero_le _, by simp [Std.Legacy.Range.size]; omega⟩
        · rw [List.getElem?_eq_none (by omega), List.getElem?_eq_none (by omega)]
      · intro h i _; rw [h]
    rw [hall]
    by_cases h : xs = ys
    · simp only [h, decide_true, if_true]; rfl
    · simp only [h, decide_false, Bool.false_eq_true, if_false]; rfl
  · intro i hi
    have hi' : i < len := by
      have := (List.mem_range'_1.1 hi).2
      simp [Std.Legacy.Range.size] at this; omega
    have h1 : xs[i]? = some xs[i] := List.getElem?_eq_getElem (by omega)
    have h2 : ys[i]? = some ys[i] := List.getElem?_eq_getElem (by omega)
    rw [quiet_bind, q_part1 hsc (v := .int k xs[i]) (by simp [h1])]
    simp only [Option.bind_some]
    rw [quiet_bind, q_part1 hsc (v := .int k ys[i]) (by simp [h2])]
    simp only [Option.bind_some]
    rw [quiet_bind, q_equalInt he]
    simp only [Option.bind_some, h1, h2, Option.some.injEq]
    by_cases h : xs[i] = ys[i]
    · simp [h]; rfl
    · simp [h]; rfl

theorem q_arrNeq {T T2 e : TypeId} {x y : Operand} {len : Nat} {xs ys : List Int} {k : IntKind} (hT : P.underlying T = some (.array len e)) (he : P.underlying e = some (.int k)) (hs : (P.info? e).map (·.size) = some 1) (hg : P.eqGuardType P.depth T = false) (hl : xs.length = len) (hl2 : ys.length = len)
    (hx : ρ x = .agg (xs.map (Value.int k)).toArray) (hy : ρ y = .agg (ys.map (Value.int k)).toArray) : quiet P H (execOp ρ ⟨d, .binOp .neq T x y T2, ty, pos, af, g⟩) = some (.value (.bool (decide (xs ≠ ys)))) := by
  have hde : decide (xs ≠ ys) = !decide (xs = ys) := by simp
  rw [hde]
  have he2 : quiet P H (Op.equal T (.agg (xs.map (Value.int k)).toArray) (.agg (ys.map (Value.int k)).toArray)) = some (decide (xs = ys)) := q_equalArr (D := 9998) hT he hs hl hl2
  simp only [execOp, hx, hy]
  have hgd : quiet P H (eqGuard .neq T x y (.agg (xs.map (Value.int k)).toArray) (.agg (ys.map (Value.int k)).toArray)) = some () := by
    unfold eqGuard
    show quiet P H (do if !(← program).eqGuardType (← program).depth T then return
                       if ← Op.eqGuardIn Op.maxDepth T _ _ then unsupported _) = _
    show quiet P H (if (!P.eqGuardType P.depth T) = true then pure () else _) = _
    rw [hg]; rfl
  rw [quiet_bind]
  have hb : quiet P H (do eqGuard .neq T x y (.agg (xs.map (Value.int k)).toArray) (.agg (ys.map (Value.int k)).toArray); binOp .neq T (.agg (xs.map (Value.int k)).toArray) (.agg (ys.map (Value.int k)).toArray)) = some (.bool (!decide (xs = ys))) := by
    rw [quiet_bind, hgd]
    simp only [Option.bind_some]
    show quiet P H (Op.equal T _ _ >>= fun b => pure (Value.bool (!b))) = _
    rw [quiet_bind, he2]; rfl
  rw [hb]; rfl
theorem q_arrEql {T T2 e : TypeId} {x y : Operand} {len : Nat} {xs ys : List Int} {k : IntKind} (hT : P.underlying T = some (.array len e)) (he : P.underlying e = some (.int k)) (hs : (P.info? e).map (·.size) = some 1) (hg : P.eqGuardType P.depth T = false) (hl : xs.length = len) (hl2 : ys.length = len)
    (hx : ρ x = .agg (xs.map (Value.int k)).toArray) (hy : ρ y = .agg (ys.map (Value.int k)).toArray) : quiet P H (execOp ρ ⟨d, .binOp .eql T x y T2, ty, pos, af, g⟩) = some (.value (.bool (decide (xs = ys)))) := by
  have he2 : quiet P H (Op.equal T (.agg (xs.map (Value.int k)).toArray) (.agg (ys.map (Value.int k)).toArray)) = some (decide (xs = ys)) := q_equalArr (D := 9998) hT he hs hl hl2
  simp only [execOp, hx, hy]
  have hgd : quiet P H (eqGuard .eql T x y (.agg (xs.map (Value.int k)).toArray) (.agg (ys.map (Value.int k)).toArray)) = some () := by
    unfold eqGuard
    show quiet P H (if (!P.eqGuardType P.depth T) = true then pure () else _) = _
    rw [hg]; rfl
  rw [quiet_bind]
  have hb : quiet P H (do eqGuard .eql T x y (.agg (xs.map (Value.int k)).toArray) (.agg (ys.map (Value.int k)).toArray); binOp .eql T (.agg (xs.map (Value.int k)).toArray) (.agg (ys.map (Value.int k)).toArray)) = some (.bool (decide (xs = ys))) := by
    rw [quiet_bind, hgd]
    simp only [Option.bind_some]
    show quiet P H (Op.equal T _ _ >>= fun b => pure (Value.bool b)) = _
    rw [quiet_bind, he2]; rfl
  rw [hb]; rfl

/-- Texts of bytes as cells. -/
theorem bv_inj {a b : List UInt8} : (a.map fun x => (x.toNat : Int)) = (b.map fun x => (x.toNat : Int)) ↔ a = b := by
  constructor
  · intro h
    exact (List.map_inj_right (f := fun x : UInt8 => (x.toNat : Int)) (fun x y h => UInt8.toNat_inj.1 (by omega))).1 h
  · intro h; rw [h]
theorem bv_map (a : List UInt8) : a.map bV = (a.map fun x => (x.toNat : Int)).map (Value.int .u8) := by simp

/-- A result that stands in a block. -/
theorem rv_cellA {a T n b : Nat} {env : Env} {c : Array Value} {e : TypeId} {fr : Nat × Nat} (hT : aggr P T n = true) (ha : env a = .pointer (some ⟨b, 0, none⟩)) (hb : H b = some (.cells c e fr)) (hn : c.size = n) : rv P H env (.cell a T) = some (.agg c) := by
  show quiet P H (do loadVar T (← asAddr (env a))) = _
  rw [ha]
  show quiet P H (loadVar T ⟨b, 0, none⟩) = _
  have h := q_loadA (ρ := fun _ => Value.pointer (some ⟨b, 0, none⟩)) (d := none) (x := .tmp 0) (ty := 0) (pos := "") (af := #[]) (g := none) hT rfl hb (off := 0) (by omega)
  have h2 : quiet P H (loadVar T ⟨b, 0, none⟩ >>= fun v => pure (Next.value v)) = some (.value (.agg (c.extract 0 (0 + n)))) := h
  rw [quiet_bind] at h2
  cases hq : quiet P H (loadVar T ⟨b, 0, none⟩) with
  | none => rw [hq] at h2; cases h2
  | some v =>
    rw [hq] at h2
    have h3 : Next.value v = Next.value (Value.agg (c.extract 0 (0 + n))) := Option.some.inj h2
    have h4 : v = Value.agg (c.extract 0 (0 + n)) := by injection h3
    rw [h4, Nat.zero_add, ← hn]
    simp
theorem resL_one {env : Env} {r : ResultVar} {v : Value} (h : rv P H env r = some v) : resL P H env [r] = some [v] := by simp [resL, h]
end

section
variable {P : Program} {ol : List Oper} {rest : Stp} {K : Env → Hp → Prop} {env : Env} {Hs : List Hp} {i : Nat} {held : List Nat} {d : Option Nat} {ty : TypeId} {pos : String} {af : Array Edge} {g : Option (Nat × Bool)}
/-- A whole block is loaded. -/
theorem EPL.ldAw {dd : Nat} {T : TypeId} {x : Operand} {b n : Nat} {c : Array Value} {e : TypeId} {fr : Nat × Nat} (ho : nth ol i = some ⟨some dd, .load T x, ty, pos, af, g⟩) (hw : wantE ol env ⟨some dd, .load T x, ty, pos, af, g⟩ = true)
    (hT : aggr P T n = true) (hx : ev env x = .pointer (some ⟨b, 0, none⟩)) [hp : PickS Hs b (.cells c e fr)] (hn : c.size = n)
    (h : EPL P ol rest K (upd env dd (.agg c)) Hs) : EPL P ol (.l i rest) K env Hs :=
  EPL.ldA ho hw hT hx (by omega) (by rw [Nat.zero_add, ← hn]; simp) h
theorem HeldL.ldAp {h : Nat} {hs : List Nat} {dd : Nat} {T : TypeId} {x : Operand} {b off n : Nat} {c : Array Value} {e : TypeId} {fr : Nat × Nat} (ho : nth ol h = some ⟨some dd, .load T x, ty, pos, af, g⟩) (hw : wantE ol env ⟨some dd, .load T x, ty, pos, af, g⟩ = true)
    (hT : aggr P T n = true) (hx : ev env x = .pointer (some ⟨b, off, none⟩)) [hp : PickS Hs b (.cells c e fr)] (hl : off + n ≤ c.size) (hv : .agg (c.extract off (off + n)) = env dd) (ht : HeldL P ol hs env Hs) : HeldL P ol (h :: hs) env Hs :=
  HeldL.cons ho rfl (.inl ⟨hw, fun hd => let ⟨_, hj⟩ := hp.ok; by rw [← hv]; exact q_loadA hT hx (join_get hd hj sg_self) hl⟩) ht
/-- A part of a block is loaded. -/
theorem EPL.ldAp {dd : Nat} {T : TypeId} {x : Operand} {b off n : Nat} {c v : Array Value} {e : TypeId} {fr : Nat × Nat} (ho : nth ol i = some ⟨some dd, .load T x, ty, pos, af, g⟩) (hw : wantE ol env ⟨some dd, .load T x, ty, pos, af, g⟩ = true)
    (hT : aggr P T n = true) (hx : ev env x = .pointer (some ⟨b, off, none⟩)) [hp : PickS Hs b (.cells c e fr)] (hl : off + n ≤ c.size) (hv : c.extract off (off + n) = v)
    (h : EPL P ol rest K (upd env dd (.agg v)) Hs) : EPL P ol (.l i rest) K env Hs :=
  EPL.ldA ho hw hT hx hl (by rw [hv]) h
end
end Go.Proofs.YtedkoebbijpnfaaGreatDoor.TH

/- From a function's law to a row's step: what the call leaves of the world that was there. -/
namespace Go.Proofs.YtedkoebbijpnfaaGreatDoor.TH
open Go Go.ChangeShapes Go.WideShapes Go.ChangeAt Go.RowKit

theorem Ext.below_nil {H' : Hp} {W W' : World} (h : Ext Hp.nil H' W W') : Below W.heap.size W W' :=
  ⟨h.os, h.tape, h.output, h.size, fun k hk => h.frame k hk rfl⟩

/-- All that is there. -/
def whole (W : World) : Hp := fun k => W.heap[k]?
theorem Sub.whole (W : World) : Sub (whole W) W := fun _ _ h => h
theorem Ext.below_whole {H' : Hp} {W W' : World} (h : Ext (whole W) H' W W') (hs : (whole W).Le H') : Below W.heap.size W W' :=
  ⟨h.os, h.tape, h.output, h.size, fun k hk => by
    have e : W.heap[k]? = some W.heap[k] := Array.getElem?_eq_getElem hk
    rw [e]; exact h.sub k _ (hs k _ e)⟩

theorem call_nil {P : Program} {f : FuncId} {args : List Value} {R : Value → List Hp → Prop} (h : CallL P f args [] R) (W : World) :
    Calls P f args.toArray W fun e W' => ∃ v Hs', e = .returned v ∧ R v Hs' ∧ Below W.heap.size W W' :=
  (h List.Pairwise.nil W (fun b o hb => by simp [join, Hp.nil] at hb)).mono fun _ _ ⟨v, _, he, ⟨Hs', _, _, hR⟩, hx⟩ => ⟨v, Hs', he, hR, hx.below_nil⟩

theorem call_whole {P : Program} {f : FuncId} {args : List Value} {R : Value → List Hp → Prop} {W : World} (h : CallL P f args [whole W] R) (hR : ∀ v Hs', R v Hs' → ∃ Ks, Hs' = whole W :: Ks) :
    Calls P f args.toArray W fun e W' => ∃ v Hs', e = .returned v ∧ R v Hs' ∧ Below W.heap.size W W' := by
  have e : join [whole W] = whole W := by funext k; simp only [join, Hp.nil]; cases whole W k <;> rfl
  refine (h (List.pairwise_singleton _ _) W (by rw [e]; exact Sub.whole W)).mono fun en W' ⟨v, H', he, ⟨Hs', hj, _, hr⟩, hx⟩ => ⟨v, Hs', he, hr, ?_⟩
  obtain ⟨Ks, rfl⟩ := hR v Hs' hr
  rw [e] at hx
  refine hx.below_whole ?_
  rw [hj]
  intro b o hb
  simp [join, hb]

theorem kept_of_below {W W' : World} (h : Below W.heap.size W W') (may : MemPlace → Prop) : W.keptBut W' may := by
  refine ⟨h.os, h.output, fun i hi => ?_⟩
  rw [h.block i hi]
  have e : W.heap[i]? = some W.heap[i] := Array.getElem?_eq_getElem hi
  rw [e]
  cases W.heap[i] <;> simp

theorem trodAll_stays {H : Type} {enc : TypeId × Value → H} {P : Program} (hl : laidOutB P = true) {W W' : World} {sp : Nat → Bool} (hb : Below W.heap.size W W') :
    ∀ {ts : List TypeId} {vs : List Value} {ds : List (DataW H)} {ps : List MemPlace}, (∀ t ∈ ts, P.readableRec t = true ∧ t < P.types.size) → DataW.TrodAll enc P W 0 (fun _ => true) true ts vs ds ps →
      (∀ p ∈ ps, p.block < W.heap.size) → (∀ p ∈ ps, sp p.block = true) → DataW.TrodAll enc P W' 0 sp true ts vs ds ps
  | [], [], [], _, _, h, _, _ => h
  | _ :: _, _ :: _, _ :: _, _, hT, ⟨p, q, h1, h2, e⟩, hlt, hs =>
    ⟨p, q, WideElems.Trod_stays hl (hT _ List.mem_cons_self).1 (hT _ List.mem_cons_self).2 h1 (fun x hx => hb.same (hlt x (by rw [e]; exact List.mem_append_left _ hx))) (fun x hx => hs x (by rw [e]; exact List.mem_append_left _ hx)),
      trodAll_stays hl hb (fun t ht => hT t (List.mem_cons_of_mem _ ht)) h2 (fun x hx => hlt x (by rw [e]; exact List.mem_append_right _ hx)) (fun x hx => hs x (by rw [e]; exact List.mem_append_right _ hx)), e⟩
  | [], _ :: _, _, _, _, h, _, _ => h.elim
  | [], [], _ :: _, _, _, h, _, _ => h.elim
  | _ :: _, [], _, _, _, h, _, _ => by cases h
  | _ :: _, _ :: _, [], _, _, h, _, _ => by cases h

/-- A law's behind: true, and the arguments read as they did; nothing that was there has turned. -/
theorem post_law {H : Type} {enc : TypeId × Value → H} {P : Program} {f : Func} {s : ChangeSpec} {apart fresh handsOn again : Bool} {W W' : World} {args : Array Value} {ds gs : List (DataW H)} {before : List MemPlace} {t : TypeId}
    (hl : laidOutB P = true) (hp : (f.params.toList.all fun t => P.readableRec t && decide (t < P.types.size)) = true)
    (hv : s.vars = []) (hW : DataW.Whole enc P f.params.toList s.vars apart W args.toList ds gs before)
    (hr : f.resultTypes = #[t]) (ht : P.underlying t = some .bool) (hs : s.fn H (ds ++ gs) = { results := [.lit (.bool true)], args := ds }) (hB : Below W.heap.size W W') :
    s.post enc P f apart fresh handsOn again W args (.bool true) W' := by
  have hlt := hW.lt
  have hW0 := hW
  obtain ⟨p, q, hA, hV, hpq, hz, hn⟩ := hW
  rw [hv] at hV
  obtain ⟨rfl, rfl⟩ := trodVars_none hV
  simp only [List.append_nil] at hpq
  subst hpq
  have hT : ∀ t ∈ f.params.toList, P.readableRec t = true ∧ t < P.types.size := fun t ht => by
    have := List.all_eq_true.1 hp t ht
    simpa using this
  have hargs : ∀ sp : Nat → Bool, (∀ x ∈ before, sp x.block = true) → DataW.TrodAll enc P W' 0 sp true f.params.toList args.toList ds before :=
    fun sp hsp => trodAll_stays hl hB hT hA (fun x hx => hlt x hx) hsp
  have hres : ∀ (b : Nat) (sp : Nat → Bool) (hd : Bool), DataW.TrodAll enc P W' b sp hd f.resultTypes.toList ((Value.bool true).resultList f.resultTypes.size) (s.fn H (ds ++ [])).results [] := fun b sp hd => by
    rw [hr, hs]
    exact trodAll_cons_mk (shut_bool ht _) trodAll_mk0
  have hfz : ∀ x ∈ before, W'.frozen? ⟨x.block, 0, none⟩ = W'.frozen? ⟨x.block, 0, none⟩ := fun _ _ => rfl
  have hfr : ∀ b off, b < W.heap.size → W'.frozen? ⟨b, off, none⟩ = W.frozen? ⟨b, off, none⟩ := fun b off hb => by
    unfold World.frozen?
    rw [hB.block b hb]
  refine ⟨ds, [], before, [], before, [], hW0, hres _ _ _, ?_, ?_, kept_of_below hB _, fun _ => ?_⟩
  · rw [hs]; exact hargs _ (fun x hx => by simpa using hlt x hx)
  · rw [hv, hs]; rfl
  · refine ⟨ok_one hr rfl (okWide_bool_mk ht _), [.lit (.bool true)] ++ ds, [], ([] ++ before) ++ [], ⟨[] ++ before, [], ?_, ?_, rfl, ?_, ?_⟩, ?_⟩
    · have h1 := hres 0 (fun _ => true) true
      rw [hs] at h1
      exact trodAll_append (hargs _ (fun _ _ => rfl)) h1
    · rw [hv]; rfl
    · intro b off hx
      have hx' : MemPlace.cell b off ∈ before := by simpa using hx
      rw [hfr b off (hlt _ hx')]
      exact hz b off (by simpa using hx')
    · intro ha
      simpa using hn ha
    · intro x hx _
      simpa using hx
end Go.Proofs.YtedkoebbijpnfaaGreatDoor.TH

/- What is handed in, read: slices, arrays, texts of the world that was there. -/
namespace Go.Proofs.YtedkoebbijpnfaaGreatDoor.TH
open Go Go.ChangeShapes Go.WideShapes

/-- A slice that is read alone: its first n elements stand in that piece. -/
def RdS (sz : Nat) (v : Value) (n : Nat) (xs : List Value) (H : Hp) : Prop :=
  xs.length = n * sz ∧ n ≤ 9223372036854775807 ∧
  ((n = 0 ∧ ∃ a c, v = .slice a 0 c) ∨
   ∃ b off cap c e fr, v = .slice (some ⟨b, off, none⟩) n cap ∧ H b = some (.cells c e fr) ∧ off + n * sz ≤ c.size ∧ (c.toList.drop off).take (n * sz) = xs)

theorem OwnS.rd {T sz : Nat} {v : Value} {n : Nat} {xs : List Value} {H : Hp} (h : OwnS T sz v n xs H) : RdS sz v n xs H := by
  refine ⟨h.1, h.max, ?_⟩
  rcases h.2 with ⟨rfl, rfl⟩ | ⟨b, off, cap, c, fr, rfl, hb, _, hnc, _, hcs, ht⟩
  · exact .inl ⟨rfl, _, _, rfl⟩
  · have : n * sz ≤ cap * sz := Nat.mul_le_mul_right sz hnc
    exact .inr ⟨b, off, cap, c, T, fr, rfl, hb, by omega, ht⟩
theorem RdS.max {sz : Nat} {v : Value} {n : Nat} {xs : List Value} {H : Hp} (h : RdS sz v n xs H) : n ≤ 9223372036854775807 := h.2.1
/-- An element. -/
theorem RdS.getA {α : Type} {f : α → List Value} {k : Nat} {v : Value} {xs : List α} {H : Hp} (h : RdS k v xs.length (xs.flatMap f) H) (hk : ∀ x ∈ xs, (f x).length = k) {i : Nat} {x : α} (hx : xs[i]? = some x) :
    ∃ b off cap c e fr, v = .slice (some ⟨b, off, none⟩) xs.length cap ∧ H b = some (.cells c e fr) ∧ off + i * k + k ≤ c.size ∧ c.extract (off + i * k) (off + i * k + k) = (f x).toArray := by
  obtain ⟨hi, _⟩ := List.getElem?_eq_some_iff.1 hx
  obtain ⟨h1, _, h2⟩ := h
  rcases h2 with ⟨h0, _⟩ | ⟨b, off, cap, c, e, fr, rfl, hb, hcs, ht⟩
  · omega
  · have h3 : (i + 1) * k ≤ xs.length * k := Nat.mul_le_mul_right k (by omega)
    rw [Nat.add_mul, Nat.one_mul] at h3
    refine ⟨b, off, cap, c, e, fr, rfl, hb, by omega, extract_of ?_⟩
    have := flat_get hk hx
    rw [← ht, List.drop_take, List.drop_drop, List.take_take] at this
    rw [← this]
    congr 1
    omega

/-- An element of one cell. -/
theorem RdS.get1 {α : Type} {f : α → Value} {v : Value} {xs : List α} {H : Hp} (h : RdS 1 v xs.length (xs.flatMap fun x => [f x]) H) {i : Nat} {x : α} (hx : xs[i]? = some x) :
    ∃ b off cap c e fr, v = .slice (some ⟨b, off, none⟩) xs.length cap ∧ H b = some (.cells c e fr) ∧ c[off + i]? = some (f x) := by
  obtain ⟨b, off, cap, c, e, fr, h1, h2, h3, h4⟩ := h.getA (f := fun x => [f x]) (fun _ _ => rfl) hx
  refine ⟨b, off, cap, c, e, fr, h1, h2, ?_⟩
  rw [Nat.mul_one] at h3 h4
  have h5 := congrArg (fun z : Array Value => z[0]?) h4
  have h6 : (c.extract (off + i) (off + i + 1))[0]? = c[off + i]? := by
    rw [Array.getElem?_extract]
    simp; omega
  rw [← h6]; exact h5

/-- All its elements. -/
theorem RdS.all1 {α : Type} {f : α → Value} {v : Value} {xs : List α} {H : Hp} (h : RdS 1 v xs.length (xs.flatMap fun x => [f x]) H) (hn : 0 < xs.length) :
    ∃ b off cap c e fr, v = .slice (some ⟨b, off, none⟩) xs.length cap ∧ H b = some (.cells c e fr) ∧ ∀ (i : Nat) (x : α), xs[i]? = some x → c[off + i]? = some (f x) := by
  obtain ⟨b, off, cap, c, e, fr, h1, h2, _⟩ := h.get1 (i := 0) (x := xs[0]) (List.getElem?_eq_getElem hn)
  refine ⟨b, off, cap, c, e, fr, h1, h2, fun i x hx => ?_⟩
  obtain ⟨b', off', cap', c', e', fr', h1', h2', h3'⟩ := h.get1 hx
  rw [h1] at h1'
  simp only [Value.slice.injEq, Option.some.injEq, Addr.mk.injEq] at h1'
  obtain ⟨⟨rfl, rfl, _⟩, _, _⟩ := h1'
  rw [h2] at h2'
  cases h2'
  exact h3'

theorem cells_list {W : World} {base b off k : Nat} {cs : List Value} {c : Array Value} {e : TypeId} {fr : Nat × Nat} (hb : W.heap[b]? = some (.cells c e fr)) (h : W.cells? base ⟨b, off, none⟩ k = some cs) : (c.toList.drop off).take k = cs ∧ (0 < k → off + k ≤ c.size) := by
  obtain ⟨_, hl, hc⟩ := World.cells?_some h
  have hget : ∀ i, i < k → c[off + i]? = cs[i]? := fun i hi => by
    rw [← hc i hi]
    have e1 : ((⟨b, off, none⟩ : Addr).add i) = ⟨b, off + i, none⟩ := add_cell
    rw [e1]
    simp [World.cell?, hb]
  refine ⟨?_, fun hk => ?_⟩
  · apply List.ext_getElem?
    intro i
    by_cases hi : i < k
    · rw [List.getElem?_take_of_lt hi, List.getElem?_drop, Array.getElem?_toList, hget i hi]
    · rw [List.getElem?_eq_none (by simp; omega), List.getElem?_eq_none (by omega)]
  · have h1 := hget (k - 1) (by omega)
    rw [List.getElem?_eq_getElem (by omega)] at h1
    have := (Array.getElem?_eq_some_iff.1 h1).1
    omega

section
variable {H : Type} {enc : TypeId × Value → H} {P : Program} {W : World} {base : Nat} {sp : Nat → Bool} {hd : Bool}

/-- A slice of elements that are known each. -/
theorem rd_slice {α : Type} {t e k : Nat} (f : α → List Value) (R : α → DataW H → Prop) (ht : P.underlying t = some (.slice e)) (hk : P.cellsOf e = k) (hk0 : 0 < k)
    (dec : ∀ n cs y, DataW.trod enc P W base sp hd n e cs = some y → ∃ x : α, cs = f x ∧ R x y.1) {v : Value} {d : DataW H} {ps : List MemPlace} (hv : ∃ a n c, v = .slice a n c) (h : DataW.Trod enc P W base sp hd t v d ps) :
    ∃ la lc, ∃ l : List α, ∃ ds : List (DataW H), v = .slice la l.length lc ∧ RdS k v l.length (l.flatMap f) (whole W) ∧ l.length = ds.length ∧ (∀ (i : Nat) (x : α) (d' : DataW H), l[i]? = some x → ds[i]? = some d' → R x d') ∧ ((d = .nil ∧ ds = []) ∨ ∃ s, d = .slice ds s) := by
  obtain ⟨va, vn, vc, rfl⟩ := hv
  obtain ⟨fuel, hf⟩ := h
  rcases Go.Deep.open_slice ht hf with ⟨hcs, hx⟩ | ⟨a, len, cap, m, n, D, Pl, hcs, _, hl, hm, hmm, hx, hel⟩
  · have e1 : va = none ∧ vn = 0 ∧ vc = 0 := by simpa [Value.cells] using hcs
    obtain ⟨rfl, rfl, rfl⟩ := e1
    exact ⟨none, 0, [], [], rfl, ⟨by simp, by simp, .inl ⟨rfl, _, _, rfl⟩⟩, rfl, fun i x d' h => by simp at h, .inl ⟨by rw [Prod.ext_iff] at hx; exact hx.1, rfl⟩⟩
  · have e1 : va = some a ∧ vn = len ∧ vc = cap := by simpa [Value.cells] using hcs
    obtain ⟨rfl, rfl, rfl⟩ := e1
    have hlm : vn ≤ m := by rw [hmm]; split <;> omega
    have hmx : vn ≤ 9223372036854775807 := by unfold maxLen at hm; omega
    have hd1 : d = .slice ((List.range vn).map D) ((List.range (m - vn)).map fun j => D (vn + j)) := by rw [Prod.ext_iff] at hx; exact hx.1
    rw [hk] at hel
    by_cases hn0 : vn = 0
    · subst hn0
      exact ⟨some a, vc, [], [], rfl, ⟨by simp, by simp, .inl ⟨rfl, _, _, rfl⟩⟩, rfl, fun i x d' h => by simp at h, .inr ⟨_, by rw [hd1]; rfl⟩⟩
    · -- the block
      obtain ⟨c0, hc0, _⟩ := hel 0 (by omega)
      obtain ⟨_, hl0, hcell⟩ := World.cells?_some hc0
      have h00 := hcell 0 hk0
      rw [List.getElem?_eq_getElem (by omega)] at h00
      have ea : ((a.add (0 * k)).add 0) = a := by simp [Addr.add]
      rw [ea] at h00
      obtain ⟨b, off, spot⟩ := a
      have hblk : ∃ c e' fr, W.heap[b]? = some (.cells c e' fr) ∧ spot = none := by
        unfold World.cell? at h00
        split at h00
        · rename_i c e' fr hb
          refine ⟨c, e', fr, hb, ?_⟩
          cases spot with
          | none => rfl
          | some s => simp at h00
        · cases h00
      obtain ⟨c, e', fr, hb, rfl⟩ := hblk
      have key : ∀ m', m' ≤ vn → ∃ l : List α, l.length = m' ∧ (c.toList.drop off).take (m' * k) = l.flatMap f ∧ off + m' * k ≤ c.size + (if m' = 0 then off else 0) ∧ ∀ (i : Nat) (x : α), l[i]? = some x → R x (D i) := by
        intro m'
        induction m' with
        | zero => intro _; exact ⟨[], rfl, by simp, by simp, fun i x h => by simp at h⟩
        | succ m' ih =>
          intro hm'
          obtain ⟨l, h1, h2, h3, h4⟩ := ih (by omega)
          obtain ⟨cs, hcs', hdec⟩ := hel m' (by omega)
          have ead : ((⟨b, off, none⟩ : Addr).add (m' * k)) = ⟨b, off + m' * k, none⟩ := add_cell
          rw [ead] at hcs'
          obtain ⟨g1, g2⟩ := cells_list hb hcs'
          obtain ⟨x, rfl, hR⟩ := dec _ _ _ hdec
          refine ⟨l ++ [x], by simp [h1], ?_, ?_, ?_⟩
          · rw [Nat.add_mul, Nat.one_mul, List.take_add, h2, List.drop_drop, g1]; simp
          · have := g2 hk0
            rw [Nat.add_mul, Nat.one_mul]; simp; omega
          · intro i y hy
            rcases Nat.lt_or_ge i l.length with hi | hi
            · rw [List.getElem?_append_left hi] at hy; exact h4 i y hy
            · rw [List.getElem?_append_right hi] at hy
              have : i = m' := by
                rcases Nat.eq_zero_or_pos (i - l.length) with h0 | h0
                · omega
                · rw [List.getElem?_eq_none (by simp; omega)] at hy; cases hy
              subst this
              rw [h1, Nat.sub_self] at hy
              simp at hy; subst hy; exact hR
      obtain ⟨l, h1, h2, h3, h4⟩ := key vn (Nat.le_refl _)
      rw [if_neg hn0] at h3
      refine ⟨some ⟨b, off, none⟩, vc, l, (List.range vn).map D, by rw [h1], ⟨?_, by omega, .inr ⟨b, off, vc, c, e', fr, by rw [h1], hb, by rw [h1]; omega, by rw [h1]; exact h2⟩⟩, by simp [h1], fun i x d' hx hd' => ?_, .inr ⟨_, hd1⟩⟩
      · rw [← h2, List.length_take, List.length_drop, h1]
        simp; omega
      · have hi : i < vn := by have := (List.getElem?_eq_some_iff.1 hx).1; omega
        simp only [List.getElem?_map, List.getElem?_range hi, Option.map_some, Option.some.injEq] at hd'
        subst hd'
        exact h4 i x hx

/-- An array of bytes. -/
theorem rd_bytes {t e n fuel : Nat} {cs : List Value} {y : DataW H × List MemPlace} (ht : P.underlying t = some (.array n e)) (he : P.underlying e = some (.int .u8)) (hc : P.cellsOf e = 1) (hct : P.cellsOf t = n) (h : DataW.trod enc P W base sp hd fuel t cs = some y) :
    ∃ l : List UInt8, cs = l.map bV ∧ l.length = n := by
  obtain ⟨xs, m, _, _, hl, hx, hel⟩ := DataW.trod_array ht h
  rw [hct] at hl
  refine ⟨cs.map fun v => match v with | .int _ n => UInt8.ofNat n.toNat | _ => 0, ?_, by simp [hl]⟩
  rw [List.map_map]
  conv => lhs; rw [← List.map_id cs]
  apply List.map_congr_left
  intro v hv
  obtain ⟨i, hi, rfl⟩ := List.getElem_of_mem hv
  have h1 := hel i (by omega)
  rw [hc, Nat.mul_one, List.getElem?_eq_getElem (by omega)] at h1
  have h2 : (cs.drop i).take 1 = [cs[i]] := by rw [List.take_one]; simp
  rw [h2] at h1
  obtain ⟨z, hz, _, hw⟩ := DataW.trod_int he h1
  have hz' : cs[i] = .int .u8 z := by simpa using hz
  rw [hz']
  have hb : 0 ≤ z ∧ z ≤ 255 := by simpa [Lit.wf, IntKind.min, IntKind.max, IntKind.signed, IntKind.bits] using hw
  show Value.int .u8 z = bV (UInt8.ofNat z.toNat)
  unfold bV
  congr 1
  rw [UInt8.toNat_ofNat', Nat.mod_eq_of_lt (by omega)]
  omega
end
end Go.Proofs.YtedkoebbijpnfaaGreatDoor.TH

/- Words of 32 bits: what the model's integers are of them; the names of bytes (SHA-256) as plain functions. -/
namespace Go.Proofs.YtedkoebbijpnfaaGreatDoor.TH
open Go

abbrev W32 := BitVec 32
abbrev wV (w : W32) : Value := .int .u32 (w.toNat : Int)

theorem wrap_u32 (n : Int) : IntKind.u32.wrap n = n % 4294967296 := by simp [IntKind.wrap, IntKind.bits, IntKind.signed]
theorem w_lt (w : W32) : w.toNat < 4294967296 := w.isLt
theorem ofInt_toNat (a : W32) : BitVec.ofInt 32 (a.toNat : Int) = a := by simp
theorem w_add (a b : W32) : IntKind.u32.wrap ((a.toNat : Int) + b.toNat) = ((a + b).toNat : Int) := by
  rw [wrap_u32, BitVec.toNat_add]
  have := a.isLt; have := b.isLt
  omega
theorem w_wrap (a : W32) : IntKind.u32.wrap (a.toNat : Int) = (a.toNat : Int) := by
  rw [wrap_u32]; have := a.isLt; omega
theorem w_xor (a b : W32) : bXor .u32 a.toNat b.toNat = ((a ^^^ b).toNat : Int) := by
  unfold bXor
  simp only [IntKind.bits, ofInt_toNat]
  exact w_wrap _
theorem w_and (a b : W32) : bAnd .u32 a.toNat b.toNat = ((a &&& b).toNat : Int) := by
  unfold bAnd
  simp only [IntKind.bits, ofInt_toNat]
  exact w_wrap _
theorem w_or (a b : W32) : bOr .u32 a.toNat b.toNat = ((a ||| b).toNat : Int) := by
  unfold bOr
  simp only [IntKind.bits, ofInt_toNat]
  exact w_wrap _
theorem w_compl (a : W32) : bXor .u32 (if IntKind.u32.signed then -1 else IntKind.u32.max) a.toNat = ((~~~a).toNat : Int) := by
  have e : (if IntKind.u32.signed then -1 else IntKind.u32.max) = (((-1 : W32)).toNat : Int) := by decide
  rw [e, w_xor]
  have h : (-1 : W32) ^^^ a = ~~~a := by
    have e2 : (-1 : W32) = BitVec.allOnes 32 := by decide
    rw [e2, BitVec.allOnes_xor]
  rw [h]
theorem w_shr (a : W32) (n : Nat) (h : n ≤ 32) : bShr .u32 a.toNat n = ((a >>> n).toNat : Int) := by
  unfold bShr
  have e : min (n : Int).toNat IntKind.u32.bits = n := by simp [IntKind.bits]; omega
  rw [e, Int.fdiv_eq_ediv_of_nonneg _ (Int.le_of_lt (Int.pow_pos (by decide))), BitVec.toNat_ushiftRight, Nat.shiftRight_eq_div_pow]
  rw [Int.natCast_ediv, Int.natCast_pow]; rfl
theorem w_shl (a : W32) (n : Nat) (h : n ≤ 32) : bShl .u32 a.toNat n = ((a <<< n).toNat : Int) := by
  unfold bShl
  have e : min (n : Int).toNat IntKind.u32.bits = n := by simp [IntKind.bits]; omega
  rw [e, wrap_u32, BitVec.toNat_shiftLeft, Nat.shiftLeft_eq]
  rw [Int.natCast_emod, Int.natCast_mul, Int.natCast_pow]; rfl
theorem w_byte (b : UInt8) : IntKind.u32.wrap (b.toNat : Int) = ((BitVec.ofNat 32 b.toNat).toNat : Int) := by
  rw [wrap_u32]; have := b.toNat_lt; simp; omega

theorem rot_and (n : Nat) (h0 : 0 < n) (h : n < 32) : bAnd .u64 (IntKind.u64.wrap (-(n : Int))) 31 = 32 - (n : Int) := by
  have key : ∀ k : Fin 32, (k.val = 0) ∨ bAnd .u64 (IntKind.u64.wrap (-(k.val : Int))) 31 = 32 - (k.val : Int) := by decide
  rcases key ⟨n, h⟩ with h1 | h1
  · exact absurd h1 (by show n ≠ 0; omega)
  · exact h1
/-- Turned right. -/
def rotr (x : W32) (n : Nat) : W32 := x.rotateRight n
theorem rotr_or (x : W32) (n : Nat) (h : n < 32) : (x <<< (32 - n)) ||| (x >>> n) = rotr x n := by
  unfold rotr
  rw [BitVec.rotateRight_def, Nat.mod_eq_of_lt h, BitVec.or_comm]

def ssig0 (x : W32) : W32 := rotr x 7 ^^^ rotr x 18 ^^^ (x >>> 3)
def ssig1 (x : W32) : W32 := rotr x 17 ^^^ rotr x 19 ^^^ (x >>> 10)
def bsig0 (x : W32) : W32 := rotr x 2 ^^^ rotr x 13 ^^^ rotr x 22
def bsig1 (x : W32) : W32 := rotr x 6 ^^^ rotr x 11 ^^^ rotr x 25
def chW (e f g : W32) : W32 := (e &&& f) ^^^ (~~~e &&& g)
def majW (a b c : W32) : W32 := (a &&& b) ^^^ (a &&& c) ^^^ (b &&& c)
theorem ch_or (e f g : W32) : (e &&& f) ||| (~~~e &&& g) = chW e f g := by
  unfold chW
  ext i
  simp
  cases e[i] <;> simp
theorem maj_or (a b c : W32) : (a &&& b) ||| (a &&& c) ||| (b &&& c) = majW a b c := by
  unfold majW
  ext i
  simp
  cases a[i] <;> cases b[i] <;> cases c[i] <;> rfl

/-- The words of the steps: sixteen, and each from those ahead. -/
def nextW (l : List W32) : W32 := l.getD (l.length - 16) 0 + ssig0 (l.getD (l.length - 15) 0) + l.getD (l.length - 7) 0 + ssig1 (l.getD (l.length - 2) 0)
def sched (b : List W32) : Nat → List W32
  | 0 => b
  | n + 1 => sched b n ++ [nextW (sched b n)]
theorem sched_len (b : List W32) (n : Nat) : (sched b n).length = b.length + n := by
  induction n with
  | zero => rfl
  | succ n ih => simp [sched, ih]; omega

/-- Eight words. -/
structure St where
  a : W32
  b : W32
  c : W32
  d : W32
  e : W32
  f : W32
  g : W32
  h : W32
def St.list (s : St) : List W32 := [s.a, s.b, s.c, s.d, s.e, s.f, s.g, s.h]
def St.step (s : St) (k w : W32) : St :=
  let x := s.h + bsig1 s.e + chW s.e s.f s.g + k + w
  let y := bsig0 s.a + majW s.a s.b s.c
  ⟨x + y, s.a, s.b, s.c, s.d + x, s.e, s.f, s.g⟩
def St.add (s t : St) : St := ⟨s.a + t.a, s.b + t.b, s.c + t.c, s.d + t.d, s.e + t.e, s.f + t.f, s.g + t.g, s.h + t.h⟩
def rounds (ks ws : List W32) (s : St) : Nat → St
  | 0 => s
  | n + 1 => (rounds ks ws s n).step (ks.getD n 0) (ws.getD n 0)
/-- A word of four bytes, the highest first. -/
def beW (b : List UInt8) : W32 := BitVec.ofNat 32 ((b.getD 0 0).toNat * 16777216 + (b.getD 1 0).toNat * 65536 + (b.getD 2 0).toNat * 256 + (b.getD 3 0).toNat)
def wordsOf (b : List UInt8) : List W32 := (List.range 16).map fun i => beW ((b.drop (4 * i)).take 4)
/-- One block. -/
def block (ks : List W32) (s : St) (b : List UInt8) : St := s.add (rounds ks (sched (wordsOf b) 48) s 64)
/-- So many blocks. -/
def blocks (ks : List W32) (s : St) (b : List UInt8) : Nat → St
  | 0 => s
  | n + 1 => block ks (blocks ks s b n) ((b.drop (64 * n)).take 64)
/-- What stands behind a text. -/
def padB (n : Nat) : List UInt8 := [0x80] ++ List.replicate ((119 - n % 64) % 64) 0 ++ (List.range 8).map fun i => UInt8.ofNat (n * 8 / 2 ^ (8 * (7 - i)) % 256)
def wBytes (w : W32) : List UInt8 := [UInt8.ofNat (w.toNat / 16777216 % 256), UInt8.ofNat (w.toNat / 65536 % 256), UInt8.ofNat (w.toNat / 256 % 256), UInt8.ofNat (w.toNat % 256)]
def kW : List W32 := [0x428a2f98, 0x71374491, 0xb5c0fbcf, 0xe9b5dba5, 0x3956c25b, 0x59f111f1, 0x923f82a4, 0xab1c5ed5, 0xd807aa98, 0x12835b01, 0x243185be, 0x550c7dc3, 0x72be5d74, 0x80deb1fe, 0x9bdc06a7, 0xc19bf174, 0xe49b69c1, 0xefbe4786, 0x0fc19dc6, 0x240ca1cc, 0x2de92c6f, 0x4a7484aa, 0x5cb0a9dc, 0x76f988da, 0x983e5152, 0xa831c66d, 0xb00327c8, 0xbf597fc7, 0xc6e00bf3, 0xd5a79147, 0x06ca6351, 0x14292967, 0x27b70a85, 0x2e1b2138, 0x4d2c6dfc, 0x53380d13, 0x650a7354, 0x766a0abb, 0x81c2c92e, 0x92722c85, 0xa2bfe8a1, 0xa81a664b, 0xc24b8b70, 0xc76c51a3, 0xd192e819, 0xd6990624, 0xf40e3585, 0x106aa070, 0x19a4c116, 0x1e376c08, 0x2748774c, 0x34b0bcb5, 0x391c0cb3, 0x4ed8aa4a, 0x5b9cca4f, 0x682e6ff3, 0x748f82ee, 0x78a5636f, 0x84c87814, 0x8cc70208, 0x90befffa, 0xa4506ceb, 0xbef9a3f7, 0xc67178f2]
def startW : St := ⟨0x6a09e667, 0xbb67ae85, 0x3c6ef372, 0xa54ff53a, 0x510e527f, 0x9b05688c, 0x1f83d9ab, 0x5be0cd19⟩
/-- The name of a text. -/
def shaB (s : List UInt8) : List UInt8 := (blocks kW startW (s ++ padB s.length) ((s ++ padB s.length).length / 64)).list.flatMap wBytes
def shaD (s : List UInt8) : List UInt8 := shaB (shaB s)
end Go.Proofs.YtedkoebbijpnfaaGreatDoor.TH

/- Calls of function values; what is known of a call in the kit's words; an array's tail. -/
namespace Go.Proofs.YtedkoebbijpnfaaGreatDoor.TH
open Go

section
variable {P : Program} {ol : List Oper} {rest : Stp} {K : Env → Hp → Prop} {env : Env} {Hs : List Hp} {i : Nat} {held : List Nat} {d : Option Nat} {ty : TypeId} {pos : String} {af : Array Edge} {g : Option (Nat × Bool)}

/-- A call of a value that is a function. -/
theorem EPL.clV {f : FuncId} {fn : Func} {fo : Operand} {first captured : Array Value} {args : Array Operand} {tys : Array TypeId} {vs : List Value} {A B : List Hp} {R : Value → List Hp → Prop} (ho : nth ol i = some ⟨d, .call ⟨.value fo, args, tys⟩, ty, pos, af, g⟩) (hw : wantE ol env ⟨d, .call ⟨.value fo, args, tys⟩, ty, pos, af, g⟩ = true)
    (hv : ev env fo = .func (.func f) first captured)
    (hf : P.funcs[f]? = some fn) (hnum : (fn.name == "runtime.NumGoroutine") = false) (hbody : fn.body.isNone = false) (hc : CallL P f vs A R) (ha : first.toList ++ args.toList.map (ev env) ++ captured.toList = vs) [ht : TakesP Hs A B]
    (h : ∀ v Hs', R v Hs' → HeldL P ol held (putE env d v) (Hs' ++ B) ∧ EPL P ol rest K (putE env d v) (Hs' ++ B)) : EPL P ol (.x i held rest) K env Hs := by
  refine EPL.x ho hw fun hd => ?_
  unfold EO
  have e0 : execOp (ev env) ⟨d, .call ⟨.value fo, args, tys⟩, ty, pos, af, g⟩ = callFunc f (first ++ args.map (ev env) ++ captured) := by
    show (Deferred.ofValue (ev env fo) (args.map (ev env)) >>= fun d => invoke d.target d.args) = _
    rw [hv]; rfl
  rw [e0]
  have e1 : (first ++ args.map (ev env) ++ captured) = vs.toArray := by rw [← ha]; apply Array.ext'; simp
  rw [e1]
  unfold callFunc
  show SemH P (program >>= _) _ _
  rw [SemH_bind]
  show SemH P (match P.funcs[f]? with | none => _ | some fn => _) _ _
  rw [hf]
  simp only [hnum, hbody, Bool.false_eq_true, if_false]
  show CallH P f vs.toArray (join Hs) _
  refine (hc.frameP ht.ok hd).mono fun v H' ⟨Hs', e, hd', hR⟩ => ?_
  exact ⟨Hs' ++ B, e, hd', h v Hs' hR⟩
theorem HeldL.ld1P {h : Nat} {hs : List Nat} {dd : Nat} {T : TypeId} {x : Operand} {b off : Nat} {c : Array Value} {e : TypeId} {fr : Nat × Nat} {H : Hp} {Ks : List Hp} (ho : nth ol h = some ⟨some dd, .load T x, ty, pos, af, g⟩) (hw : wantE ol env ⟨some dd, .load T x, ty, pos, af, g⟩ = true)
    (hT : scal P T = true) (hx : ev env x = .pointer (some ⟨b, off, none⟩)) (hH : H b = some (.cells c e fr)) [hp : TakeP Hs H Ks] (hv : c[off]? = some (env dd)) (ht : HeldL P ol hs env Hs) : HeldL P ol (h :: hs) env Hs :=
  HeldL.cons ho rfl (.inl ⟨hw, fun hd => let ⟨_, hj⟩ := mem_get (A := [H]) (B := Ks) hp.ok (j := 0) rfl; q_load1 hT hx (join_get hd hj hH) hv⟩) ht
end

theorem fill3 {v u w x : Value} (hu : u.oneCell' = true) (hw : w.oneCell' = true) (hx : x.oneCell' = true) (hz : v.cells.size = 1) : Instr.fill (fun i => some (i * 1, 1)) ((Array.range (3 * 1)).map (v.cells[· % v.cells.size]!)) [(0, u), (1, w), (2, x)] = some #[u, w, x] := by
  have hc : u.cells = #[u] := by cases u <;> first | rfl | (simp [Value.oneCell'] at hu)
  have hd : w.cells = #[w] := by cases w <;> first | rfl | (simp [Value.oneCell'] at hw)
  have he : x.cells = #[x] := by cases x <;> first | rfl | (simp [Value.oneCell'] at hx)
  have h0 : ((Array.range (3 * 1)).map (v.cells[· % v.cells.size]!)) = #[v.cells[0]!, v.cells[0]!, v.cells[0]!] := by
    apply Array.ext'
    simp [Array.range, hz, Array.ofFn, Nat.mod_one]
    rfl
  rw [h0]
  simp [Instr.fill, hc, hd, he]

/-- The frame as far as it is known: all else of it is some frame's. -/
theorem EL.base {P : Program} {N : Nat} {Q : Exit → Env → Hp → Prop} {env : Env} {Hs : List Hp} {c : Code} (sl : List (Nat × Value)) (hs : Slots env sl) (h : ∀ e, EL P N c Q (upds e sl) Hs) : EL P N c Q env Hs := by
  have := h env
  rwa [upds_same hs.all] at this

/-- A part of a body. -/
def codeAt : List Nat → Code → Code
  | [], c => c
  | i :: l, .seq a b => codeAt l (match i with | 0 => a | _ => b)
  | i :: l, .cond _ a b => codeAt l (match i with | 0 => a | _ => b)
  | _ :: l, .block _ a => codeAt l a
  | _ :: l, .loop a => codeAt l a
  | _ :: _, c => c
def bodyAt (f : Func) (l : List Nat) : Code := match f.body with
  | some c => codeAt l c
  | none => .skip
/-- What holds behind a part that is walked by itself. -/
def SegQ {σ : Type} (W : List Nat) (sl : σ → List (Nat × Value)) (J : σ → List Hp → Prop) (e0 : Env) (env : Env) (H : Hp) : Prop :=
  ∃ s Hs, H = join Hs ∧ Disj Hs ∧ J s Hs ∧ Off W e0 env ∧ Slots env (sl s)
theorem SegQ.mk {σ : Type} {env e0 : Env} {Hs : List Hp} {W : List Nat} {sl : σ → List (Nat × Value)} {J : σ → List Hp → Prop} (s : σ) (ho : Off W e0 env) (hJ : J s Hs) (hs : Slots env (sl s)) : Disj Hs → SegQ W sl J e0 env (join Hs) :=
  fun hd => ⟨s, Hs, rfl, hd, hJ, ho, hs⟩
theorem EL.seg {P : Program} {N : Nat} {Q : Exit → Env → Hp → Prop} {env : Env} {Hs : List Hp} {x : Code} {σ : Type} (W : List Nat) (sl : σ → List (Nat × Value)) (J : σ → List Hp → Prop) (h1 : ∀ Q' : Exit → Env → Hp → Prop, EL P N x (thenQ (SegQ W sl J env) Q') env Hs)
    (h2 : ∀ s Hs' j, J s Hs' → Disj Hs' → Q .normal (upds (Go.Proofs.YtedkoebbijpnfaaGreatDoor.TH.mix W env j) (sl s)) (join Hs')) : EL P N x Q env Hs := fun hd => by
  refine E_mono (h1 Q hd) fun e env2 H2 hq => ?_
  cases e with
  | normal =>
    obtain ⟨s, Hs', rfl, hd', hJ, ho, hs⟩ := hq
    have := h2 s Hs' env2 hJ hd'
    have he : upds (Go.Proofs.YtedkoebbijpnfaaGreatDoor.TH.mix W env env2) (sl s) = env2 := by rw [ho.eq]; exact upds_same hs.all
    rw [he] at this
    exact this
  | _ => exact hq

theorem OwnS.cap {T sz : Nat} {a : Option Addr} {n c : Nat} {xs : List Value} {H : Hp} (h : OwnS T sz (.slice a n c) n xs H) : n ≤ c := by
  rcases h.2 with ⟨e, rfl⟩ | ⟨b, off, cap, cc, fr, e, _, _, h1, _⟩
  · omega
  · simp at e; omega
theorem OwnS.some {T sz : Nat} {a : Option Addr} {n c : Nat} {xs : List Value} {H : Hp} (h : OwnS T sz (.slice a n c) n xs H) (h0 : 0 < n) : ∃ b off, a = some ⟨b, off, none⟩ := by
  rcases h.2 with ⟨e, rfl⟩ | ⟨b, off, cap, cc, fr, e, _, _, h1, _⟩
  · omega
  · simp at e; exact ⟨b, off, e.1⟩

/-- The same, where the frame is kept. -/
theorem EL.segE {P : Program} {N : Nat} {Q : Exit → Env → Hp → Prop} {env : Env} {Hs : List Hp} {x : Code} {σ : Type} (W : List Nat) (sl : σ → List (Nat × Value)) (J : σ → List Hp → Prop) (sl0 : List (Nat × Value)) (h0 : Slots env sl0) (h1 : ∀ Q' : Exit → Env → Hp → Prop, EL P N x (thenQ (SegQ W sl J (upds env sl0)) Q') (upds env sl0) Hs)
    (h2 : ∀ s Hs' j, J s Hs' → Disj Hs' → Q .normal (upds (Go.Proofs.YtedkoebbijpnfaaGreatDoor.TH.mix W env j) (sl s)) (join Hs')) : EL P N x Q env Hs := by
  have e : upds env sl0 = env := upds_same h0.all
  rw [e] at h1
  exact EL.seg W sl J h1 h2

/-- Two frames hold the same there. -/
def Agree : List Nat → Env → Env → Prop
  | [], _, _ => True
  | d :: l, a, b => a d = b d ∧ Agree l a b
theorem Agree.get {a b : Env} : ∀ {l : List Nat}, Agree l a b → ∀ d ∈ l, a d = b d
  | [], _, _, h => by cases h
  | x :: l, h, d, hd => by
    rcases List.mem_cons.1 hd with rfl | hd
    · exact h.1
    · exact Agree.get h.2 d hd
/-- Ways that end alike: what is behind them is walked once. -/
theorem EPL.share {P : Program} {ol : List Oper} {K : Env → Hp → Prop} {env F : Env} {Hs Hs1 : List Hp} {plan : Stp} (ds : List Nat) (rest : Stp)
    (h2 : EPL P ol rest K F Hs1 → (∀ e, Off ds env e → Agree ds F e → EPL P ol rest K e Hs1) → EPL P ol plan K env Hs) (hF : Off ds env F) (h1 : EPL P ol rest K F Hs1) : EPL P ol plan K env Hs := by
  refine h2 h1 fun e he ha => ?_
  have : F = e := by
    funext t
    cases hb : ds.elem t with
    | false => rw [hF t hb, he t hb]
    | true => exact ha.get t (by simpa using hb)
  rw [← this]; exact h1

/-- What the kit says of a call that changes nothing that was there. -/
theorem CallL.of_calls {P : Program} {f : FuncId} {args : List Value} {R : Value → Prop} (h : ∀ w, Calls P f args.toArray w fun e w' => ∃ v, e = .returned v ∧ R v ∧ Go.RowKit.Below w.heap.size w w') : CallL P f args [] (fun v Hs' => R v ∧ Hs' = []) := fun _ => by
  intro w _
  refine (h w).mono fun e w' hx => ?_
  obtain ⟨v, he, hr, hb⟩ := hx
  refine ⟨v, join [], he, ⟨[], rfl, List.Pairwise.nil, hr, rfl⟩, ⟨fun b o hh => (by cases hh), hb.os, hb.tape, hb.output, hb.size, fun k hk _ => hb.block k hk, fun b hh => absurd rfl hh⟩⟩

section
variable {P : Program} {H : Hp} {ρ : Operand → Value} {d : Option Nat} {ty : TypeId} {pos : String} {af : Array Edge} {g : Option (Nat × Bool)}
theorem q_makeFunc {fn : Fn} {first captured : Array Operand} : quiet P H (execOp ρ ⟨d, .makeFunc fn first captured, ty, pos, af, g⟩) = some (.value (.func fn (first.map ρ) (captured.map ρ))) := rfl
theorem q_slArrLo {T E : TypeId} {x lo : Operand} {b off p s : Nat} {k : IntKind} {n : Int} (hT : P.underlying T = some (.array p E)) (hs : (P.info? E).map (·.size) = some s) (hx : ρ x = .pointer (some ⟨b, off, none⟩)) (hh : ρ lo = .int k n) (h0 : 0 ≤ n) (h1 : n < p) :
    quiet P H (execOp ρ ⟨d, .slice T x (some lo) none none, ty, pos, af, g⟩) = some (.value (.slice (some ⟨b, off + n.toNat * s, none⟩) (p - n.toNat) (p - n.toNat))) := by
  have key : quiet P H (Instr.sliceAt T (.pointer (some ⟨b, off, none⟩)) (some (.int k n)) none none) = some (.slice (some ⟨b, off + n.toNat * s, none⟩) (p - n.toNat) (p - n.toNat)) := by
    unfold Instr.sliceAt
    rw [q_underlying hT]
    show quiet P H (Instr.sliceBounds false _ _ (some (.int k n)) none none >>= _) = _
    rw [quiet_bind, q_bdLo h0 (by omega)]
    show quiet P H (sizeOf E >>= _) = _
    rw [q_sizeOf hs]
    show some (Value.slice (some (if p = n.toNat then ⟨b, off, none⟩ else (⟨b, off, none⟩ : Addr).add (n.toNat * s))) (p - n.toNat) (p - n.toNat)) = _
    rw [if_neg (by omega), add_cell]
  show quiet P H (Instr.sliceAt T (ρ x) (some (ρ lo)) none none >>= fun v => pure (Next.value v)) = _
  rw [hx, hh, quiet_bind, key]; rfl
/-- An element of an array that is no variable. -/
theorem q_index1 {T E : TypeId} {x ix : Operand} {c : Array Value} {k : IntKind} {i : Int} {len s : Nat} {v : Value} (hT : P.underlying T = some (.array len E)) (hs : (P.info? E).map (·.size) = some s) (hE : scal P E = true) (hx : ρ x = .agg c) (hi : ρ ix = .int k i) (h0 : 0 ≤ i) (h1 : i < len) (hv : c[i.toNat * s]? = some v) :
    quiet P H (execOp ρ ⟨d, .index T x ix, ty, pos, af, g⟩) = some (.value v) := by
  have key : quiet P H (Instr.index T (.agg c) (.int k i)) = some v := by
    unfold Instr.index
    show quiet P H (underlying T >>= _) = _
    rw [q_underlying hT]
    simp only [if_pos (And.intro h0 h1)]
    rw [q_sizeOf hs]
    show quiet P H (part E c (i.toNat * s)) = _
    unfold part
    rw [q_isAggF hE]
    simp only [Bool.false_eq_true, if_false, hv]; rfl
  show quiet P H (Instr.index T (ρ x) (ρ ix) >>= fun v => pure (Next.value v)) = _
  rw [hx, hi, quiet_bind, key]; rfl
/-- An array that is written out. -/
theorem q_buildA {t e : TypeId} {n s : Nat} {parts : Array (Nat × Operand)} {sz bytes : Nat} {z cells : Array Value} (ht : P.underlying t = some (.array n e)) (hs : (P.info? e).map (·.size) = some s) (hE : ElemT P t sz bytes (.agg z)) (hf : FillP (fun i => some (i * s, s)) z (parts.toList.map fun p => (p.1, ρ p.2)) cells) :
    quiet P H (execOp ρ ⟨d, .build t parts, ty, pos, af, g⟩) = some (.value (.agg cells)) := by
  obtain ⟨ti, hi, hz, _⟩ := hE
  have key : quiet P H (Instr.build t (parts.map fun (i, x) => (i, ρ x))) = some (.agg cells) := by
    unfold Instr.build
    rw [quiet_bind, q_zeroValue hi hz]
    simp only [Option.bind_some]
    rw [q_underlying ht]
    simp only
    rw [q_sizeOf hs]
    have hm : (parts.map fun (i, x) => (i, ρ x)).toList = parts.toList.map fun p => (p.1, ρ p.2) := by simp
    have hf2 : Instr.fill (fun i => some (i * s, s)) (Value.agg z).cells (parts.map fun (i, x) => (i, ρ x)).toList = some cells := by
      rw [hm]; exact hf.eq
    simp only [hf2]
    rfl
  show quiet P H (Instr.build t (parts.map fun (i, x) => (i, ρ x)) >>= fun v => pure (Next.value v)) = _
  rw [quiet_bind, key]; rfl
end
section
variable {P : Program} {H : Hp} {ρ : Operand → Value} {d : Option Nat} {ty : TypeId} {pos : String} {af : Array Edge} {g : Option (Nat × Bool)}
theorem q_buildF {t e : TypeId} {n s : Nat} {parts : Array (Nat × Operand)} {sz bytes : Nat} {z cells : Array Value} (ht : P.underlying t = some (.array n e)) (hs : (P.info? e).map (·.size) = some s) (hE : ElemT P t sz bytes (.agg z)) (hf : Instr.fill (fun i => some (i * s, s)) z (parts.toList.map fun p => (p.1, ρ p.2)) = some cells) :
    quiet P H (execOp ρ ⟨d, .build t parts, ty, pos, af, g⟩) = some (.value (.agg cells)) := by
  obtain ⟨ti, hi, hz, _⟩ := hE
  have key : quiet P H (Instr.build t (parts.map fun (i, x) => (i, ρ x))) = some (.agg cells) := by
    unfold Instr.build
    rw [quiet_bind, q_zeroValue hi hz]
    simp only [Option.bind_some]
    rw [q_underlying ht]
    simp only
    rw [q_sizeOf hs]
    have hm : (parts.map fun (i, x) => (i, ρ x)).toList = parts.toList.map fun p => (p.1, ρ p.2) := by simp
    have hf2 : Instr.fill (fun i => some (i * s, s)) (Value.agg z).cells (parts.map fun (i, x) => (i, ρ x)).toList = some cells := by
      rw [hm]; exact hf
    simp only [hf2]
    rfl
  show quiet P H (Instr.build t (parts.map fun (i, x) => (i, ρ x)) >>= fun v => pure (Next.value v)) = _
  rw [quiet_bind, key]; rfl
end
theorem fillW_at (ws : List W32) : ∀ (k : Nat) (z : Array Value), k + ws.length ≤ z.size → FillP (fun i => some (i * 1, 1)) z ((ws.zipIdx k).map fun p => (p.2, wV p.1)) (setL z k (ws.map wV)) := by
  induction ws with
  | nil => intro k z _; exact .nil
  | cons w ws ih =>
    intro k z h
    simp only [List.length_cons] at h
    refine .cons (off := k * 1) (size := 1) rfl rfl (by omega) rfl ?_
    have e : setL z (k * 1) (Value.cells (wV w)).toList = z.setIfInBounds k (wV w) := by rw [Nat.mul_one]; rfl
    show FillP _ (setL z (k * 1) (Value.cells (wV w)).toList) _ _
    rw [e]
    exact ih (k + 1) _ (by simp; omega)
theorem fillW {z : Array Value} (ws : List W32) {parts : List (Nat × Value)} (hp : parts = (ws.zipIdx 0).map fun p => (p.2, wV p.1)) (hz : z.size = ws.length) : FillP (fun i => some (i * 1, 1)) z parts (ws.map wV).toArray := by
  subst hp
  have h := fillW_at ws 0 z (by omega)
  rwa [setL_all (by simp [hz])] at h
theorem fillV_at (vs : List Value) : ∀ (k : Nat) (z : Array Value), k + vs.length ≤ z.size → (∀ v ∈ vs, v.cells = #[v]) → FillP (fun i => some (i * 1, 1)) z ((vs.zipIdx k).map fun p => (p.2, p.1)) (setL z k vs) := by
  induction vs with
  | nil => intro k z _ _; exact .nil
  | cons w ws ih =>
    intro k z h h1
    simp only [List.length_cons] at h
    have hw := h1 w List.mem_cons_self
    refine .cons (off := k * 1) (size := 1) rfl (by rw [hw]; rfl) (by omega) rfl ?_
    have e : setL z (k * 1) (Value.cells w).toList = z.setIfInBounds k w := by rw [Nat.mul_one, hw]; rfl
    show FillP _ (setL z (k * 1) (Value.cells w).toList) _ _
    rw [e]
    exact ih (k + 1) _ (by simp; omega) fun v hv => h1 v (List.mem_cons_of_mem _ hv)
theorem fillV {z : Array Value} (vs : List Value) {parts : List (Nat × Value)} (hp : parts = (vs.zipIdx 0).map fun p => (p.2, p.1)) (h1 : ∀ v ∈ vs, v.cells = #[v]) (hz : z.size = vs.length) : FillP (fun i => some (i * 1, 1)) z parts vs.toArray := by
  subst hp
  have h := fillV_at vs 0 z (by omega) h1
  rwa [setL_all (by simp [hz])] at h
theorem setL_mid {A B B' C : List Value} (h : B'.length = B.length) : setL (A ++ (B ++ C)).toArray A.length B' = (A ++ (B' ++ C)).toArray := by
  apply Array.ext'
  rw [setL_toList (by simp; omega)]
  simp only
  have e1 : (A ++ (B ++ C)).take A.length = A := List.take_left
  have e2 : (A ++ (B ++ C)).drop (A.length + B'.length) = C := by
    rw [h, ← List.append_assoc, ← List.length_append, List.drop_left]
  rw [e1, e2]; simp
theorem wAll (l : List W32) : ∀ u ∈ (l.map wV).toArray.toList, u.oneCell' = true := by
  intro u hu
  obtain ⟨x, _, rfl⟩ := List.mem_map.1 (by simpa using hu)
  rfl
end Go.Proofs.YtedkoebbijpnfaaGreatDoor.TH

/- Comparing structs. -/
namespace Go.Proofs.YtedkoebbijpnfaaGreatDoor.TH
open Go Go.Op
section
variable {P : Program} {H : Hp} {ρ : Operand → Value} {d : Option Nat} {ty : TypeId} {pos : String} {af : Array Edge} {g : Option (Nat × Bool)}
theorem q_forAllG {α β : Type} (f : α → β → Sem (ForInStep β)) (s0 s1 : β) (p : α → Bool) : ∀ l : List α, (∀ i ∈ l, quiet P H (f i s0) = some (if p i then .yield s0 else .done s1)) → quiet P H (forIn l s0 f) = some (if l.all p then s0 else s1) := by
  intro l
  induction l with
  | nil => intro _; rfl
  | cons a l ih =>
    intro h
    rw [List.forIn_cons, quiet_bind, h a List.mem_cons_self]
    simp only [Option.bind_some, List.all_cons]
    by_cases hp : p a = true
    · simp only [hp, if_true, Bool.true_and]
      exact ih fun i hi => h i (List.mem_cons_of_mem _ hi)
    · simp only [hp, Bool.false_eq_true, if_false, Bool.false_and]; rfl
/-- A part of an aggregate. -/
theorem q_partA {T : TypeId} {cs : Array Value} {off n : Nat} (hT : aggr P T n = true) : quiet P H (part T cs off) = some (.agg (cs.extract off (off + n))) := by
  unfold part
  rw [q_isAggT hT]
  simp only [if_true]
  rw [q_sizeOf (aggr_size hT)]; rfl
/-- Two structs: by their fields. -/
theorem q_equalStr {T : TypeId} {fs : Array Field} {D : Nat} {xs ys : Array Value} (hT : P.underlying T = some (.struct fs)) (hh : P.stoodInHeld T = false) (hn : (fs.toList.all fun f => decide (f.name ≠ "_")) = true) (p : Field → Bool)
    (hf : ∀ f ∈ fs.toList, ∃ u w, quiet P H (part f.type xs f.offset) = some u ∧ quiet P H (part f.type ys f.offset) = some w ∧ quiet P H (Op.equalIn D f.type u w) = some (p f)) :
    quiet P H (Op.equalIn (D + 1) T (.agg xs) (.agg ys)) = some (fs.toList.all p) := by
  unfold Op.equalIn
  rw [q_underlying hT]
  simp only []
  show quiet P H (if P.stoodInHeld T = true then _ else _) = _
  rw [hh]
  simp only [Bool.false_eq_true, if_false]
  rw [← Array.forIn_toList, quiet_bind]
  rw [q_forAllG (s0 := ((none, ()) : Option Bool × Unit)) (s1 := ((some false, ()) : Option Bool × Unit)) (p := p)]
  · simp only [Option.bind_some]
    by_cases h : fs.toList.all p = true
    · simp only [h, if_true]; rfl
    · simp only [h]; rfl
  · intro f hm
    obtain ⟨u, w, h1, h2, h3⟩ := hf f hm
    have hne : f.name ≠ "_" := by simpa using List.all_eq_true.1 hn f hm
    simp only [hne, ne_eq, not_false_eq_true, if_true]
    rw [quiet_bind, h1]
    simp only [Option.bind_some]
    rw [quiet_bind, h2]
    simp only [Option.bind_some]
    rw [quiet_bind, h3]
    simp only [Option.bind_some]
    by_cases h : p f = true
    · simp [h]; rfl
    · simp [h]; rfl
theorem q_neqOf {T T2 : TypeId} {x y : Operand} {a b : Array Value} {r : Bool} (hg : P.eqGuardType P.depth T = false) (hx : ρ x = .agg a) (hy : ρ y = .agg b) (he : quiet P H (Op.equalIn 10000 T (.agg a) (.agg b)) = some r) :
    quiet P H (execOp ρ ⟨d, .binOp .neq T x y T2, ty, pos, af, g⟩) = some (.value (.bool (!r))) := by
  simp only [execOp, hx, hy]
  have hgd : quiet P H (eqGuard .neq T x y (.agg a) (.agg b)) = some () := by
    unfold eqGuard
    show quiet P H (if (!P.eqGuardType P.depth T) = true then pure () else _) = _
    rw [hg]; rfl
  have hb : quiet P H (do eqGuard .neq T x y (.agg a) (.agg b); binOp .neq T (.agg a) (.agg b)) = some (.bool (!r)) := by
    rw [quiet_bind, hgd]
    simp only [Option.bind_some]
    show quiet P H (Op.equal T _ _ >>= fun b => pure (Value.bool (!b))) = _
    rw [quiet_bind]
    show (quiet P H (Op.equalIn 10000 T _ _)).bind _ = _
    rw [he]; rfl
  rw [quiet_bind, hb]; rfl
theorem q_eqlOf {T T2 : TypeId} {x y : Operand} {a b : Array Value} {r : Bool} (hg : P.eqGuardType P.depth T = false) (hx : ρ x = .agg a) (hy : ρ y = .agg b) (he : quiet P H (Op.equalIn 10000 T (.agg a) (.agg b)) = some r) :
    quiet P H (execOp ρ ⟨d, .binOp .eql T x y T2, ty, pos, af, g⟩) = some (.value (.bool r)) := by
  simp only [execOp, hx, hy]
  have hgd : quiet P H (eqGuard .eql T x y (.agg a) (.agg b)) = some () := by
    unfold eqGuard
    show quiet P H (if (!P.eqGuardType P.depth T) = true then pure () else _) = _
    rw [hg]; rfl
  have hb : quiet P H (do eqGuard .eql T x y (.agg a) (.agg b); binOp .eql T (.agg a) (.agg b)) = some (.bool r) := by
    rw [quiet_bind, hgd]
    simp only [Option.bind_some]
    show quiet P H (Op.equal T _ _ >>= fun b => pure (Value.bool b)) = _
    rw [quiet_bind]
    show (quiet P H (Op.equalIn 10000 T _ _)).bind _ = _
    rw [he]; rfl
  rw [quiet_bind, hb]; rfl
end
end Go.Proofs.YtedkoebbijpnfaaGreatDoor.TH
