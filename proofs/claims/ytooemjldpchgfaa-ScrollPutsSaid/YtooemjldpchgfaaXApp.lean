/- append; slices that a piece owns. -/
import Derived.Test.YtooemjldpchgfaaXEff
namespace Go.Proofs.Ytooemjldpchgfaa.TH
open Go

/-- Slice value v, of n elements of sz cells each, of type T, owns the cells xs in that piece. -/
def OwnS (T sz : Nat) (v : Value) (n : Nat) (xs : List Value) (H : Hp) : Prop :=
  xs.length = n * sz ∧
  ((v = .slice none 0 0 ∧ n = 0) ∨
   ∃ b off cap c fr, v = .slice (some ⟨b, off, none⟩) n cap ∧ H b = some (.cells c T fr) ∧ okF fr c.size ∧ n ≤ cap ∧ cap ≤ maxLen ∧ off + cap * sz ≤ c.size ∧ (c.toList.drop off).take (n * sz) = xs)

theorem OwnS.nil (T sz : Nat) (H : Hp) : OwnS T sz (.slice none 0 0) 0 [] H := ⟨by simp, .inl ⟨rfl, rfl⟩⟩

theorem join_set_new {Hs : List Hp} (hd : Disj Hs) : ∀ {j : Nat} {Hj : Hp} {b : Nat} {o : Obj}, Hs[j]? = some Hj → join Hs b = none → join (Hs.set j (Hj.set b o)) = (join Hs).set b o ∧ Disj (Hs.set j (Hj.set b o)) := by
  induction Hs with
  | nil => intro j Hj b o h; simp at h
  | cons K Hs ih =>
    intro j Hj b o h hb
    obtain ⟨h1, h2⟩ := List.pairwise_cons.1 hd
    have hall := join_none.1 hb
    have hK : K b = none := hall K List.mem_cons_self
    have hb' : join Hs b = none := join_none.2 fun L hL => hall L (List.mem_cons_of_mem _ hL)
    cases j with
    | zero =>
      simp at h; subst h
      refine ⟨?_, List.pairwise_cons.2 ⟨fun L hL k => ?_, h2⟩⟩
      · funext k
        simp only [List.set_cons_zero, join, Hp.set]
        by_cases hk : k = b <;> simp [hk]
      · simp only [Hp.set]
        split
        · rename_i hk; subst hk; exact .inr (hall L (List.mem_cons_of_mem _ hL))
        · exact h1 L hL k
    | succ j =>
      simp at h
      obtain ⟨e1, e2⟩ := ih h2 (o := o) h hb'
      refine ⟨?_, List.pairwise_cons.2 ⟨fun L hL k => ?_, e2⟩⟩
      · funext k
        simp only [List.set_cons_succ, join, Hp.set, e1]
        by_cases hk : k = b
        · subst hk; simp [hK]
        · simp [hk]
      · rcases List.mem_or_eq_of_mem_set hL with h3 | h3
        · exact h1 L h3 k
        · subst h3
          simp only [Hp.set]
          split
          · rename_i hk; subst hk; exact .inl hK
          · exact h1 Hj (List.mem_of_getElem? h) k

theorem List.set_getElem?_self' {α : Type} : ∀ {l : List α} {j : Nat} {x : α}, l[j]? = some x → l.set j x = l
  | [], _, _, h => by simp at h
  | y :: l, 0, x, h => by simp at h; simp [h]
  | y :: l, j + 1, x, h => by simp at h; simp [List.set_getElem?_self' h]

section
variable {P : Program}

theorem q_typeInfo {t : TypeId} {ti : TypeInfo} {H : Hp} (hi : P.info? t = some ti) : quiet P H (typeInfo t) = some ti := by
  show quiet P H ((Sem.program .pure).bind fun p => match p.info? t with | some i => pure i | none => stuck "no such type") = some ti
  simp only [Sem.bind, quiet, hi]; rfl
theorem q_zeroValue {t : TypeId} {ti : TypeInfo} {z : Value} {H : Hp} (hi : P.info? t = some ti) (hz : ti.zero = some z) : quiet P H (zeroValue t) = some z := by
  unfold zeroValue
  rw [quiet_bind, q_typeInfo hi]
  simp only [Option.bind_some, hz]; rfl

/-- A slice's or a text's first cells can be read. -/
def Src (P : Program) (H : Hp) (sz : Nat) (x : Value) (m : Nat) (news : List Value) : Prop :=
  quiet P H (Builtin.lenOf x) = some m ∧ quiet P H (Builtin.firstCells sz m x) = some news.toArray ∧ news.length = m * sz ∧ ∀ u ∈ news, u.oneCell' = true

theorem Src.slice {H : Hp} {sz b off m cp : Nat} {c : Array Value} {e : TypeId} {fr : Nat × Nat} (hb : H b = some (.cells c e fr)) (hl : off + m * sz ≤ c.size) {news : List Value} (hn : (c.toList.drop off).take (m * sz) = news) (h1 : ∀ u ∈ news, u.oneCell' = true) :
    Src P H sz (.slice (some ⟨b, off, none⟩) m cp) m news := by
  refine ⟨rfl, ?_, ?_, h1⟩
  · show quiet P H (loadCells ⟨b, off, none⟩ (m * sz)) = _
    unfold loadCells
    rw [q_loadCells hb off (m * sz) 0 #[] (by omega)]
    congr 1
    apply Array.ext'
    simp only [Nat.add_zero, Array.toList_append, Array.toList_extract, List.nil_append]
    rw [List.extract_eq_take_drop, ← hn]
    congr 1
    omega
  · rw [← hn]; simp; omega

theorem Src.nil {H : Hp} {sz : Nat} : Src P H sz (.slice none 0 0) 0 [] := ⟨rfl, rfl, by simp, by simp⟩

theorem Src.str {H : Hp} {a : List UInt8} : Src P H 1 (str a) a.length (a.map bV) := by
  refine ⟨?_, ?_, by simp, ?_⟩
  · show some (ByteArray.mk a.toArray).size = _; rw [len_str]
  · show some (((ByteArray.mk a.toArray).extract 0 a.length).data.map fun b => Value.int .u8 b.toNat) = _
    congr 1
    apply Array.ext'
    have : ((ByteArray.mk a.toArray).extract 0 a.length) = ByteArray.mk a.toArray := by
      apply ByteArray.ext
      simp
    rw [this]
    simp
  · intro u hu; obtain ⟨x, _, rfl⟩ := List.mem_map.1 hu; rfl


theorem sem_append {Hs : List Hp} {j : Nat} {Hj : Hp} {t t2 ty e : TypeId} {ti : TypeInfo} {z : Value} {sz bytes n m : Nat} {v x : Value} {xs news : List Value}
    (ht : P.underlying t = some (.slice e)) (ht2 : P.underlying t2 = some .string ∨ ∃ e2, P.underlying t2 = some (.slice e2)) (hi : P.info? e = some ti) (hz : ti.zero = some z) (hs : ti.size = sz) (hby : ti.bytes = bytes) (hzs : z.cells.size = sz)
    (hd : Disj Hs) (hj : Hs[j]? = some Hj) (hown : OwnS e sz v n xs Hj) (hsrc : Src P (join Hs) sz x m news) (h63 : n + m ≤ maxLen) (h47 : (n + m) * bytes ≤ 140737488355328) :
    SemH P (Builtin.append_ #[t, t2] ty #[v, x]) (join Hs) (fun v' H' => ∃ Hj', H' = join (Hs.set j Hj') ∧ Disj (Hs.set j Hj') ∧ OwnS e sz v' (n + m) (xs ++ news) Hj') := by
  obtain ⟨s1, s2, s3, s4⟩ := hsrc
  obtain ⟨o1, o2⟩ := hown
  have hlen : (xs ++ news).length = (n + m) * sz := by rw [List.length_append, o1, s3, Nat.add_mul]
  have hsize : (P.info? e).map (·.size) = some sz := by rw [hi]; simp [hs]
  have grow : ∀ (base : Option Addr) (cap : Nat), cap < n + m → v = .slice base n cap → quiet P (join Hs) (Builtin.firstCells sz n v) = some xs.toArray →
      SemH P (do
        if ((n + m : Nat) : Int) > IntKind.i64.max ∧ (false = true ∨ (← typeInfo e).bytes = 0) then runtimePanic (.error "growslice: len out of range")
        if Builtin.nextslicecap (n + m) cap * (← typeInfo e).bytes > 2 ^ 48 then (if false then runtimePanic (.error "growslice: len out of range") else do
          if !(← Builtin.mayShare sz n m base x) then mark .noRoom
          unsupported (.resourceLimit "append: a slice or a string whose bytes no memory bears"))
        let newCap ← choose (.appendCap (n + m) cap e)
        askRoom (newCap * (← typeInfo e).bytes)
        let old ← Builtin.firstCells sz n v
        let new ← Builtin.firstCells sz m x
        let rest := Builtin.zeroCells (← zeroValue e).cells (newCap - (n + m))
        pure (Value.slice (some (← newRow e (old ++ new ++ rest))) (n + m) newCap)) (join Hs) (fun v' H' => ∃ Hj', H' = join (Hs.set j Hj') ∧ Disj (Hs.set j Hj') ∧ OwnS e sz v' (n + m) (xs ++ news) Hj') := by
    intro base cap hcap hv hold
    refine sem_typeInfo hi ?_
    have hn1 : ¬ (((n + m : Nat) : Int) > IntKind.i64.max ∧ (false = true ∨ ti.bytes = 0)) := by
      intro h; have := h.1; unfold maxLen at h63
      simp [IntKind.max, IntKind.signed, IntKind.bits] at this; omega
    rw [if_neg hn1]
    refine sem_typeInfo hi ?_
    have hn2 : ¬ (Builtin.nextslicecap (n + m) cap * ti.bytes > 2 ^ 48) := by
      rw [hby]
      exact Nat.not_lt.2 (growslice_fits hcap h47)
    rw [if_neg hn2]
    refine (SemH_bind (choose _) _).2 ?_
    intro newCap hcan
    have hge : n + m ≤ newCap ∧ newCap ≤ maxLen := by
      simp only [can, Question.forced, Bool.false_eq_true, if_false] at hcan
      obtain ⟨tt, rfl⟩ := hcan
      simp only [Question.cut]
      unfold maxLen at h63 ⊢
      have hlt := Nat.mod_lt tt (show 0 < 2 ^ 63 - (n + m) by omega)
      omega
    show SemH P (typeInfo e >>= _) _ _
    refine sem_typeInfo hi ?_
    have hask : ∀ (k : Unit → Sem Value) K', SemH P (k ()) (join Hs) K' → SemH P (askRoom (newCap * ti.bytes) >>= k) (join Hs) K' := by
      intro k K' hk
      unfold askRoom
      split <;> exact hk
    refine hask _ _ ?_
    refine sem_quiet hold ?_
    refine sem_quiet s2 ?_
    refine sem_quiet (q_zeroValue hi hz) ?_
    intro b hb
    obtain ⟨e1, e2⟩ := join_set_new hd (o := .cells (xs.toArray ++ news.toArray ++ Builtin.zeroCells z.cells (newCap - (n + m))) e) hj hb
    refine ⟨_, e1.symm, e2, hlen, .inr ⟨b, 0, newCap, _, (0, 0), rfl, Hp.set_self, okF.z, hge.1, hge.2, ?_, ?_⟩⟩
    · have hzc : (Builtin.zeroCells z.cells (newCap - (n + m))).size = (newCap - (n + m)) * sz := by simp [Builtin.zeroCells, hzs]
      simp only [Array.size_append, List.size_toArray, hzc, o1, s3, ← Nat.add_mul]
      have : n + m + (newCap - (n + m)) = newCap := by omega
      rw [this]; omega
    · simp only [Array.toList_append, List.drop_zero]
      rw [← hlen]; exact List.take_left
  rcases ht2 with ht2 | ⟨e2, ht2⟩
  all_goals
    unfold Builtin.append_
    show SemH P (underlying t >>= _) _ _
    refine sem_underlying ht ?_
    rcases o2 with ⟨rfl, rfl⟩ | ⟨b, off, cap, c, fr, rfl, hb, hok, hnc, hcm, hcs, htake⟩
    · have hxs : xs = [] := List.eq_nil_of_length_eq_zero (by simpa using o1)
      subst hxs
      refine sem_sizeOf hsize ?_
      refine sem_underlying ht2 ?_
      refine sem_quiet (a := false) rfl ?_
      refine sem_quiet s1 ?_
      show SemH P (if 0 + m ≤ 0 then _ else _) _ _
      by_cases hm : m = 0
      · subst hm
        have hnn : news = [] := List.eq_nil_of_length_eq_zero (by simpa using s3)
        subst hnn
        rw [if_pos (by omega)]
        refine sem_quiet s2 ?_
        refine ⟨Hj, ?_, ?_, hlen, .inl ⟨rfl, rfl⟩⟩
        · congr 1; exact (List.set_getElem?_self' hj).symm
        · rw [List.set_getElem?_self' hj]; exact hd
      · rw [if_neg (by omega)]
        exact grow none 0 (by omega) rfl rfl
    · refine sem_sizeOf hsize ?_
      refine sem_underlying ht2 ?_
      refine sem_quiet (a := false) rfl ?_
      refine sem_quiet s1 ?_
      show SemH P (if n + m ≤ cap then _ else _) _ _
      by_cases hroom : n + m ≤ cap
      · rw [if_pos hroom]
        refine sem_quiet s2 ?_
        refine (SemH_bind _ _).2 ?_
        show SemH P (storeCells ((⟨b, off, none⟩ : Addr).add (n * sz)) news 0) _ _
        rw [add_cell]
        have hfit : off + n * sz + news.length ≤ c.size := by
          rw [s3, Nat.add_assoc, ← Nat.add_mul]
          exact Nat.le_trans (Nat.add_le_add_left (Nat.mul_le_mul_right sz hroom) off) hcs
        have hJ := join_get hd hj hb
        refine sem_storeCellsF news 0 hJ hok (by omega) s4 fun H' hH' => ?_
        obtain ⟨e1, e2⟩ := join_set hd (o' := .cells (setL c (off + n * sz + 0) news) e fr) hj hb
        refine ⟨_, by rw [hH', e1], e2, hlen, .inr ⟨b, off, cap, _, fr, rfl, Hp.set_self, by rw [setL_size]; exact hok, hroom, hcm, by rw [setL_size]; exact hcs, ?_⟩⟩
        rw [setL_toList (by omega), Nat.add_zero]
        have hl1 : (c.toList.take (off + n * sz)).drop off = xs := by
          rw [← htake, List.drop_take]; congr 1; omega
        have hlo : off ≤ (c.toList.take (off + n * sz)).length := by simp; omega
        rw [List.append_assoc, List.drop_append_of_le_length hlo, hl1, ← List.append_assoc, ← hlen]
        exact List.take_left
      · rw [if_neg hroom]
        refine grow (some ⟨b, off, none⟩) cap (by omega) rfl ?_
        show quiet P (join Hs) (loadCells ⟨b, off, none⟩ (n * sz)) = _
        unfold loadCells
        have : n * sz ≤ cap * sz := Nat.mul_le_mul_right sz hnc
        rw [q_loadCells (join_get hd hj hb) off (n * sz) 0 #[] (by omega)]
        congr 1
        apply Array.ext'
        simp only [Nat.add_zero, Array.toList_append, Array.toList_extract, List.nil_append]
        rw [List.extract_eq_take_drop, ← htake]
        congr 1
        omega


end
end Go.Proofs.Ytooemjldpchgfaa.TH
