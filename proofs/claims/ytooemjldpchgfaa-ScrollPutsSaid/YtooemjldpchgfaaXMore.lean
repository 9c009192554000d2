/- Texts out of bytes, copies. -/
import Derived.Test.YtooemjldpchgfaaXSlice
namespace Go.Proofs.Ytooemjldpchgfaa.TH
open Go

theorem OwnS.sl {T sz : Nat} {v : Value} {n : Nat} {xs : List Value} {H : Hp} (h : OwnS T sz v n xs H) : ∃ a c, v = .slice a n c := by
  rcases h.2 with ⟨rfl, rfl⟩ | ⟨b, off, cap, c, fr, rfl, _⟩
  · exact ⟨_, _, rfl⟩
  · exact ⟨_, _, rfl⟩

theorem OwnS.max {T sz : Nat} {v : Value} {n : Nat} {xs : List Value} {H : Hp} (h : OwnS T sz v n xs H) : n ≤ 9223372036854775807 := by
  rcases h.2 with ⟨_, rfl⟩ | ⟨b, off, cap, c, fr, _, _, _, h1, h2, _⟩
  · omega
  · unfold maxLen at h2; omega

section
variable {P : Program} {H : Hp} {ρ : Operand → Value} {d : Option Nat} {ty : TypeId} {pos : String} {af : Array Edge} {g : Option (Nat × Bool)}

theorem q_cells {b off n : Nat} {c : Array Value} {e : TypeId} {fr : Nat × Nat} (hb : H b = some (.cells c e fr)) (h : off + n ≤ c.size) : quiet P H (loadCells ⟨b, off, none⟩ n) = some ((c.toList.drop off).take n).toArray := by
  unfold loadCells
  rw [q_loadCells hb off n 0 #[] (by omega)]
  congr 1
  apply Array.ext'
  simp only [Nat.add_zero, Array.toList_append, Array.toList_extract, List.nil_append]
  rw [List.extract_eq_take_drop]
  congr 1
  omega

/-- The first k elements of a slice that owns its cells. -/
theorem OwnS.first {T sz : Nat} {v : Value} {n : Nat} {xs : List Value} {Hj : Hp} (h : OwnS T sz v n xs Hj) (hs : ∀ b o, Hj b = some o → H b = some o) {k : Nat} (hk : k ≤ n) : quiet P H (Builtin.firstCells sz k v) = some (xs.take (k * sz)).toArray := by
  obtain ⟨h1, h2⟩ := h
  rcases h2 with ⟨rfl, rfl⟩ | ⟨b, off, cap, c, fr, rfl, hb, _, hnc, _, hcs, ht⟩
  · have : k = 0 := by omega
    subst this
    have : xs = [] := List.eq_nil_of_length_eq_zero (by simpa using h1)
    subst this; simp; rfl
  · show quiet P H (loadCells ⟨b, off, none⟩ (k * sz)) = _
    have h3 : k * sz ≤ cap * sz := Nat.mul_le_mul_right sz (by omega)
    have h4 : k * sz ≤ n * sz := Nat.mul_le_mul_right sz hk
    rw [q_cells (hs _ _ hb) (by omega), ← ht, List.take_take]
    congr 3
    omega

theorem q_forBytes (f : Value → ByteArray → Sem (ForInStep ByteArray)) (hf : ∀ (n : Int) (r : ByteArray), quiet P H (f (.int .u8 n) r) = some (.yield (r.push (UInt8.ofNat n.toNat)))) :
    ∀ (l : List UInt8) (s : ByteArray), quiet P H (forIn (l.map bV) s f) = some ⟨s.data ++ l.toArray⟩ := by
  intro l
  induction l with
  | nil => intro s; show some s = _; simp
  | cons x l ih =>
    intro s
    simp only [List.map_cons, List.forIn_cons]
    rw [quiet_bind, hf]
    simp only [Option.bind_some]
    rw [ih]
    congr 1
    apply ByteArray.ext
    simp

theorem q_bytesToString {v : Value} {T n : Nat} {l : List UInt8} {Hj : Hp} (h : OwnS T 1 v n (l.map bV) Hj) (hs : ∀ b o, Hj b = some o → H b = some o) : quiet P H (Conv.bytesToString v) = some (str l) := by
  rcases hh : h.2 with ⟨rfl, rfl⟩ | ⟨b, off, cap, c, fr, rfl, hb, _, hnc, _, hcs, ht⟩
  · have : l = [] := List.eq_nil_of_length_eq_zero (by simpa using h.1)
    subst this; rfl
  · unfold Conv.bytesToString
    have hq : quiet P H (loadCells ⟨b, off, none⟩ n) = some (l.map bV).toArray := by
      rw [q_cells (hs _ _ hb) (by omega)]
      rw [Nat.mul_one] at ht
      rw [ht]
    show quiet P H (loadCells ⟨b, off, none⟩ n >>= _) = _
    rw [quiet_bind, hq]
    simp only [Option.bind_some, List.forIn_toArray]
    rw [quiet_bind, q_forBytes _ (by intro n r; rfl)]
    simp only [Option.bind_some]
    show some (Value.string _) = _
    congr 2
    apply ByteArray.ext
    simp

theorem q_bts {S D e : TypeId} {x : Operand} {v : Value} {T n : Nat} {l : List UInt8} {Hj : Hp} (hS : P.underlying S = some (.slice e)) (he : P.underlying e = some (.int .u8)) (hD : P.underlying D = some .string) (hx : ρ x = v) (h : OwnS T 1 v n (l.map bV) Hj) (hs : ∀ b o, Hj b = some o → H b = some o) :
    quiet P H (execOp ρ ⟨d, .convert S D x, ty, pos, af, g⟩) = some (.value (str l)) := by
  obtain ⟨a, c, rfl⟩ := h.sl
  have key : quiet P H (convert S D (.slice a n c)) = some (str l) := by
    unfold convert
    rw [q_underlying hS, q_underlying hD]
    show quiet P H (underlying e >>= _) = _
    rw [q_underlying he]
    exact q_bytesToString h hs
  show quiet P H (convert S D (ρ x) >>= fun v => pure (Next.value v)) = _
  rw [hx, quiet_bind, key]; rfl

/-- Cells that are copied. -/
def CSrc (P : Program) (H : Hp) (sz : Nat) (x : Value) (m k : Nat) (news : List Value) : Prop :=
  quiet P H (Builtin.lenOf x) = some m ∧ quiet P H (Builtin.firstCells sz k x) = some news.toArray ∧ ∀ u ∈ news, u.oneCell' = true

theorem CSrc.str {a : List UInt8} {k : Nat} : CSrc P H 1 (str a) a.length k ((a.take k).map bV) := by
  refine ⟨?_, ?_, ?_⟩
  · show some (ByteArray.mk a.toArray).size = _; rw [len_str]
  · show some (((ByteArray.mk a.toArray).extract 0 k).data.map fun b => Value.int .u8 b.toNat) = _
    congr 1
    apply Array.ext'
    rw [extract_str]
    simp
  · intro u hu; obtain ⟨x, _, rfl⟩ := List.mem_map.1 hu; rfl
theorem CSrc.own {T sz : Nat} {v : Value} {n k : Nat} {xs : List Value} {Hj : Hp} (h : OwnS T sz v n xs Hj) (hs : ∀ b o, Hj b = some o → H b = some o) (hk : k ≤ n) (h1 : ∀ u ∈ xs, u.oneCell' = true) : CSrc P H sz v n k (xs.take (k * sz)) := by
  refine ⟨?_, h.first hs hk, fun u hu => h1 u (List.mem_of_mem_take hu)⟩
  obtain ⟨a, c, rfl⟩ := h.sl
  rfl

theorem join_sub {Hs : List Hp} (hd : Disj Hs) {j : Nat} {Hj : Hp} (hj : Hs[j]? = some Hj) : ∀ b o, Hj b = some o → join Hs b = some o := fun _ _ hb => join_get hd hj hb
end

theorem TakeP.sub {Hs Ks : List Hp} {H : Hp} [hp : TakeP Hs H Ks] (hd : Disj Hs) : ∀ b o, H b = some o → join Hs b = some o :=
  let ⟨_, hj⟩ := mem_get (A := [H]) (B := Ks) hp.ok (j := 0) rfl
  join_sub hd hj

theorem Src.own {P : Program} {H Hj : Hp} {T sz : Nat} {v : Value} {n : Nat} {xs : List Value} (h : OwnS T sz v n xs Hj) (hs : ∀ b o, Hj b = some o → H b = some o) (h1 : ∀ u ∈ xs, u.oneCell' = true) : Src P H sz v n xs := by
  refine ⟨?_, ?_, h.1, h1⟩
  · obtain ⟨a, c, rfl⟩ := h.sl; rfl
  · rw [h.first hs (Nat.le_refl _), List.take_of_length_le (by rw [h.1]; exact Nat.le_refl _)]

theorem Src.pick {P : Program} {Hs : List Hp} {b m cp sz : Nat} {c : Array Value} {e : TypeId} {fr : Nat × Nat} [h : PickS Hs b (.cells c e fr)] (hd : Disj Hs) (hl : m * sz = c.size) (h1 : (c.toList.all fun u => u.oneCell') = true) : Src P (join Hs) sz (.slice (some ⟨b, 0, none⟩) m cp) m c.toList :=
  let ⟨_, hj⟩ := h.ok
  Src.slice (join_get hd hj sg_self) (by omega) (by rw [hl]; exact List.take_of_length_le (by simp)) (fun u hu => List.all_eq_true.1 h1 u hu)

theorem OwnS.blk {T sz b n : Nat} {xs : List Value} (h : xs.length = n * sz) (hm : n ≤ maxLen) : OwnS T sz (.slice (some ⟨b, 0, none⟩) n n) n xs (sg b (.cells xs.toArray T (0, 0))) :=
  ⟨h, .inr ⟨b, 0, n, xs.toArray, (0, 0), rfl, sg_self, okF.z, Nat.le_refl _, hm, by simp [h], by simp [← h]⟩⟩
theorem OwnS.one {T b : Nat} {u : Value} : OwnS T 1 (.slice (some ⟨b, 0, none⟩) 1 1) 1 [u] (sg b (.cells #[u] T (0, 0))) := OwnS.blk (xs := [u]) rfl (by unfold maxLen; omega)

theorem OwnS.get {T sz : Nat} {v : Value} {n : Nat} {xs : List Value} {H : Hp} (h : OwnS T sz v n xs H) {i : Nat} (hi : i < n) : ∃ b off cap c fr, v = .slice (some ⟨b, off, none⟩) n cap ∧ H b = some (.cells c T fr) ∧ (c.toList.drop (off + i * sz)).take sz = (xs.drop (i * sz)).take sz ∧ off + i * sz + sz ≤ c.size := by
  obtain ⟨h1, h2⟩ := h
  rcases h2 with ⟨rfl, rfl⟩ | ⟨b, off, cap, c, fr, rfl, hb, _, hnc, _, hcs, ht⟩
  · omega
  · refine ⟨b, off, cap, c, fr, rfl, hb, ?_, ?_⟩
    · rw [← ht, List.drop_take, List.drop_drop, List.take_take]
      congr 1
      have : (i + 1) * sz ≤ n * sz := Nat.mul_le_mul_right sz hi
      rw [Nat.add_mul] at this
      omega
    · have h3 : (i + 1) * sz ≤ cap * sz := Nat.mul_le_mul_right sz (by omega)
      rw [Nat.add_mul] at h3
      omega
/-- An element of one cell. -/
theorem OwnS.get1 {T : Nat} {v : Value} {n : Nat} {xs : List Value} {H : Hp} (h : OwnS T 1 v n xs H) {i : Nat} {u : Value} (hu : xs[i]? = some u) : ∃ b off cap c fr, v = .slice (some ⟨b, off, none⟩) n cap ∧ H b = some (.cells c T fr) ∧ c[off + i]? = some u := by
  obtain ⟨hl, hx⟩ := List.getElem?_eq_some_iff.1 hu
  have hn : i < n := by have := h.1; omega
  obtain ⟨b, off, cap, c, fr, e, hb, ht, hc⟩ := h.get hn
  refine ⟨b, off, cap, c, fr, e, hb, ?_⟩
  simp only [Nat.mul_one] at ht hc
  have h1 : (c.toList.drop (off + i)).take 1 = [c[off + i]] := by
    rw [List.take_one]; simp
  have h2 : (xs.drop i).take 1 = [u] := by rw [List.take_one]; simp [hu]
  rw [h1, h2] at ht
  rw [Array.getElem?_eq_getElem (by omega)]
  simpa using ht

section
variable {P : Program} {ol : List Oper} {rest : List Stp} {K : Env → Hp → Prop} {env : Env} {Hs : List Hp} {i : Nat} {held : List Nat} {d : Option Nat} {ty : TypeId} {pos : String} {af : Array Edge} {g : Option (Nat × Bool)}

/-- The same pieces, said in another way. -/
theorem EPL.as {plan : List Stp} (Hs' : List Hp) (he : Hs = Hs') (h : EPL P ol plan K env Hs') : EPL P ol plan K env Hs := by subst he; exact h
theorem EPL.hd {plan : List Stp} {H : Hp} (A : Hp) (he : H = A) (h : EPL P ol plan K env (A :: Hs)) : EPL P ol plan K env (H :: Hs) := by subst he; exact h
/-- An empty piece more. -/
theorem EPL.pad {plan : List Stp} (h : EPL P ol plan K env (Hp.nil :: Hs)) : EPL P ol plan K env Hs := fun hd => by
  have hd' : Disj (Hp.nil :: Hs) := List.pairwise_cons.2 ⟨fun _ _ b => .inl rfl, hd⟩
  have e : join (Hp.nil :: Hs) = join Hs := by funext b; rfl
  have := h hd'
  rwa [e] at this

theorem EPL.bts {S D e : TypeId} {x : Operand} {dd : Nat} {v : Value} {T n : Nat} {l : List UInt8} {Hj : Hp} {Ks : List Hp} (ho : nth ol i = some ⟨some dd, .convert S D x, ty, pos, af, g⟩) (hw : wantE ol env ⟨some dd, .convert S D x, ty, pos, af, g⟩ = true)
    (hS : P.underlying S = some (.slice e)) (he : P.underlying e = some (.int .u8)) (hD : P.underlying D = some .string) (hx : ev env x = v) (h : OwnS T 1 v n (l.map bV) Hj) [hp : TakeP Hs Hj Ks]
    (hk : EPL P ol rest K (upd env dd (str l)) Hs) : EPL P ol (.l i :: rest) K env Hs :=
  EPL.r ho hw (fun hd => let ⟨_, hj⟩ := mem_get (A := [Hj]) (B := Ks) hp.ok (j := 0) rfl; q_bts hS he hD hx h (join_sub hd hj)) hk

/-- A text out of a block's bytes. -/
theorem EPL.btsP {S D e : TypeId} {x : Operand} {dd b m cp : Nat} {l : List UInt8} {c : Array Value} {T : TypeId} {fr : Nat × Nat} (ho : nth ol i = some ⟨some dd, .convert S D x, ty, pos, af, g⟩) (hw : wantE ol env ⟨some dd, .convert S D x, ty, pos, af, g⟩ = true)
    (hS : P.underlying S = some (.slice e)) (he : P.underlying e = some (.int .u8)) (hD : P.underlying D = some .string) (hx : ev env x = .slice (some ⟨b, 0, none⟩) m cp) [hp : PickS Hs b (.cells c T fr)] (hm : m = c.size) (hcp : m ≤ cp ∧ cp ≤ c.size) (hmx : cp ≤ maxLen) (hl : c.toList = l.map bV) (hf : okF fr c.size)
    (hk : EPL P ol rest K (upd env dd (str l)) Hs) : EPL P ol (.l i :: rest) K env Hs :=
  EPL.r ho hw (fun hd => let ⟨_, hj⟩ := hp.ok
    q_bts (T := T) (n := m) (Hj := sg b (.cells c T fr)) hS he hD hx ⟨by rw [← hl]; simp [hm], .inr ⟨b, 0, cp, c, fr, rfl, sg_self, hf, hcp.1, hmx, by omega, by rw [← hl]; subst hm; simp only [List.drop_zero, Nat.mul_one]; exact List.take_of_length_le (by simp)⟩⟩ (join_sub hd hj)) hk

/-- copy, into one block. -/
theorem EPL.cp {t t2 e E : TypeId} {x y : Operand} {sz b off dl cp m k : Nat} {c c' : Array Value} {fr : Nat × Nat} {news : List Value} {Hs' : List Hp} (ho : nth ol i = some ⟨d, .call ⟨.builtin .copy, #[x, y], #[t, t2]⟩, ty, pos, af, g⟩) (hw : wantE ol env ⟨d, .call ⟨.builtin .copy, #[x, y], #[t, t2]⟩, ty, pos, af, g⟩ = true)
    (ht : P.underlying t = some (.slice e)) (hz : (P.info? e).map (·.size) = some sz) (hx : ev env x = .slice (some ⟨b, off, none⟩) dl cp) (hsrc : Disj Hs → CSrc P (join Hs) sz (ev env y) m k news) (hk : min m dl = k)
    [hs : SetS Hs b (.cells c E fr) (.cells c' E fr) Hs'] (hok : okF fr c.size) (hl : off + news.length ≤ c.size) (hc : setL c off news = c')
    (hh : HeldL P ol held (putE env d (.int .i64 k)) Hs') (h : EPL P ol rest K (putE env d (.int .i64 k)) Hs') : EPL P ol (.x i held :: rest) K env Hs := by
  obtain ⟨j, hj, he⟩ := hs.ok
  subst he; subst hc
  refine EPL.x ho hw fun hd => ?_
  obtain ⟨s1, s2, s3⟩ := hsrc hd
  unfold EO
  show SemH P (Builtin.copy_ #[t, t2] ty (Array.map (ev env) #[x, y]) >>= fun v => pure (Next.value v)) _ _
  rw [map2, hx]
  refine (SemH_bind _ _).2 ?_
  unfold Builtin.copy_
  show SemH P (underlying t >>= _) _ _
  refine sem_underlying ht ?_
  show SemH P (Builtin.lenOf (ev env y) >>= _) _ _
  refine sem_quiet s1 ?_
  refine sem_sizeOf hz ?_
  have : Nat.min m dl = k := hk
  rw [this]
  refine sem_quiet s2 ?_
  show SemH P (storeCells ⟨b, off, none⟩ news >>= _) _ _
  refine (SemH_bind _ _).2 ?_
  refine sem_storeCellsF news 0 (join_get hd hj sg_self) hok (by simpa using hl) s3 fun H' hH' => ?_
  obtain ⟨e1, e2⟩ := join_set hd (o' := .cells (setL c off news) E fr) hj sg_self
  rw [sg_set] at e1 e2
  show ∃ Hs', _
  exact ⟨_, by rw [hH', e1]; rfl, e2, hh, h⟩

end
end Go.Proofs.Ytooemjldpchgfaa.TH
