/- What is handed in, read: slices, arrays, texts of the world that was there. -/
import Derived.Test.YtooemjldpchgfaaXRow
import Derived.Test.YtooemjldpchgfaaXAgg
import Derived.Deep.Slices
import Derived.SizedLaws
namespace Go.Proofs.Ytooemjldpchgfaa.TH
open Go Go.ChangeShapes Go.WideShapes

/-- A slice that is read alone: its first n elements stand in that piece. -/
def RdS (sz : Nat) (v : Value) (n : Nat) (xs : List Value) (H : Hp) : Prop :=
  xs.length = n * sz ∧ n ≤ 9223372036854775807 ∧
  ((n = 0 ∧ ∃ a c, v = .slice a 0 c) ∨
   ∃ b off cap c e fr, v = .slice (some ⟨b, off, none⟩) n cap ∧ H b = some (.cells c e fr) ∧ off + n * sz ≤ c.size ∧ (c.toList.drop off).take (n * sz) = xs)

theorem OwnS.rd {T sz : Nat} {v : Value} {n : Nat} {xs : List Value} {H : Hp} (h : OwnS T sz v n xs H) : RdS sz v n xs H := by
  refine ⟨h.1, h.max, ?_⟩
  rcases h.2 with ⟨rfl, rfl⟩ | ⟨b, off, cap, c, fr, rfl, hb, _, hnc, _, hcs, ht⟩
  · exact .inl ⟨rfl, _, _, rfl⟩
  · have : n * sz ≤ cap * sz := Nat.mul_le_mul_right sz hnc
    exact .inr ⟨b, off, cap, c, T, fr, rfl, hb, by omega, ht⟩
theorem RdS.max {sz : Nat} {v : Value} {n : Nat} {xs : List Value} {H : Hp} (h : RdS sz v n xs H) : n ≤ 9223372036854775807 := h.2.1
/-- An element. -/
theorem RdS.getA {α : Type} {f : α → List Value} {k : Nat} {v : Value} {xs : List α} {H : Hp} (h : RdS k v xs.length (xs.flatMap f) H) (hk : ∀ x ∈ xs, (f x).length = k) {i : Nat} {x : α} (hx : xs[i]? = some x) :
    ∃ b off cap c e fr, v = .slice (some ⟨b, off, none⟩) xs.length cap ∧ H b = some (.cells c e fr) ∧ off + i * k + k ≤ c.size ∧ c.extract (off + i * k) (off + i * k + k) = (f x).toArray := by
  obtain ⟨hi, _⟩ := List.getElem?_eq_some_iff.1 hx
  obtain ⟨h1, _, h2⟩ := h
  rcases h2 with ⟨h0, _⟩ | ⟨b, off, cap, c, e, fr, rfl, hb, hcs, ht⟩
  · omega
  · have h3 : (i + 1) * k ≤ xs.length * k := Nat.mul_le_mul_right k (by omega)
    rw [Nat.add_mul, Nat.one_mul] at h3
    refine ⟨b, off, cap, c, e, fr, rfl, hb, by omega, extract_of ?_⟩
    have := flat_get hk hx
    rw [← ht, List.drop_take, List.drop_drop, List.take_take] at this
    rw [← this]
    congr 1
    omega

theorem cells_list {W : World} {base b off k : Nat} {cs : List Value} {c : Array Value} {e : TypeId} {fr : Nat × Nat} (hb : W.heap[b]? = some (.cells c e fr)) (h : W.cells? base ⟨b, off, none⟩ k = some cs) : (c.toList.drop off).take k = cs ∧ (0 < k → off + k ≤ c.size) := by
  obtain ⟨_, hl, hc⟩ := World.cells?_some h
  have hget : ∀ i, i < k → c[off + i]? = cs[i]? := fun i hi => by
    rw [← hc i hi]
    have e1 : ((⟨b, off, none⟩ : Addr).add i) = ⟨b, off + i, none⟩ := add_cell
    rw [e1]
    simp [World.cell?, hb]
  refine ⟨?_, fun hk => ?_⟩
  · apply List.ext_getElem?
    intro i
    by_cases hi : i < k
    · rw [List.getElem?_take_of_lt hi, List.getElem?_drop, Array.getElem?_toList, hget i hi]
    · rw [List.getElem?_eq_none (by simp; omega), List.getElem?_eq_none (by omega)]
  · have h1 := hget (k - 1) (by omega)
    rw [List.getElem?_eq_getElem (by omega)] at h1
    have := (Array.getElem?_eq_some_iff.1 h1).1
    omega

section
variable {H : Type} {enc : TypeId × Value → H} {P : Program} {W : World} {base : Nat} {sp : Nat → Bool} {hd : Bool}

/-- A slice of elements that are known each. -/
theorem rd_slice {α : Type} {t e k : Nat} (f : α → List Value) (R : α → DataW H → Prop) (ht : P.underlying t = some (.slice e)) (hk : P.cellsOf e = k) (hk0 : 0 < k)
    (dec : ∀ n cs y, DataW.trod enc P W base sp hd n e cs = some y → ∃ x : α, cs = f x ∧ R x y.1) {v : Value} {d : DataW H} {ps : List MemPlace} (hv : ∃ a n c, v = .slice a n c) (h : DataW.Trod enc P W base sp hd t v d ps) :
    ∃ la lc, ∃ l : List α, ∃ ds : List (DataW H), v = .slice la l.length lc ∧ RdS k v l.length (l.flatMap f) (whole W) ∧ l.length = ds.length ∧ (∀ (i : Nat) (x : α) (d' : DataW H), l[i]? = some x → ds[i]? = some d' → R x d') ∧ ((d = .nil ∧ ds = []) ∨ ∃ s, d = .slice ds s) := by
  obtain ⟨va, vn, vc, rfl⟩ := hv
  obtain ⟨fuel, hf⟩ := h
  rcases Go.Deep.open_slice ht hf with ⟨hcs, hx⟩ | ⟨a, len, cap, m, n, D, Pl, hcs, _, hl, hm, hmm, hx, hel⟩
  · have e1 : va = none ∧ vn = 0 ∧ vc = 0 := by simpa [Value.cells] using hcs
    obtain ⟨rfl, rfl, rfl⟩ := e1
    exact ⟨none, 0, [], [], rfl, ⟨by simp, by simp, .inl ⟨rfl, _, _, rfl⟩⟩, rfl, fun i x d' h => by simp at h, .inl ⟨by rw [Prod.ext_iff] at hx; exact hx.1, rfl⟩⟩
  · have e1 : va = some a ∧ vn = len ∧ vc = cap := by simpa [Value.cells] using hcs
    obtain ⟨rfl, rfl, rfl⟩ := e1
    have hlm : vn ≤ m := by rw [hmm]; split <;> omega
    have hmx : vn ≤ 9223372036854775807 := by unfold maxLen at hm; omega
    have hd1 : d = .slice ((List.range vn).map D) ((List.range (m - vn)).map fun j => D (vn + j)) := by rw [Prod.ext_iff] at hx; exact hx.1
    rw [hk] at hel
    by_cases hn0 : vn = 0
    · subst hn0
      exact ⟨some a, vc, [], [], rfl, ⟨by simp, by simp, .inl ⟨rfl, _, _, rfl⟩⟩, rfl, fun i x d' h => by simp at h, .inr ⟨_, by rw [hd1]; rfl⟩⟩
    · -- the block
      obtain ⟨c0, hc0, _⟩ := hel 0 (by omega)
      obtain ⟨_, hl0, hcell⟩ := World.cells?_some hc0
      have h00 := hcell 0 hk0
      rw [List.getElem?_eq_getElem (by omega)] at h00
      have ea : ((a.add (0 * k)).add 0) = a := by simp [Addr.add]
      rw [ea] at h00
      obtain ⟨b, off, spot⟩ := a
      have hblk : ∃ c e' fr, W.heap[b]? = some (.cells c e' fr) ∧ spot = none := by
        unfold World.cell? at h00
        split at h00
        · rename_i c e' fr hb
          refine ⟨c, e', fr, hb, ?_⟩
          cases spot with
          | none => rfl
          | some s => simp at h00
        · cases h00
      obtain ⟨c, e', fr, hb, rfl⟩ := hblk
      have key : ∀ m', m' ≤ vn → ∃ l : List α, l.length = m' ∧ (c.toList.drop off).take (m' * k) = l.flatMap f ∧ off + m' * k ≤ c.size + (if m' = 0 then off else 0) ∧ ∀ (i : Nat) (x : α), l[i]? = some x → R x (D i) := by
        intro m'
        induction m' with
        | zero => intro _; exact ⟨[], rfl, by simp, by simp, fun i x h => by simp at h⟩
        | succ m' ih =>
          intro hm'
          obtain ⟨l, h1, h2, h3, h4⟩ := ih (by omega)
          obtain ⟨cs, hcs', hdec⟩ := hel m' (by omega)
          have ead : ((⟨b, off, none⟩ : Addr).add (m' * k)) = ⟨b, off + m' * k, none⟩ := add_cell
          rw [ead] at hcs'
          obtain ⟨g1, g2⟩ := cells_list hb hcs'
          obtain ⟨x, rfl, hR⟩ := dec _ _ _ hdec
          refine ⟨l ++ [x], by simp [h1], ?_, ?_, ?_⟩
          · rw [Nat.add_mul, Nat.one_mul, List.take_add, h2, List.drop_drop, g1]; simp
          · have := g2 hk0
            rw [Nat.add_mul, Nat.one_mul]; simp; omega
          · intro i y hy
            rcases Nat.lt_or_ge i l.length with hi | hi
            · rw [List.getElem?_append_left hi] at hy; exact h4 i y hy
            · rw [List.getElem?_append_right hi] at hy
              have : i = m' := by
                rcases Nat.eq_zero_or_pos (i - l.length) with h0 | h0
                · omega
                · rw [List.getElem?_eq_none (by simp; omega)] at hy; cases hy
              subst this
              rw [h1, Nat.sub_self] at hy
              simp at hy; subst hy; exact hR
      obtain ⟨l, h1, h2, h3, h4⟩ := key vn (Nat.le_refl _)
      rw [if_neg hn0] at h3
      refine ⟨some ⟨b, off, none⟩, vc, l, (List.range vn).map D, by rw [h1], ⟨?_, by omega, .inr ⟨b, off, vc, c, e', fr, by rw [h1], hb, by rw [h1]; omega, by rw [h1]; exact h2⟩⟩, by simp [h1], fun i x d' hx hd' => ?_, .inr ⟨_, hd1⟩⟩
      · rw [← h2, List.length_take, List.length_drop, h1]
        simp; omega
      · have hi : i < vn := by have := (List.getElem?_eq_some_iff.1 hx).1; omega
        simp only [List.getElem?_map, List.getElem?_range hi, Option.map_some, Option.some.injEq] at hd'
        subst hd'
        exact h4 i x hx

/-- An array of bytes. -/
theorem rd_bytes {t e n fuel : Nat} {cs : List Value} {y : DataW H × List MemPlace} (ht : P.underlying t = some (.array n e)) (he : P.underlying e = some (.int .u8)) (hc : P.cellsOf e = 1) (hct : P.cellsOf t = n) (h : DataW.trod enc P W base sp hd fuel t cs = some y) :
    ∃ l : List UInt8, cs = l.map bV ∧ l.length = n := by
  obtain ⟨xs, m, _, _, hl, hx, hel⟩ := DataW.trod_array ht h
  rw [hct] at hl
  refine ⟨cs.map fun v => match v with | .int _ n => UInt8.ofNat n.toNat | _ => 0, ?_, by simp [hl]⟩
  rw [List.map_map]
  conv => lhs; rw [← List.map_id cs]
  apply List.map_congr_left
  intro v hv
  obtain ⟨i, hi, rfl⟩ := List.getElem_of_mem hv
  have h1 := hel i (by omega)
  rw [hc, Nat.mul_one, List.getElem?_eq_getElem (by omega)] at h1
  have h2 : (cs.drop i).take 1 = [cs[i]] := by rw [List.take_one]; simp
  rw [h2] at h1
  obtain ⟨z, hz, _, hw⟩ := DataW.trod_int he h1
  have hz' : cs[i] = .int .u8 z := by simpa using hz
  rw [hz']
  have hb : 0 ≤ z ∧ z ≤ 255 := by simpa [Lit.wf, IntKind.min, IntKind.max, IntKind.signed, IntKind.bits] using hw
  show Value.int .u8 z = bV (UInt8.ofNat z.toNat)
  unfold bV
  congr 1
  rw [UInt8.toNat_ofNat', Nat.mod_eq_of_lt (by omega)]
  omega
end
end Go.Proofs.Ytooemjldpchgfaa.TH
