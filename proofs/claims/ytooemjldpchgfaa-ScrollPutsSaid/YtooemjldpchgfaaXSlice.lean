/- Cuts of texts, slices and arrays. -/
import Derived.Test.YtooemjldpchgfaaXPick
namespace Go.Proofs.Ytooemjldpchgfaa.TH
open Go
section
variable {P : Program} {H : Hp} {ρ : Operand → Value} {d : Option Nat} {ty : TypeId} {pos : String} {af : Array Edge} {g : Option (Nat × Bool)}

theorem q_bound {α : Type} {k : IntKind} {i : Int} {y : Nat} {code : BoundsCode} (h0 : 0 ≤ i) (h1 : i ≤ y) (f : Nat → Sem α) : quiet P H (Instr.sliceBound (.int k i) y code >>= f) = quiet P H (f i.toNat) := by
  rw [quiet_bind]
  have : quiet P H (Instr.sliceBound (.int k i) y code) = some i.toNat := by
    unfold Instr.sliceBound
    show quiet P H (if 0 ≤ i ∧ i ≤ (y : Int) then pure i.toNat else boundsPanic k i y code) = _
    rw [if_pos ⟨h0, h1⟩]; rfl
  rw [this]; rfl

theorem q_bdHi {b : Bool} {len cap : Nat} {k : IntKind} {n : Int} (h0 : 0 ≤ n) (h1 : n ≤ cap) : quiet P H (Instr.sliceBounds b len cap none (some (.int k n)) none) = some (0, n.toNat, cap) := by
  show quiet P H (Instr.sliceBound (.int k n) cap (if b then .sliceAcap else .sliceAlen) >>= fun h => pure (0, h, cap)) = _
  rw [q_bound h0 h1]; rfl
theorem q_bdLo {b : Bool} {len cap : Nat} {k : IntKind} {n : Int} (h0 : 0 ≤ n) (h1 : n ≤ len) : quiet P H (Instr.sliceBounds b len cap (some (.int k n)) none none) = some (n.toNat, len, cap) := by
  show quiet P H (Instr.sliceBound (.int k n) len .sliceB >>= fun l => pure (l, len, cap)) = _
  rw [q_bound h0 h1]; rfl
theorem q_bdLH {b : Bool} {len cap : Nat} {k k2 : IntKind} {m n : Int} (h0 : 0 ≤ m) (h1 : m ≤ n) (h2 : n ≤ cap) : quiet P H (Instr.sliceBounds b len cap (some (.int k m)) (some (.int k2 n)) none) = some (m.toNat, n.toNat, cap) := by
  show quiet P H (Instr.sliceBound (.int k2 n) cap (if b then .sliceAcap else .sliceAlen) >>= fun h => Instr.sliceBound (.int k m) h .sliceB >>= fun l => pure (l, h, cap)) = _
  rw [q_bound (by omega) h2, q_bound h0 (by omega)]; rfl
theorem q_bd0 {b : Bool} {len cap : Nat} : quiet P H (Instr.sliceBounds b len cap none none none) = some (0, len, cap) := rfl

theorem extract_str {a : List UInt8} {l h : Nat} : (ByteArray.mk a.toArray).extract l h = ByteArray.mk ((a.take h).drop l).toArray := by
  apply ByteArray.ext
  apply Array.ext'
  simp [ByteArray.data_extract, List.extract_eq_take_drop, List.drop_take]

theorem q_ssHi {T : TypeId} {x hi : Operand} {a : List UInt8} {k : IntKind} {n : Int} (hT : P.underlying T = some .string) (hx : ρ x = str a) (hh : ρ hi = .int k n) (h0 : 0 ≤ n) (h1 : n ≤ a.length) :
    quiet P H (execOp ρ ⟨d, .slice T x none (some hi) none, ty, pos, af, g⟩) = some (.value (str (a.take n.toNat))) := by
  have key : quiet P H (Instr.sliceAt T (str a) none (some (.int k n)) none) = some (str (a.take n.toNat)) := by
    unfold Instr.sliceAt
    rw [q_underlying hT]
    show quiet P H (Instr.slice T (str a) none (some (.int k n)) none) = _
    unfold Instr.slice
    rw [q_underlying hT]
    show quiet P H (Instr.sliceBounds false _ _ none (some (.int k n)) none >>= _) = _
    rw [quiet_bind, q_bdHi h0 (by rw [len_str]; exact h1)]
    show some (Value.string ((ByteArray.mk a.toArray).extract 0 n.toNat)) = _
    rw [extract_str]; rfl
  show quiet P H (Instr.sliceAt T (ρ x) none (some (ρ hi)) none >>= fun v => pure (Next.value v)) = _
  rw [hx, hh, quiet_bind, key]; rfl
theorem q_ssLo {T : TypeId} {x lo : Operand} {a : List UInt8} {k : IntKind} {n : Int} (hT : P.underlying T = some .string) (hx : ρ x = str a) (hh : ρ lo = .int k n) (h0 : 0 ≤ n) (h1 : n ≤ a.length) :
    quiet P H (execOp ρ ⟨d, .slice T x (some lo) none none, ty, pos, af, g⟩) = some (.value (str (a.drop n.toNat))) := by
  have key : quiet P H (Instr.sliceAt T (str a) (some (.int k n)) none none) = some (str (a.drop n.toNat)) := by
    unfold Instr.sliceAt
    rw [q_underlying hT]
    show quiet P H (Instr.slice T (str a) (some (.int k n)) none none) = _
    unfold Instr.slice
    rw [q_underlying hT]
    show quiet P H (Instr.sliceBounds false _ _ (some (.int k n)) none none >>= _) = _
    rw [quiet_bind, q_bdLo h0 (by rw [len_str]; exact h1)]
    show some (Value.string ((ByteArray.mk a.toArray).extract n.toNat (ByteArray.mk a.toArray).size)) = _
    rw [extract_str, len_str, List.take_length]
  show quiet P H (Instr.sliceAt T (ρ x) (some (ρ lo)) none none >>= fun v => pure (Next.value v)) = _
  rw [hx, hh, quiet_bind, key]; rfl
theorem q_ssLH {T : TypeId} {x lo hi : Operand} {a : List UInt8} {k k2 : IntKind} {m n : Int} (hT : P.underlying T = some .string) (hx : ρ x = str a) (hl : ρ lo = .int k m) (hh : ρ hi = .int k2 n) (h0 : 0 ≤ m) (h1 : m ≤ n) (h2 : n ≤ a.length) :
    quiet P H (execOp ρ ⟨d, .slice T x (some lo) (some hi) none, ty, pos, af, g⟩) = some (.value (str ((a.take n.toNat).drop m.toNat))) := by
  have key : quiet P H (Instr.sliceAt T (str a) (some (.int k m)) (some (.int k2 n)) none) = some (str ((a.take n.toNat).drop m.toNat)) := by
    unfold Instr.sliceAt
    rw [q_underlying hT]
    show quiet P H (Instr.slice T (str a) (some (.int k m)) (some (.int k2 n)) none) = _
    unfold Instr.slice
    rw [q_underlying hT]
    show quiet P H (Instr.sliceBounds false _ _ (some (.int k m)) (some (.int k2 n)) none >>= _) = _
    rw [quiet_bind, q_bdLH h0 h1 (by rw [len_str]; exact h2)]
    show some (Value.string ((ByteArray.mk a.toArray).extract m.toNat n.toNat)) = _
    rw [extract_str]
  show quiet P H (Instr.sliceAt T (ρ x) (some (ρ lo)) (some (ρ hi)) none >>= fun v => pure (Next.value v)) = _
  rw [hx, hl, hh, quiet_bind, key]; rfl

/-- Where a cut begins. -/
def cutOff (c l off s : Nat) : Nat := if c = l then off else off + l * s

theorem q_slHi {T E : TypeId} {x hi : Operand} {a : Option Addr} {m c s : Nat} {k : IntKind} {n : Int} (hT : P.underlying T = some (.slice E)) (hs : (P.info? E).map (·.size) = some s) (hx : ρ x = .slice a m c) (hh : ρ hi = .int k n) (h0 : 0 ≤ n) (h1 : n ≤ c) :
    quiet P H (execOp ρ ⟨d, .slice T x none (some hi) none, ty, pos, af, g⟩) = some (.value (.slice a n.toNat c)) := by
  have key : quiet P H (Instr.sliceAt T (.slice a m c) none (some (.int k n)) none) = some (.slice a n.toNat c) := by
    unfold Instr.sliceAt
    rw [q_underlying hT]
    show quiet P H (Instr.slice T (.slice a m c) none (some (.int k n)) none) = _
    unfold Instr.slice
    rw [q_underlying hT]
    show quiet P H (Instr.sliceBounds true _ _ none (some (.int k n)) none >>= _) = _
    rw [quiet_bind, q_bdHi h0 h1]
    show quiet P H (sizeOf E >>= _) = _
    rw [q_sizeOf hs]
    show some (Value.slice (if c = 0 then a else a.map (·.add (0 * s))) (n.toNat - 0) (c - 0)) = _
    have : (if c = 0 then a else a.map (·.add (0 * s))) = a := by
      split
      · rfl
      · cases a <;> simp [Addr.add]
    rw [this]; rfl
  show quiet P H (Instr.sliceAt T (ρ x) none (some (ρ hi)) none >>= fun v => pure (Next.value v)) = _
  rw [hx, hh, quiet_bind, key]; rfl
theorem q_slLo {T E : TypeId} {x lo : Operand} {b off m c s : Nat} {k : IntKind} {n : Int} (hT : P.underlying T = some (.slice E)) (hs : (P.info? E).map (·.size) = some s) (hx : ρ x = .slice (some ⟨b, off, none⟩) m c) (hh : ρ lo = .int k n) (h0 : 0 ≤ n) (h1 : n ≤ m) :
    quiet P H (execOp ρ ⟨d, .slice T x (some lo) none none, ty, pos, af, g⟩) = some (.value (.slice (some ⟨b, cutOff c n.toNat off s, none⟩) (m - n.toNat) (c - n.toNat))) := by
  have key : quiet P H (Instr.sliceAt T (.slice (some ⟨b, off, none⟩) m c) (some (.int k n)) none none) = some (.slice (some ⟨b, cutOff c n.toNat off s, none⟩) (m - n.toNat) (c - n.toNat)) := by
    unfold Instr.sliceAt
    rw [q_underlying hT]
    show quiet P H (Instr.slice T _ (some (.int k n)) none none) = _
    unfold Instr.slice
    rw [q_underlying hT]
    show quiet P H (Instr.sliceBounds true _ _ (some (.int k n)) none none >>= _) = _
    rw [quiet_bind, q_bdLo h0 h1]
    show quiet P H (sizeOf E >>= _) = _
    rw [q_sizeOf hs]
    show some (Value.slice (if c = n.toNat then some ⟨b, off, none⟩ else (some (⟨b, off, none⟩ : Addr)).map (·.add (n.toNat * s))) (m - n.toNat) (c - n.toNat)) = _
    congr 2
    unfold cutOff
    split
    · rfl
    · simp [add_cell]
  show quiet P H (Instr.sliceAt T (ρ x) (some (ρ lo)) none none >>= fun v => pure (Next.value v)) = _
  rw [hx, hh, quiet_bind, key]; rfl
theorem q_slLH {T E : TypeId} {x lo hi : Operand} {b off p c s : Nat} {k k2 : IntKind} {m n : Int} (hT : P.underlying T = some (.slice E)) (hs : (P.info? E).map (·.size) = some s) (hx : ρ x = .slice (some ⟨b, off, none⟩) p c) (hl : ρ lo = .int k m) (hh : ρ hi = .int k2 n) (h0 : 0 ≤ m) (h1 : m ≤ n) (h2 : n ≤ c) :
    quiet P H (execOp ρ ⟨d, .slice T x (some lo) (some hi) none, ty, pos, af, g⟩) = some (.value (.slice (some ⟨b, cutOff c m.toNat off s, none⟩) (n.toNat - m.toNat) (c - m.toNat))) := by
  have key : quiet P H (Instr.sliceAt T (.slice (some ⟨b, off, none⟩) p c) (some (.int k m)) (some (.int k2 n)) none) = some (.slice (some ⟨b, cutOff c m.toNat off s, none⟩) (n.toNat - m.toNat) (c - m.toNat)) := by
    unfold Instr.sliceAt
    rw [q_underlying hT]
    show quiet P H (Instr.slice T _ (some (.int k m)) (some (.int k2 n)) none) = _
    unfold Instr.slice
    rw [q_underlying hT]
    show quiet P H (Instr.sliceBounds true _ _ (some (.int k m)) (some (.int k2 n)) none >>= _) = _
    rw [quiet_bind, q_bdLH h0 h1 h2]
    show quiet P H (sizeOf E >>= _) = _
    rw [q_sizeOf hs]
    show some (Value.slice (if c = m.toNat then some ⟨b, off, none⟩ else (some (⟨b, off, none⟩ : Addr)).map (·.add (m.toNat * s))) (n.toNat - m.toNat) (c - m.toNat)) = _
    congr 2
    unfold cutOff
    split
    · rfl
    · simp [add_cell]
  show quiet P H (Instr.sliceAt T (ρ x) (some (ρ lo)) (some (ρ hi)) none >>= fun v => pure (Next.value v)) = _
  rw [hx, hl, hh, quiet_bind, key]; rfl
/-- An array, whole. -/
theorem q_slArr {T E : TypeId} {x : Operand} {b off n s : Nat} (hT : P.underlying T = some (.array n E)) (hs : (P.info? E).map (·.size) = some s) (hn : n ≠ 0) (hx : ρ x = .pointer (some ⟨b, off, none⟩)) :
    quiet P H (execOp ρ ⟨d, .slice T x none none none, ty, pos, af, g⟩) = some (.value (.slice (some ⟨b, off, none⟩) n n)) := by
  have key : quiet P H (Instr.sliceAt T (.pointer (some ⟨b, off, none⟩)) none none none) = some (.slice (some ⟨b, off, none⟩) n n) := by
    unfold Instr.sliceAt
    rw [q_underlying hT]
    show quiet P H (sizeOf E >>= _) = _
    rw [q_sizeOf hs]
    show some (Value.slice (some (if n = 0 then ⟨b, off, none⟩ else (⟨b, off, none⟩ : Addr).add (0 * s))) (n - 0) (n - 0)) = _
    rw [if_neg hn]
    simp [Addr.add]
  show quiet P H (Instr.sliceAt T (ρ x) none none none >>= fun v => pure (Next.value v)) = _
  rw [hx, quiet_bind, key]; rfl
theorem q_slArrHi {T E : TypeId} {x hi : Operand} {b off p s : Nat} {k : IntKind} {n : Int} (hT : P.underlying T = some (.array p E)) (hs : (P.info? E).map (·.size) = some s) (hp : p ≠ 0) (hx : ρ x = .pointer (some ⟨b, off, none⟩)) (hh : ρ hi = .int k n) (h0 : 0 ≤ n) (h1 : n ≤ p) :
    quiet P H (execOp ρ ⟨d, .slice T x none (some hi) none, ty, pos, af, g⟩) = some (.value (.slice (some ⟨b, off, none⟩) n.toNat p)) := by
  have key : quiet P H (Instr.sliceAt T (.pointer (some ⟨b, off, none⟩)) none (some (.int k n)) none) = some (.slice (some ⟨b, off, none⟩) n.toNat p) := by
    unfold Instr.sliceAt
    rw [q_underlying hT]
    show quiet P H (Instr.sliceBounds false _ _ none (some (.int k n)) none >>= _) = _
    rw [quiet_bind, q_bdHi h0 h1]
    show quiet P H (sizeOf E >>= _) = _
    rw [q_sizeOf hs]
    show some (Value.slice (some (if p = 0 then ⟨b, off, none⟩ else (⟨b, off, none⟩ : Addr).add (0 * s))) (n.toNat - 0) (p - 0)) = _
    rw [if_neg hp]
    simp [Addr.add]
  show quiet P H (Instr.sliceAt T (ρ x) none (some (ρ hi)) none >>= fun v => pure (Next.value v)) = _
  rw [hx, hh, quiet_bind, key]; rfl
end
end Go.Proofs.Ytooemjldpchgfaa.TH
