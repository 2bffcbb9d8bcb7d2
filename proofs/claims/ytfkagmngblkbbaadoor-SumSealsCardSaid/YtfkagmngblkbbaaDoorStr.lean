/-
  BYTES AS STRINGS, and when bytes are sealed: just if their sum is 0. No statement of its own.
-/
import Derived.Test.YtfkagmngblkbbaaDoorSealc
import Derived.Laws.BytesArg
namespace Go.Proofs.YtfkagmngblkbbaaDoor
open Go.RowKit Crc
def strN (xs : List Nat) : ByteArray := strOfNums (xs.map fun x : Nat => (x : Int))
theorem run_string {w : World} {A : Option Addr} {n c : Nat} {xs : List Nat} (h : Reads w A n xs) : (convert 22 9 (.slice A n c)).run Tryd.prog w = .ok (.string (strN xs)) w := by
  have hn := h.1
  rcases A with _ | ad
  · have h0 : n = 0 := by
      rcases Nat.eq_zero_or_pos n with h0 | h0
      · exact h0
      · obtain ⟨b, off, e, _⟩ := h.2.2.2 h0
        cases e
    subst h0
    obtain rfl : xs = [] := List.eq_nil_of_length_eq_zero hn
    exact run_convert_bytes_nil w 22 5 Tryd.underlying22 Tryd.underlying5 0 c 9 Tryd.underlying9
  · have hl : (loadCells ad n).run Tryd.prog w = .ok ((xs.map fun x : Nat => (x : Int)).map (Value.int .u8)).toArray w := by
      have := run_loadCells_list (P := Tryd.prog) w ad ((xs.map fun x : Nat => (x : Int)).map (Value.int .u8)) (fun j v hj => by
        have hjl : j < xs.length := by
          rcases Nat.lt_or_ge j xs.length with h' | h'
          · exact h'
          · rw [List.getElem?_eq_none (by rw [List.length_map, List.length_map]; exact h')] at hj
            cases hj
        obtain ⟨b, off, e, hc⟩ := h.2.2.2 (by omega)
        injection e with e
        subst e
        have ha : (⟨b, off, none⟩ : Addr).add j = ⟨b, off + j, none⟩ := by unfold Addr.add; split <;> simp_all
        rw [ha, hc j (by omega)]
        simp [hjl] at hj
        rw [← hj]
        simp [hjl])
      simpa [hn] using this
    rw [run_convert_bytes_string w 22 9 5 _ n c Tryd.underlying22 Tryd.underlying5 Tryd.underlying9, run_bytesToString w ad n c _ hl, foldl_push_bytes]
    simp [strN, strOfNums, ByteArray.empty, ByteArray.emptyWithCapacity]
    rfl
theorem strN_inj (xs ys : List Nat) (hx : ∀ x ∈ xs, x < 256) (hy : ∀ x ∈ ys, x < 256) (h : (strN xs).data.toList = (strN ys).data.toList) : xs = ys := by
  rw [strN, strN, strOfNums_data, strOfNums_data, List.map_map, List.map_map] at h
  have key : ∀ zs : List Nat, (∀ x ∈ zs, x < 256) → (zs.map ((fun n : Int => UInt8.ofNat n.toNat) ∘ fun x : Nat => (x : Int))).map UInt8.toNat = zs := by
    intro zs hz
    rw [List.map_map]
    conv => rhs; rw [← List.map_id zs]
    apply List.map_congr_left
    intro x hxm
    have := hz x hxm
    simp [UInt8.toNat_ofNat']
    omega
  rw [← key xs hx, ← key ys hy, h]

theorem crc_four (r : B32) (t u : List Nat) (ht : t.length = 4) (hu : u.length = 4) (bt : ∀ x ∈ t, x < 256) (bu : ∀ x ∈ u, x < 256) (h1 : crc r t = 0#32) (h2 : crc r u = 0#32) : t = u := by
  have e := crc_xor t u r r (by omega)
  rw [h1, h2, BitVec.xor_self, BitVec.xor_self] at e
  have hb := burst_ne 0 0 (bitsOf (zipX t u)) (by rw [bitsOf_length, zipX_length _ _ (by omega)]; omega) (by simpa [zeros, crc] using e)
  have l : (bitsOf (zipX t u)).length = 32 := by rw [bitsOf_length, zipX_length _ _ (by omega)]; omega
  rw [l] at hb
  match t, u, ht, hu with
  | [a, b, c, d], [a', b', c', d'], _, _ =>
    have z8 : ∀ x, x < 256 → bits8 x = List.replicate 8 false → x = 0 := by
      have : ∀ x : Fin 256, bits8 x.val = List.replicate 8 false → x.val = 0 := by decide +kernel
      intro x hx h
      exact this ⟨x, hx⟩ h
    have xeq : ∀ x y, x < 256 → y < 256 → x ^^^ y = 0 → x = y := by
      intro x y _ _ h
      apply Nat.eq_of_testBit_eq
      intro i
      have := congrArg (fun n => n.testBit i) h
      simpa using this
    simp only [zipX, List.zipWith_cons_cons, List.zipWith_nil_left, bitsOf, List.flatMap_cons, List.flatMap_nil, List.append_nil] at hb
    have h32 : zeros 32 = List.replicate 8 false ++ (List.replicate 8 false ++ (List.replicate 8 false ++ List.replicate 8 false)) := by decide
    rw [h32] at hb
    obtain ⟨e1, hb⟩ := List.append_inj hb (by simp [bits8_length])
    obtain ⟨e2, hb⟩ := List.append_inj hb (by simp [bits8_length])
    obtain ⟨e3, e4⟩ := List.append_inj hb (by simp [bits8_length])
    simp only [List.mem_cons, List.not_mem_nil, or_false, forall_eq_or_imp, forall_eq] at bt bu
    obtain ⟨b1, b2, b3, b4⟩ := bt
    obtain ⟨c1, c2, c3, c4⟩ := bu
    have lx : ∀ x y, x < 256 → y < 256 → x ^^^ y < 256 := fun x y hx hy => Nat.xor_lt_two_pow (n := 8) hx hy
    rw [xeq a a' b1 c1 (z8 _ (lx _ _ b1 c1) e1), xeq b b' b2 c2 (z8 _ (lx _ _ b2 c2) e2), xeq c c' b3 c3 (z8 _ (lx _ _ b3 c3) e3), xeq d d' b4 c4 (z8 _ (lx _ _ b4 c4) e4)]
/-- Four bytes behind others: the sum of all is 0 just if they are the others' own. -/
theorem sealed_iff (xs : List Nat) (hx : ∀ x ∈ xs, x < 256) (h4 : 4 ≤ xs.length) : sumOf xs = 0 ↔ xs.take (xs.length - 4) ++ be4 (sumOf (xs.take (xs.length - 4))) = xs := by
  constructor
  · intro h
    have hs : xs.take (xs.length - 4) ++ xs.drop (xs.length - 4) = xs := List.take_append_drop _ _
    have h1 : crc (crc (BitVec.allOnes 32) (xs.take (xs.length - 4))) (xs.drop (xs.length - 4)) = 0#32 := by
      rw [← crc_append, hs]
      exact BitVec.eq_of_toNat_eq h
    have h2 := crc_self (crc (BitVec.allOnes 32) (xs.take (xs.length - 4)))
    have e := crc_four _ _ _ (by simp; omega) rfl (fun x hm => hx x (List.mem_of_mem_drop hm)) (be4_lt _) h1 h2
    conv => rhs; rw [← hs, e]
    rfl
  · intro h
    rw [← h]
    exact sumOf_seal _
end Go.Proofs.YtfkagmngblkbbaaDoor
