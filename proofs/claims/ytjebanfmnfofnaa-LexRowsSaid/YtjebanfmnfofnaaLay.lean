/-
  A lexer over a string's bytes; string(p) of what came in. No statement of its own.
-/
import Derived.Test.YtjebanfmnfofnaaAwake
import Derived.Test.YtjebanfmnfofnaaCame
import Derived.Laws.IdiomStrings
set_option linter.unusedSimpArgs false
set_option linter.unusedVariables false
namespace Go.Proofs.Ytjebanfmnfofnaa
open Go.RowKit
theorem ReadsU.below {w w' : World} {a : Option Addr} {n : Nat} {L : List Nat} (h : ReadsU w a n L) (hb : Below w.heap.size w w') : ReadsU w' a n L :=
  ⟨h.1, h.2.1, fun hp => by
    obtain ⟨b, off, e, hc⟩ := h.2.2 hp
    exact ⟨b, off, e, fun j u hu => (hb.cell (p := ⟨b, off + j, none⟩) (World.block_lt_of_cell? w _ (hc j u hu))).trans (hc j u hu)⟩⟩
theorem ReadsU.at {w : World} {a : Option Addr} {n j : Nat} {L : List Nat} (h : ReadsU w a n L) (hj : j < n) : ∃ b off x, a = some ⟨b, off, none⟩ ∧ L[j]? = some x ∧ x < 256 ∧ w.cell? ⟨b, off + j, none⟩ = some (.int .u8 (x : Nat)) := by
  obtain ⟨hl, hb, hr⟩ := h
  obtain ⟨b, off, e, hc⟩ := hr (by omega)
  have hx := List.getElem?_eq_getElem (show j < L.length by omega)
  exact ⟨b, off, _, e, hx, hb _ (List.getElem_mem _), hc j _ hx⟩
/-- string(p) of bytes that came in. -/
theorem conv_came {W : World} {a : Option Addr} {n c : Nat} {P : List Nat} (h : ReadsU W a n P) :
    ∀ dst, Try.prog.underlying dst = some .string → (convert 22 dst (.slice a n c)).run Try.prog W = .ok (.string (bstr P)) W := by
  obtain ⟨hl, hb, hr⟩ := h
  rcases Nat.eq_zero_or_pos n with h0 | hp
  · subst h0
    obtain rfl := List.eq_nil_of_length_eq_zero hl
    intro dst hd
    cases a with
    | none => exact run_convert_bytes_nil W 22 5 Try.underlying22 Try.underlying5 0 c dst hd
    | some ad =>
      rw [run_convert_bytes_string W 22 dst 5 (some ad) 0 c Try.underlying22 Try.underlying5 hd, run_bytesToString W ad 0 c [] (by
        have := run_loadCells_list (P := Try.prog) W ad [] (fun j v hj => by simp at hj)
        simpa using this)]
      rfl
  · obtain ⟨b, off, rfl, hc⟩ := hr hp
    have := conv_part (W := W) (P := P) (b := b) (off := off) (i := 0) (j := n) (c := c) (by omega) hc
    intro dst hd
    have h2 := this dst hd
    rw [Nat.add_zero, Nat.sub_zero, List.drop_zero, List.take_of_length_le (by omega)] at h2
    exact h2
/-- What []byte(s) lays over the world. -/
def laid (w : World) (s : ByteArray) : World := w.drew.alloc (.cells (bytesRow s (grownCap w s.size 0 5)) 5 ((bytesRow s (grownCap w s.size 0 5)).size, (bytesRow s (grownCap w s.size 0 5)).size + 1))
theorem conv_laid (w : World) (s : ByteArray) : (convert 9 22 (.string s)).run Try.prog w = .ok (.slice (some ⟨w.heap.size, 0, none⟩) s.size (grownCap w s.size 0 5)) (laid w s) :=
  run_bytes_of_string (P := Try.prog) w 9 22 5 s Try.underlying9 Try.underlying22 Try.underlying5
theorem laid_size (w : World) (s : ByteArray) : (laid w s).heap.size = w.heap.size + 1 := by
  show (w.drew.alloc _).heap.size = _
  rw [World.size_alloc]; rfl
theorem laid_below (w : World) (s : ByteArray) : Below w.heap.size w (laid w s) := by
  have h : Below w.heap.size w w.drew := ⟨rfl, rfl, rfl, Nat.le_refl _, fun _ _ => rfl⟩
  exact h.alloc (Nat.le_refl _) _
theorem bstr_byte {Q : List Nat} (hb : ∀ u ∈ Q, u < 256) {j u : Nat} (h : Q[j]? = some u) : ∃ hj : j < (bstr Q).data.size, (bstr Q).data[j].toNat = u := by
  have hs : (bstr Q).data.size = Q.length := bstr_size Q
  obtain ⟨hj, e⟩ := List.getElem?_eq_some_iff.1 h
  have h1 : (bstr Q).data.toList[j]? = some (UInt8.ofNat u) := by rw [bstr_data, List.getElem?_map, h]; rfl
  have hj2 : j < (bstr Q).data.size := by omega
  refine ⟨hj2, ?_⟩
  have h2 : (bstr Q).data[j] = UInt8.ofNat u := by
    rw [Array.getElem?_toList, Array.getElem?_eq_getElem hj2] at h1
    injection h1
  rw [h2]
  have := hb u (List.mem_of_getElem? h)
  simp
  omega
/-- A lexer that New has laid over a string's bytes. -/
theorem Lx.laid {w : World} {s : ByteArray} {Q : List Nat} (hs : s = bstr Q) (hb : ∀ u ∈ Q, u < 256) (hl : Q.length ≤ 4000) :
    Lx ((laid w s).alloc (.cells #[.slice (some ⟨w.heap.size, 0, none⟩) s.size (grownCap w s.size 0 5), .int .i64 0] 51)) (laid w s).heap.size (some ⟨w.heap.size, 0, none⟩) s.size (grownCap w s.size 0 5) Q 0 := by
  have hsz : Q.length = s.size := by rw [hs]; exact (bstr_size Q).symm
  refine Lx.fresh hsz (by omega) (grownCap_ge _ _ _ _) hb (fun _ => ⟨w.heap.size, 0, rfl, fun j u hu => ?_⟩)
  subst hs
  obtain ⟨hj, e⟩ := bstr_byte hb hu
  show ((w.drew).alloc _).cell? ⟨w.drew.heap.size, 0 + j, none⟩ = _
  rw [World.cell?_alloc_mark, Nat.zero_add, bytesRow_at _ _ _ hj, e]
theorem laid2_below (w : World) (s : ByteArray) (o : Obj) : Below w.heap.size w ((laid w s).alloc o) := (laid_below w s).alloc (by rw [laid_size]; omega) _
/-- New([]byte(s)).Next(), from where it stands behind New. -/
theorem next_laid (w : World) (s : ByteArray) (Q : List Nat) (ml : Int) (hml : w.cell? ⟨0, 0, none⟩ = some (.int .i64 ml)) (hs : s = bstr Q) (hb : ∀ u ∈ Q, u < 256) (hl : Q.length ≤ 4000) :
    Calls Try.prog 13 #[.pointer (some ⟨(laid w s).heap.size, 0, none⟩)] ((laid w s).alloc (.cells #[.slice (some ⟨w.heap.size, 0, none⟩) s.size (grownCap w s.size 0 5), .int .i64 0] 51)) fun e w' =>
      (match nextM Q 0 with
        | .ok (t, k) => e = .returned (.tuple #[t.val, .int .i64 0, .int .i64 0])
        | .error k => e = .returned (.tuple #[noTok, .int .i64 (k : Nat), .int .i64 7])) ∧ Below w.heap.size w w' := by
  have hB := laid2_below w s (.cells #[.slice (some ⟨w.heap.size, 0, none⟩) s.size (grownCap w s.size 0 5), .int .i64 0] 51)
  refine (next_calls _ _ _ _ _ _ Q ml (Lx.laid hs hb hl) (by rw [laid_size]; omega) (ml_below hml hB)).mono ?_
  intro e w' h
  have hsz := laid_size w s
  cases hn : nextM Q 0 with
  | ok r =>
    rw [hn] at h
    obtain ⟨t, k⟩ := r
    exact ⟨h.1, below_grown hB (by omega) h.2.2.2⟩
  | error k =>
    rw [hn] at h
    exact ⟨h.1, below_grown hB (by omega) h.2.2⟩
theorem next_laid_ok (w : World) (s : ByteArray) (Q : List Nat) (ml : Int) (hml : w.cell? ⟨0, 0, none⟩ = some (.int .i64 ml)) (hs : s = bstr Q) (hb : ∀ u ∈ Q, u < 256) (hl : Q.length ≤ 4000) (t : Tok) (k : Nat) (hn : nextM Q 0 = .ok (t, k)) :
    Calls Try.prog 13 #[.pointer (some ⟨(laid w s).heap.size, 0, none⟩)] ((laid w s).alloc (.cells #[.slice (some ⟨w.heap.size, 0, none⟩) s.size (grownCap w s.size 0 5), .int .i64 0] 51)) fun e w' => e = .returned (.tuple #[t.val, .int .i64 0, .int .i64 0]) ∧ Below w.heap.size w w' :=
  (next_laid w s Q ml hml hs hb hl).mono fun e w' h => by rw [hn] at h; exact h
theorem next_laid_err (w : World) (s : ByteArray) (Q : List Nat) (ml : Int) (hml : w.cell? ⟨0, 0, none⟩ = some (.int .i64 ml)) (hs : s = bstr Q) (hb : ∀ u ∈ Q, u < 256) (hl : Q.length ≤ 4000) (k : Nat) (hn : nextM Q 0 = .error k) :
    Calls Try.prog 13 #[.pointer (some ⟨(laid w s).heap.size, 0, none⟩)] ((laid w s).alloc (.cells #[.slice (some ⟨w.heap.size, 0, none⟩) s.size (grownCap w s.size 0 5), .int .i64 0] 51)) fun e w' => e = .returned (.tuple #[noTok, .int .i64 (k : Nat), .int .i64 7]) ∧ Below w.heap.size w w' :=
  (next_laid w s Q ml hml hs hb hl).mono fun e w' h => by rw [hn] at h; exact h
theorem bstr_append (l r : List Nat) : bstr (l ++ r) = bstr l ++ bstr r := by
  apply ByteArray.ext
  apply Array.toList_inj.1
  rw [ByteArray.data_append, Array.toList_append, bstr_data, bstr_data, bstr_data, List.map_append]
end Go.Proofs.Ytjebanfmnfofnaa
