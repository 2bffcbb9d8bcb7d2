/-
  PLAIN MATHEMATICS OF A CYCLIC SUM OF 32 BITS: bit by bit, by half bytes, its linearity, and that what differs in bits within 32 differs in the sum. No program in sight.
-/
namespace Go.Proofs.YtfkagmngblkbbaaDoor.Crc

abbrev B32 := BitVec 32

def poly : B32 := 79764919#32

/-- One bit into the rest. -/
def stepB (r : B32) (one : Bool) : B32 := if (r.msb ^^ one) = true then (r <<< 1) ^^^ poly else r <<< 1

def crcB (r : B32) (l : List Bool) : B32 := l.foldl stepB r

theorem crcB_nil (r : B32) : crcB r [] = r := rfl
theorem crcB_cons (r : B32) (b : Bool) (l : List Bool) : crcB r (b :: l) = crcB (stepB r b) l := rfl
theorem crcB_append (r : B32) (l m : List Bool) : crcB r (l ++ m) = crcB (crcB r l) m := by simp [crcB]

theorem xor_mid (a b c d : B32) : (a ^^^ b) ^^^ (c ^^^ d) = (a ^^^ c) ^^^ (b ^^^ d) := by
  rw [BitVec.xor_assoc, BitVec.xor_assoc, ← BitVec.xor_assoc b c d, BitVec.xor_comm b c, BitVec.xor_assoc c b d]

theorem stepB_xor (r s : B32) (a b : Bool) : stepB (r ^^^ s) (a ^^ b) = stepB r a ^^^ stepB s b := by
  have e : ((r ^^^ s).msb ^^ (a ^^ b)) = ((r.msb ^^ a) ^^ (s.msb ^^ b)) := by
    rw [BitVec.msb_xor]; cases r.msb <;> cases s.msb <;> cases a <;> cases b <;> rfl
  unfold stepB
  rw [e, BitVec.shiftLeft_xor_distrib]
  cases hr : (r.msb ^^ a) <;> cases hs : (s.msb ^^ b)
  · simp
  · simp [BitVec.xor_assoc]
  · simp only [Bool.xor_false, if_true, Bool.false_eq_true, if_false]
    rw [BitVec.xor_assoc, BitVec.xor_assoc, BitVec.xor_comm poly]
  · simp only [Bool.xor_true, Bool.not_true, Bool.false_eq_true, if_false, if_true]
    rw [xor_mid, BitVec.xor_self, BitVec.xor_zero]

theorem crcB_xor : ∀ (l m : List Bool) (r s : B32), l.length = m.length → crcB (r ^^^ s) (List.zipWith (· ^^ ·) l m) = crcB r l ^^^ crcB s m
  | [], [], r, s, _ => rfl
  | [], _ :: _, _, _, h => by simp at h
  | _ :: _, [], _, _, h => by simp at h
  | a :: l, b :: m, r, s, h => by
    rw [List.zipWith_cons_cons, crcB_cons, crcB_cons, crcB_cons, stepB_xor]
    exact crcB_xor l m _ _ (by simpa using h)

/-! ### By half bytes -/
def tab : List Nat := [0, 79764919, 159529838, 222504665, 319059676, 398814059, 445009330, 507990021, 638119352, 583659535, 797628118, 726387553, 890018660, 835552979, 1015980042, 944750013]
def tabB (i : Nat) : B32 := BitVec.ofNat 32 (tab.getD i 0)
def nib (n : Nat) : List Bool := [n.testBit 3, n.testBit 2, n.testBit 1, n.testBit 0]

theorem tab_all : ∀ h : Fin 16, ∀ n : Fin 16, crcB (BitVec.ofNat 32 (h.val * 268435456)) (nib n.val) = tabB (h.val ^^^ n.val) := by decide +kernel

theorem low_steps (l : B32) (h : l < 268435456#32) : crcB l [false, false, false, false] = l <<< 4 := by
  have hl : l.toNat < 268435456 := by simpa [BitVec.lt_def] using h
  have m0 : l.msb = false := by rw [BitVec.msb_eq_decide]; simp; omega
  have m1 : (l <<< 1).msb = false := by rw [BitVec.msb_eq_decide, BitVec.toNat_shiftLeft, Nat.shiftLeft_eq]; simp; omega
  have m2 : (l <<< 2).msb = false := by rw [BitVec.msb_eq_decide, BitVec.toNat_shiftLeft, Nat.shiftLeft_eq]; simp; omega
  have m3 : (l <<< 3).msb = false := by rw [BitVec.msb_eq_decide, BitVec.toNat_shiftLeft, Nat.shiftLeft_eq]; simp; omega
  have s2 : (l <<< 1) <<< 1 = l <<< 2 := by rw [← BitVec.shiftLeft_add]
  have s3 : (l <<< 2) <<< 1 = l <<< 3 := by rw [← BitVec.shiftLeft_add]
  have s4 : (l <<< 3) <<< 1 = l <<< 4 := by rw [← BitVec.shiftLeft_add]
  simp only [crcB, List.foldl, stepB, m0, Bool.xor_false, Bool.false_eq_true, if_false, m1, s2, m2, s3, m3, s4]

theorem split_hi (r : B32) : r = BitVec.ofNat 32 (r.toNat / 268435456 * 268435456) ^^^ BitVec.ofNat 32 (r.toNat % 268435456) := by
  apply BitVec.eq_of_toNat_eq
  have h1 : r.toNat < 4294967296 := r.isLt
  have e1 : r.toNat / 268435456 * 268435456 % 4294967296 = r.toNat / 268435456 * 268435456 := Nat.mod_eq_of_lt (by omega)
  have e2 : r.toNat % 268435456 % 4294967296 = r.toNat % 268435456 := Nat.mod_eq_of_lt (by omega)
  rw [BitVec.toNat_xor, BitVec.toNat_ofNat, BitVec.toNat_ofNat]
  show r.toNat = (r.toNat / 268435456 * 268435456) % 4294967296 ^^^ (r.toNat % 268435456) % 4294967296
  rw [e1, e2]
  have hlt : r.toNat % 268435456 < 2 ^ 28 := Nat.mod_lt _ (by decide)
  have := Nat.two_pow_add_eq_or_of_lt hlt (r.toNat / 268435456)
  have hx : (2 ^ 28 * (r.toNat / 268435456)) ^^^ (r.toNat % 268435456) = (2 ^ 28 * (r.toNat / 268435456)) ||| (r.toNat % 268435456) := by
    apply Nat.eq_of_testBit_eq
    intro i
    rw [Nat.testBit_xor, Nat.testBit_or, Nat.testBit_two_pow_mul]
    by_cases hi : i < 28
    · simp [show ¬ 28 ≤ i by omega]
    · have : (r.toNat % 268435456).testBit i = false := Nat.testBit_lt_two_pow (Nat.lt_of_lt_of_le hlt (Nat.pow_le_pow_right (by decide) (by omega)))
      simp [this]
  rw [Nat.mul_comm, show (268435456 : Nat) = 2 ^ 28 from rfl, hx, ← this]
  omega

theorem nib_length (n : Nat) : (nib n).length = 4 := rfl
theorem nib_xor_zero (n : Nat) : List.zipWith (· ^^ ·) (nib n) [false, false, false, false] = nib n := by simp [nib]

/-- Four bits are one step by the table. -/
theorem nib_step (r : B32) (n : Nat) (hn : n < 16) : crcB r (nib n) = (r <<< 4) ^^^ tabB (r.toNat / 268435456 ^^^ n) := by
  have h1 : r.toNat < 4294967296 := r.isLt
  have hh : r.toNat / 268435456 < 16 := by omega
  have hs := split_hi r
  have a := tab_all ⟨r.toNat / 268435456, hh⟩ ⟨n, hn⟩
  simp only at a
  have b := low_steps (BitVec.ofNat 32 (r.toNat % 268435456)) (by
    rw [BitVec.lt_def, BitVec.toNat_ofNat, BitVec.toNat_ofNat]
    have : r.toNat % 268435456 % 4294967296 = r.toNat % 268435456 := Nat.mod_eq_of_lt (by omega)
    show r.toNat % 268435456 % 4294967296 < _
    rw [this]
    exact Nat.mod_lt _ (by decide))
  have c := crcB_xor (nib n) [false, false, false, false] (BitVec.ofNat 32 (r.toNat / 268435456 * 268435456)) (BitVec.ofNat 32 (r.toNat % 268435456)) rfl
  rw [nib_xor_zero, ← hs, a, b] at c
  have d : r <<< 4 = BitVec.ofNat 32 (r.toNat % 268435456) <<< 4 := by
    apply BitVec.eq_of_toNat_eq
    rw [BitVec.toNat_shiftLeft, BitVec.toNat_shiftLeft, BitVec.toNat_ofNat, Nat.shiftLeft_eq, Nat.shiftLeft_eq]
    show r.toNat * 16 % 4294967296 = (r.toNat % 268435456 % 4294967296) * 16 % 4294967296
    omega
  rw [c, d, BitVec.xor_comm]

/-! ### Bytes -/
def bits8 (x : Nat) : List Bool := nib (x / 16) ++ nib (x % 16)
theorem bits8_length (x : Nat) : (bits8 x).length = 8 := rfl
def byteStep (r : B32) (x : Nat) : B32 := crcB r (bits8 x)
def bitsOf (l : List Nat) : List Bool := l.flatMap bits8
theorem bitsOf_length : ∀ l : List Nat, (bitsOf l).length = 8 * l.length
  | [] => rfl
  | x :: l => by rw [bitsOf, List.flatMap_cons, List.length_append, bits8_length]; have := bitsOf_length l; rw [bitsOf] at this; rw [this, List.length_cons]; omega
/-- The sum from a rest on. -/
def crc (r : B32) (l : List Nat) : B32 := crcB r (bitsOf l)
theorem crc_nil (r : B32) : crc r [] = r := rfl
theorem crc_cons (r : B32) (x : Nat) (l : List Nat) : crc r (x :: l) = crc (byteStep r x) l := by simp [crc, bitsOf, byteStep, crcB_append]
theorem crc_append (r : B32) (l m : List Nat) : crc r (l ++ m) = crc (crc r l) m := by simp [crc, bitsOf, crcB_append]
theorem crc_snoc (r : B32) (l : List Nat) (x : Nat) : crc r (l ++ [x]) = byteStep (crc r l) x := by rw [crc_append, crc_cons, crc_nil]
theorem byteStep_two (r : B32) (x : Nat) (hx : x < 256) : byteStep r x = crcB ((r <<< 4) ^^^ tabB (r.toNat / 268435456 ^^^ (x / 16))) (nib (x % 16)) := by
  rw [byteStep, bits8, crcB_append, nib_step r (x / 16) (by omega)]

theorem bits8_eq (x : Nat) : bits8 x = [x.testBit 7, x.testBit 6, x.testBit 5, x.testBit 4, x.testBit 3, x.testBit 2, x.testBit 1, x.testBit 0] := by
  have h4 : ∀ j, (x / 16).testBit j = x.testBit (j + 4) := fun j => by
    rw [show (16 : Nat) = 2 ^ 4 from rfl, Nat.testBit_div_two_pow]
  have h0 : ∀ j, j < 4 → (x % 16).testBit j = x.testBit j := fun j hj => by
    rw [show (16 : Nat) = 2 ^ 4 from rfl, Nat.testBit_mod_two_pow]; simp [hj]
  unfold bits8 nib
  rw [h4, h4, h4, h4, h0 3 (by omega), h0 2 (by omega), h0 1 (by omega), h0 0 (by omega)]
  rfl
theorem bits8_xor (x y : Nat) : bits8 (x ^^^ y) = List.zipWith (· ^^ ·) (bits8 x) (bits8 y) := by
  rw [bits8_eq, bits8_eq, bits8_eq]
  simp only [List.zipWith_cons_cons, List.zipWith_nil_left, Nat.testBit_xor]
def zipX (l m : List Nat) : List Nat := List.zipWith (· ^^^ ·) l m
theorem zipX_length (l m : List Nat) (h : l.length = m.length) : (zipX l m).length = l.length := by simp [zipX, h]
theorem bitsOf_cons (x : Nat) (l : List Nat) : bitsOf (x :: l) = bits8 x ++ bitsOf l := by simp [bitsOf]
theorem bitsOf_append (l m : List Nat) : bitsOf (l ++ m) = bitsOf l ++ bitsOf m := by simp [bitsOf]
theorem bitsOf_zipX : ∀ (l m : List Nat), l.length = m.length → bitsOf (zipX l m) = List.zipWith (· ^^ ·) (bitsOf l) (bitsOf m)
  | [], [], _ => rfl
  | [], _ :: _, h => by simp at h
  | _ :: _, [], h => by simp at h
  | x :: l, y :: m, h => by
    rw [zipX, List.zipWith_cons_cons, bitsOf_cons, bitsOf_cons, bitsOf_cons, bits8_xor, List.zipWith_append (by rw [bits8_length, bits8_length])]
    have := bitsOf_zipX l m (by simpa using h)
    rw [zipX] at this
    rw [this]
theorem crc_xor (l m : List Nat) (r s : B32) (h : l.length = m.length) : crc (r ^^^ s) (zipX l m) = crc r l ^^^ crc s m := by
  rw [crc, bitsOf_zipX l m h, crcB_xor _ _ _ _ (by rw [bitsOf_length, bitsOf_length, h])]
  rfl
theorem crc_xor3 (a b c : List Nat) (h1 : a.length = b.length) (h2 : a.length = c.length) (r : B32) : crc r (zipX (zipX a b) c) = crc r a ^^^ crc r b ^^^ crc r c := by
  have e : r = (r ^^^ r) ^^^ r := by rw [BitVec.xor_self, BitVec.zero_xor]
  have := crc_xor (zipX a b) c (r ^^^ r) r (by rw [zipX_length a b h1, h2])
  rw [← e, crc_xor a b r r h1] at this
  exact this

/-! ### What differs within 32 bits -/
theorem stepB_zero_inj (d : B32) (h : stepB d false = 0#32) : d = 0#32 := by
  unfold stepB at h
  cases hm : d.msb with
  | true =>
    rw [hm] at h
    simp only [Bool.xor_false, if_true] at h
    have h0 := congrArg (fun b : B32 => b.getLsbD 0) h
    have hp : poly.getLsbD 0 = true := by decide
    rw [BitVec.getLsbD_xor, hp] at h0
    simp at h0
  | false =>
    rw [hm] at h
    simp only [Bool.xor_false, Bool.false_eq_true, if_false] at h
    have hb : d.toNat < 2147483648 := by
      rw [BitVec.msb_eq_decide] at hm
      simp at hm
      omega
    have h0 := congrArg BitVec.toNat h
    rw [BitVec.toNat_shiftLeft, Nat.shiftLeft_eq] at h0
    apply BitVec.eq_of_toNat_eq
    simp at h0 ⊢
    omega

theorem stepB_inj (r s : B32) (a : Bool) (h : stepB r a = stepB s a) : r = s := by
  have e := stepB_xor r s a a
  rw [h, BitVec.xor_self, Bool.xor_self] at e
  have := stepB_zero_inj _ e
  have h2 : r ^^^ s ^^^ s = s := by rw [this, BitVec.zero_xor]
  rwa [BitVec.xor_assoc, BitVec.xor_self, BitVec.xor_zero] at h2

theorem crcB_inj : ∀ (l : List Bool) (r s : B32), crcB r l = crcB s l → r = s
  | [], _, _, h => h
  | a :: l, r, s, h => stepB_inj r s a (crcB_inj l _ _ (by simpa [crcB_cons] using h))

def zeros (n : Nat) : List Bool := List.replicate n false
theorem crcB_zeros : ∀ n, crcB 0#32 (zeros n) = 0#32
  | 0 => rfl
  | n + 1 => by
    rw [zeros, List.replicate_succ, crcB_cons, show stepB 0#32 false = 0#32 by decide]
    exact crcB_zeros n

def topB (b : Bool) : B32 := if b then 2147483648#32 else 0#32
def tops : List Bool → B32
  | [] => 0#32
  | b :: l => topB b ^^^ (tops l >>> 1)
theorem topB_low (b : Bool) (i : Nat) (hi : i < 31) : (topB b).getLsbD i = false := by
  cases b
  · simp [topB]
  · have : ∀ i : Fin 31, (2147483648#32).getLsbD i.val = false := by decide
    exact this ⟨i, hi⟩
theorem tops_low : ∀ (l : List Bool) (i : Nat), i + l.length < 32 → (tops l).getLsbD i = false
  | [], i, _ => by simp [tops]
  | b :: l, i, h => by
    have h' : i + l.length + 1 < 32 := by simpa [Nat.add_assoc] using h
    rw [tops, BitVec.getLsbD_xor, topB_low b i (by omega), BitVec.getLsbD_ushiftRight, Nat.add_comm, tops_low l (i + 1) (by omega)]
    rfl
theorem shr_shl (t : B32) (h : t.getLsbD 0 = false) : (t >>> 1) <<< 1 = t := by
  apply BitVec.eq_of_toNat_eq
  rw [BitVec.toNat_shiftLeft, BitVec.toNat_ushiftRight, Nat.shiftLeft_eq, Nat.shiftRight_eq_div_pow]
  have h1 : t.toNat < 4294967296 := t.isLt
  have h2 : t.toNat % 2 = 0 := by
    rw [BitVec.getLsbD, Nat.testBit_zero] at h
    simpa using h
  simp
  omega
theorem step_shr (t : B32) (h : t.getLsbD 0 = false) : stepB (t >>> 1) false = t := by
  have hm : (t >>> 1).msb = false := by
    rw [BitVec.msb_eq_decide, BitVec.toNat_ushiftRight, Nat.shiftRight_eq_div_pow]
    have h1 : t.toNat < 4294967296 := t.isLt
    simp
    omega
  simp only [stepB, hm, Bool.xor_false, Bool.false_eq_true, if_false]
  exact shr_shl t h
theorem step_top (r : B32) (b : Bool) : stepB (r ^^^ topB b) false = stepB r b := by
  have e := stepB_xor r (topB b) b b
  rw [Bool.xor_self] at e
  rw [e, show stepB (topB b) b = 0#32 by cases b <;> decide, BitVec.xor_zero]
/-- Bits that come in one by one are as good as come at once, ahead of as many steps. -/
theorem crcB_tops : ∀ (l : List Bool) (r : B32), l.length ≤ 32 → crcB r l = crcB (r ^^^ tops l) (zeros l.length)
  | [], r, _ => by simp [tops, zeros, crcB_nil]
  | b :: l, r, h => by
    have hl : l.length < 32 := by rw [List.length_cons] at h; omega
    rw [crcB_cons, crcB_tops l _ (by omega), List.length_cons, show zeros (l.length + 1) = false :: zeros l.length from List.replicate_succ, crcB_cons, tops, ← BitVec.xor_assoc]
    have e := stepB_xor (r ^^^ topB b) (tops l >>> 1) false false
    rw [Bool.xor_self] at e
    rw [e, step_top, step_shr _ (tops_low l 0 (by omega))]
theorem tops_msb (b : Bool) (l : List Bool) : (tops (b :: l)).msb = b := by
  have hm : (tops l >>> 1).msb = false := by
    rw [BitVec.msb_eq_decide, BitVec.toNat_ushiftRight, Nat.shiftRight_eq_div_pow]
    have h1 : (tops l).toNat < 4294967296 := (tops l).isLt
    simp
    omega
  rw [tops, BitVec.msb_xor, hm]
  cases b <;> decide
theorem tops_zero : ∀ (l : List Bool), l.length ≤ 32 → tops l = 0#32 → l = zeros l.length
  | [], _, _ => rfl
  | b :: l, h, e => by
    have hl : l.length < 32 := by rw [List.length_cons] at h; omega
    have hb := tops_msb b l
    rw [e] at hb
    have hb' : b = false := by rw [← hb]; decide
    subst hb'
    have e2 : tops l >>> 1 = 0#32 := by rw [tops] at e; simpa [topB] using e
    have e3 : tops l = 0#32 := by rw [← shr_shl _ (tops_low l 0 (by omega)), e2]; decide
    have ih := tops_zero l (by omega) e3
    rw [List.length_cons, zeros, List.replicate_succ, ← zeros, ← ih]
theorem burst_ne (k m : Nat) (pat : List Bool) (hp : pat.length ≤ 32) (h : crcB 0#32 (zeros k ++ pat ++ zeros m) = 0#32) : pat = zeros pat.length := by
  rw [crcB_append, crcB_append, crcB_zeros] at h
  have h1 : crcB 0#32 pat = 0#32 := crcB_inj (zeros m) _ _ (by rw [h, crcB_zeros])
  rw [crcB_tops pat _ hp, BitVec.zero_xor] at h1
  exact tops_zero pat hp (crcB_inj (zeros pat.length) _ _ (by rw [h1, crcB_zeros]))

end Go.Proofs.YtfkagmngblkbbaaDoor.Crc
