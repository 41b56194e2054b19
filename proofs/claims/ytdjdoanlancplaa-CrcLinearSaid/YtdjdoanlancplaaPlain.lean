/- The plain laws of CRC-32: registers as words of 32 bits, no Go in sight. -/
namespace Go.Proofs.Ytdjdoanlancplaa

abbrev W32 := BitVec 32

/-- one bit -/
def s1 (r : W32) : W32 := (r >>> 1) ^^^ (if r.getLsbD 0 then 0xedb88320#32 else 0#32)
def sN : Nat → W32 → W32
  | 0, r => r
  | n + 1, r => sN n (s1 r)

theorem xor4 (a b c d : W32) : (a ^^^ b) ^^^ (c ^^^ d) = (a ^^^ c) ^^^ (b ^^^ d) := by ac_rfl

theorem s1_xor (a b : W32) : s1 (a ^^^ b) = s1 a ^^^ s1 b := by
  unfold s1
  rw [BitVec.ushiftRight_xor_distrib, BitVec.getLsbD_xor, xor4]
  congr 1
  cases a.getLsbD 0 <;> cases b.getLsbD 0 <;> decide

theorem sN_xor (n : Nat) (a b : W32) : sN n (a ^^^ b) = sN n a ^^^ sN n b := by
  induction n generalizing a b with
  | zero => rfl
  | succ n ih => simp only [sN]; rw [s1_xor, ih]

theorem sN_add (m n : Nat) (a : W32) : sN (m + n) a = sN n (sN m a) := by
  induction m generalizing a with
  | zero => simp [sN]
  | succ m ih => rw [Nat.succ_add]; simp only [sN]; rw [ih]

theorem s1_zero : s1 0#32 = 0#32 := by decide
theorem sN_zero (n : Nat) : sN n 0#32 = 0#32 := by
  induction n with
  | zero => rfl
  | succ n ih => simp only [sN]; rw [s1_zero, ih]

/-- linear maps that agree on the single bits agree -/
theorem linext (f g : W32 → W32) (hf : ∀ a b, f (a ^^^ b) = f a ^^^ f b) (hg : ∀ a b, g (a ^^^ b) = g a ^^^ g b)
    (h : ∀ i, i < 32 → f (BitVec.twoPow 32 i) = g (BitVec.twoPow 32 i)) (a : W32) : f a = g a := by
  have hf0 : f 0#32 = 0#32 := by have := hf 0#32 0#32; simpa using this
  have hg0 : g 0#32 = 0#32 := by have := hg 0#32 0#32; simpa using this
  have key : ∀ k, k ≤ 32 → f (a.setWidth k |>.setWidth 32) = g (a.setWidth k |>.setWidth 32) := by
    intro k
    induction k with
    | zero =>
      intro _
      have : (a.setWidth 0 |>.setWidth 32) = 0#32 := by ext i; simp
      rw [this, hf0, hg0]
    | succ k ih =>
      intro hk
      have e : (a.setWidth (k + 1) |>.setWidth 32) = (a.setWidth k |>.setWidth 32) ^^^ (if a.getLsbD k then BitVec.twoPow 32 k else 0#32) := by
        apply BitVec.eq_of_getLsbD_eq
        intro i hi
        rw [BitVec.getLsbD_xor, BitVec.getLsbD_setWidth, BitVec.getLsbD_setWidth, BitVec.getLsbD_setWidth, BitVec.getLsbD_setWidth]
        by_cases hik : i = k
        · subst hik
          cases hb : a.getLsbD i <;> simp [hi]
        · by_cases hlt : i < k
          · have hlt' : i < k + 1 := by omega
            cases hb : a.getLsbD k <;> simp [hi, hlt, hlt', hik]
          · have h1 : ¬ i < k + 1 := by omega
            cases hb : a.getLsbD k <;> simp [hi, hlt, h1, hik]
      rw [e, hf, hg, ih (by omega)]
      cases a.getLsbD k
      · simp [hf0, hg0]
      · simp [h k (by omega)]
  have := key 32 (Nat.le_refl _)
  simpa using this


theorem sN_succ (n : Nat) (a : W32) : sN (n + 1) a = s1 (sN n a) := by rw [sN_add]; rfl
theorem sN_s1 (n : Nat) (a : W32) : sN n (s1 a) = s1 (sN n a) := by rw [← sN_succ]; rfl

/-- the product of two registers after k rounds -/
def tms (a b : W32) : Nat → W32
  | 0 => 0#32
  | k + 1 => tms a b k ^^^ (if a.getLsbD (31 - k) then sN k b else 0#32)
def tm (a b : W32) : W32 := tms a b 32

theorem tms_xor_left (a a' b : W32) (k : Nat) : tms (a ^^^ a') b k = tms a b k ^^^ tms a' b k := by
  induction k with
  | zero => simp [tms]
  | succ k ih =>
    simp only [tms]
    rw [ih, xor4, BitVec.getLsbD_xor]
    congr 1
    cases a.getLsbD (31 - k) <;> cases a'.getLsbD (31 - k) <;> simp

theorem tms_xor_right (a b b' : W32) (k : Nat) : tms a (b ^^^ b') k = tms a b k ^^^ tms a b' k := by
  induction k with
  | zero => simp [tms]
  | succ k ih =>
    simp only [tms]
    rw [ih, xor4, sN_xor]
    congr 1
    cases a.getLsbD (31 - k) <;> simp

theorem tms_two (j : Nat) (hj : j < 32) (b : W32) (k : Nat) (hk : k ≤ 32) : tms (BitVec.twoPow 32 j) b k = if 31 - j < k then sN (31 - j) b else 0#32 := by
  induction k with
  | zero => simp [tms]
  | succ k ih =>
    simp only [tms]
    rw [ih (by omega), BitVec.getLsbD_twoPow]
    by_cases h : j = 31 - k
    · subst h
      have e : 31 - (31 - k) = k := by omega
      rw [e]
      simp
      omega
    · have h2 : ¬ (31 - k < 32 ∧ j = 31 - k) := fun x => h x.2
      have h3 : (31 - j < k) ↔ (31 - j < k + 1) := by omega
      simp [h, h3]

theorem tm_two (j : Nat) (hj : j < 32) (b : W32) : tm (BitVec.twoPow 32 j) b = sN (31 - j) b := by
  unfold tm
  rw [tms_two j hj b 32 (Nat.le_refl _), if_pos (by omega)]

theorem tm_xor_left (a a' b : W32) : tm (a ^^^ a') b = tm a b ^^^ tm a' b := tms_xor_left a a' b 32
theorem tm_xor_right (a b b' : W32) : tm a (b ^^^ b') = tm a b ^^^ tm a b' := tms_xor_right a b b' 32

theorem tm_poly (b : W32) : tm 0xedb88320#32 b = sN 32 b := by
  refine linext (tm 0xedb88320#32) (sN 32) (tm_xor_right _) (sN_xor 32) ?_ b
  decide +kernel

theorem s1_two : ∀ j, j < 32 → s1 (BitVec.twoPow 32 j) = if j = 0 then 0xedb88320#32 else BitVec.twoPow 32 (j - 1) := by decide +kernel

theorem tm_s1 (a b : W32) : tm (s1 a) b = s1 (tm a b) := by
  refine linext (fun a => tm (s1 a) b) (fun a => s1 (tm a b)) ?_ ?_ ?_ a
  · intro x y; rw [s1_xor, tm_xor_left]
  · intro x y; rw [tm_xor_left, s1_xor]
  · intro j hj
    rw [s1_two j hj, tm_two j hj]
    by_cases h : j = 0
    · subst h
      rw [if_pos rfl, tm_poly, ← sN_succ]
    · rw [if_neg h, tm_two (j - 1) (by omega), ← sN_succ]
      congr 1
      omega

theorem tm_sN (n : Nat) (a b : W32) : tm (sN n a) b = sN n (tm a b) := by
  induction n generalizing a with
  | zero => rfl
  | succ n ih => simp only [sN]; rw [ih, tm_s1]

def one : W32 := 0x80000000#32
theorem tm_one (b : W32) : tm one b = b := by
  have : one = BitVec.twoPow 32 31 := by decide
  rw [this, tm_two 31 (by omega)]
  rfl
theorem tm_pow (i : Nat) (b : W32) : tm (sN i one) b = sN i b := by rw [tm_sN, tm_one]
theorem tm_pow_pow (i j : Nat) : tm (sN i one) (sN j one) = sN (i + j) one := by rw [tm_pow, Nat.add_comm, sN_add]
theorem x8 : (0x00800000#32 : W32) = sN 8 one := by decide +kernel

/-- one half byte by the table -/
def tab (i : Nat) : W32 := (#[0x00000000#32, 0x1db71064#32, 0x3b6e20c8#32, 0x26d930ac#32, 0x76dc4190#32, 0x6b6b51f4#32, 0x4db26158#32, 0x5005713c#32,
  0xedb88320#32, 0xf00f9344#32, 0xd6d6a3e8#32, 0xcb61b38c#32, 0x9b64c2b0#32, 0x86d3d2d4#32, 0xa00ae278#32, 0xbdbdf21c#32] : Array W32).getD i 0#32
theorem tab_s4 : ∀ i, i < 16 → tab i = sN 4 (BitVec.ofNat 32 i) := by decide +kernel

theorem s1_even (r : W32) (h : r.getLsbD 0 = false) : s1 r = r >>> 1 := by
  unfold s1; rw [h]; simp
theorem sN4_hi (r : W32) : sN 4 (r &&& 0xfffffff0#32) = r >>> 4 := by
  refine linext (fun r => sN 4 (r &&& 0xfffffff0#32)) (fun r => r >>> 4) ?_ ?_ ?_ r
  · intro x y
    rw [← sN_xor]
    congr 1
    apply BitVec.eq_of_getLsbD_eq
    intro i hi
    simp only [BitVec.getLsbD_and, BitVec.getLsbD_xor]
    cases x.getLsbD i <;> cases y.getLsbD i <;> simp
  · intro x y; rw [BitVec.ushiftRight_xor_distrib]
  · decide +kernel

theorem split4 (r : W32) : r = (r &&& 0xfffffff0#32) ^^^ (r &&& 15#32) := by
  refine linext (fun r => r) (fun r => (r &&& 0xfffffff0#32) ^^^ (r &&& 15#32)) ?_ ?_ ?_ r
  · intro x y; rfl
  · intro x y
    apply BitVec.eq_of_getLsbD_eq
    intro i hi
    simp only [BitVec.getLsbD_and, BitVec.getLsbD_xor]
    cases x.getLsbD i <;> cases y.getLsbD i <;> simp
  · decide +kernel

theorem and15_lt (r : W32) : (r &&& 15#32).toNat < 16 := by
  rw [BitVec.toNat_and]
  exact Nat.lt_of_le_of_lt Nat.and_le_right (by decide)

/-- what the program does with half a byte: the table's entry, and the register shifted -/
theorem half_eq (r b : W32) : tab ((r ^^^ b) &&& 15#32).toNat ^^^ (r >>> 4) = sN 4 (r ^^^ (b &&& 15#32)) := by
  rw [tab_s4 _ (and15_lt _)]
  have e : BitVec.ofNat 32 ((r ^^^ b) &&& 15#32).toNat = (r ^^^ b) &&& 15#32 := by simp
  rw [e, ← sN4_hi r, ← sN_xor]
  congr 1
  have h1 := split4 r
  have h2 : (r ^^^ b) &&& 15#32 = (r &&& 15#32) ^^^ (b &&& 15#32) := by
    apply BitVec.eq_of_getLsbD_eq
    intro i hi
    simp only [BitVec.getLsbD_and, BitVec.getLsbD_xor]
    cases r.getLsbD i <;> cases b.getLsbD i <;> simp
  rw [h2]
  conv => rhs; rw [h1]
  ac_rfl

def ext (c : UInt8) : W32 := c.toBitVec.setWidth 32
theorem ext_xor (a b : UInt8) : ext (a ^^^ b) = ext a ^^^ ext b := by
  unfold ext; rw [UInt8.toBitVec_xor, BitVec.setWidth_xor]
theorem ext_toNat (c : UInt8) : (ext c).toNat = c.toNat := by
  unfold ext
  rw [BitVec.toNat_setWidth, UInt8.toNat_toBitVec]
  exact Nat.mod_eq_of_lt (by have := c.toNat_lt; omega)
theorem ext_zero : ext 0 = 0#32 := by decide

def bytein (r : W32) (c : UInt8) : W32 := sN 8 (r ^^^ ext c)
def proc (r : W32) (s : List UInt8) : W32 := s.foldl bytein r

/-- the program's two half bytes are the document's byte -/
theorem halves_eq (r : W32) (c : UInt8) : tab ((tab ((r ^^^ ext c) &&& 15#32).toNat ^^^ (r >>> 4) ^^^ (ext c >>> 4)) &&& 15#32).toNat ^^^ ((tab ((r ^^^ ext c) &&& 15#32).toNat ^^^ (r >>> 4)) >>> 4) = bytein r c := by
  rw [half_eq, half_eq]
  unfold bytein
  have e : ext c >>> 4 &&& 15#32 = ext c >>> 4 := by
    have : ∀ c : BitVec 8, c.setWidth 32 >>> 4 &&& 15#32 = c.setWidth 32 >>> 4 := by decide +kernel
    exact this c.toBitVec
  rw [e, ← sN4_hi (ext c), ← sN_xor, show (8 : Nat) = 4 + 4 from rfl, sN_add]
  congr 2
  conv => rhs; rw [split4 (ext c)]
  ac_rfl

theorem proc_nil (r : W32) : proc r [] = r := rfl
theorem proc_cons (r : W32) (c : UInt8) (s : List UInt8) : proc r (c :: s) = proc (bytein r c) s := rfl
theorem proc_append (r : W32) (a b : List UInt8) : proc r (a ++ b) = proc (proc r a) b := by
  unfold proc; rw [List.foldl_append]
theorem proc_xor (r q : W32) (s : List UInt8) : proc (r ^^^ q) s = proc r s ^^^ sN (8 * s.length) q := by
  induction s generalizing r q with
  | nil => rfl
  | cons c s ih =>
    rw [proc_cons, proc_cons]
    have : bytein (r ^^^ q) c = bytein r c ^^^ sN 8 q := by
      unfold bytein
      rw [← sN_xor]
      congr 1
      ac_rfl
    rw [this, ih, ← sN_add]
    congr 2
    simp only [List.length_cons]
    omega

def all1 : W32 := 0xffffffff#32
def extend (sum : W32) (s : List UInt8) : W32 := proc (sum ^^^ all1) s ^^^ all1
def crc (s : List UInt8) : W32 := extend 0#32 s
theorem xx (a b : W32) : a ^^^ b ^^^ b = a := by rw [BitVec.xor_assoc, BitVec.xor_self, BitVec.xor_zero]
theorem extend_append (x : W32) (a b : List UInt8) : extend x (a ++ b) = extend (extend x a) b := by
  unfold extend
  rw [proc_append, xx]
theorem extend_nil (x : W32) : extend x [] = x := by unfold extend; rw [proc_nil, xx]

/-- what the document's Join says -/
def join (a b : W32) (n : Nat) : W32 := sN (8 * n) a ^^^ b
theorem join_crc (a b : List UInt8) : join (crc a) (crc b) b.length = crc (a ++ b) := by
  unfold crc
  rw [extend_append]
  unfold join
  rw [show extend (extend 0#32 a) b = proc (all1 ^^^ extend 0#32 a) b ^^^ all1 from by unfold extend; rw [BitVec.xor_comm all1]]
  rw [proc_xor]
  have : extend 0#32 b = proc all1 b ^^^ all1 := by
    show proc (0#32 ^^^ all1) b ^^^ all1 = _
    rw [BitVec.zero_xor]
  rw [this]
  ac_rfl
theorem join_join (a b : W32) (m n : Nat) : join (join a 0#32 m) b n = join a b (m + n) := by
  unfold join
  rw [BitVec.xor_zero, ← sN_add]
  congr 2
  omega
theorem join_zero (a b : W32) : join a b 0 = a ^^^ b := rfl

/-- three texts turned by one another -/
def xor3 : List UInt8 → List UInt8 → List UInt8 → List UInt8
  | a :: as, b :: bs, c :: cs => (a ^^^ b ^^^ c) :: xor3 as bs cs
  | _, _, _ => []
theorem proc_xor3 (r q p : W32) (a b c : List UInt8) (h1 : a.length = b.length) (h2 : a.length = c.length) :
    proc (r ^^^ q ^^^ p) (xor3 a b c) = proc r a ^^^ proc q b ^^^ proc p c := by
  induction a generalizing b c r q p with
  | nil =>
    match b, c, h1, h2 with
    | [], [], _, _ => rfl
  | cons x a ih =>
    match b, c, h1, h2 with
    | y :: b, z :: c, h1, h2 =>
      simp only [xor3, proc_cons]
      rw [← ih _ _ _ b c (by simpa using h1) (by simpa using h2)]
      congr 1
      unfold bytein
      rw [← sN_xor, ← sN_xor, ext_xor, ext_xor]
      congr 1
      ac_rfl
theorem crc_xor3 (a b c : List UInt8) (h1 : a.length = b.length) (h2 : a.length = c.length) : crc (xor3 a b c) = crc a ^^^ crc b ^^^ crc c := by
  unfold crc extend
  have := proc_xor3 (0#32 ^^^ all1) (0#32 ^^^ all1) (0#32 ^^^ all1) a b c h1 h2
  rw [BitVec.xor_self, BitVec.zero_xor] at this
  rw [BitVec.zero_xor] at this
  rw [BitVec.zero_xor, this]
  generalize proc all1 a = x
  generalize proc all1 b = y
  generalize proc all1 c = z
  have e : x ^^^ all1 ^^^ (y ^^^ all1) ^^^ (z ^^^ all1) = x ^^^ y ^^^ z ^^^ all1 ^^^ (all1 ^^^ all1) := by ac_rfl
  rw [e, BitVec.xor_self, BitVec.xor_zero]

/-- a register's four bytes, the lowest first -/
def le (w : W32) : List UInt8 := [⟨w.setWidth 8⟩, ⟨(w >>> 8).setWidth 8⟩, ⟨(w >>> 16).setWidth 8⟩, ⟨(w >>> 24).setWidth 8⟩]
def word (a b c d : UInt8) : W32 := ext a ^^^ (ext b <<< 8) ^^^ (ext c <<< 16) ^^^ (ext d <<< 24)
theorem le_length (w : W32) : (le w).length = 4 := rfl

theorem sN_shl8 (c : UInt8) : sN 8 (ext c <<< 8) = ext c ∧ sN 16 (ext c <<< 16) = ext c ∧ sN 24 (ext c <<< 24) = ext c := by
  have : ∀ c : BitVec 8, sN 8 (c.setWidth 32 <<< 8) = c.setWidth 32 ∧ sN 16 (c.setWidth 32 <<< 16) = c.setWidth 32 ∧ sN 24 (c.setWidth 32 <<< 24) = c.setWidth 32 := by decide +kernel
  exact this c.toBitVec

theorem ac5 (r a b c d : W32) : r ^^^ a ^^^ b ^^^ c ^^^ d = r ^^^ (a ^^^ b ^^^ c ^^^ d) := by ac_rfl
theorem ac8 (a b c d a' b' c' d' : W32) : (a ^^^ a') ^^^ (b ^^^ b') ^^^ (c ^^^ c') ^^^ (d ^^^ d') = (a ^^^ b ^^^ c ^^^ d) ^^^ (a' ^^^ b' ^^^ c' ^^^ d') := by ac_rfl
theorem proc_four (r : W32) (a b c d : UInt8) : proc r [a, b, c, d] = sN 32 (r ^^^ word a b c d) := by
  rw [proc_cons, proc_cons, proc_cons, proc_cons, proc_nil]
  unfold bytein word
  have e1 : sN 8 (r ^^^ ext a) ^^^ ext b = sN 8 (r ^^^ ext a ^^^ ext b <<< 8) := by
    rw [sN_xor 8 (r ^^^ ext a), (sN_shl8 b).1]
  rw [e1, ← sN_add 8 8]
  have e2 : ∀ x, sN (8 + 8) x ^^^ ext c = sN 16 (x ^^^ ext c <<< 16) := by
    intro x
    rw [sN_xor 16 x, (sN_shl8 c).2.1]
  rw [e2, ← sN_add 16 8]
  have e3 : ∀ x, sN (16 + 8) x ^^^ ext d = sN 24 (x ^^^ ext d <<< 24) := by
    intro x
    rw [sN_xor 24 x, (sN_shl8 d).2.2]
  rw [e3, ← sN_add 24 8]
  show sN 32 _ = sN 32 _
  rw [ac5]

theorem word_le (w : W32) : word ⟨w.setWidth 8⟩ ⟨(w >>> 8).setWidth 8⟩ ⟨(w >>> 16).setWidth 8⟩ ⟨(w >>> 24).setWidth 8⟩ = w := by
  unfold word ext
  apply BitVec.eq_of_getLsbD_eq
  intro i hi
  simp only [BitVec.getLsbD_xor, BitVec.getLsbD_shiftLeft, BitVec.getLsbD_setWidth, BitVec.getLsbD_ushiftRight]
  by_cases h1 : i < 8
  · have a1 : i < 16 := by omega
    have a2 : i < 24 := by omega
    simp [hi, h1, a1, a2]
  · by_cases h2 : i < 16
    · have b1 : i - 8 < 32 := by omega
      have b2 : i - 8 < 8 := by omega
      have b3 : 8 + (i - 8) = i := by omega
      have a2 : i < 24 := by omega
      simp [hi, h1, h2, b1, b2, b3, a2]
    · by_cases h3 : i < 24
      · have b1 : i - 16 < 32 := by omega
        have b2 : i - 16 < 8 := by omega
        have b3 : 16 + (i - 16) = i := by omega
        have c1 : ¬ i - 8 < 8 := by omega
        simp [hi, h1, h2, h3, b1, b2, b3, c1]
      · have b1 : i - 24 < 32 := by omega
        have b2 : i - 24 < 8 := by omega
        have b3 : 24 + (i - 24) = i := by omega
        have c1 : ¬ i - 8 < 8 := by omega
        have c2 : ¬ i - 16 < 8 := by omega
        simp [hi, h1, h2, h3, b1, b2, b3, c1, c2]

theorem proc_le (r w : W32) : proc r (le w) = sN 32 (r ^^^ w) := by
  unfold le
  rw [proc_four, word_le]

theorem s1_inj0 (r : W32) (h : s1 r = 0#32) : r = 0#32 := by
  unfold s1 at h
  have h31 : (((r >>> 1) ^^^ (if r.getLsbD 0 then 0xedb88320#32 else 0#32)) : W32).getLsbD 31 = false := by rw [h]; simp
  rw [BitVec.getLsbD_xor, BitVec.getLsbD_ushiftRight] at h31
  cases hb : r.getLsbD 0
  · rw [hb] at h
    simp only [Bool.false_eq_true, if_false, BitVec.xor_zero] at h
    apply BitVec.eq_of_getLsbD_eq
    intro i hi
    rw [BitVec.getLsbD_zero]
    by_cases h0 : i = 0
    · subst h0; exact hb
    · have := congrArg (fun x : W32 => x.getLsbD (i - 1)) h
      simp only [BitVec.getLsbD_ushiftRight, BitVec.getLsbD_zero] at this
      rw [show 1 + (i - 1) = i from by omega] at this
      exact this
  · rw [hb] at h31
    simp at h31
theorem sN_inj0 (n : Nat) (r : W32) (h : sN n r = 0#32) : r = 0#32 := by
  induction n generalizing r with
  | zero => exact h
  | succ n ih => exact s1_inj0 r (ih _ h)
theorem xor_eq_zero {a b : W32} (h : a ^^^ b = 0#32) : a = b := by
  have := congrArg (· ^^^ b) h
  simpa [xx] using this
theorem sN_inj (n : Nat) (a b : W32) (h : sN n a = sN n b) : a = b := by
  apply xor_eq_zero
  apply sN_inj0 n
  rw [sN_xor, h, BitVec.xor_self]

/-- what was sealed: the four last bytes are the checksum of the others, just where the register comes to a fixed value -/
theorem sealed_iff (s : List UInt8) (w : W32) : proc all1 (s ++ le w) = sN 32 all1 ↔ w = crc s := by
  rw [proc_append, proc_le]
  have e : crc s = proc all1 s ^^^ all1 := by unfold crc extend; rw [BitVec.zero_xor]
  rw [e]
  constructor
  · intro h
    have := sN_inj 32 _ _ h
    have h2 : w = proc all1 s ^^^ (proc all1 s ^^^ w) := by rw [← BitVec.xor_assoc, BitVec.xor_self, BitVec.zero_xor]
    rw [h2, this]
  · intro h
    rw [h, ← BitVec.xor_assoc, BitVec.xor_self, BitVec.zero_xor]

theorem le_inj (w w' : W32) (h : le w = le w') : w = w' := by
  have h1 := proc_le 0#32 w
  rw [h, proc_le] at h1
  have := sN_inj 32 _ _ h1
  simpa using this.symm

theorem le_word (a b c d : UInt8) : le (word a b c d) = [a, b, c, d] := by
  have h : ∀ x y z t : UInt8, word x y z t = word a b c d → [x, y, z, t] = [a, b, c, d] := by
    intro x y z t h
    unfold word ext at h
    have hb : ∀ i, i < 32 → ((x.toBitVec.setWidth 32 ^^^ (y.toBitVec.setWidth 32 <<< 8) ^^^ (z.toBitVec.setWidth 32 <<< 16) ^^^ (t.toBitVec.setWidth 32 <<< 24) : W32).getLsbD i) =
      ((a.toBitVec.setWidth 32 ^^^ (b.toBitVec.setWidth 32 <<< 8) ^^^ (c.toBitVec.setWidth 32 <<< 16) ^^^ (d.toBitVec.setWidth 32 <<< 24) : W32).getLsbD i) := by
      intro i _; rw [h]
    simp only [BitVec.getLsbD_xor, BitVec.getLsbD_shiftLeft, BitVec.getLsbD_setWidth] at hb
    have hge : ∀ (u : UInt8) i, 8 ≤ i → u.toBitVec.getLsbD i = false := fun u i hi => BitVec.getLsbD_of_ge _ _ hi
    have e0 : x = a := by
      apply UInt8.toBitVec_inj.1
      apply BitVec.eq_of_getLsbD_eq
      intro i hi
      have := hb i (by omega)
      have a1 : i < 16 := by omega
      have a2 : i < 24 := by omega
      have a3 : i < 32 := by omega
      simpa [hi, a1, a2, a3] using this
    have e1 : y = b := by
      apply UInt8.toBitVec_inj.1
      apply BitVec.eq_of_getLsbD_eq
      intro i hi
      have := hb (i + 8) (by omega)
      have a1 : i + 8 < 16 := by omega
      have a2 : i + 8 < 24 := by omega
      have a3 : i + 8 < 32 := by omega
      have a4 : i < 32 := by omega
      have a5 : ¬ i + 8 < 8 := by omega
      simpa [hi, a1, a2, a3, a4, a5, hge _ (i + 8) (by omega)] using this
    have e2 : z = c := by
      apply UInt8.toBitVec_inj.1
      apply BitVec.eq_of_getLsbD_eq
      intro i hi
      have := hb (i + 16) (by omega)
      have a1 : ¬ i + 16 < 16 := by omega
      have a2 : i + 16 < 24 := by omega
      have a3 : i + 16 < 32 := by omega
      have a4 : i < 32 := by omega
      have a5 : i + 16 - 8 < 32 := by omega
      simpa [hi, a1, a2, a3, a4, a5, hge _ (i + 16) (by omega), hge _ (i + 16 - 8) (by omega)] using this
    have e3 : t = d := by
      apply UInt8.toBitVec_inj.1
      apply BitVec.eq_of_getLsbD_eq
      intro i hi
      have := hb (i + 24) (by omega)
      have a2 : ¬ i + 24 < 24 := by omega
      have a3 : i + 24 < 32 := by omega
      have a4 : i < 32 := by omega
      simpa [hi, a2, a3, a4, hge _ (i + 24) (by omega), hge _ (i + 24 - 8) (by omega), hge _ (i + 24 - 16) (by omega)] using this
    rw [e0, e1, e2, e3]
  exact h _ _ _ _ (word_le _)

theorem word_xor (a b c d a' b' c' d' : UInt8) : word (a ^^^ a') (b ^^^ b') (c ^^^ c') (d ^^^ d') = word a b c d ^^^ word a' b' c' d' := by
  unfold word
  rw [ext_xor, ext_xor, ext_xor, ext_xor, BitVec.shiftLeft_xor_distrib, BitVec.shiftLeft_xor_distrib, BitVec.shiftLeft_xor_distrib, ac8]
theorem word_zero (a b c d : UInt8) (h : word a b c d = 0#32) : a = 0 ∧ b = 0 ∧ c = 0 ∧ d = 0 := by
  have h1 := le_word a b c d
  rw [h] at h1
  have h2 : le 0#32 = [0, 0, 0, 0] := by decide
  rw [h2] at h1
  simp only [List.cons.injEq, and_true] at h1
  exact ⟨h1.1.symm, h1.2.1.symm, h1.2.2.1.symm, h1.2.2.2.symm⟩

/-- four bytes that stand beside one another turned: the register comes to the same just where none is turned -/
theorem turned (r : W32) (u v : List UInt8) (a b c d a' b' c' d' : UInt8) :
    proc r (u ++ [a ^^^ a', b ^^^ b', c ^^^ c', d ^^^ d'] ++ v) = proc r (u ++ [a, b, c, d] ++ v) ↔ (a' = 0 ∧ b' = 0 ∧ c' = 0 ∧ d' = 0) := by
  rw [proc_append, proc_append, proc_append, proc_append, proc_four, proc_four, word_xor]
  constructor
  · intro h
    rw [← BitVec.xor_assoc, sN_xor, proc_xor] at h
    have h2 : sN (8 * v.length) (sN 32 (word a' b' c' d')) = 0#32 := by
      have := congrArg (proc (sN 32 (proc r u ^^^ word a b c d)) v ^^^ ·) h
      simp only [← BitVec.xor_assoc, BitVec.xor_self, BitVec.zero_xor] at this
      exact this
    exact word_zero _ _ _ _ (sN_inj0 _ _ (sN_inj0 _ _ h2))
  · rintro ⟨rfl, rfl, rfl, rfl⟩
    have : word 0 0 0 0 = 0#32 := by decide
    rw [this, BitVec.xor_zero]

end Go.Proofs.Ytdjdoanlancplaa
