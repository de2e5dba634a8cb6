/- SHA-256 as plain functions on lists and natural numbers; no program in sight. -/
namespace Go.Proofs.YtdfeiajdmmlllaaDoor.Sha

def rotr (x n : Nat) : Nat := (x * 2 ^ (32 - n)) % 4294967296 ||| x / 2 ^ n
/-- a word turned right by several numbers, joined -/
def turned (x : Nat) (ns : List Nat) : Nat := ns.foldl (fun o n => o ^^^ rotr x n) 0
theorem rotr_lt (x n : Nat) (hx : x < 4294967296) : rotr x n < 4294967296 := by
  unfold rotr
  exact Nat.or_lt_two_pow (n := 32) (Nat.mod_lt _ (by omega)) (Nat.lt_of_le_of_lt (Nat.div_le_self _ _) hx)
theorem turned_lt (x : Nat) (ns : List Nat) (hx : x < 4294967296) : turned x ns < 4294967296 := by
  unfold turned
  suffices ∀ o, o < 4294967296 → ns.foldl (fun o n => o ^^^ rotr x n) o < 4294967296 from this 0 (by omega)
  induction ns with
  | nil => intro o h; simpa using h
  | cons n ns ih => intro o h; exact ih _ (Nat.xor_lt_two_pow (n := 32) h (rotr_lt x n hx))
theorem turned_snoc (x : Nat) (ns : List Nat) (n : Nat) : turned x (ns ++ [n]) = turned x ns ^^^ rotr x n := by
  simp [turned]

/-- the word that some bytes spell, the highest first -/
def spell (l : List UInt8) : Nat := l.foldl (fun o b => o * 256 + b.toNat) 0
theorem spell_snoc (l : List UInt8) (b : UInt8) : spell (l ++ [b]) = spell l * 256 + b.toNat := by simp [spell]
theorem spell_lt (l : List UInt8) : spell l < 256 ^ l.length := by
  suffices h : ∀ (l : List UInt8) (o : Nat), l.foldl (fun o b => o * 256 + b.toNat) o < (o + 1) * 256 ^ l.length by
    simpa [spell] using h l 0
  intro l
  induction l with
  | nil => intro o; simp
  | cons b l ih =>
    intro o
    refine Nat.lt_of_lt_of_le (ih _) ?_
    rw [List.length_cons, Nat.pow_succ, Nat.mul_comm (256 ^ l.length) 256, ← Nat.mul_assoc]
    refine Nat.mul_le_mul_right _ ?_
    have := b.toNat_lt
    show o * 256 + b.toNat + 1 ≤ _
    omega
def word (blk : List UInt8) (t : Nat) : Nat := spell ((blk.drop (4 * t)).take 4)
theorem word_lt (blk : List UInt8) (t : Nat) : word blk t < 4294967296 := by
  have h := spell_lt ((blk.drop (4 * t)).take 4)
  have h2 : ((blk.drop (4 * t)).take 4).length ≤ 4 := List.length_take_le _ _
  have h3 : (256 : Nat) ^ ((blk.drop (4 * t)).take 4).length ≤ 256 ^ 4 := Nat.pow_le_pow_right (by omega) h2
  exact Nat.lt_of_lt_of_le h h3
def first (blk : List UInt8) (n : Nat) : List Nat := (List.range n).map (word blk)

/-- the next word of a schedule -/
def next (ws : List Nat) : Nat :=
  let t := ws.length
  (((((turned (ws.getD (t - 2) 0) [17, 19] ^^^ ws.getD (t - 2) 0 / 1024) + ws.getD (t - 7) 0) % 4294967296)
    + (turned (ws.getD (t - 15) 0) [7, 18] ^^^ ws.getD (t - 15) 0 / 8)) % 4294967296 + ws.getD (t - 16) 0) % 4294967296
def grow : Nat → List Nat → List Nat
  | 0, ws => ws
  | n + 1, ws => grow n (ws ++ [next ws])
theorem grow_succ (n : Nat) : ∀ ws, grow (n + 1) ws = grow n ws ++ [next (grow n ws)] := by
  induction n with
  | zero => intro ws; rfl
  | succ n ih => intro ws; rw [grow, ih, grow]
theorem grow_length (n : Nat) : ∀ ws, (grow n ws).length = ws.length + n := by
  induction n with
  | zero => intro ws; rfl
  | succ n ih => intro ws; rw [grow, ih]; simp; omega
theorem next_lt (ws : List Nat) : next ws < 4294967296 := Nat.mod_lt _ (by omega)
theorem grow_lt (n : Nat) : ∀ ws, (∀ x ∈ ws, x < 4294967296) → ∀ x ∈ grow n ws, x < 4294967296 := by
  induction n with
  | zero => intro ws h; exact h
  | succ n ih =>
    intro ws h
    refine ih _ ?_
    intro x hx
    rcases List.mem_append.1 hx with hx | hx
    · exact h x hx
    · simp at hx; subst hx; exact next_lt ws
/-- the words of a block's rounds -/
def schedule (blk : List UInt8) : List Nat := grow 48 (first blk 16)
theorem first_length (blk : List UInt8) (n : Nat) : (first blk n).length = n := by simp [first]
theorem schedule_length (blk : List UInt8) : (schedule blk).length = 64 := by rw [schedule, grow_length, first_length]
theorem first_lt (blk : List UInt8) (n : Nat) : ∀ x ∈ first blk n, x < 4294967296 := by
  intro x hx
  simp only [first, List.mem_map] at hx
  obtain ⟨t, _, rfl⟩ := hx
  exact word_lt blk t
theorem schedule_lt (blk : List UInt8) : ∀ x ∈ schedule blk, x < 4294967296 := grow_lt _ _ (first_lt _ _)
theorem first_zero (blk : List UInt8) : first blk 0 = [] := rfl
theorem first_succ (blk : List UInt8) (n : Nat) : first blk (n + 1) = first blk n ++ [word blk n] := by
  simp [first, List.range_succ]

def words : List Nat := [
  0x428a2f98, 0x71374491, 0xb5c0fbcf, 0xe9b5dba5, 0x3956c25b, 0x59f111f1, 0x923f82a4, 0xab1c5ed5,
  0xd807aa98, 0x12835b01, 0x243185be, 0x550c7dc3, 0x72be5d74, 0x80deb1fe, 0x9bdc06a7, 0xc19bf174,
  0xe49b69c1, 0xefbe4786, 0x0fc19dc6, 0x240ca1cc, 0x2de92c6f, 0x4a7484aa, 0x5cb0a9dc, 0x76f988da,
  0x983e5152, 0xa831c66d, 0xb00327c8, 0xbf597fc7, 0xc6e00bf3, 0xd5a79147, 0x06ca6351, 0x14292967,
  0x27b70a85, 0x2e1b2138, 0x4d2c6dfc, 0x53380d13, 0x650a7354, 0x766a0abb, 0x81c2c92e, 0x92722c85,
  0xa2bfe8a1, 0xa81a664b, 0xc24b8b70, 0xc76c51a3, 0xd192e819, 0xd6990624, 0xf40e3585, 0x106aa070,
  0x19a4c116, 0x1e376c08, 0x2748774c, 0x34b0bcb5, 0x391c0cb3, 0x4ed8aa4a, 0x5b9cca4f, 0x682e6ff3,
  0x748f82ee, 0x78a5636f, 0x84c87814, 0x8cc70208, 0x90befffa, 0xa4506ceb, 0xbef9a3f7, 0xc67178f2]

/-- eight words -/
structure St where
  a : Nat
  b : Nat
  c : Nat
  d : Nat
  e : Nat
  f : Nat
  g : Nat
  h : Nat
def St.list (s : St) : List Nat := [s.a, s.b, s.c, s.d, s.e, s.f, s.g, s.h]
structure St.Ok (s : St) : Prop where
  a : s.a < 4294967296
  b : s.b < 4294967296
  c : s.c < 4294967296
  d : s.d < 4294967296
  e : s.e < 4294967296
  f : s.f < 4294967296
  g : s.g < 4294967296
  h : s.h < 4294967296
def begun : St := ⟨0x6a09e667, 0xbb67ae85, 0x3c6ef372, 0xa54ff53a, 0x510e527f, 0x9b05688c, 0x1f83d9ab, 0x5be0cd19⟩
theorem begun_ok : begun.Ok := by constructor <;> decide

def t1 (s : St) (k w : Nat) : Nat :=
  ((((s.h + turned s.e [6, 11, 25]) % 4294967296 + (s.e &&& s.f ^^^ (4294967295 - s.e) &&& s.g)) % 4294967296 + k) % 4294967296 + w) % 4294967296
def t2 (s : St) : Nat := (turned s.a [2, 13, 22] + (s.a &&& s.b ^^^ s.a &&& s.c ^^^ s.b &&& s.c)) % 4294967296
def step (s : St) (k w : Nat) : St :=
  ⟨(t1 s k w + t2 s) % 4294967296, s.a, s.b, s.c, (s.d + t1 s k w) % 4294967296, s.e, s.f, s.g⟩
theorem step_ok (s : St) (k w : Nat) (h : s.Ok) : (step s k w).Ok :=
  ⟨Nat.mod_lt _ (by omega), h.a, h.b, h.c, Nat.mod_lt _ (by omega), h.e, h.f, h.g⟩
/-- the state behind so many rounds -/
def rounds (s : St) : List (Nat × Nat) → St
  | [] => s
  | (k, w) :: r => rounds (step s k w) r
theorem rounds_snoc (l : List (Nat × Nat)) : ∀ (s : St) (k w : Nat), rounds s (l ++ [(k, w)]) = step (rounds s l) k w := by
  induction l with
  | nil => intro s k w; rfl
  | cons x l ih => intro s k w; exact ih _ _ _
theorem rounds_ok (l : List (Nat × Nat)) : ∀ (s : St), s.Ok → (rounds s l).Ok := by
  induction l with
  | nil => intro s h; exact h
  | cons x l ih => intro s h; exact ih _ (step_ok _ _ _ h)
def sum (s v : St) : St :=
  ⟨(s.a + v.a) % 4294967296, (s.b + v.b) % 4294967296, (s.c + v.c) % 4294967296, (s.d + v.d) % 4294967296,
   (s.e + v.e) % 4294967296, (s.f + v.f) % 4294967296, (s.g + v.g) % 4294967296, (s.h + v.h) % 4294967296⟩
theorem sum_ok (s v : St) : (sum s v).Ok := by constructor <;> exact Nat.mod_lt _ (by omega)
/-- the state behind a block -/
def mix (s : St) (blk : List UInt8) : St := sum s (rounds s (words.zip (schedule blk)))

/-- the state behind all whole blocks, and what is left -/
def absorb : Nat → St → List UInt8 → St × List UInt8
  | 0, s, l => (s, l)
  | n + 1, s, l => if 64 ≤ l.length then absorb n (mix s (l.take 64)) (l.drop 64) else (s, l)
def run (s : St) (l : List UInt8) : St × List UInt8 := absorb l.length s l

/-- the bytes of a number, so many, the highest first -/
def bytes : Nat → Nat → List UInt8
  | 0, _ => []
  | k + 1, n => UInt8.ofNat (n / 256 ^ k % 256) :: bytes k n
def digest (s : St) : List UInt8 := s.list.flatMap (bytes 4)
/-- what comes behind a text of n bytes -/
def pad (n : Nat) : List UInt8 := 128 :: List.replicate ((119 - n % 64) % 64) 0 ++ bytes 8 (8 * n % 18446744073709551616)
def sha (l : List UInt8) : List UInt8 := digest (run begun (l ++ pad l.length)).1
end Go.Proofs.YtdfeiajdmmlllaaDoor.Sha
