/- PLAIN MATHEMATICS OF NUMBERS IN BYTES (no program in sight). -/
namespace Go.Proofs.Ytgklmjallmbdgaa

/-- THE NUMBER THAT A ROW OF BYTES SPELLS, the least byte first -/
def leN : List UInt8 → Nat
  | [] => 0
  | b :: r => b.toNat + 256 * leN r
/-- THE k LEAST BYTES OF v, the least first -/
def leB : Nat → Nat → List UInt8
  | 0, _ => []
  | k + 1, v => (v % 256).toUInt8 :: leB k (v / 256)

theorem toUInt8_mod (x : Nat) : ((x % 256).toUInt8).toNat = x % 256 := by simp [Nat.toUInt8, UInt8.toNat_ofNat']
theorem leB_length : ∀ (k v : Nat), (leB k v).length = k
  | 0, _ => rfl
  | k + 1, v => by simp [leB, leB_length k]

theorem leN_append : ∀ (l r : List UInt8), leN (l ++ r) = leN l + 256 ^ l.length * leN r
  | [], r => by simp [leN]
  | b :: l, r => by
    simp only [List.cons_append, leN, leN_append l r, List.length_cons, Nat.pow_succ]
    rw [Nat.mul_add, ← Nat.mul_assoc, Nat.mul_comm 256 (256 ^ l.length), Nat.add_assoc]

theorem leN_lt : ∀ (l : List UInt8), leN l < 256 ^ l.length
  | [] => by simp [leN]
  | b :: l => by
    have h := leN_lt l
    have hb := b.toNat_lt
    simp only [leN, List.length_cons, Nat.pow_succ]
    omega

theorem leB_leN : ∀ (l : List UInt8), leB l.length (leN l) = l
  | [] => rfl
  | b :: l => by
    have hb := b.toNat_lt
    simp only [List.length_cons, leB, leN]
    have h1 : (b.toNat + 256 * leN l) % 256 = b.toNat := by omega
    have h2 : (b.toNat + 256 * leN l) / 256 = leN l := by omega
    rw [h1, h2, leB_leN l]
    simp [Nat.toUInt8]

theorem leN_leB_mod : ∀ (k v : Nat), leN (leB k v) = v % 256 ^ k
  | 0, v => by simp [leB, leN, Nat.mod_one]
  | k + 1, v => by
    simp only [leB, leN, leN_leB_mod k _, toUInt8_mod]
    rw [Nat.pow_succ, Nat.mul_comm (256 ^ k) 256, Nat.mod_mul]

theorem leB_add : ∀ (a b v : Nat), leB (a + b) v = leB a v ++ leB b (v / 256 ^ a)
  | 0, b, v => by simp [leB]
  | a + 1, b, v => by
    rw [show a + 1 + b = (a + b) + 1 from by omega]
    simp only [leB, leB_add a b, List.cons_append]
    rw [Nat.div_div_eq_div_mul, Nat.pow_succ, Nat.mul_comm 256 (256 ^ a)]

theorem leB_succ (k v : Nat) : leB (k + 1) v = leB k v ++ [(v / 256 ^ k % 256).toUInt8] := by
  rw [leB_add k 1 v]; rfl

theorem leB_mod : ∀ (k v : Nat), leB k (v % 256 ^ k) = leB k v
  | 0, v => rfl
  | k + 1, v => by
    simp only [leB]
    rw [Nat.pow_succ, Nat.mul_comm (256 ^ k) 256, Nat.mod_mul]
    have h1 : (v % 256 + 256 * (v / 256 % 256 ^ k)) % 256 = v % 256 := by omega
    have h2 : (v % 256 + 256 * (v / 256 % 256 ^ k)) / 256 = v / 256 % 256 ^ k := by omega
    rw [h1, h2, leB_mod k]

/-- is it one of the sizes? -/
def known (k : Int) : Bool := decide (k = 1 ∨ k = 2 ∨ k = 4 ∨ k = 8)

theorem known_cases {k : Int} (h : known k = true) : k = 1 ∨ k = 2 ∨ k = 4 ∨ k = 8 := by simpa [known] using h
theorem known_not {k : Int} (h : known k = false) : k ≠ 1 ∧ k ≠ 2 ∧ k ≠ 4 ∧ k ≠ 8 := by simpa [known] using h

/-- the bytes of a number in a size -/
def putL (n : Nat) (k : Int) : List UInt8 := if known k then leB k.toNat n else []
def putB (n : Nat) (k : Int) : ByteArray := ⟨(putL n k).toArray⟩

/-- the k bytes of a text from a place on -/
def cut (s : ByteArray) (i k : Nat) : List UInt8 := (s.data.toList.drop i).take k
/-- is there a number of that size at that place? -/
def there (s : ByteArray) (at_ k : Int) : Bool := known k && decide (0 ≤ at_ ∧ at_ ≤ (s.size : Int) - k)
def getN (s : ByteArray) (at_ k : Int) : Nat := if there s at_ k then leN (cut s at_.toNat k.toNat) else 0

end Go.Proofs.Ytgklmjallmbdgaa
