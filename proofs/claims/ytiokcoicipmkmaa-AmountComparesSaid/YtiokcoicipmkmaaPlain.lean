/- PLAIN MATHEMATICS OF AMOUNTS, RATES AND CURVES (no program in sight). -/
namespace Go.Proofs.Ytiokcoicipmkmaa

/-! ### amounts -/
def goodA (a : Int) : Bool := decide (0 ≤ a ∧ a ≤ 2100000000000000)
def sizedA (s : Int) : Bool := decide (0 < s ∧ s ≤ 1000000)
def pricedA (f s : Int) : Bool := goodA f && sizedA s
def sgn3 (x y : Int) : Int := if x < y then -1 else if y < x then 1 else 0
def cmpA (f s o i : Int) : Int := if pricedA f s && pricedA o i then sgn3 (f * i) (o * s) else 0
def feeOk (r s : Int) : Bool := decide ((0 ≤ r ∧ r ≤ 100000000) ∧ (0 ≤ s ∧ s ≤ 1000000))
def feeA (r s : Int) : Int := if feeOk r s then (r * s + 999) / 1000 else 0
def errA (b : Bool) : Int := if b then 0 else 3
def rateA (f s : Int) : Int := if pricedA f s then f * 1000 / s else 0
def addOk (a b : Int) : Bool := goodA a && goodA b && goodA (a + b)
def addA (a b : Int) : Int := if addOk a b then a + b else 0
def subOk (a b : Int) : Bool := goodA a && goodA b && decide (b ≤ a)
def subA (a b : Int) : Int := if subOk a b then a - b else 0
/-- the sum so far, and whether all went well -/
def sumFrom : Int → List Int → Option Int
  | s, [] => some s
  | s, x :: l => if addOk s x then sumFrom (s + x) l else none
def sumA (l : List Int) : Option Int := sumFrom 0 l

theorem mul_bound {a b A B : Int} (h0 : 0 ≤ a) (h1 : a ≤ A) (h2 : 0 ≤ b) (h3 : b ≤ B) : 0 ≤ a * b ∧ a * b ≤ A * B :=
  ⟨Int.mul_nonneg h0 h2, Int.mul_le_mul h1 h3 h2 (by omega)⟩

theorem sgn3_turn (x y : Int) : sgn3 y x = - sgn3 x y := by unfold sgn3; split <;> split <;> (try split) <;> omega
theorem cmpA_turn (f s o i : Int) : cmpA o i f s = - cmpA f s o i := by
  unfold cmpA
  rw [Bool.and_comm]
  split
  · exact sgn3_turn _ _
  · rfl

/-- the document's comparison, by parts of a product -/
theorem parts_eq (a b : Int) :
    a / 1000000 * b + a % 1000000 * b / 1000000 = a * b / 1000000 ∧ a % 1000000 * b % 1000000 = a * b % 1000000 := by
  have h : a * b = a % 1000000 * b + 1000000 * (a / 1000000 * b) := by
    have : a = a % 1000000 + 1000000 * (a / 1000000) := by omega
    calc a * b = (a % 1000000 + 1000000 * (a / 1000000)) * b := by rw [← this]
      _ = _ := by rw [Int.add_mul, Int.mul_assoc]
  generalize a % 1000000 * b = z at *
  generalize a / 1000000 * b = y at *
  rw [h]
  omega

theorem lex_div (p q n : Int) (hn : 0 < n) : (p / n < q / n ∨ p / n = q / n ∧ p % n < q % n) ↔ p < q := by
  have hp := Int.emod_add_mul_ediv p n
  have hq := Int.emod_add_mul_ediv q n
  have hp0 := Int.emod_nonneg p (by omega : n ≠ 0)
  have hq0 := Int.emod_nonneg q (by omega : n ≠ 0)
  have hp1 := Int.emod_lt_of_pos p hn
  have hq1 := Int.emod_lt_of_pos q hn
  constructor
  · rintro (h | ⟨h, h'⟩)
    · have : n * (p / n + 1) ≤ n * (q / n) := Int.mul_le_mul_of_nonneg_left (by omega) (by omega)
      rw [Int.mul_add] at this
      omega
    · rw [h] at hp
      omega
  · intro h
    by_cases h1 : p / n < q / n
    · exact .inl h1
    · right
      by_cases h2 : p / n = q / n
      · refine ⟨h2, ?_⟩
        rw [h2] at hp
        omega
      · have : n * (q / n + 1) ≤ n * (p / n) := Int.mul_le_mul_of_nonneg_left (by omega) (by omega)
        rw [Int.mul_add] at this
        omega

theorem cmp_trans {a b c d f g : Int} (hb : 0 < b) (hd : 0 < d) (hg : 0 < g) (h1 : a * d ≤ c * b) (h2 : c * g ≤ f * d) : a * g ≤ f * b := by
  have e1 : (a * g) * d = (a * d) * g := by rw [Int.mul_assoc, Int.mul_comm g d, ← Int.mul_assoc]
  have e2 : (c * b) * g = (c * g) * b := by rw [Int.mul_assoc, Int.mul_comm b g, ← Int.mul_assoc]
  have e3 : (f * d) * b = (f * b) * d := by rw [Int.mul_assoc, Int.mul_comm d b, ← Int.mul_assoc]
  have i1 : (a * d) * g ≤ (c * b) * g := Int.mul_le_mul_of_nonneg_right h1 (by omega)
  have i2 : (c * g) * b ≤ (f * d) * b := Int.mul_le_mul_of_nonneg_right h2 (by omega)
  have : (a * g) * d ≤ (f * b) * d := by rw [e1, ← e3]; rw [e2] at i1; omega
  exact Int.le_of_mul_le_mul_right this hd

/-! ### a quotient, rounded up -/
def upQ (a b : Int) : Int := (a + b - 1) / b
theorem upQ_ge {a b : Int} (hb : 0 < b) : a ≤ b * upQ a b := by
  unfold upQ
  have h := Int.emod_add_mul_ediv (a + b - 1) b
  have h1 := Int.emod_lt_of_pos (a + b - 1) hb
  omega
theorem upQ_lt {a b : Int} (hb : 0 < b) : b * upQ a b < a + b := by
  unfold upQ
  have h := Int.emod_add_mul_ediv (a + b - 1) b
  have h1 := Int.emod_nonneg (a + b - 1) (by omega : b ≠ 0)
  omega
theorem upQ_is {a b q : Int} (hb : 0 < b) (h1 : a ≤ b * q) (h2 : b * q < a + b) : upQ a b = q := by
  have g1 := upQ_ge (a := a) hb
  have g2 := upQ_lt (a := a) hb
  generalize upQ a b = p at *
  have i1 : b * p < b * (q + 1) := by rw [Int.mul_add]; omega
  have i2 : b * q < b * (p + 1) := by rw [Int.mul_add]; omega
  have j1 := Int.lt_of_mul_lt_mul_left i1 (by omega)
  have j2 := Int.lt_of_mul_lt_mul_left i2 (by omega)
  omega
theorem upQ_mono {a c b : Int} (hb : 0 < b) (h : a ≤ c) : upQ a b ≤ upQ c b := Int.ediv_le_ediv hb (by omega)

/-- the document's rounding up: the quotient, and one more where something is left -/
theorem upQ_doc {n d : Int} (hd : 0 < d) : (if n / d * d < n then n / d + 1 else n / d) = upQ n d := by
  have h := Int.emod_add_mul_ediv n d
  have h0 := Int.emod_nonneg n (by omega : d ≠ 0)
  have h1 := Int.emod_lt_of_pos n hd
  rw [Int.mul_comm (n / d) d]
  symm
  split
  · exact upQ_is hd (by rw [Int.mul_add]; omega) (by rw [Int.mul_add]; omega)
  · exact upQ_is hd (by omega) (by omega)

/-! ### curves -/
structure Cv where
  s : Int
  e : Int
  f : Int
  c : Int
def Cv.good (x : Cv) : Bool := decide (0 ≤ x.s ∧ x.s ≤ x.e ∧ x.e ≤ 1000000 ∧ 0 ≤ x.f ∧ x.f ≤ x.c ∧ x.c ≤ 100000000)
def Cv.rate (x : Cv) (h : Int) : Int := if x.e ≤ h then x.c else if h ≤ x.s then x.f else x.f + upQ ((x.c - x.f) * (h - x.s)) (x.e - x.s)
/-- the error of a rate -/
def Cv.err (x : Cv) (h : Int) : Int := if x.good then (if 0 ≤ h ∧ h ≤ 1000000 then 0 else 3) else 2
def Cv.val (x : Cv) (h : Int) : Int := if x.good && decide (0 ≤ h ∧ h ≤ 1000000) then x.rate h else 0

theorem Cv.good_all {x : Cv} (h : x.good = true) : 0 ≤ x.s ∧ x.s ≤ x.e ∧ x.e ≤ 1000000 ∧ 0 ≤ x.f ∧ x.f ≤ x.c ∧ x.c ≤ 100000000 := by simpa [Cv.good] using h

theorem upQ_zero {b : Int} (hb : 0 < b) : upQ 0 b = 0 := upQ_is hb (by omega) (by omega)
theorem upQ_mul {a b : Int} (hb : 0 < b) : upQ (a * b) b = a := upQ_is hb (by rw [Int.mul_comm]; omega) (by rw [Int.mul_comm]; omega)

/-- one formula from Start to End, where these are not one -/
theorem Cv.rate_in {x : Cv} (hse : x.s < x.e) {h : Int} (h0 : x.s ≤ h) (h1 : h ≤ x.e) : x.rate h = x.f + upQ ((x.c - x.f) * (h - x.s)) (x.e - x.s) := by
  unfold Cv.rate
  split
  · have : h = x.e := by omega
    subst this
    rw [upQ_mul (by omega)]; omega
  · split
    · have : h = x.s := by omega
      subst this
      rw [show x.s - x.s = 0 from by omega, Int.mul_zero, upQ_zero (by omega)]; omega
    · rfl

theorem Cv.rate_bounds {x : Cv} (hg : x.good = true) (h : Int) : x.f ≤ x.rate h ∧ x.rate h ≤ x.c := by
  obtain ⟨a1, a2, a3, a4, a5, a6⟩ := Cv.good_all hg
  unfold Cv.rate
  split
  · omega
  · split
    · omega
    · rename_i g1 g2
      have hb : 0 < x.e - x.s := by omega
      have p0 : 0 ≤ (x.c - x.f) * (h - x.s) := Int.mul_nonneg (by omega) (by omega)
      have p1 : (x.c - x.f) * (h - x.s) ≤ (x.c - x.f) * (x.e - x.s) := Int.mul_le_mul_of_nonneg_left (by omega) (by omega)
      have q0 := upQ_mono hb p0
      have q1 := upQ_mono hb p1
      rw [upQ_zero hb] at q0
      rw [upQ_mul hb] at q1
      omega

theorem Cv.rate_mono {x : Cv} (hg : x.good = true) {h k : Int} (hk : h ≤ k) : x.rate h ≤ x.rate k := by
  obtain ⟨a1, a2, a3, a4, a5, a6⟩ := Cv.good_all hg
  by_cases h1 : x.e ≤ k
  · have : x.rate k = x.c := by unfold Cv.rate; rw [if_pos h1]
    rw [this]; exact (Cv.rate_bounds hg h).2
  · by_cases h2 : h ≤ x.s
    · have : x.rate h = x.f := by unfold Cv.rate; rw [if_neg (by omega), if_pos h2]
      rw [this]; exact (Cv.rate_bounds hg k).1
    · rw [Cv.rate_in (by omega) (by omega) (by omega), Cv.rate_in (by omega) (by omega) (by omega)]
      have p : (x.c - x.f) * (h - x.s) ≤ (x.c - x.f) * (k - x.s) := Int.mul_le_mul_of_nonneg_left (by omega) (by omega)
      have := upQ_mono (by omega : 0 < x.e - x.s) p
      omega

theorem Cv.rate_even {x : Cv} (hg : x.good = true) {h : Int} (h0 : x.s ≤ h) (h1 : h + 2 ≤ x.e) :
    x.rate (h + 2) - x.rate (h + 1) - (x.rate (h + 1) - x.rate h) ≤ 1 ∧ x.rate (h + 1) - x.rate h - (x.rate (h + 2) - x.rate (h + 1)) ≤ 1 := by
  obtain ⟨a1, a2, a3, a4, a5, a6⟩ := Cv.good_all hg
  rw [Cv.rate_in (by omega) (by omega) (by omega), Cv.rate_in (by omega) (by omega) (by omega), Cv.rate_in (by omega) (by omega) (by omega)]
  have hb : 0 < x.e - x.s := by omega
  have e1 : (x.c - x.f) * (h + 1 - x.s) = (x.c - x.f) * (h - x.s) + (x.c - x.f) := by
    rw [show h + 1 - x.s = (h - x.s) + 1 from by omega, Int.mul_add, Int.mul_one]
  have e2 : (x.c - x.f) * (h + 2 - x.s) = (x.c - x.f) * (h - x.s) + 2 * (x.c - x.f) := by
    rw [show h + 2 - x.s = (h - x.s) + 2 from by omega, Int.mul_add]; omega
  rw [e1, e2]
  generalize (x.c - x.f) * (h - x.s) = A
  generalize x.c - x.f = D
  generalize x.e - x.s = m at *
  have u1 := upQ_ge (a := A) hb
  have u2 := upQ_lt (a := A) hb
  have v1 := upQ_ge (a := A + D) hb
  have v2 := upQ_lt (a := A + D) hb
  have w1 := upQ_ge (a := A + 2 * D) hb
  have w2 := upQ_lt (a := A + 2 * D) hb
  generalize upQ A m = p at *
  generalize upQ (A + D) m = q at *
  generalize upQ (A + 2 * D) m = r at *
  have g1 : m * (r - q - (q - p)) < m * 2 := by
    rw [Int.mul_sub, Int.mul_sub, Int.mul_sub]; omega
  have g2 : m * (q - p - (r - q)) < m * 2 := by
    rw [Int.mul_sub, Int.mul_sub, Int.mul_sub]; omega
  have k1 := Int.lt_of_mul_lt_mul_left g1 (by omega)
  have k2 := Int.lt_of_mul_lt_mul_left g2 (by omega)
  omega

theorem Cv.rate_shift (x : Cv) (k h : Int) : (Cv.mk (x.s + k) (x.e + k) x.f x.c).rate (h + k) = x.rate h := by
  unfold Cv.rate
  simp only
  rw [show h + k - (x.s + k) = h - x.s from by omega, show x.e + k - (x.s + k) = x.e - x.s from by omega]
  by_cases h1 : x.e ≤ h
  · rw [if_pos h1, if_pos (by omega)]
  · rw [if_neg h1, if_neg (by omega)]
    by_cases h2 : h ≤ x.s
    · rw [if_pos h2, if_pos (by omega)]
    · rw [if_neg h2, if_neg (by omega)]

theorem Cv.rate_up (x : Cv) (u h : Int) : (Cv.mk x.s x.e (x.f + u) (x.c + u)).rate h = x.rate h + u := by
  unfold Cv.rate
  simp only
  rw [show x.c + u - (x.f + u) = x.c - x.f from by omega]
  split
  · rfl
  · split
    · rfl
    · omega

end Go.Proofs.Ytiokcoicipmkmaa
