/- PLAIN MATHEMATICS OF NUMBERS IN ONE, THREE, FIVE OR NINE BYTES (no program in sight). Conditions: the numbers are of 64 bits. -/
import Derived.Test.YtgklmjallmbdgaaOct7
namespace Go.Proofs.Ytgklmjallmbdgaa
open Go.RowKit

/-- how many bytes stand behind the first one of a number's bytes -/
def vk (n : Nat) : Nat := if n < 253 then 0 else if n < 65536 then 2 else if n < 4294967296 then 4 else 8
/-- the first byte -/
def vh (n : Nat) : Nat := if n < 253 then n else if n < 65536 then 253 else if n < 4294967296 then 254 else 255
/-- how many bytes stand behind a first byte -/
def fk (b : Nat) : Nat := if b = 255 then 8 else if b = 254 then 4 else if b = 253 then 2 else 0
def vL (n : Nat) : List UInt8 := (vh n).toUInt8 :: leB (vk n) n
def vPut (n : Nat) : ByteArray := ⟨(vL n).toArray⟩

theorem vk_cases (n : Nat) : vk n = 0 ∨ vk n = 2 ∨ vk n = 4 ∨ vk n = 8 := by unfold vk; split; simp; split; simp; split <;> simp
theorem fk_cases (b : Nat) : fk b = 0 ∨ fk b = 2 ∨ fk b = 4 ∨ fk b = 8 := by unfold fk; split; simp; split; simp; split <;> simp
theorem vh_lt (n : Nat) : vh n < 256 := by unfold vh; split; omega; split; omega; split <;> omega
theorem fk_vh (n : Nat) : fk (vh n) = vk n := by
  unfold vk vh fk
  split
  · rw [if_neg (by omega), if_neg (by omega), if_neg (by omega)]
  · split
    · rfl
    · split <;> rfl
theorem vk_mono {a b : Nat} (h : a ≤ b) : vk a ≤ vk b := by unfold vk; split <;> split <;> (try split) <;> (try split) <;> (try split) <;> (try split) <;> omega
theorem vh_small {n : Nat} (h : vk n = 0) : vh n = n ∧ n < 253 := by
  have : n < 253 := by unfold vk at h; split at h; assumption; split at h; omega; split at h <;> omega
  unfold vh; rw [if_pos this]; exact ⟨rfl, this⟩
theorem vL_length (n : Nat) : (vL n).length = 1 + vk n := by simp [vL, leB_length]; omega
theorem vPut_size (n : Nat) : (vPut n).size = 1 + vk n := by
  show (vL n).toArray.size = _
  simp [vL_length]
theorem vPut_data (n : Nat) : (vPut n).data.toList = vL n := by simp [vPut]
theorem vk_lt {n : Nat} (hn : n < 18446744073709551616) (hk : 0 < vk n) : n < 256 ^ vk n := by
  unfold vk at *
  split at hk
  · omega
  · rename_i h1
    rw [if_neg h1]
    split
    · simpa using by assumption
    · split
      · simpa using by assumption
      · simpa using hn
theorem vk_known {n : Nat} (hk : 0 < vk n) : known (vk n) = true := by
  have := vk_cases n
  simp [known]; omega
theorem fk_known {b : Nat} (hk : 0 < fk b) : known (fk b) = true := by
  have := fk_cases b
  simp [known]; omega
theorem toU8_inj {a b : Nat} (ha : a < 256) (hb : b < 256) (h : a.toUInt8 = b.toUInt8) : a = b := by
  have h2 := congrArg UInt8.toNat h
  simp [Nat.toUInt8, UInt8.toNat_ofNat'] at h2
  omega
theorem vh_same {m n : Nat} (h : vh m = vh n) : vk m = vk n := by rw [← fk_vh, ← fk_vh, h]
theorem vL_head {m n : Nat} {l r : List UInt8} (h : vL m ++ l = vL n ++ r) : vh m = vh n := by
  simp only [vL, List.cons_append, List.cons.injEq] at h
  exact toU8_inj (vh_lt m) (vh_lt n) h.1
theorem vL_inj {m n : Nat} (hm : m < 18446744073709551616) (hn : n < 18446744073709551616) {l r : List UInt8} (h : vL m ++ l = vL n ++ r) : m = n := by
  have h1 := vL_head h
  have h2 := vh_same h1
  by_cases h0 : vk n = 0
  · have e1 := (vh_small h0).1
    have e2 := (vh_small (h2.trans h0)).1
    omega
  · simp only [vL, List.cons_append, List.cons.injEq, h2] at h
    have h3 : leB (vk n) m = leB (vk n) n := (List.append_inj h.2 (by simp [leB_length])).1
    have h4 := congrArg leN h3
    rw [leN_leB_mod, leN_leB_mod, Nat.mod_eq_of_lt (vk_lt hn (by omega)), Nat.mod_eq_of_lt] at h4
    · exact h4
    · rw [← h2]; exact vk_lt hm (by omega)
theorem vPut_inj {m n : Nat} (hm : m < 18446744073709551616) (hn : n < 18446744073709551616) (h : vPut m = vPut n) : m = n := by
  have h2 := congrArg (fun b : ByteArray => b.data.toList) h
  simp only [vPut_data] at h2
  exact vL_inj (l := []) (r := []) hm hn (by simpa using h2)
theorem extract_list (s : ByteArray) (i j : Nat) : (s.extract i j).data.toList = (s.data.toList.drop i).take (j - i) := by
  rw [ByteArray.data_extract, Array.toList_extract]
theorem vPut_ahead {m n : Nat} (hm : m < 18446744073709551616) (hn : n < 18446744073709551616) (h : vPut m = (vPut n).extract 0 (vPut m).size) : m = n := by
  have h2 := congrArg (fun b : ByteArray => b.data.toList) h
  simp only [extract_list, vPut_data, List.drop_zero, Nat.sub_zero] at h2
  refine vL_inj (l := (vL n).drop (vPut m).size) (r := []) hm hn ?_
  rw [h2, List.take_append_drop, List.append_nil]

theorem putB_list {n k : Nat} (hk : known k = true) : putB n k = ⟨(leB k n).toArray⟩ := by unfold putB putL; rw [if_pos hk, Int.toNat_natCast]
theorem leB_one (n : Nat) : leB 1 n = [(n % 256).toUInt8] := rfl
/-- what Put writes -/
theorem vPut_one {n : Nat} (h : n < 253) : putB n 1 = vPut n := by
  rw [show (1 : Int) = ((1 : Nat) : Int) from rfl, putB_list (by decide), leB_one, vPut, vL]
  have h1 : vk n = 0 := by unfold vk; rw [if_pos h]
  rw [h1, (vh_small h1).1, Nat.mod_eq_of_lt (by omega)]
  rfl
theorem vPut_more {n : Nat} (h : 253 ≤ n) : putB (vh n) 1 ++ putB n (vk n) = vPut n := by
  have h0 : 0 < vk n := by unfold vk; rw [if_neg (by omega)]; split; omega; split <;> omega
  rw [show (1 : Int) = ((1 : Nat) : Int) from rfl, putB_list (by decide), putB_list (vk_known h0), leB_one, Nat.mod_eq_of_lt (vh_lt n), ByteArray.mk_append_mk, vPut, vL]
  simp

/-- the byte at a place -/
def fb (s : ByteArray) (a : Nat) : Nat := (s.data.toList.getD a 0).toNat
theorem fb_eq {s : ByteArray} {a : Nat} (h : a < s.size) : s[a].toNat = fb s a := by
  have hl : a < s.data.toList.length := by simpa using h
  unfold fb
  rw [List.getD_eq_getElem?_getD, List.getElem?_eq_getElem hl, Option.getD_some]
  rfl
theorem fb_lt (s : ByteArray) (a : Nat) : fb s a < 256 := UInt8.toNat_lt _
/-- the number that stands at a place, before it is known to be in as few bytes as may be -/
def raw (s : ByteArray) (a : Nat) : Nat := if fk (fb s a) = 0 then fb s a else getN s ((a : Int) + 1) (fk (fb s a))
def vE (s : ByteArray) (i : Int) : Int :=
  if i < 0 ∨ (s.size : Int) < i then 2 else if i = s.size then 5 else if (s.size : Int) < i + 1 + fk (fb s i.toNat) then 5 else if vk (raw s i.toNat) = fk (fb s i.toNat) then 0 else 4
def vN (s : ByteArray) (i : Int) : Nat := if vE s i = 0 then raw s i.toNat else 0
def vT (s : ByteArray) (i : Int) : Int := if vE s i = 0 then i + 1 + fk (fb s i.toNat) else 0

theorem getN_lt' {s : ByteArray} {i : Int} {k : Nat} (hk : known k = true) : getN s i k < 18446744073709551616 := by
  unfold getN
  split
  · rename_i h
    obtain ⟨_, h2, h3⟩ := there_all h
    have h8 := known_cases hk
    have g := leN_cut_lt (s := s) (a := i.toNat) (k := k) (by omega)
    have : 256 ^ k ≤ 256 ^ 8 := Nat.pow_le_pow_right (by omega) (by omega)
    rw [Int.toNat_natCast]
    omega
  · omega
theorem raw_lt (s : ByteArray) (a : Nat) : raw s a < 18446744073709551616 := by
  unfold raw
  split
  · have := fb_lt s a; omega
  · exact getN_lt' (fk_known (by omega))
theorem vN_lt (s : ByteArray) (i : Int) : vN s i < 18446744073709551616 := by
  unfold vN; split
  · exact raw_lt _ _
  · omega
/-- 's[a:b]' is what is read, put again -/
theorem drop_cons {s : ByteArray} {a : Nat} (h : a < s.size) : s.data.toList.drop a = (fb s a).toUInt8 :: s.data.toList.drop (a + 1) := by
  have hl : a < s.data.toList.length := by simpa using h
  rw [List.drop_eq_getElem_cons hl]
  congr 1
  unfold fb
  rw [List.getD_eq_getElem?_getD, List.getElem?_eq_getElem hl, Option.getD_some]
  simp [Nat.toUInt8]
theorem fk_vh' {b n : Nat} (h : vk n = fk b) (h0 : 0 < fk b) : vh n = b := by
  rw [← fk_vh] at h
  rw [← h] at h0
  generalize vh n = c at *
  unfold fk at h h0
  split at h0
  · split at h
    · split at h
      · omega
      · split at h
        · omega
        · split at h <;> omega
    · omega
  · split at h0
    · rw [if_neg (by assumption), if_pos (by assumption)] at h
      split at h
      · omega
      · split at h
        · omega
        · split at h <;> omega
    · split at h0
      · rw [if_neg (by assumption), if_neg (by assumption), if_pos (by assumption)] at h
        split at h
        · omega
        · split at h
          · omega
          · split at h <;> omega
      · omega
theorem raw_put {s : ByteArray} {a : Nat} (h : a + 1 + fk (fb s a) ≤ s.size) (hk : vk (raw s a) = fk (fb s a)) : vPut (raw s a) = s.extract a (a + 1 + fk (fb s a)) := by
  have hl : (vPut (raw s a)).data.toList = (s.extract a (a + 1 + fk (fb s a))).data.toList := by
    rw [extract_list, vPut_data, vL, hk, drop_cons (by omega), show a + 1 + fk (fb s a) - a = fk (fb s a) + 1 from by omega, List.take_succ_cons]
    by_cases h0 : fk (fb s a) = 0
    · have e : raw s a = fb s a := by unfold raw; rw [if_pos h0]
      have e2 := (vh_small (hk.trans h0)).1
      rw [e2, e, h0]
      simp [leB]
    · have e : raw s a = leN (cut s (a + 1) (fk (fb s a))) := by
        unfold raw; rw [if_neg h0]
        unfold getN
        rw [if_pos (there_yes (fk_known (by omega)) (by omega) (by omega))]
        rw [Int.toNat_natCast, show ((a : Int) + 1).toNat = a + 1 from by omega]
      rw [fk_vh' hk (by omega)]
      congr 1
      rw [e]
      have g := leB_leN (cut s (a + 1) (fk (fb s a)))
      rw [cut_length (by omega)] at g
      rw [g]; rfl
  have h3 := congrArg List.toArray hl
  rw [Array.toArray_toList, Array.toArray_toList] at h3
  exact ByteArray.ext h3
theorem extract_size' {s : ByteArray} {a b : Nat} (h : b ≤ s.size) : (s.extract a b).size = b - a := by rw [ByteArray.size_extract]; omega
theorem raw_iff {s : ByteArray} {a : Nat} (h : a + 1 + fk (fb s a) ≤ s.size) : vPut (raw s a) = s.extract a (a + 1 + fk (fb s a)) ↔ vk (raw s a) = fk (fb s a) := by
  constructor
  · intro h1
    have h2 := congrArg ByteArray.size h1
    rw [vPut_size, extract_size' h] at h2
    omega
  · exact raw_put h
/-- what is put stands there and is got -/
theorem mid_fb (p q : ByteArray) (n : Nat) : fb (p ++ vPut n ++ q) p.size = vh n := by
  have hl : (p ++ vPut n ++ q).data.toList = p.data.toList ++ (vL n ++ q.data.toList) := by rw [data_append, data_append, vPut_data, List.append_assoc]
  unfold fb
  rw [hl, vL, List.cons_append, List.getD_eq_getElem?_getD, List.getElem?_append_right (by simp)]
  have := vh_lt n
  simp [Nat.toUInt8, UInt8.toNat_ofNat']
  omega
theorem mid_raw (p q : ByteArray) {n : Nat} (hn : n < 18446744073709551616) : raw (p ++ vPut n ++ q) p.size = n := by
  unfold raw
  rw [mid_fb, fk_vh]
  by_cases h0 : vk n = 0
  · rw [if_pos h0]; exact (vh_small h0).1
  · rw [if_neg h0]
    have hsz : (p ++ vPut n ++ q).size = p.size + (1 + vk n) + q.size := by rw [size_append, size_append, vPut_size]
    unfold getN
    rw [if_pos (there_yes (vk_known (by omega)) (by omega) (by omega)), Int.toNat_natCast, show ((p.size : Int) + 1).toNat = p.size + 1 from by omega]
    have hl : (p ++ vPut n ++ q).data.toList = (p.data.toList ++ [(vh n).toUInt8]) ++ (leB (vk n) n ++ q.data.toList) := by rw [data_append, data_append, vPut_data, vL]; simp
    unfold cut
    rw [hl, List.drop_left' (by simp), List.take_left' (by simp [leB_length]), leN_leB_mod, Nat.mod_eq_of_lt (vk_lt hn (by omega))]
theorem mid_E (p q : ByteArray) {n : Nat} (hn : n < 18446744073709551616) : vE (p ++ vPut n ++ q) p.size = 0 := by
  have hsz : (p ++ vPut n ++ q).size = p.size + (1 + vk n) + q.size := by rw [size_append, size_append, vPut_size]
  unfold vE
  rw [Int.toNat_natCast, mid_fb, mid_raw p q hn, fk_vh, if_neg (by omega), if_neg (by omega), if_neg (by omega), if_pos rfl]
theorem mid_N (p q : ByteArray) {n : Nat} (hn : n < 18446744073709551616) : vN (p ++ vPut n ++ q) p.size = n := by
  unfold vN; rw [mid_E p q hn, if_pos rfl, Int.toNat_natCast, mid_raw p q hn]
theorem mid_T (p q : ByteArray) {n : Nat} (hn : n < 18446744073709551616) : vT (p ++ vPut n ++ q) p.size = (p.size + (vPut n).size : Nat) := by
  unfold vT; rw [mid_E p q hn, if_pos rfl, Int.toNat_natCast, mid_fb, fk_vh, vPut_size]; omega
theorem end_E (s : ByteArray) : vE s s.size = 5 := by unfold vE; rw [if_neg (by omega), if_pos rfl]
/-- what is got at the front stands there -/
theorem front_put {s : ByteArray} (h : vE s 0 = 0) : 1 ≤ vT s 0 ∧ vT s 0 ≤ s.size ∧ vPut (vN s 0) = s.extract 0 (vT s 0).toNat := by
  have hN : vN s 0 = raw s 0 := by unfold vN; rw [if_pos h]; rfl
  have hT : vT s 0 = 1 + (fk (fb s 0) : Nat) := by unfold vT; rw [if_pos h]; simp
  have h0 := h
  unfold vE at h0
  split at h0
  · omega
  · split at h0
    · omega
    · split at h0
      · omega
      · split at h0
        · rename_i h1
          have h2 := raw_put (s := s) (a := 0) (by simp at *; omega) h1
          rw [hN, hT]
          refine ⟨by omega, by simp at *; omega, ?_⟩
          rw [h2]
          congr 1
        · omega
end Go.Proofs.Ytgklmjallmbdgaa
