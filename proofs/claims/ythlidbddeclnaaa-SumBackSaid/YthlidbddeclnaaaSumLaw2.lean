/- The plain laws of layer 4's statements. -/
import Derived.Test.YthlidbddeclnaaaSumLaw
namespace Go.Proofs.Ythlidbddeclnaaa
open Go.RowKit
namespace SumL
theorem xor_half (x y : Nat) : (x ^^^ y) / 2 = x / 2 ^^^ y / 2 := by
  apply Nat.eq_of_testBit_eq
  intro i
  simp [Nat.testBit_div_two]
theorem xor_par (x y : Nat) : (x ^^^ y) % 2 = (x % 2 + y % 2) % 2 := by
  have h := Nat.xor_mod_two_eq_one (a := x) (b := y)
  have a := Nat.mod_two_eq_zero_or_one x
  have b := Nat.mod_two_eq_zero_or_one y
  have c := Nat.mod_two_eq_zero_or_one (x ^^^ y)
  rcases a with a | a <;> rcases b with b | b <;> rcases c with c | c <;> simp [a, b, c] at h ⊢
theorem step1_xor (p x y : Nat) : step1 p (x ^^^ y) = step1 p x ^^^ step1 p y := by
  unfold step1
  rw [xor_par, xor_half]
  rcases Nat.mod_two_eq_zero_or_one x with a | a <;> rcases Nat.mod_two_eq_zero_or_one y with b | b <;> simp [a, b]
  · rw [Nat.xor_assoc]
  · rw [Nat.xor_assoc, Nat.xor_comm (y / 2) p, ← Nat.xor_assoc]
  · rw [Nat.xor_comm (y / 2) p, ← Nat.xor_assoc, Nat.xor_assoc (x / 2) p p, Nat.xor_self, Nat.xor_zero]
theorem row_xor (p x y : Nat) : ∀ k, row p k (x ^^^ y) = row p k x ^^^ row p k y
  | 0 => rfl
  | k + 1 => by rw [row, row, row, row_xor p x y k, step1_xor]
theorem row_zero (p : Nat) : ∀ k, row p k 0 = 0
  | 0 => rfl
  | k + 1 => by rw [row, row_zero p k]; simp [step1]
theorem tabN_get (p j : Nat) (h : j < 256) : (tabN p)[j]? = some (row p 8 j) := by simp [tabN, h]
theorem tab_get (p : Nat) (hp : p < 4294967296) (j : Nat) (h : j < 256) : (tab (p : Int))[j]? = some ((row p 8 j : Nat) : Int) := by
  have : isU32 (p : Int) = true := by simp [isU32]; omega
  simp only [tab, this, if_true, Int.toNat_natCast, List.getElem?_map, tabN_get p j h]
  rfl
theorem tab_len (p : Int) (hp : isU32 p = true) : (tab p).length = 256 := by simp [tab, hp, tabN]
theorem isTab_tab (p : Nat) (hp : p < 4294967296) : isTab (tab (p : Int)) = true := by
  have hu : isU32 (p : Int) = true := by simp [isU32]; omega
  simp only [isTab, Bool.and_eq_true, beq_iff_eq, List.all_eq_true]
  refine ⟨tab_len _ hu, fun x hx => ?_⟩
  simp only [tab, hu, if_true, Int.toNat_natCast, tabN, List.mem_map, List.mem_range] at hx
  obtain ⟨y, ⟨j, hj, rfl⟩, rfl⟩ := hx
  have := row_lt hp (i := j) (by omega) 8
  simp [isU32]
  omega
theorem more_more {t : List Int} {s : Int} (a b : List UInt8) (ht : isTab t = true) (hs : isU32 s = true) : more t (more t s a) b = more t s (a ++ b) := by
  have h1 : more t s a = 4294967295 - (crc t (4294967295 - s.toNat) a : Int) := by simp [more, ht, hs]
  have hlt := crc_lt ht a (r := 4294967295 - s.toNat) (by omega)
  have hu : isU32 (more t s a) = true := by rw [h1]; simp [isU32]; omega
  have h0 : ∀ s', isU32 s' = true → more t s' b = 4294967295 - (crc t (4294967295 - s'.toNat) b : Int) := fun s' h => by simp [more, ht, h]
  have h2 := h0 _ hu
  have h3 : more t s (a ++ b) = 4294967295 - (crc t (4294967295 - s.toNat) (a ++ b) : Int) := by simp [more, ht, hs]
  have e : 4294967295 - (more t s a).toNat = crc t (4294967295 - s.toNat) a := by rw [h1]; omega
  rw [h2, h3, e, crc_append]
theorem xor_mod256 (r c : Nat) (h : c < 256) : (r ^^^ c) % 256 = (r % 256) ^^^ c := by
  have := Nat.xor_mod_two_pow (a := r) (b := c) (n := 8)
  rw [show (2 : Nat) ^ 8 = 256 from rfl] at this
  rw [this, Nat.mod_eq_of_lt h]
theorem crcStep_bit (r : Nat) (c : UInt8) : crcStep (tab ((3988292384 : Nat) : Int)) r c = bitStep r c := by
  unfold crcStep bitStep
  rw [tab_get _ (by decide) _ (idx_lt r c), xor_mod256 _ _ c.toNat_lt]
  rfl
theorem crc_bit (r : Nat) : ∀ b, crc (tab ((3988292384 : Nat) : Int)) r b = b.foldl bitStep r := by
  intro b
  induction b generalizing r with
  | nil => rfl
  | cons c b ih => rw [List.foldl_cons, ← crcStep_bit, ← ih]; rfl
theorem more_bit (b : List UInt8) : more (tab 3988292384) 0 b = bitSum b := by
  have h : isTab (tab ((3988292384 : Nat) : Int)) = true := isTab_tab _ (by decide)
  have h' : isTab (tab 3988292384) = true := h
  have := crc_bit 4294967295 b
  simp only [more, h', bitSum]
  rw [← this]
  rfl
/-! ### one byte turned turns the sum -/
theorem xor_div_pow (x y n : Nat) : (x ^^^ y) / 2 ^ n = x / 2 ^ n ^^^ y / 2 ^ n := by
  apply Nat.eq_of_testBit_eq
  intro i
  simp [Nat.testBit_div_two_pow]
theorem top_lt (x : Nat) (h : x < 16777216) (y : Nat) : (y ^^^ x) / 16777216 = y / 16777216 := by
  have e := xor_div_pow y x 24
  rw [show (2 : Nat) ^ 24 = 16777216 from rfl] at e
  rw [e, Nat.div_eq_of_lt h, Nat.xor_zero]
theorem top_zero : ∀ i, i < 256 → row 3988292384 8 i / 16777216 = 0 → i = 0 := by
  have h : ∀ i : Fin 256, row 3988292384 8 i.1 / 16777216 = 0 → i.1 = 0 := by decide +kernel
  intro i hi e
  exact h ⟨i, hi⟩ e
theorem top_inj (i : Nat) (hi : i < 256) (j : Nat) (hj : j < 256) (h : row 3988292384 8 i / 16777216 = row 3988292384 8 j / 16777216) : i = j := by
  have e : row 3988292384 8 (i ^^^ j) / 2 ^ 24 = 0 := by rw [row_xor, xor_div_pow]; show row 3988292384 8 i / 16777216 ^^^ row 3988292384 8 j / 16777216 = 0; rw [h, Nat.xor_self]
  have := top_zero _ (Nat.xor_lt_two_pow (n := 8) hi hj) e
  have h2 := congrArg (· ^^^ j) this
  simpa [Nat.xor_assoc] using h2
theorem xor_left_cancel {a b c : Nat} (h : a ^^^ b = a ^^^ c) : b = c := by
  have := congrArg (a ^^^ ·) h
  simpa [← Nat.xor_assoc] using this
theorem bitStep_inj {r r' : Nat} {c c' : UInt8} (hr : r < 4294967296) (hr' : r' < 4294967296) (h : bitStep r c = bitStep r' c') : (r % 256) ^^^ c.toNat = (r' % 256) ^^^ c'.toNat ∧ r / 256 = r' / 256 := by
  unfold bitStep at h
  rw [xor_mod256 _ _ c.toNat_lt, xor_mod256 _ _ c'.toNat_lt] at h
  have h1 := congrArg (· / 16777216) h
  simp only [top_lt (r / 256) (by omega), top_lt (r' / 256) (by omega)] at h1
  have e := top_inj _ (idx_lt r c) _ (idx_lt r' c') h1
  rw [e] at h
  exact ⟨e, xor_left_cancel h⟩
theorem bitFold_inj : ∀ (b : List UInt8) {r r' : Nat}, r < 4294967296 → r' < 4294967296 → b.foldl bitStep r = b.foldl bitStep r' → r = r'
  | [], _, _, _, _, h => h
  | c :: b, r, r', hr, hr', h => by
    have h1 := bitFold_inj b (bitStep_lt hr c) (bitStep_lt hr' c) h
    obtain ⟨h2, h3⟩ := bitStep_inj hr hr' h1
    have h4 : r % 256 = r' % 256 := by
      rw [Nat.xor_comm _ c.toNat, Nat.xor_comm _ c.toNat] at h2
      exact xor_left_cancel h2
    omega
theorem bitSum_turn (a b : List UInt8) (c c' : UInt8) (h : bitSum (a ++ c :: b) = bitSum (a ++ c' :: b)) : c = c' := by
  have l1 := bitFold_lt (a ++ c :: b) (r := 4294967295) (by decide)
  have l2 := bitFold_lt (a ++ c' :: b) (r := 4294967295) (by decide)
  unfold bitSum at h
  have h1 : (a ++ c :: b).foldl bitStep 4294967295 = (a ++ c' :: b).foldl bitStep 4294967295 := by omega
  rw [List.foldl_append, List.foldl_append, List.foldl_cons, List.foldl_cons] at h1
  have la := bitFold_lt a (r := 4294967295) (by decide)
  have h2 := bitFold_inj b (bitStep_lt la c) (bitStep_lt la c') h1
  have h3 := (bitStep_inj la la h2).1
  exact UInt8.toNat_inj.1 (xor_left_cancel h3)
theorem get_put (n : Int) (h : isU32 n = true) : get (put n) = n := by
  simp only [isU32, decide_eq_true_eq] at h
  simp only [put, get, UInt8.toNat_ofNat']
  omega
end SumL
end Go.Proofs.Ythlidbddeclnaaa
