/- The reference's way to a code, and that it is the law's: no program in sight. -/
import Derived.Test.YthlidbddeclnaaaUtfLaw
namespace Go.Proofs.Ythlidbddeclnaaa
namespace UtfL
def lead (x : Nat) : Nat := if 240 ≤ x then x - 240 else if 224 ≤ x then x - 224 else if 192 ≤ x then x - 192 else x
/-- The number that the reference has behind n bytes. -/
def acc : List UInt8 → Nat
  | [] => 0
  | x :: r => r.foldl (fun c y => c * 64 + y.toNat % 64) (lead x.toNat)
theorem acc_snoc {l : List UInt8} (h : l ≠ []) (y : UInt8) : acc (l ++ [y]) = acc l * 64 + y.toNat % 64 := by
  cases l with
  | nil => exact absurd rfl h
  | cons x r => simp [acc]
theorem cont_fold : ∀ (r : List UInt8) (c d : Nat), cont c r = some d → d = r.foldl (fun c y => c * 64 + y.toNat % 64) c
  | [], c, d, h => by simp [cont] at h; simp [h]
  | y :: r, c, d, h => by
    rw [cont] at h
    split at h
    · rw [List.foldl_cons]; exact cont_fold r _ d h
    · cases h
theorem lead_first {x n c : Nat} (hx : x < 256) (h : first x = (n, c)) (hn : 1 ≤ n) : lead x = c := by
  unfold first at h
  unfold lead
  by_cases q1 : x < 128
  · rw [if_pos q1] at h; cases h
    rw [if_neg (by omega), if_neg (by omega), if_neg (by omega)]
  · rw [if_neg q1] at h
    by_cases q2 : 192 ≤ x ∧ x < 224
    · rw [if_pos q2] at h; cases h
      rw [if_neg (by omega), if_neg (by omega), if_pos (by omega)]; omega
    · rw [if_neg q2] at h
      by_cases q3 : 224 ≤ x ∧ x < 240
      · rw [if_pos q3] at h; cases h
        rw [if_neg (by omega), if_pos (by omega)]; omega
      · rw [if_neg q3] at h
        by_cases q4 : 240 ≤ x ∧ x < 248
        · rw [if_pos q4] at h; cases h
          rw [if_pos (by omega)]; omega
        · rw [if_neg q4] at h; cases h; omega
/-- Where a code stands, the reference's number behind its bytes is the code. -/
theorem acc_get {l : List UInt8} {c n : Nat} (h : getL l = some (c, n)) : acc (l.take n) = c := by
  have hl := get_len h
  cases l with
  | nil => cases h
  | cons x r =>
    rw [getL] at h
    obtain ⟨fn, fc, hf⟩ : ∃ fn fc, first x.toNat = (fn, fc) := ⟨_, _, rfl⟩
    rw [hf] at h
    dsimp only at h
    split at h
    · cases h
    · cases hco : cont fc (r.take (fn - 1)) with
      | none => rw [hco] at h; cases h
      | some d =>
        rw [hco] at h
        dsimp only at h
        split at h
        · cases h
          obtain ⟨m, rfl⟩ : ∃ m, n = m + 1 := ⟨n - 1, by omega⟩
          rw [List.take_succ_cons, acc, lead_first x.toNat_lt hf (by omega), cont_fold _ _ _ hco]
          rfl
        · cases h
/-- The reference finds what the law finds: nothing shorter is a code's bytes. -/
theorem ref_hit {l : List UInt8} {n : Nat} (hn : 1 ≤ n) (hl : n ≤ l.length) (h : put (acc (l.take n) : Int) = l.take n) : getL l = some (acc (l.take n), n) := by
  have hne : (l.take n).length = n := by rw [List.length_take]; omega
  have hc : isCode (acc (l.take n) : Int) = true := by
    by_cases q : isCode (acc (l.take n) : Int) = true
    · exact q
    · rw [put, if_neg q] at h
      rw [← h] at hne
      simp at hne; omega
  have hN : isCodeN (acc (l.take n)) = true := by simpa [isCode] using hc
  rw [put, if_pos hc, Int.toNat_natCast] at h
  have hlong : longN (acc (l.take n)) = n := by rw [← putN_len, h, hne]
  have := get_of_put hN (l.drop n)
  rw [hlong, h, List.take_append_drop] at this
  exact this
theorem ref_miss {l : List UInt8} {c n : Nat} (h : getL l = some (c, n)) : put (acc (l.take n) : Int) = l.take n := by
  rw [acc_get h, get_take h, put]
  obtain ⟨hc, -, -⟩ := put_of_get h
  simp [isCode, hc]
theorem ref_none {l : List UInt8} (h : ∀ n, 1 ≤ n → n ≤ 4 → n ≤ l.length → put (acc (l.take n) : Int) ≠ l.take n) : getL l = none := by
  cases hg : getL l with
  | none => rfl
  | some q =>
    obtain ⟨c, n⟩ := q
    obtain ⟨h1, h2, h3⟩ := get_len hg
    exact absurd (ref_miss hg) (h n h1 h2 h3)
theorem acc_lt : ∀ (r : List UInt8) (c : Nat), r.foldl (fun c y => c * 64 + y.toNat % 64) c < (c + 1) * 64 ^ r.length
  | [], c => by simp
  | y :: r, c => by
    rw [List.foldl_cons, List.length_cons]
    have h := acc_lt r (c * 64 + y.toNat % 64)
    have h2 : (c * 64 + y.toNat % 64 + 1) * 64 ^ r.length ≤ ((c + 1) * 64) * 64 ^ r.length := Nat.mul_le_mul_right _ (by omega)
    rw [Nat.pow_succ]
    calc _ < _ := h
      _ ≤ _ := h2
      _ = _ := by rw [Nat.mul_assoc, Nat.mul_comm 64]
theorem acc_bound {l : List UInt8} (h : l.length ≤ 4) : acc l < 67108864 := by
  cases l with
  | nil => simp [acc]
  | cons x r =>
    have h1 := acc_lt r (lead x.toNat)
    have h2 : lead x.toNat + 1 ≤ 256 := by
      have := x.toNat_lt
      unfold lead
      (repeat' split) <;> omega
    have h3 : 64 ^ r.length ≤ 64 ^ 3 := Nat.pow_le_pow_right (by decide) (by simp at h; omega)
    have h4 := Nat.mul_le_mul h2 h3
    rw [acc]; omega
end UtfL
end Go.Proofs.Ythlidbddeclnaaa
