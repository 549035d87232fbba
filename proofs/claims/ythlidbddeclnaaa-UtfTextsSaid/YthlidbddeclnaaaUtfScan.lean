/- The plain law of a text's codes: no program in sight. -/
import Derived.Test.YthlidbddeclnaaaUtfLaw
namespace Go.Proofs.Ythlidbddeclnaaa
namespace UtfL
/-- The codes from a place on, each with the place behind it. -/
def scan (p : Nat) (l : List UInt8) : List (Nat × Nat) :=
  match _h : getL l with
  | none => []
  | some (c, n) => (p + n, c) :: scan (p + n) (l.drop n)
termination_by l.length
decreasing_by
  have := get_len _h
  rw [List.length_drop]; omega
theorem scan_none {p : Nat} {l : List UInt8} (h : getL l = none) : scan p l = [] := by
  rw [scan]; split
  · rfl
  · rename_i e; rw [h] at e; cases e
theorem scan_some {p : Nat} {l : List UInt8} {c n : Nat} (h : getL l = some (c, n)) : scan p l = (p + n, c) :: scan (p + n) (l.drop n) := by
  rw [scan]; split
  · rename_i e; rw [h] at e; cases e
  · rename_i e; rw [h] at e; cases e; rfl
def lastEnd (p : Nat) (l : List (Nat × Nat)) : Nat := l.foldl (fun _ x => x.1) p
theorem lastEnd_snoc (p : Nat) (l : List (Nat × Nat)) (x : Nat × Nat) : lastEnd p (l ++ [x]) = x.1 := by simp [lastEnd]
def codesOf (b : List UInt8) : List Nat := (scan 0 b).map (·.2)
def endOf (b : List UInt8) : Nat := lastEnd 0 (scan 0 b)
/-- A state of the scan: what has come, and where it stands. -/
def At (b : List UInt8) (pre : List (Nat × Nat)) (p : Nat) : Prop := p ≤ b.length ∧ scan 0 b = pre ++ scan p (b.drop p) ∧ p = lastEnd 0 pre
theorem At.start (b : List UInt8) : At b [] 0 := ⟨Nat.zero_le _, by simp, rfl⟩
theorem getAt_eq {b : List UInt8} {p : Nat} (hp : p ≤ b.length) : getAt b (p : Int) = getL (b.drop p) := by
  rw [getAt]
  by_cases h : p < b.length
  · rw [if_pos ⟨by omega, by omega⟩]; rfl
  · rw [if_neg (by omega)]
    have : p = b.length := by omega
    rw [this, List.drop_length]; rfl
theorem At.next {b : List UInt8} {pre : List (Nat × Nat)} {p c n : Nat} (h : At b pre p) (hg : getAt b (p : Int) = some (c, n)) : At b (pre ++ [(p + n, c)]) (p + n) ∧ 1 ≤ n ∧ n ≤ 4 := by
  obtain ⟨h1, h2, h3⟩ := h
  rw [getAt_eq h1] at hg
  have hl := get_len hg
  rw [List.length_drop] at hl
  refine ⟨⟨by omega, ?_, (by rw [lastEnd_snoc])⟩, hl.1, hl.2.1⟩
  rw [h2, scan_some hg, List.drop_drop, List.append_assoc]; rfl
theorem At.done {b : List UInt8} {pre : List (Nat × Nat)} {p : Nat} (h : At b pre p) (hg : getAt b (p : Int) = none) : scan 0 b = pre := by
  obtain ⟨h1, h2, h3⟩ := h
  rw [getAt_eq h1] at hg
  rw [h2, scan_none hg, List.append_nil]
theorem At.full {b : List UInt8} {pre : List (Nat × Nat)} (h : At b pre b.length) : scan 0 b = pre := by
  refine h.done ?_
  rw [getAt, if_neg (by omega)]
/-- The scan is never longer than the text, and ends within it. -/
theorem scan_len : ∀ (k p : Nat) (l : List UInt8), l.length ≤ k → (scan p l).length ≤ l.length ∧ p ≤ lastEnd p (scan p l) ∧ lastEnd p (scan p l) ≤ p + l.length
  | 0, p, l, h => by
    have : l = [] := List.eq_nil_of_length_eq_zero (by omega)
    subst this
    rw [scan_none rfl]; simp [lastEnd]
  | k + 1, p, l, h => by
    cases hg : getL l with
    | none => rw [scan_none hg]; simp [lastEnd]
    | some q =>
      obtain ⟨c, n⟩ := q
      have hl := get_len hg
      have := scan_len k (p + n) (l.drop n) (by rw [List.length_drop]; omega)
      rw [scan_some hg]
      rw [List.length_drop] at this
      simp only [List.length_cons]
      have e : lastEnd p ((p + n, c) :: scan (p + n) (l.drop n)) = lastEnd (p + n) (scan (p + n) (l.drop n)) := rfl
      rw [e]
      omega
end UtfL
end Go.Proofs.Ythlidbddeclnaaa
