/- Layer 1's law of going back: no program in sight. -/
import Derived.Test.YthlidbddeclnaaaUtfJoin
namespace Go.Proofs.Ythlidbddeclnaaa
open Go.RowKit UtfL

theorem scan_ge (p : Nat) (l : List UInt8) : p ≤ lastEnd p (scan p l) ∧ lastEnd p (scan p l) ≤ p + l.length := (scan_len l.length p l (Nat.le_refl _)).2
theorem scan_back : ∀ (k p : Nat) (l : List UInt8), l.length ≤ k →
    (∀ x ∈ scan p l, isCodeN x.2 = true) ∧ (scan p l).flatMap (fun x => putN x.2) = l.take (lastEnd p (scan p l) - p) ∧
      lastEnd p (scan p (l.take (lastEnd p (scan p l) - p))) = lastEnd p (scan p l)
  | 0, p, l, h => by
    have : l = [] := List.eq_nil_of_length_eq_zero (by omega)
    subst this
    rw [scan_none rfl]; simp [lastEnd, scan_none (l := []) rfl]
  | k + 1, p, l, h => by
    cases hg : getL l with
    | none =>
      rw [scan_none hg]
      simp [lastEnd, scan_none (l := []) rfl]
    | some q =>
      obtain ⟨c, n⟩ := q
      have hl := get_len hg
      have hlen : (l.drop n).length ≤ k := by rw [List.length_drop]; omega
      obtain ⟨i1, i2, i3⟩ := scan_back k (p + n) (l.drop n) hlen
      have hge := scan_ge (p + n) (l.drop n)
      rw [scan_some hg]
      have e : lastEnd p ((p + n, c) :: scan (p + n) (l.drop n)) = lastEnd (p + n) (scan (p + n) (l.drop n)) := rfl
      rw [e]
      obtain ⟨E, hE⟩ : ∃ E, lastEnd (p + n) (scan (p + n) (l.drop n)) = E := ⟨_, rfl⟩
      rw [hE] at i2 i3 hge ⊢
      have hm : E - p = n + (E - (p + n)) := by omega
      have hd : l = putN c ++ l.drop n := get_drop hg
      obtain ⟨hc, hn, -⟩ := put_of_get hg
      have hpl : (putN c).length = n := by rw [putN_len, hn]
      have htk : l.take (E - p) = putN c ++ (l.drop n).take (E - (p + n)) := by
        rw [hm]
        conv => lhs; rw [hd]
        rw [List.take_append, hpl]
        rw [List.take_of_length_le (by omega), Nat.add_sub_cancel_left]
      refine ⟨?_, ?_, ?_⟩
      · intro x hx
        rcases List.mem_cons.1 hx with rfl | hx
        · exact hc
        · exact i1 x hx
      · rw [List.flatMap_cons, i2, htk]
      · rw [htk]
        have hg2 : getL (putN c ++ (l.drop n).take (E - (p + n))) = some (c, n) := by rw [hn]; exact get_of_put hc _
        rw [scan_some hg2]
        have e2 : lastEnd p ((p + n, c) :: scan (p + n) ((putN c ++ (l.drop n).take (E - (p + n))).drop n)) = lastEnd (p + n) (scan (p + n) ((putN c ++ (l.drop n).take (E - (p + n))).drop n)) := rfl
        rw [e2, List.drop_left' hpl]
        exact i3
theorem flatMap_same {α β : Type} {f g : α → List β} : ∀ l : List α, (∀ x ∈ l, f x = g x) → l.flatMap f = l.flatMap g
  | [], _ => rfl
  | x :: l, h => by
    rw [List.flatMap_cons, List.flatMap_cons, h x (List.mem_cons_self ..), flatMap_same l (fun y hy => h y (List.mem_cons_of_mem _ hy))]
theorem text_back (b : List UInt8) : textRes ((codesOf b).map fun x : Nat => (x : Int)) = .tuple #[.string ⟨(b.take (endOf b)).toArray⟩, .bool true] := by
  obtain ⟨i1, i2, -⟩ := scan_back b.length 0 b (Nat.le_refl _)
  have h1 : ((codesOf b).map fun x : Nat => (x : Int)).all isCode = true := by
    rw [List.all_eq_true]
    intro x hx
    obtain ⟨y, hy, rfl⟩ := List.mem_map.1 hx
    obtain ⟨z, hz, rfl⟩ := List.mem_map.1 hy
    simp [isCode, i1 z hz]
  have h2 : bytesL ((codesOf b).map fun x : Nat => (x : Int)) = b.take (endOf b) := by
    rw [bytesL, codesOf, List.flatMap_map, List.flatMap_map, endOf, ← Nat.sub_zero (lastEnd 0 (scan 0 b)), ← i2]
    refine flatMap_same _ fun x hx => ?_
    simp [put, isCode, i1 x hx]
  rw [textRes, h1, h2]; rfl
theorem valid_back (b : List UInt8) : 0 ≤ countOf (b.take (endOf b)) := by
  obtain ⟨-, -, i3⟩ := scan_back b.length 0 b (Nat.le_refl _)
  refine count_pos.2 ?_
  have := endOf_le b
  rw [List.length_take, Nat.min_eq_left this]
  exact i3
theorem get_back {c : Int} (h : isCode c = true) (b : List UInt8) : getAt (put c ++ b) 0 = some (c.toNat, (put c).length) ∧ (c.toNat : Int) = c := by
  have h0 : 0 ≤ c := by simp only [isCode, Bool.and_eq_true, decide_eq_true_eq] at h; exact h.1
  have h1 : isCodeN c.toNat = true := by simp only [isCode, Bool.and_eq_true] at h; exact h.2
  have hp : put c = putN c.toNat := by rw [put, if_pos h]
  have hpos := put_pos h
  refine ⟨?_, by omega⟩
  rw [getAt, if_pos ⟨by omega, by rw [List.length_append]; omega⟩, hp]
  show getL (putN c.toNat ++ b) = _
  rw [get_of_put h1, putN_len]
end Go.Proofs.Ythlidbddeclnaaa
