/- Layer 1's law of joining, and its walk. -/
import Derived.Test.YthlidbddeclnaaaUtfAlive
namespace Go.Proofs.Ythlidbddeclnaaa
open Go.RowKit UtfL Go.Shelf

theorem lastEnd_map (p : Nat) : ∀ (l : List (Nat × Nat)) (e : Nat), lastEnd (p + e) (l.map fun x => (p + x.1, x.2)) = p + lastEnd e l
  | [], _ => rfl
  | x :: l, _ => lastEnd_map p l x.1
theorem scan_shift : ∀ (k p q : Nat) (l : List UInt8), l.length ≤ k → scan (p + q) l = (scan q l).map fun x => (p + x.1, x.2)
  | 0, p, q, l, h => by
    have : l = [] := List.eq_nil_of_length_eq_zero (by omega)
    subst this
    rw [scan_none rfl, scan_none rfl]; rfl
  | k + 1, p, q, l, h => by
    cases hg : getL l with
    | none => rw [scan_none hg, scan_none hg]; rfl
    | some x =>
      obtain ⟨c, n⟩ := x
      have hl := get_len hg
      rw [scan_some hg, scan_some hg, Nat.add_assoc, scan_shift k p (q + n) (l.drop n) (by rw [List.length_drop]; omega)]; rfl
theorem scan_join : ∀ (k p : Nat) (a b : List UInt8), a.length ≤ k → lastEnd p (scan p a) = p + a.length → scan p (a ++ b) = scan p a ++ scan (p + a.length) b
  | 0, p, a, b, h, _ => by
    have : a = [] := List.eq_nil_of_length_eq_zero (by omega)
    subst this
    rw [scan_none (l := []) rfl]; rfl
  | k + 1, p, a, b, h, he => by
    cases hg : getL a with
    | none =>
      rw [scan_none hg] at he
      have : a = [] := List.eq_nil_of_length_eq_zero (by simp [lastEnd] at he; exact List.length_eq_zero_iff.2 he)
      subst this
      rw [scan_none (l := []) rfl]; rfl
    | some x =>
      obtain ⟨c, n⟩ := x
      have hl := get_len hg
      have hg2 : getL (a ++ b) = some (c, n) := by
        obtain ⟨hc, rfl, r, rfl⟩ := put_of_get hg
        rw [List.append_assoc]; exact get_of_put hc _
      rw [scan_some hg] at he
      have he2 : lastEnd (p + n) (scan (p + n) (a.drop n)) = p + n + (a.drop n).length := by
        rw [List.length_drop]
        have : lastEnd p ((p + n, c) :: scan (p + n) (a.drop n)) = lastEnd (p + n) (scan (p + n) (a.drop n)) := rfl
        rw [this] at he
        omega
      rw [scan_some hg, scan_some hg2, List.drop_append_of_le_length hl.2.2, scan_join k (p + n) (a.drop n) b (by rw [List.length_drop]; omega) he2, List.length_drop]
      rw [show p + n + (a.length - n) = p + a.length by omega]; rfl
theorem lastEnd_app (p : Nat) (l m : List (Nat × Nat)) : lastEnd p (l ++ m) = lastEnd (lastEnd p l) m := by simp [lastEnd]
theorem endOf_le (b : List UInt8) : endOf b ≤ b.length := by
  have := (scan_len b.length 0 b (Nat.le_refl _)).2.2
  rw [endOf]; omega
theorem codes_le (b : List UInt8) : (codesOf b).length ≤ b.length := by
  have := (scan_len b.length 0 b (Nat.le_refl _)).1
  rw [codesOf, List.length_map]; exact this
theorem count_pos {b : List UInt8} : 0 ≤ countOf b ↔ endOf b = b.length := by
  have := endOf_le b
  unfold countOf
  split <;> omega
theorem count_full {b : List UInt8} (h : endOf b = b.length) : countOf b = (codesOf b).length := by rw [countOf, if_neg (by omega)]
theorem join_parts {a : List UInt8} (h : endOf a = a.length) (b : List UInt8) : codesOf (a ++ b) = codesOf a ++ codesOf b ∧ endOf (a ++ b) = a.length + endOf b := by
  have h1 := scan_join a.length 0 a b (Nat.le_refl _) (by rw [Nat.zero_add]; exact h)
  rw [Nat.zero_add] at h1
  have h2 := scan_shift b.length a.length 0 b (Nat.le_refl _)
  rw [Nat.add_zero] at h2
  refine ⟨?_, ?_⟩
  · rw [codesOf, h1, h2, List.map_append, List.map_map]; rfl
  · rw [endOf, h1, lastEnd_app, show lastEnd 0 (scan 0 a) = a.length from h, h2]
    exact lastEnd_map a.length (scan 0 b) 0
theorem count_join {a b : List UInt8} (ha : 0 ≤ countOf a) : (0 ≤ countOf b → countOf (a ++ b) = countOf a + countOf b) ∧ (¬ 0 ≤ countOf b → countOf (a ++ b) < 0) := by
  have ha' := count_pos.1 ha
  obtain ⟨h1, h2⟩ := join_parts ha' b
  refine ⟨fun hb => ?_, fun hb => ?_⟩
  · have hb' := count_pos.1 hb
    rw [count_full ha', count_full hb', count_full (by rw [h2, List.length_append, hb']), h1, List.length_append]; omega
  · have hb' : ¬ endOf b = b.length := fun e => hb (count_pos.2 e)
    have := endOf_le b
    rw [countOf, if_pos (by rw [h2, List.length_append]; omega)]; decide
theorem count_bounds (b : List UInt8) : -1 ≤ countOf b ∧ countOf b ≤ b.length := by
  have := codes_le b
  unfold countOf
  split <;> omega

set_option maxRecDepth 100000 in
set_option maxHeartbeats 1000000 in
theorem utfJoins_walk (s t : ByteArray) (w : World) :
    Calls Try.prog 11 #[.string s, .string t] w fun e w' => e = .returned (.bool true) ∧ Below w.heap.size w w' := by
  have hls : s.data.toList.length = s.size := by simp
  have hlt : t.data.toList.length = t.size := by simp
  have hst : (s ++ t).data.toList = s.data.toList ++ t.data.toList := by simp
  have hsz : (s ++ t).size = s.size + t.size := by simp
  have hj := @count_join s.data.toList t.data.toList
  have ba := count_bounds s.data.toList
  have bb := count_bounds t.data.toList
  rw [hls] at ba
  rw [hlt] at bb
  have HST := Lib.hid hst
  have HSZ := Lib.hid hsz
  clear hst hsz hls hlt
  by_cases h1 : s.size ≤ 300
  · by_cases h2 : t.size ≤ 300
    · have HJ : Hid (∀ c, c = countOf (s.data.toList ++ t.data.toList) → (0 ≤ countOf s.data.toList → 0 ≤ countOf t.data.toList → c = countOf s.data.toList + countOf t.data.toList) ∧ (0 ≤ countOf s.data.toList → ¬ 0 ≤ countOf t.data.toList → c < 0)) := by
        rintro c rfl
        exact ⟨fun ha hb => (hj ha).1 hb, fun ha hb => (hj ha).2 hb⟩
      clear hj
      go_enter Try.func11, Try.ntmps11
      go_wp2_with fail
      refine (utfAlive_any _).mono ?_
      rintro e w0 ⟨rfl, hB0⟩
      go_wp2_with fail
      refine (count_any s (by omega) _).mono ?_
      rintro e w1 ⟨rfl, hB1⟩
      have hC1 := hB0.trans (hB1.mono hB0.size)
      go_wp2_with fail
      refine (count_any t (by omega) _).mono ?_
      rintro e w2 ⟨rfl, hB2⟩
      have hC2 := hC1.trans (hB2.mono hC1.size)
      go_wp2_with fail
      refine (count_any _ (by rw [HSZ.out]; omega) _).mono ?_
      rintro e w3 ⟨rfl, hB3⟩
      have hC3 := hC2.trans (hB3.mono hC2.size)
      rw [HST.out]
      clear hB0 hB1 hB2 hB3 hC1 hC2
      generalize hc : countOf (s.data.toList ++ t.data.toList) = c at *
      obtain ⟨j1, j2⟩ := HJ.out c rfl
      clear HJ hc
      generalize countOf s.data.toList = a at *
      generalize countOf t.data.toList = b at *
      obtain ⟨ba1, ba2⟩ := ba
      obtain ⟨bb1, bb2⟩ := bb
      by_cases ha : 0 ≤ a
      · by_cases hb : 0 ≤ b
        · have hcc := j1 ha hb
          have tc : (c == a + b) = true := by rw [beq_iff_eq]; exact hcc
          clear j1 j2 hcc
          go_wp2
          go_ret
          exact ⟨rfl, hC3⟩
        · have hcc := j2 ha (by omega)
          clear j1 j2
          go_wp2
          go_ret
          exact ⟨rfl, hC3⟩
      · clear j1 j2
        go_wp2
        go_ret
        exact ⟨rfl, hC3⟩
    · clear hj ba bb
      go_enter Try.func11, Try.ntmps11
      go_wp2_with fail
      refine (utfAlive_any _).mono ?_
      rintro e w0 ⟨rfl, hB0⟩
      go_wp2
      go_ret
      exact ⟨rfl, hB0⟩
  · clear hj ba bb
    go_enter Try.func11, Try.ntmps11
    go_wp2_with fail
    refine (utfAlive_any _).mono ?_
    rintro e w0 ⟨rfl, hB0⟩
    go_wp2
    go_ret
    exact ⟨rfl, hB0⟩
end Go.Proofs.Ythlidbddeclnaaa
