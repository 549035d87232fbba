/- The walks of the references' comparisons of lists. -/
import Derived.Test.YthlidbddeclnaaaBase
import Derived.Test.YthlidbddeclnaaaProg
import Derived.Deep.QuietTactic
import Derived.BigQuiet
namespace Go.Proofs.Ythlidbddeclnaaa
open Go.RowKit

theorem take_eq_stepI {α : Type} {xs ys : List α} {k : Nat} (h : xs.take k = ys.take k) (hx : k < xs.length) (hy : k < ys.length) (e : xs[k] = ys[k]) : xs.take (k + 1) = ys.take (k + 1) := by
  rw [take_snoc xs k hx, take_snoc ys k hy, h, e]

set_option maxHeartbeats 400000 in
theorem ints_any (u v : Value) (xs ys : List Int) (w : World) (hu : Sees iv w u xs) (hv : Sees iv w v ys) :
    Calls Try.prog 15 #[u, v] w fun e w' => e = .returned (.bool (decide (xs = ys))) ∧ ∃ n, w' = w.drewN n := by
  obtain ⟨a, cap, rfl, h1, h2, h3, h4⟩ := hu
  obtain ⟨a', cap', rfl, h1', h2', h3', h4'⟩ := hv
  unfold maxLen at h2 h2'
  by_cases hl : xs.length = ys.length
  · have hl' : ((xs.length : Int) != (ys.length : Int)) = false := by rw [bne_eq_false_iff_eq]; omega
    have HL := Lib.hid hl
    have i1 : xs.length ≤ ys.length := by omega
    have i2 : ys.length ≤ xs.length := by omega
    clear hl
    obtain ⟨q, hq⟩ : ∃ q, decide (xs = ys) = q := ⟨_, rfl⟩
    rw [hq]
    have HQ := Lib.hid hq; clear hq
    go_enter Try.func15, Try.ntmps15
    go_wp2
    go_loopw [5] (fun i wr => ∃ k : Nat, k ≤ xs.length ∧ i = .int .i64 k ∧ xs.take k = ys.take k ∧ ∃ n, wr = w.drewN n) (fun i _ => xs.length - (intOf i).toNat)
    case atStart => exact ⟨0, Nat.zero_le _, rfl, rfl, 0, rfl⟩
    case round =>
      obtain ⟨k, hk, rfl, htk, n, rfl⟩ := hrel
      have HT := Lib.hid htk; clear htk
      by_cases hlt : k < xs.length
      · have hlt' : k < ys.length := by omega
        obtain ⟨⟨b, off, s⟩, rfl⟩ : ∃ b, a = some b := by
          cases a with
          | none => have := h3 rfl; omega
          | some b => exact ⟨b, rfl⟩
        obtain ⟨⟨b', off', s'⟩, rfl⟩ : ∃ b, a' = some b := by
          cases a' with
          | none => have := h3' rfl; omega
          | some b => exact ⟨b, rfl⟩
        obtain ⟨e1, e2, e3⟩ := h4 _ rfl (by omega)
        obtain ⟨e1', e2', e3'⟩ := h4' _ rfl (by omega)
        dsimp only at e1 e2 e3 e1' e2' e3'
        subst e1 e1'
        have hc := e3 k hlt
        have hc' := e3' k hlt'
        have HX := Lib.hid (fun e : xs[k] = ys[k] => take_eq_stepI HT.out hlt hlt' e)
        have HN := Lib.hid (fun (h : xs[k] ≠ ys[k]) (e : xs = ys) => h (by simp only [e]))
        clear h4 h4' e3 e3' h3 h3'
        generalize xs[k] = x at *
        generalize ys[k] = y at *
        unfold iv at hc hc'
        by_cases hxy : x = y
        · subst hxy
          go_wp2
          go_quiet (fail)
          go_wp2
          go_roundw
          case rel => exact ⟨k + 1, by omega, by go_num, HX.out trivial, _, rfl⟩
          case measure => simp [intOf]; omega
        · have hn : (x != y) = true := by rw [bne_iff_ne]; exact hxy
          have hne : decide (xs = ys) = false := by rw [decide_eq_false_iff_not]; exact HN.out hxy
          have HE := Lib.hid (HQ.out.symm.trans hne)
          clear hne hxy
          go_wp2
          go_quiet (fail)
          go_wp2
          go_ret
          exact ⟨ret_bool HE.out.symm, _, by first | rfl | exact World.drewN_drewN _ _ _⟩
      · clear h4 h4' h3 h3'
        have HE : Hid (q = true) := by
          have := HT.out
          rw [List.take_of_length_le (by omega), List.take_of_length_le (by omega)] at this
          show q = true
          rw [← HQ.out, this]; simp
        go_wp2
        go_ret
        exact ⟨ret_bool HE.out.symm, _, by first | rfl | exact World.drewN_drewN _ _ _⟩
  · have hl' : ((xs.length : Int) != (ys.length : Int)) = true := by rw [bne_iff_ne]; omega
    have hne : decide (xs = ys) = false := by rw [decide_eq_false_iff_not]; intro e; exact hl (by rw [e])
    rw [hne]
    clear hne hl
    go_enter Try.func15, Try.ntmps15
    go_wp2
    go_ret
    exact ⟨rfl, 0, rfl⟩
end Go.Proofs.Ythlidbddeclnaaa
