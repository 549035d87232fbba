/- The walks of layer 4, continued: Of, Get, and the references. -/
import Derived.Test.YthlidbddeclnaaaSumWalk2
import Derived.Deep.QuietTactic
import Derived.BigQuiet
namespace Go.Proofs.Ythlidbddeclnaaa
open Go.RowKit SumL

theorem of_any (tv bv' : Value) (t : List Int) (b : List UInt8) (w : World) (ht : Sees iv w tv t) (hb : Sees bv w bv' b) :
    Calls Try.prog 19 #[tv, bv'] w fun e w' => e = .returned (.int .i64 (more t 0 b)) ∧ w = w' := by
  go_enter Try.func19, Try.ntmps19
  go_wp2_with fail
  refine (more_any _ _ _ _ _ _ ht hb).mono ?_
  rintro e w' ⟨rfl, rfl⟩
  go_wp2
  go_ret
  exact ⟨rfl, rfl⟩

def getL (b : List UInt8) : Nat := b.foldl (fun n c => n * 256 + c.toNat) 0
theorem getL_snoc (b : List UInt8) (c : UInt8) : getL (b ++ [c]) = getL b * 256 + c.toNat := by simp [getL]
theorem getL_lt : ∀ (b : List UInt8), getL b < 256 ^ b.length := by
  suffices h : ∀ (n : Nat) (b : List UInt8), b.length = n → getL b < 256 ^ n from fun b => h _ b rfl
  intro n
  induction n with
  | zero => intro b hb; have : b = [] := List.eq_nil_of_length_eq_zero hb; subst this; decide
  | succ n ih =>
    intro b hb
    obtain ⟨b', c, rfl⟩ : ∃ b' c, b = b' ++ [c] := ⟨b.dropLast, b.getLast (by intro h; simp [h] at hb), (List.dropLast_concat_getLast _).symm⟩
    have hb' : b'.length = n := by simpa using hb
    have := ih b' hb'
    have hc := c.toNat_lt
    rw [getL_snoc, Nat.pow_succ]
    omega
theorem get_getL {b : List UInt8} (h : b.length = 4) : get b = (getL b : Int) := by
  match b, h with
  | [a, b, c, d], _ => simp [SumL.get, getL]
theorem get_none {b : List UInt8} (h : ¬ b.length = 4) : get b = -1 := by
  match b, h with
  | [], _ => rfl
  | [_], _ => rfl
  | [_, _], _ => rfl
  | [_, _, _], _ => rfl
  | [_, _, _, _], h => exact absurd rfl h
  | _ :: _ :: _ :: _ :: _ :: _, _ => rfl

theorem sumGet_any (v : Value) (b : List UInt8) (w : World) (h : Sees bv w v b) :
    Calls Try.prog 23 #[v] w fun e w' => e = .returned (.int .i64 (get b)) ∧ w = w' := by
  obtain ⟨a, cap, rfl, h1, h2, h3, h4⟩ := h
  unfold maxLen at h2
  by_cases hl : b.length = 4
  · have HG := Lib.hid (get_getL hl)
    have hl' : ((b.length : Int) != 4) = false := by rw [bne_eq_false_iff_eq]; omega
    have HL := Lib.hid hl
    obtain ⟨⟨b', off', s'⟩, rfl⟩ : ∃ b, a = some b := by
      cases a with
      | none => have := h3 rfl; omega
      | some b => exact ⟨b, rfl⟩
    obtain ⟨e1, e2, e3⟩ := h4 _ rfl (by omega)
    dsimp only at e1 e2 e3
    subst e1
    clear h4 h3
    have hln : b.length ≤ 4 := by omega
    clear hl
    go_enter Try.func23, Try.ntmps23
    go_wp2
    go_loop [3, 5, 11] (fun n _ i => ∃ k : Nat, k ≤ b.length ∧ i = .int .i64 k ∧ n = .int .i64 (getL (b.take k) : Nat)) (fun _ _ i => b.length - (intOf i).toNat)
    case atStart => exact ⟨0, Nat.zero_le _, rfl, rfl⟩
    case round =>
      obtain ⟨k, hk, rfl, rfl⟩ := hrel
      by_cases hlt : k < b.length
      · have hc := e3 k hlt
        have HS := Lib.hid (getL_snoc (b.take k) b[k])
        rw [← take_snoc b k hlt] at HS
        have hR := getL_lt (b.take k)
        rw [List.length_take_of_le (by omega)] at hR
        have hR' : getL (b.take k) < 16777216 := Nat.lt_of_lt_of_le hR (Nat.pow_le_pow_right (n := 256) (by decide) (show k ≤ 3 by omega))
        clear e3 hR
        generalize b[k] = c at *
        generalize getL (b.take k) = R at *
        have hcl := c.toNat_lt
        have hx : Hid (bits BinOp.or IntKind.i64 ((R : Int) * 256) (c.toNat : Int) = ((R * 256 + c.toNat : Nat) : Int)) := by
          have := i64_or_nat (R * 256) c.toNat (by omega) (by omega)
          rw [nat_join 8 (R * 256) c.toNat (by omega) (by omega)] at this
          exact this
        unfold bv at hc
        go_wp2
        go_round
        case rel => exact ⟨k + 1, by omega, by go_num, by rw [HS.out, ← hx.out]; try rfl⟩
        case measure => simp [intOf]; omega
      · rw [List.take_of_length_le (l := b) (i := k) (by omega)]
        go_wp2
        go_ret
        exact ⟨ret_int HG.out.symm, rfl⟩
  · have HG := Lib.hid (get_none hl)
    have hl' : ((b.length : Int) != 4) = true := by rw [bne_iff_ne]; omega
    go_enter Try.func23, Try.ntmps23
    go_wp2
    go_ret
    exact ⟨ret_int HG.out.symm, rfl⟩

theorem refGet_any (v : Value) (b : List UInt8) (w : World) (h : Sees bv w v b) :
    Calls Try.prog 24 #[v] w fun e w' => e = .returned (.int .i64 (get b)) ∧ ∃ n, w' = w.drewN n := by
  obtain ⟨a, cap, rfl, h1, h2, h3, h4⟩ := h
  unfold maxLen at h2
  by_cases hl : b.length = 4
  · match b, hl with
    | [x0, x1, x2, x3], _ =>
    obtain ⟨⟨b', off', s'⟩, rfl⟩ : ∃ b, a = some b := by
      cases a with
      | none => have := h3 rfl; simp at h1; omega
      | some b => exact ⟨b, rfl⟩
    obtain ⟨e1, e2, e3⟩ := h4 _ rfl (by omega)
    dsimp only at e1 e2 e3
    subst e1
    clear h4 h3
    have c0 := e3 0 (by simp)
    have c1 := e3 1 (by simp)
    have c2 := e3 2 (by simp)
    have c3 := e3 3 (by simp)
    simp only [List.getElem_cons_zero, List.getElem_cons_succ, bv, Nat.add_zero] at c0 c1 c2 c3
    have b0 := x0.toNat_lt
    have b1 := x1.toNat_lt
    have b2 := x2.toNat_lt
    have b3 := x3.toNat_lt
    clear e3
    go_enter Try.func24, Try.ntmps24
    go_wp2
    go_quiet (fail)
    go_wp2
    go_ret
    exact ⟨ret_int (by simp [SumL.get]), _, rfl⟩
  · have HG := Lib.hid (get_none hl)
    have hl' : ((b.length : Int) != 4) = true := by rw [bne_iff_ne]; omega
    go_enter Try.func24, Try.ntmps24
    go_wp2
    go_ret
    exact ⟨ret_int HG.out.symm, 0, rfl⟩
end Go.Proofs.Ythlidbddeclnaaa
