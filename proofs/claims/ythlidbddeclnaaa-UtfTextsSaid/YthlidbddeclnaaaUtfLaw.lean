/- The plain law of layer 1 (UTF-8): no program in sight. -/
import Derived.Test.YthlidbddeclnaaaBase
namespace Go.Proofs.Ythlidbddeclnaaa
namespace UtfL
def u (n : Nat) : UInt8 := UInt8.ofNat n
def isCodeN (c : Nat) : Bool := decide (c ≤ 1114111 ∧ (c < 55296 ∨ 57343 < c))
def isCode (c : Int) : Bool := decide (0 ≤ c) && isCodeN c.toNat
def longN (c : Nat) : Nat := if c < 128 then 1 else if c < 2048 then 2 else if c < 65536 then 3 else 4
def putN (c : Nat) : List UInt8 :=
  if c < 128 then [u c] else if c < 2048 then [u (192 + c / 64), u (128 + c % 64)]
  else if c < 65536 then [u (224 + c / 4096), u (128 + c / 64 % 64), u (128 + c % 64)]
  else [u (240 + c / 262144), u (128 + c / 4096 % 64), u (128 + c / 64 % 64), u (128 + c % 64)]
def put (c : Int) : List UInt8 := if isCode c then putN c.toNat else []
def first (x : Nat) : Nat × Nat :=
  if x < 128 then (1, x) else if 192 ≤ x ∧ x < 224 then (2, x % 32) else if 224 ≤ x ∧ x < 240 then (3, x % 16) else if 240 ≤ x ∧ x < 248 then (4, x % 8) else (0, 0)
def cont : Nat → List UInt8 → Option Nat
  | c, [] => some c
  | c, x :: r => if x.toNat / 64 = 2 then cont (c * 64 + x.toNat % 64) r else none
def getL : List UInt8 → Option (Nat × Nat)
  | [] => none
  | x :: r =>
    if (first x.toNat).1 = 0 ∨ r.length + 1 < (first x.toNat).1 then none
    else match cont (first x.toNat).2 (r.take ((first x.toNat).1 - 1)) with
      | none => none
      | some c => if isCodeN c && longN c == (first x.toNat).1 then some (c, (first x.toNat).1) else none
def getAt (b : List UInt8) (at_ : Int) : Option (Nat × Nat) := if 0 ≤ at_ ∧ at_ < b.length then getL (b.drop at_.toNat) else none

theorem u_toNat {n : Nat} (h : n < 256) : (u n).toNat = n := by rw [u, UInt8.toNat_ofNat']; omega
theorem u_eq {n : Nat} {x : UInt8} (h : n = x.toNat) : u n = x := by
  apply UInt8.toNat_inj.1
  rw [h, u_toNat x.toNat_lt]
theorem putN_len (c : Nat) : (putN c).length = longN c := by unfold putN longN; (repeat' split) <;> rfl
theorem longN_pos (c : Nat) : 1 ≤ longN c ∧ longN c ≤ 4 := by unfold longN; (repeat' split) <;> omega

theorem get_of_put {c : Nat} (h : isCodeN c = true) (r : List UInt8) : getL (putN c ++ r) = some (c, longN c) := by
  have hc : c ≤ 1114111 := by simp only [isCodeN, decide_eq_true_eq] at h; exact h.1
  by_cases c1 : c < 128
  · have e : putN c = [u c] := by simp [putN, c1]
    have hf : first (u c).toNat = (1, c) := by rw [u_toNat (by omega)]; simp [first, c1]
    have hl : longN c = 1 := by simp [longN, c1]
    rw [e, List.singleton_append, getL, hf]
    simp [cont, h, hl]
  · by_cases c2 : c < 2048
    · have e : putN c = [u (192 + c / 64), u (128 + c % 64)] := by simp [putN, c1, c2]
      have h0 := u_toNat (n := 192 + c / 64) (by omega)
      have h1 := u_toNat (n := 128 + c % 64) (by omega)
      have hf : first (u (192 + c / 64)).toNat = (2, c / 64) := by
        rw [h0, first, if_neg (by omega), if_pos (by omega)]; congr 1; omega
      have hl : longN c = 2 := by simp [longN, c1, c2]
      have hco : cont (c / 64) [u (128 + c % 64)] = some c := by
        rw [cont, h1, if_pos (by omega), cont]; congr 1; omega
      rw [e]
      show getL (u (192 + c / 64) :: (u (128 + c % 64) :: r)) = _
      rw [getL, hf]
      simp [hco, h, hl]
    · by_cases c3 : c < 65536
      · have e : putN c = [u (224 + c / 4096), u (128 + c / 64 % 64), u (128 + c % 64)] := by simp [putN, c1, c2, c3]
        have h0 := u_toNat (n := 224 + c / 4096) (by omega)
        have h1 := u_toNat (n := 128 + c / 64 % 64) (by omega)
        have h2 := u_toNat (n := 128 + c % 64) (by omega)
        have hf : first (u (224 + c / 4096)).toNat = (3, c / 4096) := by
          rw [h0, first, if_neg (by omega), if_neg (by omega), if_pos (by omega)]; congr 1; omega
        have hl : longN c = 3 := by simp [longN, c1, c2, c3]
        have hco : cont (c / 4096) [u (128 + c / 64 % 64), u (128 + c % 64)] = some c := by
          rw [cont, h1, if_pos (by omega), cont, h2, if_pos (by omega), cont]; congr 1; omega
        rw [e]
        show getL (u (224 + c / 4096) :: (u (128 + c / 64 % 64) :: (u (128 + c % 64) :: r))) = _
        rw [getL, hf]
        simp [hco, h, hl]
      · have e : putN c = [u (240 + c / 262144), u (128 + c / 4096 % 64), u (128 + c / 64 % 64), u (128 + c % 64)] := by simp [putN, c1, c2, c3]
        have h0 := u_toNat (n := 240 + c / 262144) (by omega)
        have h1 := u_toNat (n := 128 + c / 4096 % 64) (by omega)
        have h2 := u_toNat (n := 128 + c / 64 % 64) (by omega)
        have h3 := u_toNat (n := 128 + c % 64) (by omega)
        have hf : first (u (240 + c / 262144)).toNat = (4, c / 262144) := by
          rw [h0, first, if_neg (by omega), if_neg (by omega), if_neg (by omega), if_pos (by omega)]; congr 1; omega
        have hl : longN c = 4 := by simp [longN, c1, c2, c3]
        have hco : cont (c / 262144) [u (128 + c / 4096 % 64), u (128 + c / 64 % 64), u (128 + c % 64)] = some c := by
          rw [cont, h1, if_pos (by omega), cont, h2, if_pos (by omega), cont, h3, if_pos (by omega), cont]; congr 1; omega
        rw [e]
        show getL (u (240 + c / 262144) :: (u (128 + c / 4096 % 64) :: (u (128 + c / 64 % 64) :: (u (128 + c % 64) :: r)))) = _
        rw [getL, hf]
        simp [hco, h, hl]

theorem put_of_get {l : List UInt8} {c n : Nat} (h : getL l = some (c, n)) : isCodeN c = true ∧ n = longN c ∧ ∃ r, l = putN c ++ r := by
  cases l with
  | nil => cases h
  | cons x r =>
    rw [getL] at h
    split at h
    · cases h
    · rename_i hn
      cases hco : cont (first x.toNat).2 (r.take ((first x.toNat).1 - 1)) with
      | none => rw [hco] at h; cases h
      | some c' =>
        rw [hco] at h
        dsimp only at h
        split at h
        · rename_i hok
          simp only [Option.some.injEq, Prod.mk.injEq] at h
          obtain ⟨rfl, rfl⟩ := h
          simp only [Bool.and_eq_true, beq_iff_eq] at hok
          obtain ⟨hcode, hlong⟩ := hok
          refine ⟨hcode, hlong.symm, ?_⟩
          have hx := x.toNat_lt
          have hF : (x.toNat < 128 ∧ first x.toNat = (1, x.toNat)) ∨ ((192 ≤ x.toNat ∧ x.toNat < 224) ∧ first x.toNat = (2, x.toNat % 32)) ∨ ((224 ≤ x.toNat ∧ x.toNat < 240) ∧ first x.toNat = (3, x.toNat % 16)) ∨
              ((240 ≤ x.toNat ∧ x.toNat < 248) ∧ first x.toNat = (4, x.toNat % 8)) ∨ first x.toNat = (0, 0) := by
            unfold first
            by_cases q1 : x.toNat < 128
            · exact .inl ⟨q1, by rw [if_pos q1]⟩
            · rw [if_neg q1]
              by_cases q2 : 192 ≤ x.toNat ∧ x.toNat < 224
              · exact .inr (.inl ⟨q2, by rw [if_pos q2]⟩)
              · rw [if_neg q2]
                by_cases q3 : 224 ≤ x.toNat ∧ x.toNat < 240
                · exact .inr (.inr (.inl ⟨q3, by rw [if_pos q3]⟩))
                · rw [if_neg q3]
                  by_cases q4 : 240 ≤ x.toNat ∧ x.toNat < 248
                  · exact .inr (.inr (.inr (.inl ⟨q4, by rw [if_pos q4]⟩)))
                  · exact .inr (.inr (.inr (.inr (by rw [if_neg q4]))))
          rcases hF with ⟨hr, hf⟩ | ⟨hr, hf⟩ | ⟨hr, hf⟩ | ⟨hr, hf⟩ | hf
          all_goals rw [hf] at hn hco hlong; dsimp only at hn hco hlong
          · simp [cont] at hco
            subst hco
            refine ⟨r, ?_⟩
            rw [putN, if_pos hr, u_eq rfl]; rfl
          · match r, hn with
            | y :: r', _ =>
              have hy := y.toNat_lt
              simp only [Nat.reduceSub, List.take_succ_cons, List.take_zero, cont] at hco
              split at hco
              · rename_i g1
                injection hco with hco
                have c1 : ¬ c' < 128 := fun q => by simp [longN, q] at hlong
                have c2 : c' < 2048 := by omega
                refine ⟨r', ?_⟩
                rw [putN, if_neg c1, if_pos c2, u_eq (x := x) (by omega), u_eq (x := y) (by omega)]; rfl
              · cases hco
            | [], hn => exact absurd (by simp) hn
          · match r, hn with
            | y :: z :: r', _ =>
              have hy := y.toNat_lt
              have hz := z.toNat_lt
              simp only [Nat.reduceSub, List.take_succ_cons, List.take_zero, cont] at hco
              split at hco
              · rename_i g1
                split at hco
                · rename_i g2
                  injection hco with hco
                  have c1 : ¬ c' < 128 := fun q => by simp [longN, q] at hlong
                  have c2 : ¬ c' < 2048 := fun q => by simp [longN, c1, q] at hlong
                  have c3 : c' < 65536 := by omega
                  refine ⟨r', ?_⟩
                  rw [putN, if_neg c1, if_neg c2, if_pos c3, u_eq (x := x) (by omega), u_eq (x := y) (by omega), u_eq (x := z) (by omega)]; rfl
                · cases hco
              · cases hco
            | [_], hn => exact absurd (by simp) hn
            | [], hn => exact absurd (by simp) hn
          · match r, hn with
            | y :: z :: t :: r', _ =>
              have hy := y.toNat_lt
              have hz := z.toNat_lt
              have ht := t.toNat_lt
              simp only [Nat.reduceSub, List.take_succ_cons, List.take_zero, cont] at hco
              split at hco
              · rename_i g1
                split at hco
                · rename_i g2
                  split at hco
                  · rename_i g3
                    injection hco with hco
                    have c1 : ¬ c' < 128 := fun q => by simp [longN, q] at hlong
                    have c2 : ¬ c' < 2048 := fun q => by simp [longN, c1, q] at hlong
                    have c3 : ¬ c' < 65536 := fun q => by simp [longN, c1, c2, q] at hlong
                    refine ⟨r', ?_⟩
                    rw [putN, if_neg c1, if_neg c2, if_neg c3, u_eq (x := x) (by omega), u_eq (x := y) (by omega), u_eq (x := z) (by omega), u_eq (x := t) (by omega)]; rfl
                  · cases hco
                · cases hco
              · cases hco
            | [_, _], hn => exact absurd (by simp) hn
            | [_], hn => exact absurd (by simp) hn
            | [], hn => exact absurd (by simp) hn
          · exact absurd (.inl rfl) hn
        · cases h
theorem get_len {l : List UInt8} {c n : Nat} (h : getL l = some (c, n)) : 1 ≤ n ∧ n ≤ 4 ∧ n ≤ l.length := by
  obtain ⟨_, rfl, r, rfl⟩ := put_of_get h
  have := longN_pos c
  rw [List.length_append, putN_len]
  omega
theorem get_take {l : List UInt8} {c n : Nat} (h : getL l = some (c, n)) : l.take n = putN c := by
  obtain ⟨_, rfl, r, rfl⟩ := put_of_get h
  rw [← putN_len, List.take_left]
theorem get_drop {l : List UInt8} {c n : Nat} (h : getL l = some (c, n)) : l = putN c ++ l.drop n := by
  rw [← get_take h, List.take_append_drop]
/-- No beginning of a code's bytes is a code's. -/
theorem get_short {l : List UInt8} {c n k : Nat} (h : getL l = some (c, n)) (hk : k < n) : getL (l.take k) = none := by
  cases hg : getL (l.take k) with
  | none => rfl
  | some p =>
    exfalso
    obtain ⟨c', n'⟩ := p
    have h2 := get_len hg
    obtain ⟨hc', rfl, r, hr⟩ := put_of_get hg
    have h3 : getL l = some (c', longN c') := by
      have e : l = putN c' ++ (r ++ l.drop k) := by rw [← List.append_assoc, ← hr, List.take_append_drop]
      rw [e]; exact get_of_put hc' _
    rw [h] at h3
    injection h3 with h3
    injection h3 with h4 h5
    have := h2.2.2
    rw [List.length_take] at this
    omega
end UtfL
end Go.Proofs.Ythlidbddeclnaaa
