/- The walks of layer 1 (utf): the leaves. -/
import Derived.Test.YthlidbddeclnaaaUtfLaw
import Derived.Test.YthlidbddeclnaaaProg
import Derived.LoopN
namespace Go.Proofs.Ythlidbddeclnaaa
open Go.RowKit UtfL

set_option maxHeartbeats 400000 in
theorem code_any (c : Int) (w : World) :
    Calls Try.prog 44 #[.int .i64 c] w fun e w' => e = .returned (.bool (isCode c)) ∧ w = w' := by
  have H : c < 0 ∨ (0 ≤ c ∧ c < 55296) ∨ (55296 ≤ c ∧ c ≤ 57343) ∨ (57343 < c ∧ c ≤ 1114111) ∨ 1114111 < c := by omega
  have hcode : isCode c = decide ((0 ≤ c ∧ c < 55296) ∨ (57343 < c ∧ c ≤ 1114111)) := by
    unfold isCode isCodeN
    rw [← Bool.decide_and]
    congr 1
    apply propext
    omega
  have HC := Lib.hid hcode
  clear hcode
  rcases H with h | ⟨h1, h2⟩ | ⟨h1, h2⟩ | ⟨h1, h2⟩ | h
  all_goals
    go_enter Try.func44, Try.ntmps44
    go_wp2
    go_ret
    exact ⟨ret_bool (by rw [HC.out]; rw [Bool.eq_iff_iff]; simp; omega), rfl⟩
def longHd (c : Int) : Int := if c < 128 then 0 else if c < 2048 then 192 else if c < 65536 then 224 else 240
theorem long_any (c : Int) (w : World) :
    Calls Try.prog 43 #[.int .i64 c] w fun e w' => e = .returned (.tuple #[.int .i64 (longN c.toNat : Nat), .int .i64 (longHd c)]) ∧ w = w' := by
  have H : c < 128 ∨ (128 ≤ c ∧ c < 2048) ∨ (2048 ≤ c ∧ c < 65536) ∨ 65536 ≤ c := by omega
  rcases H with h | ⟨h1, h2⟩ | ⟨h1, h2⟩ | h
  · have HL := Lib.hid (show longN c.toNat = 1 by unfold longN; rw [if_pos (by omega)])
    have HD := Lib.hid (show longHd c = _ from by rw [longHd, if_pos h])
    rw [HL.out, HD.out]
    go_enter Try.func43, Try.ntmps43
    go_wp2
    go_ret2
    exact ⟨rfl, rfl⟩
  · have HL := Lib.hid (show longN c.toNat = 2 by unfold longN; rw [if_neg (by omega), if_pos (by omega)])
    have HD := Lib.hid (show longHd c = _ from by rw [longHd, if_neg (by omega), if_pos h2])
    rw [HL.out, HD.out]
    go_enter Try.func43, Try.ntmps43
    go_wp2
    go_ret2
    exact ⟨rfl, rfl⟩
  · have HL := Lib.hid (show longN c.toNat = 3 by unfold longN; rw [if_neg (by omega), if_neg (by omega), if_pos (by omega)])
    have HD := Lib.hid (show longHd c = _ from by rw [longHd, if_neg (by omega), if_neg (by omega), if_pos h2])
    rw [HL.out, HD.out]
    go_enter Try.func43, Try.ntmps43
    go_wp2
    go_ret2
    exact ⟨rfl, rfl⟩
  · have HL := Lib.hid (show longN c.toNat = 4 by unfold longN; rw [if_neg (by omega), if_neg (by omega), if_neg (by omega)])
    have HD := Lib.hid (show longHd c = _ from by rw [longHd, if_neg (by omega), if_neg (by omega), if_neg (by omega)])
    rw [HL.out, HD.out]
    go_enter Try.func43, Try.ntmps43
    go_wp2
    go_ret2
    exact ⟨rfl, rfl⟩
set_option maxRecDepth 100000 in
set_option maxHeartbeats 400000 in
theorem first_any (x : UInt8) (w : World) :
    Calls Try.prog 42 #[.int .u8 (x.toNat : Int)] w fun e w' => e = .returned (.tuple #[.int .i64 ((first x.toNat).1 : Nat), .int .i64 ((first x.toNat).2 : Nat)]) ∧ w = w' := by
  have hx := x.toNat_lt
  generalize x.toNat = x at *
  have H : x < 128 ∨ (128 ≤ x ∧ x < 192) ∨ (192 ≤ x ∧ x < 224) ∨ (224 ≤ x ∧ x < 240) ∨ (240 ≤ x ∧ x < 248) ∨ 248 ≤ x := by omega
  rcases H with h | ⟨h1, h2⟩ | ⟨h1, h2⟩ | ⟨h1, h2⟩ | ⟨h1, h2⟩ | h
  · have HF := Lib.hid (show first x = (1, x) by unfold first; rw [if_pos (by omega)])
    rw [HF.out]
    go_enter Try.func42, Try.ntmps42
    go_wp2
    go_ret2
    exact ⟨rfl, rfl⟩
  · have HF := Lib.hid (show first x = (0, 0) by unfold first; rw [if_neg (by omega), if_neg (by omega), if_neg (by omega), if_neg (by omega)])
    rw [HF.out]
    go_enter Try.func42, Try.ntmps42
    go_wp2
    go_ret2
    exact ⟨rfl, rfl⟩
  · have HF := Lib.hid (show first x = (2, x % 32) by unfold first; rw [if_neg (by omega), if_pos (by omega)])
    have hb := u8_and_nat x 31 hx (by decide)
    rw [nat_mask5] at hb
    rw [HF.out]
    go_enter Try.func42, Try.ntmps42
    go_wp2
    go_ret2
    exact ⟨rfl, rfl⟩
  · have HF := Lib.hid (show first x = (3, x % 16) by unfold first; rw [if_neg (by omega), if_neg (by omega), if_pos (by omega)])
    rw [HF.out]
    go_enter Try.func42, Try.ntmps42
    go_wp2
    go_ret2
    exact ⟨rfl, rfl⟩
  · have HF := Lib.hid (show first x = (4, x % 8) by unfold first; rw [if_neg (by omega), if_neg (by omega), if_neg (by omega), if_pos (by omega)])
    rw [HF.out]
    go_enter Try.func42, Try.ntmps42
    go_wp2
    go_ret2
    exact ⟨rfl, rfl⟩
  · have HF := Lib.hid (show first x = (0, 0) by unfold first; rw [if_neg (by omega), if_neg (by omega), if_neg (by omega), if_neg (by omega)])
    rw [HF.out]
    go_enter Try.func42, Try.ntmps42
    go_wp2
    go_ret2
    exact ⟨rfl, rfl⟩
end Go.Proofs.Ythlidbddeclnaaa
