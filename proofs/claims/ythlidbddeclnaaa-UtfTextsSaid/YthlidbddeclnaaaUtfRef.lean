/- The walks of layer 1's reference: Code, Put. -/
import Derived.Test.YthlidbddeclnaaaUtfPut
namespace Go.Proofs.Ythlidbddeclnaaa
open Go.RowKit UtfL

set_option maxHeartbeats 400000 in
theorem refCode_any (c : Int) (w : World) :
    Calls Try.prog 45 #[.int .i64 c] w fun e w' => e = .returned (.bool (isCode c)) ∧ w = w' := by
  have H : c < 0 ∨ (0 ≤ c ∧ c < 55296) ∨ (55296 ≤ c ∧ c ≤ 57343) ∨ (57343 < c ∧ c ≤ 1114111) ∨ 1114111 < c := by omega
  have hcode : isCode c = decide ((0 ≤ c ∧ c < 55296) ∨ (57343 < c ∧ c ≤ 1114111)) := by
    unfold isCode isCodeN
    rw [← Bool.decide_and]
    congr 1
    apply propext
    omega
  have HC := Lib.hid hcode
  clear hcode
  rcases H with h | ⟨h1, h2⟩ | ⟨h1, h2⟩ | ⟨h1, h2⟩ | h
  all_goals
    go_enter Try.func45, Try.ntmps45
    go_wp2
    go_ret
    exact ⟨ret_bool (by rw [HC.out]; rw [Bool.eq_iff_iff]; simp; omega), rfl⟩

set_option maxRecDepth 1000000 in
set_option maxHeartbeats 1000000 in
theorem refPut1_any (c : Int) (w : World) :
    Calls Try.prog 30 #[.int .i64 c] w fun e w' => ∃ v, e = .returned v ∧ w'.ownsRow w.heap.size 5 1 v (put c).length ((put c).map bv) ∧ Below w.heap.size w w' := by
  by_cases hc : isCode c = true
  · have h0 : 0 ≤ c := by simp only [isCode, Bool.and_eq_true, decide_eq_true_eq] at hc; exact hc.1
    obtain ⟨c, rfl⟩ := Int.eq_ofNat_of_zero_le h0
    have hmax : c ≤ 1114111 := by simp only [isCode, isCodeN, Bool.and_eq_true, decide_eq_true_eq, Int.toNat_natCast] at hc; omega
    have hp : put (c : Int) = putN c := by simp [put, hc]
    have HC := Lib.hid hc
    rw [hp]
    clear hp hc h0
    by_cases c1 : c < 128
    · have HPL := Lib.hid (show (putN c).length = 1 by rw [putN, if_pos c1]; rfl)
      have HP := Lib.hid (show [Value.int .u8 (c : Int)] = (putN c).map bv by
        rw [putN, if_pos c1]
        simp only [List.map_cons, List.map_nil, bv, u_toNat (n := c) (by omega)])
      go_enter Try.func30, Try.ntmps30
      go_wp2_with fail
      refine (refCode_any _ _).mono ?_
      rintro e w' ⟨rfl, rfl⟩
      rw [HC.out]
      go_wp2
      go_ret
      exact ⟨_, rfl, by rw [← HP.out, HPL.out]; exact World.ownsRow_lit (base := w.heap.size) (e := 5) (size := 1) w _ 1 (Nat.le_refl _) (by decide) rfl, (Below.refl _ _).alloc (Nat.le_refl _) _⟩
    · by_cases c2 : c < 2048
      · have HPL := Lib.hid (show (putN c).length = 2 by rw [putN, if_neg c1, if_pos c2]; rfl)
        have HP := Lib.hid (show [Value.int .u8 (192 + (c : Int) / 64), Value.int .u8 (128 + (c : Int) % 64)] = (putN c).map bv by
          rw [putN, if_neg c1, if_pos c2]
          simp only [List.map_cons, List.map_nil, bv, u_toNat (n := 192 + c / 64) (by omega), u_toNat (n := 128 + c % 64) (by omega)]
          refine List.cons_eq_cons.2 ⟨by first | (congr 1; done) | (congr 1; omega), ?_⟩
          refine List.cons_eq_cons.2 ⟨by first | (congr 1; done) | (congr 1; omega), ?_⟩
          rfl)
        go_enter Try.func30, Try.ntmps30
        go_wp2_with fail
        refine (refCode_any _ _).mono ?_
        rintro e w' ⟨rfl, rfl⟩
        rw [HC.out]
        go_wp2
        go_ret
        exact ⟨_, rfl, by rw [← HP.out, HPL.out]; exact World.ownsRow_lit (base := w.heap.size) (e := 5) (size := 1) w _ 2 (Nat.le_refl _) (by decide) rfl, (Below.refl _ _).alloc (Nat.le_refl _) _⟩
      · by_cases c3 : c < 65536
        · have HPL := Lib.hid (show (putN c).length = 3 by rw [putN, if_neg c1, if_neg c2, if_pos c3]; rfl)
          have HP := Lib.hid (show [Value.int .u8 (224 + (c : Int) / 4096), Value.int .u8 (128 + (c : Int) / 64 % 64), Value.int .u8 (128 + (c : Int) % 64)] = (putN c).map bv by
            rw [putN, if_neg c1, if_neg c2, if_pos c3]
            simp only [List.map_cons, List.map_nil, bv, u_toNat (n := 224 + c / 4096) (by omega), u_toNat (n := 128 + c / 64 % 64) (by omega), u_toNat (n := 128 + c % 64) (by omega)]
            refine List.cons_eq_cons.2 ⟨by first | (congr 1; done) | (congr 1; omega), ?_⟩
            refine List.cons_eq_cons.2 ⟨by first | (congr 1; done) | (congr 1; omega), ?_⟩
            refine List.cons_eq_cons.2 ⟨by first | (congr 1; done) | (congr 1; omega), ?_⟩
            rfl)
          go_enter Try.func30, Try.ntmps30
          go_wp2_with fail
          refine (refCode_any _ _).mono ?_
          rintro e w' ⟨rfl, rfl⟩
          rw [HC.out]
          go_wp2
          go_ret
          exact ⟨_, rfl, by rw [← HP.out, HPL.out]; exact World.ownsRow_lit (base := w.heap.size) (e := 5) (size := 1) w _ 3 (Nat.le_refl _) (by decide) rfl, (Below.refl _ _).alloc (Nat.le_refl _) _⟩
        · have HPL := Lib.hid (show (putN c).length = 4 by rw [putN, if_neg c1, if_neg c2, if_neg c3]; rfl)
          have HP := Lib.hid (show [Value.int .u8 (240 + (c : Int) / 262144), Value.int .u8 (128 + (c : Int) / 4096 % 64), Value.int .u8 (128 + (c : Int) / 64 % 64), Value.int .u8 (128 + (c : Int) % 64)] = (putN c).map bv by
            rw [putN, if_neg c1, if_neg c2, if_neg c3]
            simp only [List.map_cons, List.map_nil, bv, u_toNat (n := 240 + c / 262144) (by omega), u_toNat (n := 128 + c / 4096 % 64) (by omega), u_toNat (n := 128 + c / 64 % 64) (by omega), u_toNat (n := 128 + c % 64) (by omega)]
            refine List.cons_eq_cons.2 ⟨by first | (congr 1; done) | (congr 1; omega), ?_⟩
            refine List.cons_eq_cons.2 ⟨by first | (congr 1; done) | (congr 1; omega), ?_⟩
            refine List.cons_eq_cons.2 ⟨by first | (congr 1; done) | (congr 1; omega), ?_⟩
            refine List.cons_eq_cons.2 ⟨by first | (congr 1; done) | (congr 1; omega), ?_⟩
            rfl)
          go_enter Try.func30, Try.ntmps30
          go_wp2_with fail
          refine (refCode_any _ _).mono ?_
          rintro e w' ⟨rfl, rfl⟩
          rw [HC.out]
          go_wp2
          go_ret
          exact ⟨_, rfl, by rw [← HP.out, HPL.out]; exact World.ownsRow_lit (base := w.heap.size) (e := 5) (size := 1) w _ 4 (Nat.le_refl _) (by decide) rfl, (Below.refl _ _).alloc (Nat.le_refl _) _⟩
  · have hP : put c = [] := by rw [put, if_neg hc]
    have HC := Lib.hid (show isCode c = false by simpa using hc)
    rw [hP]
    clear hc hP
    go_enter Try.func30, Try.ntmps30
    go_wp2_with fail
    refine (refCode_any _ _).mono ?_
    rintro e w' ⟨rfl, rfl⟩
    rw [HC.out]
    go_wp2
    go_ret
    exact ⟨_, rfl, World.ownsRow_nil _ _ _ _, Below.refl _ _⟩
end Go.Proofs.Ythlidbddeclnaaa
