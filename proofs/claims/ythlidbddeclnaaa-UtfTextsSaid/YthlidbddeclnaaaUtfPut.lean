/- The walk of utf.Put. -/
import Derived.Test.YthlidbddeclnaaaUtfWalk
namespace Go.Proofs.Ythlidbddeclnaaa
open Go.RowKit UtfL

set_option maxRecDepth 100000 in
set_option maxHeartbeats 1000000 in
theorem utfPut_any (c : Int) (w : World) :
    Calls Try.prog 29 #[.int .i64 c] w fun e w' => ∃ v, e = .returned v ∧ w'.ownsRow w.heap.size 5 1 v (put c).length ((put c).map bv) ∧ Below w.heap.size w w' := by
  by_cases hc : isCode c = true
  · have h0 : 0 ≤ c := by simp only [isCode, Bool.and_eq_true, decide_eq_true_eq] at hc; exact hc.1
    obtain ⟨c, rfl⟩ := Int.eq_ofNat_of_zero_le h0
    have hmax : c ≤ 1114111 := by simp only [isCode, isCodeN, Bool.and_eq_true, decide_eq_true_eq, Int.toNat_natCast] at hc; omega
    have hp : put (c : Int) = putN c := by simp [put, hc]
    have HC := Lib.hid hc
    rw [hp]
    clear hp hc h0
    have hand : ∀ x : Nat, x < 4194304 → bits BinOp.and IntKind.i64 (x : Int) 63 = ((x % 64 : Nat) : Int) := fun x hx => by
      have := i64_and_nat x 63 (by omega) (by decide)
      rwa [nat_mask6] at this
    have hor : ∀ k x y : Nat, x % 2 ^ k = 0 → y < 2 ^ k → x < 256 → y < 256 → bits BinOp.or IntKind.i64 (x : Int) (y : Int) = ((x + y : Nat) : Int) := fun k x y h1 h2 h3 h4 => by
      have := i64_or_nat x y (by omega) (by omega)
      rwa [nat_join k x y h1 h2] at this
    have HAND := Lib.hid hand
    have HOR := Lib.hid hor
    clear hand hor
    have hmk1 : ∀ w, (Instr.makeSlice 23 (.int .i64 1) (.int .i64 1)).run Try.prog w = .ok (.slice (some ⟨w.heap.size, 0, none⟩) 1 1) (w.alloc (.cells #[.int .u8 0] 5)) := fun _ => by kernel_rfl
    have hmk2 : ∀ w, (Instr.makeSlice 23 (.int .i64 2) (.int .i64 2)).run Try.prog w = .ok (.slice (some ⟨w.heap.size, 0, none⟩) 2 2) (w.alloc (.cells #[.int .u8 0, .int .u8 0] 5)) := fun _ => by kernel_rfl
    have hmk3 : ∀ w, (Instr.makeSlice 23 (.int .i64 3) (.int .i64 3)).run Try.prog w = .ok (.slice (some ⟨w.heap.size, 0, none⟩) 3 3) (w.alloc (.cells #[.int .u8 0, .int .u8 0, .int .u8 0] 5)) := fun _ => by kernel_rfl
    have hmk4 : ∀ w, (Instr.makeSlice 23 (.int .i64 4) (.int .i64 4)).run Try.prog w = .ok (.slice (some ⟨w.heap.size, 0, none⟩) 4 4) (w.alloc (.cells #[.int .u8 0, .int .u8 0, .int .u8 0, .int .u8 0] 5)) := fun _ => by kernel_rfl
    by_cases c1 : c < 128
    · have HL := Lib.hid (show longN (c : Int).toNat = 1 by rw [Int.toNat_natCast, longN, if_pos c1])
      have HD := Lib.hid (show longHd (c : Int) = 0 by rw [longHd, if_pos (by omega)])
      have HPL := Lib.hid (show (putN c).length = 1 by rw [putN, if_pos c1]; rfl)
      have o1 := HOR.out 8 0 c (by decide) (by omega) (by omega) (by omega)
      have HP := Lib.hid (show [Value.int .u8 (bits BinOp.or IntKind.i64 0 (c : Int) % 256)] = (putN c).map bv by
        rw [putN, if_pos c1]
        simp only [List.map_cons, List.map_nil, bv, u_toNat (n := c) (by omega)]
        rw [show bits BinOp.or IntKind.i64 0 (c : Int) = ((0 + c : Nat) : Int) from o1]
        congr 2; omega)
      clear o1
      clear HAND HOR hmk2 hmk3 hmk4
      go_enter Try.func29, Try.ntmps29
      go_wp2_with fail
      refine (code_any _ _).mono ?_
      rintro e w' ⟨rfl, rfl⟩
      rw [HC.out]
      go_wp2_with fail
      refine (long_any _ _).mono ?_
      rintro e w' ⟨rfl, rfl⟩
      rw [HL.out, HD.out]
      go_wp2
      refine wp_loop_rounds 1 ?_
      rw [rounds_succ]
      go_wp2
      go_ret
      exact ⟨_, rfl, by rw [← HP.out, HPL.out]; exact World.ownsRow_lit (base := w.heap.size) (e := 5) (size := 1) w _ 1 (Nat.le_refl _) (by decide) rfl, (Below.refl _ _).alloc (Nat.le_refl _) _⟩
    · by_cases c2 : c < 2048
      · have HL := Lib.hid (show longN (c : Int).toNat = 2 by rw [Int.toNat_natCast, longN, if_neg c1, if_pos c2])
        have HD := Lib.hid (show longHd (c : Int) = 192 by rw [longHd, if_neg (by omega), if_pos (by omega)])
        have HPL := Lib.hid (show (putN c).length = 2 by rw [putN, if_neg c1, if_pos c2]; rfl)
        have a0 := HAND.out c (by omega)
        have b0 := HOR.out 7 128 (c % 64) (by decide) (by omega) (by omega) (by omega)
        have o1 := HOR.out 5 192 (c / 64) (by decide) (by omega) (by omega) (by omega)
        have HP := Lib.hid (show [Value.int .u8 (bits BinOp.or IntKind.i64 192 ((c : Int) / 64) % 256), .int .u8 (bits BinOp.or IntKind.i64 128 (bits BinOp.and IntKind.i64 ((c : Int)) 63) % 256)] = (putN c).map bv by
          rw [putN, if_neg c1, if_pos c2]
          simp only [List.map_cons, List.map_nil, bv, u_toNat (n := 192 + c / 64) (by omega), u_toNat (n := 128 + c % 64) (by omega)]
          simp only [Int.natCast_ediv, Int.natCast_emod, Int.natCast_add, Int.cast_ofNat_Int] at a0 b0 o1
          rw [o1, a0, b0]
          refine List.cons_eq_cons.2 ⟨by congr 1; omega, ?_⟩
          refine List.cons_eq_cons.2 ⟨by congr 1; omega, ?_⟩
          rfl)
        clear o1 a0 b0
        clear HAND HOR hmk1 hmk3 hmk4
        go_enter Try.func29, Try.ntmps29
        go_wp2_with fail
        refine (code_any _ _).mono ?_
        rintro e w' ⟨rfl, rfl⟩
        rw [HC.out]
        go_wp2_with fail
        refine (long_any _ _).mono ?_
        rintro e w' ⟨rfl, rfl⟩
        rw [HL.out, HD.out]
        go_wp2
        refine wp_loop_rounds 2 ?_
        rw [rounds_succ]
        go_wp2
        rw [rounds_succ]
        go_wp2
        go_ret
        exact ⟨_, rfl, by rw [← HP.out, HPL.out]; exact World.ownsRow_lit (base := w.heap.size) (e := 5) (size := 1) w _ 2 (Nat.le_refl _) (by decide) rfl, (Below.refl _ _).alloc (Nat.le_refl _) _⟩
      · by_cases c3 : c < 65536
        · have HL := Lib.hid (show longN (c : Int).toNat = 3 by rw [Int.toNat_natCast, longN, if_neg c1, if_neg c2, if_pos c3])
          have HD := Lib.hid (show longHd (c : Int) = 224 by rw [longHd, if_neg (by omega), if_neg (by omega), if_pos (by omega)])
          have HPL := Lib.hid (show (putN c).length = 3 by rw [putN, if_neg c1, if_neg c2, if_pos c3]; rfl)
          have a0 := HAND.out c (by omega)
          have b0 := HOR.out 7 128 (c % 64) (by decide) (by omega) (by omega) (by omega)
          have a1 := HAND.out (c / 64) (by omega)
          have b1 := HOR.out 7 128 ((c / 64) % 64) (by decide) (by omega) (by omega) (by omega)
          have o1 := HOR.out 4 224 ((c / 64) / 64) (by decide) (by omega) (by omega) (by omega)
          have HP := Lib.hid (show [Value.int .u8 (bits BinOp.or IntKind.i64 224 ((c : Int) / 64 / 64) % 256), .int .u8 (bits BinOp.or IntKind.i64 128 (bits BinOp.and IntKind.i64 ((c : Int) / 64) 63) % 256), .int .u8 (bits BinOp.or IntKind.i64 128 (bits BinOp.and IntKind.i64 ((c : Int)) 63) % 256)] = (putN c).map bv by
            rw [putN, if_neg c1, if_neg c2, if_pos c3]
            simp only [List.map_cons, List.map_nil, bv, u_toNat (n := 224 + c / 4096) (by omega), u_toNat (n := 128 + c / 64 % 64) (by omega), u_toNat (n := 128 + c % 64) (by omega)]
            simp only [Int.natCast_ediv, Int.natCast_emod, Int.natCast_add, Int.cast_ofNat_Int] at a0 b0 a1 b1 o1
            rw [o1, a1, b1, a0, b0]
            refine List.cons_eq_cons.2 ⟨by congr 1; omega, ?_⟩
            refine List.cons_eq_cons.2 ⟨by congr 1; omega, ?_⟩
            refine List.cons_eq_cons.2 ⟨by congr 1; omega, ?_⟩
            rfl)
          clear o1 a0 b0 a1 b1
          clear HAND HOR hmk1 hmk2 hmk4
          go_enter Try.func29, Try.ntmps29
          go_wp2_with fail
          refine (code_any _ _).mono ?_
          rintro e w' ⟨rfl, rfl⟩
          rw [HC.out]
          go_wp2_with fail
          refine (long_any _ _).mono ?_
          rintro e w' ⟨rfl, rfl⟩
          rw [HL.out, HD.out]
          go_wp2
          refine wp_loop_rounds 3 ?_
          rw [rounds_succ]
          go_wp2
          rw [rounds_succ]
          go_wp2
          rw [rounds_succ]
          go_wp2
          go_ret
          exact ⟨_, rfl, by rw [← HP.out, HPL.out]; exact World.ownsRow_lit (base := w.heap.size) (e := 5) (size := 1) w _ 3 (Nat.le_refl _) (by decide) rfl, (Below.refl _ _).alloc (Nat.le_refl _) _⟩
        · have HL := Lib.hid (show longN (c : Int).toNat = 4 by rw [Int.toNat_natCast, longN, if_neg c1, if_neg c2, if_neg c3])
          have HD := Lib.hid (show longHd (c : Int) = 240 by rw [longHd, if_neg (by omega), if_neg (by omega), if_neg (by omega)])
          have HPL := Lib.hid (show (putN c).length = 4 by rw [putN, if_neg c1, if_neg c2, if_neg c3]; rfl)
          have a0 := HAND.out c (by omega)
          have b0 := HOR.out 7 128 (c % 64) (by decide) (by omega) (by omega) (by omega)
          have a1 := HAND.out (c / 64) (by omega)
          have b1 := HOR.out 7 128 ((c / 64) % 64) (by decide) (by omega) (by omega) (by omega)
          have a2 := HAND.out ((c / 64) / 64) (by omega)
          have b2 := HOR.out 7 128 (((c / 64) / 64) % 64) (by decide) (by omega) (by omega) (by omega)
          have o1 := HOR.out 3 240 (((c / 64) / 64) / 64) (by decide) (by omega) (by omega) (by omega)
          have HP := Lib.hid (show [Value.int .u8 (bits BinOp.or IntKind.i64 240 ((c : Int) / 64 / 64 / 64) % 256), .int .u8 (bits BinOp.or IntKind.i64 128 (bits BinOp.and IntKind.i64 ((c : Int) / 64 / 64) 63) % 256), .int .u8 (bits BinOp.or IntKind.i64 128 (bits BinOp.and IntKind.i64 ((c : Int) / 64) 63) % 256), .int .u8 (bits BinOp.or IntKind.i64 128 (bits BinOp.and IntKind.i64 ((c : Int)) 63) % 256)] = (putN c).map bv by
            rw [putN, if_neg c1, if_neg c2, if_neg c3]
            simp only [List.map_cons, List.map_nil, bv, u_toNat (n := 240 + c / 262144) (by omega), u_toNat (n := 128 + c / 4096 % 64) (by omega), u_toNat (n := 128 + c / 64 % 64) (by omega), u_toNat (n := 128 + c % 64) (by omega)]
            simp only [Int.natCast_ediv, Int.natCast_emod, Int.natCast_add, Int.cast_ofNat_Int] at a0 b0 a1 b1 a2 b2 o1
            rw [o1, a2, b2, a1, b1, a0, b0]
            refine List.cons_eq_cons.2 ⟨by congr 1; omega, ?_⟩
            refine List.cons_eq_cons.2 ⟨by congr 1; omega, ?_⟩
            refine List.cons_eq_cons.2 ⟨by congr 1; omega, ?_⟩
            refine List.cons_eq_cons.2 ⟨by congr 1; omega, ?_⟩
            rfl)
          clear o1 a0 b0 a1 b1 a2 b2
          clear HAND HOR hmk1 hmk2 hmk3
          go_enter Try.func29, Try.ntmps29
          go_wp2_with fail
          refine (code_any _ _).mono ?_
          rintro e w' ⟨rfl, rfl⟩
          rw [HC.out]
          go_wp2_with fail
          refine (long_any _ _).mono ?_
          rintro e w' ⟨rfl, rfl⟩
          rw [HL.out, HD.out]
          go_wp2
          refine wp_loop_rounds 4 ?_
          rw [rounds_succ]
          go_wp2
          rw [rounds_succ]
          go_wp2
          rw [rounds_succ]
          go_wp2
          rw [rounds_succ]
          go_wp2
          go_ret
          exact ⟨_, rfl, by rw [← HP.out, HPL.out]; exact World.ownsRow_lit (base := w.heap.size) (e := 5) (size := 1) w _ 4 (Nat.le_refl _) (by decide) rfl, (Below.refl _ _).alloc (Nat.le_refl _) _⟩
  · have hp : put c = [] := by simp [put, hc]
    rw [hp]
    have HC := Lib.hid (show isCode c = false by simpa using hc)
    clear hc hp
    go_enter Try.func29, Try.ntmps29
    go_wp2_with fail
    refine (code_any _ _).mono ?_
    rintro e w' ⟨rfl, rfl⟩
    rw [HC.out]
    go_wp2
    go_ret
    exact ⟨_, rfl, World.ownsRow_nil _ _ _ _, Below.refl _ _⟩
end Go.Proofs.Ythlidbddeclnaaa
