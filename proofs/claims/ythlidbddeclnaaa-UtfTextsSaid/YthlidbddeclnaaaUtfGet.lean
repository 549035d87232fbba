/- The walk of utf.Get. -/
import Derived.Test.YthlidbddeclnaaaUtfWalk
namespace Go.Proofs.Ythlidbddeclnaaa
open Go.RowKit UtfL

theorem andNot_bad : ∀ x : Nat, x < 256 → (x &&& 192 = 128 ↔ x / 64 = 2) := by
  have h : ∀ x : Fin 256, (x.1 &&& 192 = 128 ↔ x.1 / 64 = 2) := by decide +kernel
  intro x hx
  exact h ⟨x, hx⟩
def getRes (r : Option (Nat × Nat)) : Value := match r with
  | some (c, n) => .tuple #[.int .i64 (c : Int), .int .i64 (n : Int), .bool true]
  | none => .tuple #[.int .i64 0, .int .i64 0, .bool false]
theorem cont_snoc (x : UInt8) : ∀ (c : Nat) (r : List UInt8), cont c (r ++ [x]) = (cont c r).bind fun d => if x.toNat / 64 = 2 then some (d * 64 + x.toNat % 64) else none
  | c, [] => by simp [cont]
  | c, y :: r => by
    rw [List.cons_append, cont, cont]
    split
    · exact cont_snoc x _ r
    · rfl
theorem cont_bad (x : UInt8) (h : ¬ x.toNat / 64 = 2) : ∀ (c : Nat) (r s : List UInt8), cont c (r ++ x :: s) = none
  | c, [], s => by simp [cont, h]
  | c, y :: r, s => by
    rw [List.cons_append, cont]
    split
    · exact cont_bad x h _ r s
    · rfl
theorem first_cases (x : Nat) : first x = (0, 0) ∨ (first x = (1, x) ∧ x < 128) ∨ ∃ n c, first x = (n, c) ∧ 2 ≤ n ∧ n ≤ 4 ∧ c < 32 := by
  unfold first
  by_cases q1 : x < 128
  · exact .inr (.inl ⟨by rw [if_pos q1], q1⟩)
  · rw [if_neg q1]
    by_cases q2 : 192 ≤ x ∧ x < 224
    · exact .inr (.inr ⟨_, _, by rw [if_pos q2], by omega, by omega, by omega⟩)
    · rw [if_neg q2]
      by_cases q3 : 224 ≤ x ∧ x < 240
      · exact .inr (.inr ⟨_, _, by rw [if_pos q3], by omega, by omega, by omega⟩)
      · rw [if_neg q3]
        by_cases q4 : 240 ≤ x ∧ x < 248
        · exact .inr (.inr ⟨_, _, by rw [if_pos q4], by omega, by omega, by omega⟩)
        · exact .inl (by rw [if_neg q4])
set_option maxRecDepth 100000 in
set_option maxHeartbeats 1000000 in
theorem utfGet_any (v : Value) (b : List UInt8) (at_ : Int) (w : World) (hb : Sees bv w v b) :
    Calls Try.prog 27 #[v, .int .i64 at_] w fun e w' => e = .returned (getRes (getAt b at_)) ∧ w = w' := by
  obtain ⟨a, cap, rfl, h1, h2, h3, h4⟩ := hb
  unfold maxLen at h2
  by_cases hin : 0 ≤ at_ ∧ at_ < b.length
  · obtain ⟨g1, g2⟩ := hin
    obtain ⟨k, rfl⟩ := Int.eq_ofNat_of_zero_le g1
    have hk : k < b.length := by omega
    obtain ⟨⟨bb, off, s⟩, rfl⟩ : ∃ b, a = some b := by
      cases a with
      | none => have := h3 rfl; omega
      | some b => exact ⟨b, rfl⟩
    obtain ⟨e1, e2, e3⟩ := h4 _ rfl (by omega)
    dsimp only at e1 e2 e3
    subst e1
    clear h4 h3
    have hc0 := e3 k hk
    have hd : b.drop k = b[k] :: b.drop (k + 1) := (List.getElem_cons_drop hk).symm
    obtain ⟨R, hR⟩ : ∃ R, getAt b (k : Int) = R := ⟨_, rfl⟩
    rw [hR]
    rw [getAt, if_pos ⟨g1, g2⟩, Int.toNat_natCast, hd] at hR
    have HR := Lib.hid hR
    have HE := Lib.hid e3
    clear hd e3 hR
    generalize b[k] = x at *
    have hx := x.toNat_lt
    unfold bv at hc0
    rcases first_cases x.toNat with hf | ⟨hf, hx1⟩ | ⟨n, c0, hf, hn1, hn2, hc⟩
    · have hr0 : R = none := by rw [← HR.out, getL, hf]; rfl
      have HF := Lib.hid hf
      subst hr0
      clear hf HE
      go_enter Try.func27, Try.ntmps27
      go_wp2_with fail
      refine (first_any _ _).mono ?_
      rintro e w' ⟨rfl, rfl⟩
      rw [HF.out]
      go_wp2
      go_ret3
      exact ⟨rfl, rfl⟩
    · have hcN : isCodeN x.toNat = true := by simp [isCodeN]; omega
      have hr0 : R = some (x.toNat, 1) := by
        rw [← HR.out, getL, hf]
        have hl1 : longN x.toNat = 1 := by simp [longN, hx1]
        simp [cont, hcN, hl1]
      have HF := Lib.hid hf
      subst hr0
      have HC : Hid (isCode (x.toNat : Int) = true) := by show isCode (x.toNat : Int) = true; simp [isCode, hcN]
      have HL : Hid (longN (x.toNat : Int).toNat = 1) := by show longN (x.toNat : Int).toNat = 1; rw [Int.toNat_natCast, longN, if_pos hx1]
      clear hf HE hcN
      go_enter Try.func27, Try.ntmps27
      go_wp2_with fail
      refine (first_any _ _).mono ?_
      rintro e w' ⟨rfl, rfl⟩
      rw [HF.out]
      by_cases hcap : cap = k + 1
      all_goals
        go_wp2
        refine wp_loop_rounds 1 ?_
        rw [rounds_succ]
        go_wp2_with fail
        refine (long_any _ _).mono ?_
        rintro e w' ⟨rfl, rfl⟩
        rw [HL.out]
        go_wp2_with fail
        refine (code_any _ _).mono ?_
        rintro e w' ⟨rfl, rfl⟩
        rw [HC.out]
        go_wp2
        go_ret3
        exact ⟨rfl, rfl⟩
    · have HF := Lib.hid hf
      by_cases hfit : k + n ≤ b.length
      · have hcap : ¬ cap = k + 1 := by omega
        have hcap2 : k + 1 < cap := by omega
        obtain ⟨m, hm⟩ : ∃ m, n = m + 1 := ⟨n - 1, by omega⟩
        obtain ⟨rest, hrest⟩ : ∃ rest, rest = b.drop (k + 1) := ⟨_, rfl⟩
        rw [← hrest] at HR
        have hlr : m ≤ rest.length := by rw [hrest, List.length_drop]; omega
        have hcell : ∀ j (hj : j < rest.length), w.cell? ⟨bb, off + (k + 1) + j, none⟩ = some (bv rest[j]) := fun j hj => by
          subst hrest
          rw [List.length_drop] at hj
          have := HE.out (k + 1 + j) (by omega)
          rw [← Nat.add_assoc] at this
          rw [this, List.getElem_drop]
        have hRR : R = match cont c0 (rest.take m) with
            | none => none
            | some c => if isCodeN c && longN c == n then some (c, n) else none := by
          rw [← HR.out, getL, hf]
          rw [if_neg (by simp; omega), show n - 1 = m by omega]
          dsimp only
          cases cont c0 (rest.take m) <;> rfl
        have HCE := Lib.hid hcell
        have HRR := Lib.hid hRR
        have HM := Lib.hid hm
        clear hcell hRR HE HR hf hrest hm
        have t1 : ((n : Int) == 0) = false := by rw [beq_eq_false_iff_ne]; omega
        have t2 : decide ((b.length : Int) - (k : Int) < (n : Int)) = false := by rw [decide_eq_false_iff_not]; omega
        go_enter Try.func27, Try.ntmps27
        go_wp2_with fail
        refine (first_any _ _).mono ?_
        rintro e w' ⟨rfl, rfl⟩
        rw [HF.out]
        go_wp2
        go_loop [8, 10, 47] (fun c _ i => ∃ j d : Nat, j ≤ m ∧ i = .int .i64 j ∧ c = .int .i64 d ∧ cont c0 (rest.take j) = some d ∧ d < 32 * 64 ^ j) (fun _ _ i => m - (intOf i).toNat)
        case atStart => exact ⟨0, c0, Nat.zero_le _, rfl, rfl, by simp [cont], by omega⟩
        case round =>
          obtain ⟨j, d, hj, rfl, rfl, hco, hd⟩ := hrel
          have HCO := Lib.hid hco
          have HD := Lib.hid hd
          have hd64 : d < 8388608 := by
            have hm := HM.out
            have : 64 ^ j ≤ 64 ^ 3 := Nat.pow_le_pow_right (by decide) (by omega)
            omega
          clear hco hd
          by_cases hlt : j < m
          · have hjr : j < rest.length := by omega
            have hc1 := HCE.out j hjr
            have hjc : j < k + n - (k + 1) := by have hm := HM.out; omega
            have hts := take_snoc rest j hjr
            have hdr : rest.take m = rest.take j ++ rest[j] :: (rest.drop (j + 1)).take (m - j - 1) := by
              have e1 : rest.take m = (rest.take j ++ rest.drop j).take m := by rw [List.take_append_drop]
              rw [e1, List.take_append, List.take_take, Nat.min_eq_right (by omega), List.length_take, Nat.min_eq_left (by omega), ← List.getElem_cons_drop hjr]
              congr 1
              rw [show m - j = (m - j - 1) + 1 by omega, List.take_succ_cons]
              rfl
            have HTS := Lib.hid hts
            have HDR := Lib.hid hdr
            clear hts hdr
            generalize rest[j] = y at *
            have hy := y.toNat_lt
            have hand : bits BinOp.andNot IntKind.u8 (y.toNat : Int) 63 = ((y.toNat &&& 192 : Nat) : Int) := u8_andNot_nat y.toNat 63 hy (by decide)
            have hiff := andNot_bad y.toNat hy
            generalize y.toNat &&& 192 = Y at *
            unfold bv at hc1
            by_cases hg : y.toNat / 64 = 2
            · have hY : (((Y : Nat) : Int) != 128) = false := by rw [bne_eq_false_iff_eq]; have := hiff.2 hg; omega
              have HN : Hid (cont c0 (rest.take (j + 1)) = some (d * 64 + y.toNat % 64)) := by
                show cont c0 (rest.take (j + 1)) = _
                rw [HTS.out, cont_snoc, HCO.out]
                simp [hg]
              have hor : Hid (bits BinOp.or IntKind.i64 ((d : Int) * 64) ((y.toNat : Int) % 64) = ((d * 64 + y.toNat % 64 : Nat) : Int)) := by
                have := i64_or_nat (d * 64) (y.toNat % 64) (by omega) (by omega)
                rw [nat_join 6 (d * 64) (y.toNat % 64) (by omega) (by omega)] at this
                exact this
              have HD2 : Hid (d * 64 + y.toNat % 64 < 32 * 64 ^ (j + 1)) := by
                show d * 64 + y.toNat % 64 < 32 * 64 ^ (j + 1)
                have := HD.out
                rw [Nat.pow_succ]
                omega
              clear hiff hg
              go_wp2
              go_round
              case rel => exact ⟨j + 1, d * 64 + y.toNat % 64, by omega, by go_num, by rw [← hor.out], HN.out, HD2.out⟩
              case measure => simp [intOf]; omega
            · have hY : (((Y : Nat) : Int) != 128) = true := by
                rw [bne_iff_ne]; intro e; exact hg (hiff.1 (by omega))
              have hr0 : R = none := by
                rw [HRR.out, HDR.out, cont_bad y hg]
              subst hr0
              clear hiff hg
              go_wp2
              go_ret3
              exact ⟨rfl, rfl⟩
          · have hjm : j = m := by omega
            have hje : ¬ j < k + n - (k + 1) := by have hm := HM.out; omega
            have hRd : R = if isCodeN d && longN d == n then some (d, n) else none := by
              rw [HRR.out, ← hjm, HCO.out]
            have hcd : isCode (d : Int) = isCodeN d := by simp [isCode]
            have HCD := Lib.hid hcd
            clear hcd hjm
            by_cases hok : isCodeN d = true
            · by_cases hlo : longN d = n
              · have hr0 : R = some (d, n) := by rw [hRd]; simp [hok, hlo]
                subst hr0
                have HOK := Lib.hid hok
                have t3 : (((longN d : Nat) : Int) != (n : Int)) = false := by rw [bne_eq_false_iff_eq, hlo]
                clear hRd hok hlo
                go_wp2_with fail
                refine (long_any _ _).mono ?_
                rintro e w' ⟨rfl, rfl⟩
                rw [Int.toNat_natCast]
                go_wp2_with fail
                refine (code_any _ _).mono ?_
                rintro e w' ⟨rfl, rfl⟩
                rw [HCD.out, HOK.out]
                go_wp2
                go_ret3
                exact ⟨rfl, rfl⟩
              · have hr0 : R = none := by rw [hRd]; simp [hlo]
                subst hr0
                have HOK := Lib.hid hok
                have t3 : (((longN d : Nat) : Int) != (n : Int)) = true := by rw [bne_iff_ne]; intro e; exact hlo (by omega)
                clear hRd hok hlo
                go_wp2_with fail
                refine (long_any _ _).mono ?_
                rintro e w' ⟨rfl, rfl⟩
                rw [Int.toNat_natCast]
                go_wp2_with fail
                refine (code_any _ _).mono ?_
                rintro e w' ⟨rfl, rfl⟩
                rw [HCD.out, HOK.out]
                go_wp2
                go_ret3
                exact ⟨rfl, rfl⟩
            · have hr0 : R = none := by rw [hRd]; simp [hok]
              subst hr0
              have HOK := Lib.hid (show isCodeN d = false by simpa using hok)
              clear hRd hok
              go_wp2_with fail
              refine (long_any _ _).mono ?_
              rintro e w' ⟨rfl, rfl⟩
              rw [Int.toNat_natCast]
              go_wp2_with fail
              refine (code_any _ _).mono ?_
              rintro e w' ⟨rfl, rfl⟩
              rw [HCD.out, HOK.out]
              go_wp2
              go_ret3
              exact ⟨rfl, rfl⟩
      · have hr0 : R = none := by
          rw [← HR.out, getL, hf]
          rw [if_pos (.inr (by simp; omega))]
        subst hr0
        have hfit' : b.length - k < n := by omega
        clear hf HE hfit
        go_enter Try.func27, Try.ntmps27
        go_wp2_with fail
        refine (first_any _ _).mono ?_
        rintro e w' ⟨rfl, rfl⟩
        rw [HF.out]
        go_wp2
        go_ret3
        exact ⟨rfl, rfl⟩
  · have HR : Hid (getAt b at_ = none) := by show getAt b at_ = none; rw [getAt, if_neg hin]
    rw [HR.out]
    by_cases q : at_ < 0
    · go_enter Try.func27, Try.ntmps27
      go_wp2
      go_ret3
      exact ⟨rfl, rfl⟩
    · have q2 : (b.length : Int) ≤ at_ := by omega
      clear hin
      go_enter Try.func27, Try.ntmps27
      go_wp2
      go_ret3
      exact ⟨rfl, rfl⟩
end Go.Proofs.Ythlidbddeclnaaa
