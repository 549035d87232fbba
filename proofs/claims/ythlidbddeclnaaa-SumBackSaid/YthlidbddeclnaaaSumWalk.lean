/- The walks of layer 4 (check sums): what each function of the package sum, and of its reference, computes. -/
import Derived.Test.YthlidbddeclnaaaSumLaw
import Derived.Test.YthlidbddeclnaaaProg
namespace Go.Proofs.Ythlidbddeclnaaa
open Go.RowKit SumL

theorem number_any (n : Int) (w : World) :
    Calls Try.prog 37 #[.int .i64 n] w fun e w' => e = .returned (.bool (isU32 n)) ∧ w = w' := by
  by_cases h0 : 0 ≤ n
  · by_cases h1 : n ≤ 4294967295
    · have e : isU32 n = true := by simp [isU32, h0, h1]
      rw [e]
      go_enter Try.func37, Try.ntmps37
      go_wp2
      go_ret; exact ⟨rfl, rfl⟩
    · have e : isU32 n = false := by simp [isU32, h1]
      rw [e]
      go_enter Try.func37, Try.ntmps37
      go_wp2
      go_ret; exact ⟨rfl, rfl⟩
  · have e : isU32 n = false := by simp [isU32, h0]
    rw [e]
    go_enter Try.func37, Try.ntmps37
    go_wp2
    go_ret; exact ⟨rfl, rfl⟩

theorem row_any (p i : Nat) (w : World) (hp : p < 4294967296) (hi : i < 4294967296) :
    Calls Try.prog 39 #[.int .i64 (p : Int), .int .i64 (i : Int)] w fun e w' => e = .returned (.int .i64 (row p 8 i : Nat)) ∧ w = w' := by
  go_enter Try.func39, Try.ntmps39
  go_wp2
  go_loop [1, 5, 6] (fun x k o => ∃ j : Nat, j ≤ 8 ∧ k = .int .i64 j ∧ x = .int .i64 (row p j i : Nat)) (fun _ k _ => 8 - (intOf k).toNat)
  case atStart => exact ⟨0, by omega, rfl, rfl⟩
  case round =>
    obtain ⟨j, hj, rfl, rfl⟩ := hrel
    have hy := row_lt hp hi j
    have HS : Hid (row p (j + 1) i = step1 p (row p j i)) := rfl
    by_cases hlt : j < 8
    · generalize row p j i = y at *
      by_cases hodd : y % 2 = 1
      · have hx : Hid (bits .xor .i64 ((y : Int) / 2) (p : Int) = (((y / 2) ^^^ p : Nat) : Int)) := i64_xor_nat (y / 2) p (by omega) (by omega)
        have ho : (((y : Int) % 2) == 1) = true := by rw [beq_iff_eq]; omega
        have hs : Hid (step1 p y = (y / 2) ^^^ p) := by show step1 p y = _; simp [step1, hodd]
        clear hodd
        go_wp2
        go_round
        case rel => exact ⟨j + 1, by omega, by go_num, by rw [HS.out, hs.out, hx.out]⟩
        case measure => simp [intOf]; omega
      · have ho : (((y : Int) % 2) == 1) = false := by rw [beq_eq_false_iff_ne]; omega
        have hs : Hid (step1 p y = (y / 2)) := by show step1 p y = _; simp [step1, hodd]
        clear hodd
        go_wp2
        go_round
        case rel => exact ⟨j + 1, by omega, by go_num, by rw [HS.out, hs.out]; go_num⟩
        case measure => simp [intOf]; omega
    · have e : j = 8 := by omega
      subst e
      go_wp2
      go_ret
      exact ⟨rfl, rfl⟩

theorem sumPut_any (n : Int) (w : World) :
    Calls Try.prog 21 #[.int .i64 n] w fun e w' => ∃ v, e = .returned v ∧ w'.ownsRow w.heap.size 5 1 v 4 ((put n).map bv) ∧ Below w.heap.size w w' := by
  go_enter Try.func21, Try.ntmps21
  go_wp2
  go_ret
  refine ⟨_, rfl, ?_, (Below.refl _ _).alloc (Nat.le_refl _) _⟩
  have hp : ((put n).map bv) = [Value.int .u8 (n / 16777216 % 256), Value.int .u8 (n / 65536 % 256), Value.int .u8 (n / 256 % 256), Value.int .u8 (n % 256)] := by
    simp only [put, List.map_cons, List.map_nil, bv, UInt8.toNat_ofNat']
    congr 1
    · congr 1; omega
    · congr 1
      · congr 1; omega
      · congr 1
        · congr 1; omega
        · congr 2; omega
  rw [hp]
  exact World.ownsRow_lit (base := w.heap.size) (e := 5) (size := 1) w _ 4 (Nat.le_refl _) (by decide) rfl
theorem sumTable1_any (n : Int) (w : World) :
    Calls Try.prog 49 #[.int .i64 n] w fun e w' => e = .returned (.bool (!isU32 n)) ∧ w = w' := by
  go_enter Try.func49, Try.ntmps49
  go_wp2_with (go_at_call 37; refine (number_any _ _).mono ?_; rintro e w' ⟨rfl, rfl⟩)
  go_ret
  exact ⟨rfl, rfl⟩
theorem indexFunc_any (v : Value) (t : List Int) (w : World) (h : Sees iv w v t) :
    Calls Try.prog 51 #[v, .func (.func 49) #[] #[]] w fun e w' => (∃ n : Int, e = .returned (.int .i64 n) ∧ (t.all isU32 = true ↔ n < 0)) ∧ w = w' := by
  obtain ⟨a, cap, rfl, h1, h2, h3, h4⟩ := h
  unfold maxLen at h2
  go_enter Try.func51, Try.ntmps51
  go_wp2
  go_loop [5, 8] (fun _ i => ∃ k : Nat, k ≤ t.length ∧ i = .int .i64 k ∧ (t.take k).all isU32 = true) (fun _ i => t.length - (intOf i).toNat)
  case atStart => exact ⟨0, Nat.zero_le _, rfl, rfl⟩
  case round =>
    obtain ⟨k, hk, rfl, ha⟩ := hrel
    have HA := Lib.hid ha; clear ha
    by_cases hlt : k < t.length
    · obtain ⟨⟨b, off, s⟩, rfl⟩ : ∃ b, a = some b := by
        cases a with
        | none => have := h3 rfl; omega
        | some b => exact ⟨b, rfl⟩
      obtain ⟨e1, e2, e3⟩ := h4 _ rfl (by omega)
      dsimp only at e1 e2 e3
      subst e1
      have hc := e3 k hlt
      have HS := Lib.hid (take_snoc t k hlt)
      clear h4 e3 h3
      obtain ⟨x, hx⟩ : ∃ x, t[k] = x := ⟨_, rfl⟩
      rw [hx] at hc HS; clear hx
      unfold iv at hc
      by_cases hu : isU32 x = true
      · have hu' : (!isU32 x) = false := by simp [hu]
        go_wp2_with (go_at_call 49; refine (sumTable1_any _ _).mono ?_; rintro e w' ⟨rfl, rfl⟩)
        go_round
        case rel => exact ⟨k + 1, by omega, by go_num, by rw [HS.out, List.all_append, HA.out]; simp [hu]⟩
        case measure => simp [intOf]; omega
      · have hu' : (!isU32 x) = true := by simpa using hu
        go_wp2_with (go_at_call 49; refine (sumTable1_any _ _).mono ?_; rintro e w' ⟨rfl, rfl⟩)
        go_ret
        refine ⟨⟨_, rfl, ?_⟩, rfl⟩
        constructor
        · intro hall
          exfalso; apply hu
          have : x ∈ t := by
            have := congrArg (x ∈ ·) HS.out
            exact List.mem_of_mem_take (i := k + 1) (by rw [HS.out]; simp)
          exact List.all_eq_true.1 hall x this
        · intro; omega
    · clear h4 h3
      go_wp2
      go_ret
      refine ⟨⟨_, rfl, ?_⟩, rfl⟩
      have := HA.out
      rw [List.take_of_length_le (by omega)] at this
      exact ⟨fun _ => by decide, fun _ => List.all_eq_true.1 this⟩

theorem containsFunc_any (v : Value) (t : List Int) (w : World) (h : Sees iv w v t) :
    Calls Try.prog 48 #[v, .func (.func 49) #[] #[]] w fun e w' => e = .returned (.bool (!t.all isU32)) ∧ w = w' := by
  obtain ⟨b, hb⟩ : ∃ b, t.all isU32 = b := ⟨_, rfl⟩
  rw [hb]
  go_enter Try.func48, Try.ntmps48
  have HB := Lib.hid hb; clear hb
  go_wp2_with fail
  refine (indexFunc_any _ _ _ h).mono ?_
  rintro e w' ⟨⟨n, rfl, hn⟩, rfl⟩
  rw [HB.out] at hn
  have HN := Lib.hid hn; clear hn
  cases b with
  | true =>
    have : n < 0 := HN.out.1 rfl
    go_wp2
    go_ret; exact ⟨ret_bool (by simp; try omega), rfl⟩
  | false =>
    have : ¬ n < 0 := fun h => by have := HN.out.2 h; cases this
    go_wp2
    go_ret; exact ⟨ret_bool (by simp; try omega), rfl⟩
theorem table_any (v : Value) (t : List Int) (w : World) (h : Sees iv w v t) :
    Calls Try.prog 40 #[v] w fun e w' => e = .returned (.bool (isTab t)) ∧ w = w' := by
  have h0 := h
  obtain ⟨a, cap, rfl, h1, -⟩ := h0
  by_cases hl : t.length = 256
  · have e : isTab t = (t.all isU32) := by simp [isTab, hl]
    rw [e]
    obtain ⟨b, hb⟩ : ∃ b, t.all isU32 = b := ⟨_, rfl⟩
    rw [hb]
    have HB := Lib.hid hb; clear hb e
    have hl' : ((t.length : Int) == 256) = true := by rw [beq_iff_eq]; omega
    have HL := Lib.hid hl; clear hl
    go_enter Try.func40, Try.ntmps40
    go_wp2_with fail
    refine (containsFunc_any _ _ _ h).mono ?_
    rintro e w' ⟨rfl, rfl⟩
    rw [HB.out]
    go_wp2
    go_ret
    exact ⟨by simp, rfl⟩
  · have e : isTab t = false := by simp [isTab, hl]
    rw [e]
    have hl' : ((t.length : Int) == 256) = false := by rw [beq_eq_false_iff_ne]; omega
    clear e
    go_enter Try.func40, Try.ntmps40
    go_wp2
    go_ret; exact ⟨rfl, rfl⟩
theorem refTable_any (v : Value) (t : List Int) (w : World) (h : Sees iv w v t) :
    Calls Try.prog 41 #[v] w fun e w' => e = .returned (.bool (isTab t)) ∧ w = w' := by
  obtain ⟨a, cap, rfl, h1, h2, h3, h4⟩ := h
  unfold maxLen at h2
  go_enter Try.func41, Try.ntmps41
  go_wp2
  go_loop [3] (fun i => ∃ k : Nat, k ≤ t.length ∧ i = .int .i64 k ∧ (t.take k).all isU32 = true) (fun i => t.length - (intOf i).toNat)
  case atStart => exact ⟨0, Nat.zero_le _, rfl, rfl⟩
  case round =>
    obtain ⟨k, hk, rfl, ha⟩ := hrel
    have HA := Lib.hid ha; clear ha
    by_cases hlt : k < t.length
    · obtain ⟨⟨b, off, s⟩, rfl⟩ : ∃ b, a = some b := by
        cases a with
        | none => have := h3 rfl; omega
        | some b => exact ⟨b, rfl⟩
      obtain ⟨e1, e2, e3⟩ := h4 _ rfl (by omega)
      dsimp only at e1 e2 e3
      subst e1
      have hc := e3 k hlt
      have HS := Lib.hid (take_snoc t k hlt)
      have HM : Hid (t[k] ∈ t) := List.getElem_mem hlt
      clear h4 e3 h3
      obtain ⟨x, hx⟩ : ∃ x, t[k] = x := ⟨_, rfl⟩
      rw [hx] at hc HS HM; clear hx
      unfold iv at hc
      have hf : ¬ isU32 x = true → isTab t = false := fun hu => by
        cases hq : isTab t with
        | false => rfl
        | true =>
          exfalso; apply hu
          rw [isTab, Bool.and_eq_true] at hq
          exact List.all_eq_true.1 hq.2 x HM.out
      have HF := Lib.hid hf; clear hf
      by_cases g0 : 0 ≤ x
      · by_cases g1 : x ≤ 4294967295
        · go_wp2
          go_round
          case rel => exact ⟨k + 1, by omega, by go_num, by rw [HS.out, List.all_append, HA.out]; simp [isU32, g0, g1]⟩
          case measure => simp [intOf]; omega
        · go_wp2
          go_ret
          exact ⟨ret_bool (HF.out (by simp [isU32]; omega)).symm, rfl⟩
      · go_wp2
        go_ret
        exact ⟨ret_bool (HF.out (by simp [isU32]; omega)).symm, rfl⟩
    · clear h4 h3
      have e : isTab t = ((t.length : Int) == 256) := by
        have := HA.out
        rw [List.take_of_length_le (by omega)] at this
        rw [isTab, this, Bool.and_true, Bool.eq_iff_iff, beq_iff_eq, beq_iff_eq]
        omega
      have HE := Lib.hid e; clear e
      go_wp2
      go_ret
      exact ⟨ret_bool HE.out.symm, rfl⟩
end Go.Proofs.Ythlidbddeclnaaa
