/- The walks of layer 4, continued: sums of bytes. -/
import Derived.Test.YthlidbddeclnaaaSumWalk
import Derived.Deep.QuietTactic
import Derived.BigQuiet
namespace Go.Proofs.Ythlidbddeclnaaa
open Go.RowKit SumL

theorem isTab_len {t : List Int} (h : isTab t = true) : t.length = 256 := by
  simp only [isTab, Bool.and_eq_true, beq_iff_eq] at h; exact h.1
theorem isTab_get {t : List Int} (h : isTab t = true) (j : Nat) (hj : j < 256) : 0 ≤ t[j]'(by rw [isTab_len h]; exact hj) ∧ t[j]'(by rw [isTab_len h]; exact hj) ≤ 4294967295 := by
  have := h
  simp only [isTab, Bool.and_eq_true, List.all_eq_true, isU32, decide_eq_true_eq] at this
  exact this.2 _ (List.getElem_mem _)
theorem more_bad {t : List Int} {s : Int} (b : List UInt8) (h : (isTab t && isU32 s) = false) : more t s b = -1 := by simp [more, h]
theorem more_good {t : List Int} {s : Int} (b : List UInt8) (h : isTab t = true) (h' : isU32 s = true) : more t s b = 4294967295 - (crc t (4294967295 - s.toNat) b : Int) := by simp [more, h, h']

set_option maxHeartbeats 400000 in
theorem more_any (tv bv' : Value) (t : List Int) (s : Int) (b : List UInt8) (w : World) (ht : Sees iv w tv t) (hb : Sees bv w bv' b) :
    Calls Try.prog 17 #[tv, .int .i64 s, bv'] w fun e w' => e = .returned (.int .i64 (more t s b)) ∧ w = w' := by
  by_cases hT : isTab t = true
  · by_cases hS : isU32 s = true
    · have hm := Lib.hid (more_good b hT hS)
      have hs : 0 ≤ s ∧ s ≤ 4294967295 := by simpa [isU32] using hS
      obtain ⟨hs0, hs1⟩ := hs
      obtain ⟨S, rfl⟩ := Int.eq_ofNat_of_zero_le hs0
      obtain ⟨a, cap, rfl, h1, h2, h3, h4⟩ := id ht
      obtain ⟨a', cap', rfl, h1', h2', h3', h4'⟩ := hb
      unfold maxLen at h2 h2'
      have hlen := isTab_len hT
      obtain ⟨⟨tb, toff, ts⟩, rfl⟩ : ∃ b, a = some b := by
        cases a with
        | none => have := h3 rfl; omega
        | some b => exact ⟨b, rfl⟩
      obtain ⟨e1, e2, e3⟩ := h4 _ rfl (by omega)
      dsimp only at e1 e2 e3
      subst e1
      clear h4 h3
      have HT := Lib.hid hT
      have HSS := Lib.hid hS
      have HL := Lib.hid hlen
      have HR : Hid (∀ b, crc t (4294967295 - S) b < 4294967296) := fun b => crc_lt hT b (by omega)
      have hx := Lib.hid (u32_not S (by omega))
      have HC : Hid (∀ j (h : j < 256), ∃ X : Nat, X < 4294967296 ∧ w.cell? ⟨tb, toff + j, none⟩ = some (.int .i64 (X : Int)) ∧ (t[j]?.getD 0).toNat = X) := fun j hj => by
        obtain ⟨g0, g1⟩ := isTab_get hT j hj
        obtain ⟨X, hX⟩ := Int.eq_ofNat_of_zero_le g0
        have hX' : t[j]'(by omega) = (X : Int) := hX
        refine ⟨X, by omega, ?_, by rw [List.getElem?_eq_getElem (by omega), Option.getD_some, hX']; rfl⟩
        have := e3 j (by omega)
        rw [hX'] at this; exact this
      clear e3
      have hlen' : 256 ≤ t.length := by omega
      clear hT hS hlen
      go_enter Try.func17, Try.ntmps17
      go_wp2_with fail
      refine (table_any _ _ _ ht).mono ?_
      rintro e w' ⟨rfl, rfl⟩
      rw [HT.out]
      go_wp2_with fail
      refine (number_any _ _).mono ?_
      rintro e w' ⟨rfl, rfl⟩
      rw [HSS.out]
      go_wp2
      go_loopw [7, 9, 23] (fun r _ i wr => wr = w ∧ ∃ k : Nat, k ≤ b.length ∧ i = .int .i64 k ∧ r = .int .u32 (crc t (4294967295 - S) (b.take k) : Nat)) (fun _ _ i _ => b.length - (intOf i).toNat)
      case atStart => exact ⟨rfl, 0, Nat.zero_le _, rfl, by rw [hx.out]; rfl⟩
      case round =>
        obtain ⟨rfl, k, hk, rfl, rfl⟩ := hrel
        have hr := HR.out (b.take k)
        by_cases hlt : k < b.length
        · obtain ⟨⟨b', off', s'⟩, rfl⟩ : ∃ b, a' = some b := by
            cases a' with
            | none => have := h3' rfl; omega
            | some b => exact ⟨b, rfl⟩
          obtain ⟨e1, e2', e3'⟩ := h4' _ rfl (by omega)
          dsimp only at e1 e2' e3'
          subst e1
          have hc := e3' k hlt
          have HS := Lib.hid (crc_snoc t (4294967295 - S) (b.take k) b[k])
          rw [← take_snoc b k hlt] at HS
          clear h4' e3' h3'
          generalize b[k] = c at *
          generalize crc t (4294967295 - S) (b.take k) = R at *
          have hcl := c.toNat_lt
          have hj := idx_lt R c
          have hx1 : bits BinOp.xor IntKind.u8 ((R : Int) % 256) (c.toNat : Int) = (((R % 256) ^^^ c.toNat : Nat) : Int) := u8_xor_nat (R % 256) c.toNat (by omega) hcl
          obtain ⟨X, hX, hcell, hXe⟩ := HC.out _ hj
          have HS2 := Lib.hid (show crcStep t R c = X ^^^ (R / 256) by rw [crcStep, hXe])
          clear hXe
          generalize (R % 256) ^^^ c.toNat = j at *
          have hx2 := Lib.hid (u32_xor_nat X (R / 256) hX (by omega))
          unfold bv at hc
          go_wp2
          go_roundw
          case rel => exact ⟨by trivial, k + 1, by omega, by go_num, by rw [HS.out, HS2.out, ← hx2.out]; rfl⟩
          case measure => simp [intOf]; omega
        · clear h4' h3'
          have hfin := hm.out
          rw [← List.take_of_length_le (l := b) (i := k) (by omega), show ((S : Int)).toNat = S from rfl] at hfin
          have HF := Lib.hid hfin
          clear hfin hm
          rw [List.take_of_length_le (l := b) (i := k) (by omega)] at HF hr ⊢
          generalize crc t (4294967295 - S) b = R at *
          have hx3 := u32_not R hr
          go_wp2
          go_ret
          exact ⟨ret_int (by rw [HF.out]; omega), rfl⟩
    · have hm := Lib.hid (more_bad b (t := t) (s := s) (by simp [hS]))
      have HS := Lib.hid (show isU32 s = false by simpa using hS)
      have HT := Lib.hid hT
      clear hS hT
      go_enter Try.func17, Try.ntmps17
      go_wp2_with fail
      refine (table_any _ _ _ ht).mono ?_
      rintro e w' ⟨rfl, rfl⟩
      rw [HT.out]
      go_wp2_with fail
      refine (number_any _ _).mono ?_
      rintro e w' ⟨rfl, rfl⟩
      rw [HS.out]
      go_wp2
      go_ret
      exact ⟨ret_int hm.out.symm, rfl⟩
  · have hm := Lib.hid (more_bad b (t := t) (s := s) (by simp [hT]))
    have HT := Lib.hid (show isTab t = false by simpa using hT)
    clear hT
    go_enter Try.func17, Try.ntmps17
    go_wp2_with fail
    refine (table_any _ _ _ ht).mono ?_
    rintro e w' ⟨rfl, rfl⟩
    rw [HT.out]
    go_wp2
    go_ret
    exact ⟨ret_int hm.out.symm, rfl⟩
end Go.Proofs.Ythlidbddeclnaaa
