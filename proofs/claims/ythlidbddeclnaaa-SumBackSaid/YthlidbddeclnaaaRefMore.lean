/- The walk of the reference's sum. -/
import Derived.Test.YthlidbddeclnaaaSumWalk3
namespace Go.Proofs.Ythlidbddeclnaaa
open Go.RowKit SumL

set_option maxHeartbeats 400000 in
theorem refMore_any (tv bv' : Value) (t : List Int) (s : Int) (b : List UInt8) (w : World) (ht : Sees iv w tv t) (hb : Sees bv w bv' b) :
    Calls Try.prog 18 #[tv, .int .i64 s, bv'] w fun e w' => e = .returned (.int .i64 (more t s b)) ∧ w = w' := by
  by_cases hT : isTab t = true
  · by_cases hs0 : 0 ≤ s
    · by_cases hs1 : s ≤ 4294967295
      · have hm := Lib.hid (more_good (s := s) b hT (by simp [isU32, hs0, hs1]))
        obtain ⟨S, rfl⟩ := Int.eq_ofNat_of_zero_le hs0
        obtain ⟨a, cap, rfl, h1, h2, h3, h4⟩ := id ht
        obtain ⟨a', cap', rfl, h1', h2', h3', h4'⟩ := hb
        unfold maxLen at h2 h2'
        have hlen := isTab_len hT
        obtain ⟨⟨tb, toff, ts⟩, rfl⟩ : ∃ b, a = some b := by
          cases a with
          | none => have := h3 rfl; omega
          | some b => exact ⟨b, rfl⟩
        obtain ⟨e1, e2, e3⟩ := h4 _ rfl (by omega)
        dsimp only at e1 e2 e3
        subst e1
        clear h4 h3
        have HT := Lib.hid hT
        have HR : Hid (∀ b, crc t (4294967295 - S) b < 4294967296) := fun b => crc_lt hT b (by omega)
        have HC : Hid (∀ j (h : j < 256), ∃ X : Nat, X < 4294967296 ∧ w.cell? ⟨tb, toff + j, none⟩ = some (.int .i64 (X : Int)) ∧ (t[j]?.getD 0).toNat = X) := fun j hj => by
          obtain ⟨g0, g1⟩ := isTab_get hT j hj
          obtain ⟨X, hX⟩ := Int.eq_ofNat_of_zero_le g0
          have hX' : t[j]'(by omega) = (X : Int) := hX
          refine ⟨X, by omega, ?_, by rw [List.getElem?_eq_getElem (by omega), Option.getD_some, hX']; rfl⟩
          have := e3 j (by omega)
          rw [hX'] at this; exact this
        clear e3
        have hlen' : 256 ≤ t.length := by omega
        clear hT hlen
        go_enter Try.func18, Try.ntmps18
        go_wp2_with fail
        refine (refTable_any _ _ _ ht).mono ?_
        rintro e w' ⟨rfl, rfl⟩
        rw [HT.out]
        go_wp2
        go_loopw [7, 8] (fun r i wr => w = wr ∧ ∃ k : Nat, k ≤ b.length ∧ i = .int .i64 k ∧ r = .int .i64 (crc t (4294967295 - S) (b.take k) : Nat)) (fun _ i _ => b.length - (intOf i).toNat)
        case atStart => exact ⟨rfl, 0, Nat.zero_le _, rfl, by show Value.int .i64 (4294967295 - (S : Int)) = Value.int .i64 ((4294967295 - S : Nat) : Int); congr 1; omega⟩
        case round =>
          obtain ⟨rfl, k, hk, rfl, rfl⟩ := hrel
          have hr := HR.out (b.take k)
          by_cases hlt : k < b.length
          · obtain ⟨⟨b', off', s'⟩, rfl⟩ : ∃ b, a' = some b := by
              cases a' with
              | none => have := h3' rfl; omega
              | some b => exact ⟨b, rfl⟩
            obtain ⟨e1, e2', e3'⟩ := h4' _ rfl (by omega)
            dsimp only at e1 e2' e3'
            subst e1
            have hc := e3' k hlt
            have HS := Lib.hid (crc_snoc t (4294967295 - S) (b.take k) b[k])
            rw [← take_snoc b k hlt] at HS
            clear h4' e3' h3'
            generalize b[k] = c at *
            generalize crc t (4294967295 - S) (b.take k) = R at *
            have hcl := c.toNat_lt
            have hj := idx_lt R c
            have hx1 : bits BinOp.xor IntKind.i64 ((R : Int) % 256) (c.toNat : Int) = (((R % 256) ^^^ c.toNat : Nat) : Int) := i64_xor_nat (R % 256) c.toNat (by omega) (by omega)
            obtain ⟨X, hX, hcell, hXe⟩ := HC.out _ hj
            have HS2 := Lib.hid (show crcStep t R c = X ^^^ (R / 256) by rw [crcStep, hXe])
            clear hXe
            generalize (R % 256) ^^^ c.toNat = j at *
            have hx2 := Lib.hid (i64_xor_nat X (R / 256) (by omega) (by omega))
            unfold bv at hc
            go_wp2
            go_roundw
            case rel => exact ⟨by trivial, k + 1, by omega, by go_num, by rw [HS.out, HS2.out, ← hx2.out]; rfl⟩
            case measure => simp [intOf]; omega
          · clear h4' h3'
            have hfin := hm.out
            rw [← List.take_of_length_le (l := b) (i := k) (by omega), show ((S : Int)).toNat = S from rfl] at hfin
            have HF := Lib.hid hfin
            clear hfin hm
            rw [List.take_of_length_le (l := b) (i := k) (by omega)] at HF hr ⊢
            generalize crc t (4294967295 - S) b = R at *
            go_wp2
            go_ret
            exact ⟨ret_int (by rw [HF.out]), rfl⟩
      · have hm := Lib.hid (more_bad b (t := t) (s := s) (by simp [isU32, hs1]))
        have hs1' : 4294967295 < s := by omega
        have HT := Lib.hid hT
        clear hT hs1
        go_enter Try.func18, Try.ntmps18
        go_wp2_with fail
        refine (refTable_any _ _ _ ht).mono ?_
        rintro e w' ⟨rfl, rfl⟩
        rw [HT.out]
        go_wp2
        go_ret
        exact ⟨ret_int hm.out.symm, rfl⟩
    · have hm := Lib.hid (more_bad b (t := t) (s := s) (by simp [isU32, hs0]))
      have hs1' : s < 0 := by omega
      have HT := Lib.hid hT
      clear hT hs0
      go_enter Try.func18, Try.ntmps18
      go_wp2_with fail
      refine (refTable_any _ _ _ ht).mono ?_
      rintro e w' ⟨rfl, rfl⟩
      rw [HT.out]
      go_wp2
      go_ret
      exact ⟨ret_int hm.out.symm, rfl⟩
  · have hm := Lib.hid (more_bad b (t := t) (s := s) (by simp [hT]))
    have HT := Lib.hid (show isTab t = false by simpa using hT)
    clear hT
    go_enter Try.func18, Try.ntmps18
    go_wp2_with fail
    refine (refTable_any _ _ _ ht).mono ?_
    rintro e w' ⟨rfl, rfl⟩
    rw [HT.out]
    go_wp2
    go_ret
    exact ⟨ret_int hm.out.symm, rfl⟩
end Go.Proofs.Ythlidbddeclnaaa
