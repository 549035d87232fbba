/- The walk of the reference's Get. -/
import Derived.Test.YthlidbddeclnaaaUtfRef
import Derived.Test.YthlidbddeclnaaaUtfRefL
import Derived.Test.YthlidbddeclnaaaUtfOnly
namespace Go.Proofs.Ythlidbddeclnaaa
open Go.RowKit UtfL Go.Shelf

set_option maxRecDepth 100000 in
set_option maxHeartbeats 2000000 in
theorem refGet_any (v : Value) (b : List UInt8) (at_ : Int) (w : World) (hb : Sees bv w v b) :
    Calls Try.prog 28 #[v, .int .i64 at_] w fun e w' => e = .returned (getRes (getAt b at_)) ∧ Below w.heap.size w w' := by
  obtain ⟨a, cap, rfl, h1, h2, h3, h4⟩ := id hb
  unfold maxLen at h2
  by_cases hin : 0 ≤ at_ ∧ at_ < b.length
  · obtain ⟨g1, g2⟩ := hin
    obtain ⟨k, rfl⟩ := Int.eq_ofNat_of_zero_le g1
    have hk : k < b.length := by omega
    obtain ⟨⟨bb, off, s⟩, rfl⟩ : ∃ b, a = some b := by
      cases a with
      | none => have := h3 rfl; omega
      | some b => exact ⟨b, rfl⟩
    obtain ⟨e1, e2, e3⟩ := h4 _ rfl (by omega)
    dsimp only at e1 e2 e3
    subst e1
    clear h4 h3
    have HE := Lib.hid e3
    have HB := Lib.hid hb
    obtain ⟨R, hR⟩ : ∃ R, getAt b (k : Int) = R := ⟨_, rfl⟩
    rw [hR]
    rw [getAt_eq (by omega)] at hR
    have hll : (b.drop k).length = b.length - k := List.length_drop
    have HR := Lib.hid hR
    have HL := Lib.hid hll
    clear e3 hb hR hll
    go_enter Try.func28, Try.ntmps28
    go_wp2
    have hd0 : decide (b.length ≤ k) = false := decide_eq_false (by omega)
    rw [hd0, Bool.or_false]
    clear hd0
    go_loopw [7, 8] (fun c n wr => ∃ j : Nat, j ≤ 4 ∧ k + j ≤ b.length ∧ n = .int .i64 ((j + 1 : Nat) : Int) ∧ c = .int .i64 (acc ((b.drop k).take j) : Nat) ∧ (∀ i, 1 ≤ i → i ≤ j → put (acc ((b.drop k).take i) : Int) ≠ (b.drop k).take i) ∧ Below w.heap.size w wr) (fun _ n _ => 5 - (intOf n).toNat)
    case atStart => exact ⟨0, by omega, by omega, rfl, rfl, fun i h1 h2 => by omega, Below.refl _ _⟩
    case round =>
      obtain ⟨j, hj4, hjl, rfl, rfl, hno, hB⟩ := hrel
      have HNO := Lib.hid hno
      have hBs := hB.size
      clear hno
      by_cases hlt : j < 4 ∧ k + j < b.length
      · obtain ⟨hl4, hlb⟩ := hlt
        have hc := (hB.cell (p := ⟨bb, off + (k + j), none⟩) e2).trans (HE.out (k + j) hlb)
        have hjr : j < (b.drop k).length := by have := HL.out; omega
        have hgetd : (b.drop k)[j] = b[k + j] := List.getElem_drop
        have hts := take_snoc (b.drop k) j hjr
        rw [hgetd] at hts
        have hac := acc_bound (l := (b.drop k).take j) (by rw [List.length_take]; omega)
        generalize b[k + j] = x at *
        have hx := x.toNat_lt
        unfold bv at hc
        have hlen1 : ((b.drop k).take (j + 1)).length = j + 1 := by rw [List.length_take]; omega
        have hA1 := acc_bound (l := (b.drop k).take (j + 1)) (by omega)
        have hform : ((((j : Int) + 1 == 1) = true ∧ 240 ≤ x.toNat ∧ (x.toNat : Int) - 240 = (acc ((b.drop k).take (j + 1)) : Nat)) ∨ (((j : Int) + 1 == 1) = true ∧ (224 ≤ x.toNat ∧ x.toNat < 240) ∧ (x.toNat : Int) - 224 = (acc ((b.drop k).take (j + 1)) : Nat))) ∨
            ((((j : Int) + 1 == 1) = true ∧ (192 ≤ x.toNat ∧ x.toNat < 224) ∧ (x.toNat : Int) - 192 = (acc ((b.drop k).take (j + 1)) : Nat)) ∨ (((j : Int) + 1 == 1) = true ∧ x.toNat < 192 ∧ x.toNat = acc ((b.drop k).take (j + 1)))) ∨
            (((j : Int) + 1 == 1) = false ∧ (acc ((b.drop k).take j) : Int) * 64 + (x.toNat : Int) % 64 = (acc ((b.drop k).take (j + 1)) : Nat)) := by
          rcases Nat.eq_zero_or_pos j with hj0 | hj0
          · have e : acc ((b.drop k).take (j + 1)) = lead x.toNat := by
              rw [hts, hj0]; simp [acc]
            have hb1 : ((j : Int) + 1 == 1) = true := by rw [beq_iff_eq]; omega
            rw [e, lead]
            by_cases q1 : 240 ≤ x.toNat
            · rw [if_pos q1]; exact .inl (.inl ⟨hb1, q1, by omega⟩)
            · rw [if_neg q1]
              by_cases q2 : 224 ≤ x.toNat
              · rw [if_pos q2]; exact .inl (.inr ⟨hb1, ⟨q2, by omega⟩, by omega⟩)
              · rw [if_neg q2]
                by_cases q3 : 192 ≤ x.toNat
                · rw [if_pos q3]; exact .inr (.inl (.inl ⟨hb1, ⟨q3, by omega⟩, by omega⟩))
                · rw [if_neg q3]; exact .inr (.inl (.inr ⟨hb1, by omega, rfl⟩))
          · have e : acc ((b.drop k).take (j + 1)) = acc ((b.drop k).take j) * 64 + x.toNat % 64 := by
              rw [hts, acc_snoc (fun e => by have := congrArg List.length e; rw [List.length_take] at this; simp at this; omega)]
            have hb1 : ((j : Int) + 1 == 1) = false := by rw [beq_eq_false_iff_ne]; omega
            rw [e]; exact .inr (.inr ⟨hb1, by omega⟩)
        have HLEN := Lib.hid hlen1
        have HMS : Hid (∀ i, 1 ≤ i → i ≤ j + 1 → put (acc ((b.drop k).take (j + 1)) : Int) ≠ (b.drop k).take (j + 1) → put (acc ((b.drop k).take i) : Int) ≠ (b.drop k).take i) := by
          intro i h1 h2 h3
          rcases Nat.lt_or_ge j i with h4 | h4
          · have : i = j + 1 := by omega
            subst this; exact h3
          · exact HNO.out i h1 h4
        have HHIT : Hid (put (acc ((b.drop k).take (j + 1)) : Int) = (b.drop k).take (j + 1) → R = some (acc ((b.drop k).take (j + 1)), j + 1)) := by
          intro h
          rw [← HR.out]
          exact ref_hit (by omega) (by omega) h
        have hkj : k + (j + 1) ≤ b.length := by omega
        have HSL := Lib.hid (fun (w' : World) (h : Sees bv w' (.slice (some ⟨bb, off, none⟩) b.length cap) b) => h.slice k (j + 1) hkj)
        clear hlen1 hts hgetd hjr HL
        generalize hT : (b.drop k).take (j + 1) = T at *
        generalize hA : acc T = A at *
        generalize acc ((b.drop k).take j) = d at *
        generalize x.toNat = X at *
        have HT := Lib.hid hT
        have HA := Lib.hid hA
        clear hT hA
        obtain ⟨P, hP⟩ : ∃ P, put (A : Int) = P := ⟨_, rfl⟩
        have HP := Lib.hid hP
        have hkc : k ≤ cap := by omega
        have hkc2 : k + (j + 1) ≤ cap := by omega
        by_cases hit : put (A : Int) = T
        · have hr := HHIT.out hit
          subst hr
          have HD : Hid (decide (P = T) = true) := by show decide (P = T) = true; rw [← hP]; exact decide_eq_true hit
          clear hit HHIT HMS hP
          rcases hform with (⟨hj0, hq, hform⟩ | ⟨hj0, ⟨hq, hq2⟩, hform⟩) | (⟨hj0, ⟨hq, hq2⟩, hform⟩ | ⟨hj0, hq, hform⟩) | ⟨hj0, hform⟩
          all_goals
            go_wp2
            have hbd := (HB.out.below hB (Nat.le_refl _)).drew 1
            replace hbd : Sees bv wr.drew (.slice (some ⟨bb, off, none⟩) b.length cap) b := hbd
            have hBd : Below w.heap.size w wr.drew := hB.drew
            have hBds := hBd.size
            refine wp_region_mix (fun _ => True) (by kernel_rfl) (by kernel_rfl) trivial ?_
            repeat (first | (refine mix_skip (by rfl) ?_; simp only [Act.put, List.setIfInBounds_toArray, List.set_cons_zero, List.set_cons_succ]) | (refine mix_free (by rfl) (by rfl) (fun K hK => ?_); go_big_quiet_op; refine hK _ ?_; clear hK K) | (refine mix_chain (by rfl) (by rfl) (fun K hK => ?_); (go_simp; refine upV_call ?_; first | (go_at_call 30; refine (refPut1_any _ _).mono ?_; rw [HP.out]; rintro e w2 ⟨v2, rfl, hown2, hB3⟩; obtain ⟨pa, pc, rfl⟩ := owns_slice hown2; have hs2 := Lib.hid (owns_sees' hown2); clear hown2; refine ⟨_, rfl, hK _ _ trivial ?_⟩) | (go_at_call 20; refine (bytes_any _ _ P T w2 hs2.out (HSL.out w2 (hbd.below hB3 (Nat.le_refl _)))).mono ?_; rintro e w3 ⟨rfl, nd, rfl⟩; rw [HD.out]; refine ⟨_, rfl, hK _ _ trivial ?_⟩)); clear hK K; simp only [Act.put, List.setIfInBounds_toArray, List.set_cons_zero, List.set_cons_succ]))
            refine mix_nil ?_
            intro _
            have hBW : Below w.heap.size w (w2.drewN nd) := by
              have h := hBd.trans (hB3.mono hBds)
              exact ⟨h.os, h.tape, h.output, h.size, h.block⟩
            clear hB3 hBd hbd hs2 hB hBs hBds
            generalize w2.drewN nd = W at *
            go_wp2
            go_ret3
            exact ⟨by first | rfl | simp [getRes], hBW⟩
        · have HMS2 := Lib.hid (fun i h1 h2 => HMS.out i h1 h2 hit)
          have HD : Hid (decide (P = T) = false) := by show decide (P = T) = false; rw [← hP]; exact decide_eq_false hit
          clear hit HHIT HMS hP
          rcases hform with (⟨hj0, hq, hform⟩ | ⟨hj0, ⟨hq, hq2⟩, hform⟩) | (⟨hj0, ⟨hq, hq2⟩, hform⟩ | ⟨hj0, hq, hform⟩) | ⟨hj0, hform⟩
          all_goals
            go_wp2
            have hbd := (HB.out.below hB (Nat.le_refl _)).drew 1
            replace hbd : Sees bv wr.drew (.slice (some ⟨bb, off, none⟩) b.length cap) b := hbd
            have hBd : Below w.heap.size w wr.drew := hB.drew
            have hBds := hBd.size
            refine wp_region_mix (fun _ => True) (by kernel_rfl) (by kernel_rfl) trivial ?_
            repeat (first | (refine mix_skip (by rfl) ?_; simp only [Act.put, List.setIfInBounds_toArray, List.set_cons_zero, List.set_cons_succ]) | (refine mix_free (by rfl) (by rfl) (fun K hK => ?_); go_big_quiet_op; refine hK _ ?_; clear hK K) | (refine mix_chain (by rfl) (by rfl) (fun K hK => ?_); (go_simp; refine upV_call ?_; first | (go_at_call 30; refine (refPut1_any _ _).mono ?_; rw [HP.out]; rintro e w2 ⟨v2, rfl, hown2, hB3⟩; obtain ⟨pa, pc, rfl⟩ := owns_slice hown2; have hs2 := Lib.hid (owns_sees' hown2); clear hown2; refine ⟨_, rfl, hK _ _ trivial ?_⟩) | (go_at_call 20; refine (bytes_any _ _ P T w2 hs2.out (HSL.out w2 (hbd.below hB3 (Nat.le_refl _)))).mono ?_; rintro e w3 ⟨rfl, nd, rfl⟩; rw [HD.out]; refine ⟨_, rfl, hK _ _ trivial ?_⟩)); clear hK K; simp only [Act.put, List.setIfInBounds_toArray, List.set_cons_zero, List.set_cons_succ]))
            refine mix_nil ?_
            intro _
            have hBW : Below w.heap.size w (w2.drewN nd) := by
              have h := hBd.trans (hB3.mono hBds)
              exact ⟨h.os, h.tape, h.output, h.size, h.block⟩
            clear hB3 hBd hbd hs2 hB hBs hBds
            generalize w2.drewN nd = W at *
            go_wp2
            go_roundw
            case rel => exact ⟨j + 1, by omega, hkj, by go_num, by rw [HT.out, HA.out], HMS2.out, hBW⟩
            case measure => simp [intOf]; omega
      · have hr : R = none := by
          rw [← HR.out]
          refine ref_none fun n h1 h2 h3 => HNO.out n h1 ?_
          have := HL.out
          omega
        subst hr
        by_cases hj : j < 4
        · have hkb : k + j = b.length := by omega
          have ht : decide ((j : Int) + 1 ≤ (b.length : Int) - (k : Int)) = false := by rw [decide_eq_false_iff_not]; omega
          clear hkb
          go_wp2
          go_ret3
          exact ⟨rfl, hB⟩
        · go_wp2
          go_ret3
          exact ⟨rfl, hB⟩
  · have HR : Hid (getAt b at_ = none) := by show getAt b at_ = none; rw [getAt, if_neg hin]
    rw [HR.out]
    by_cases q : at_ < 0
    · go_enter Try.func28, Try.ntmps28
      go_wp2
      go_ret3
      exact ⟨rfl, Below.refl _ _⟩
    · have q2 : (b.length : Int) ≤ at_ := by omega
      clear hin
      go_enter Try.func28, Try.ntmps28
      go_wp2
      go_ret3
      exact ⟨rfl, Below.refl _ _⟩
end Go.Proofs.Ythlidbddeclnaaa
