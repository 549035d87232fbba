/- The walk of the statement UtfOnly. -/
import Derived.Test.YthlidbddeclnaaaUtfAlive
import Derived.Test.YthlidbddeclnaaaMix
import Derived.BigQuiet
import Derived.Deep.RegionWith
namespace Go.Proofs.Ythlidbddeclnaaa
open Go.RowKit UtfL Go.Shelf

theorem Sees.slice {α : Type} {enc : α → Value} {w : World} {bb off cap : Nat} {b : List α} (h : Sees enc w (.slice (some ⟨bb, off, none⟩) b.length cap) b) (i n : Nat) (hi : i + n ≤ b.length) :
    Sees enc w (.slice (some ⟨bb, off + i, none⟩) n (cap - i)) ((b.drop i).take n) := by
  obtain ⟨a, cap', he, h1, h2, h3, h4⟩ := h
  cases he
  have hl : ((b.drop i).take n).length = n := by rw [List.length_take, List.length_drop]; omega
  refine ⟨some ⟨bb, off + i, none⟩, cap - i, by rw [hl], by omega, by omega, fun e => (by cases e), fun x e hx => ?_⟩
  cases e
  rw [hl] at hx
  obtain ⟨e1, e2, e3⟩ := h4 _ rfl (by omega)
  refine ⟨rfl, e2, fun j hj => ?_⟩
  have := e3 (i + j) (by omega)
  dsimp only at this ⊢
  rw [Nat.add_assoc, this]
  congr 2
  rw [List.getElem_take, List.getElem_drop]

theorem get_zero (l : List UInt8) (n k c : Nat) (h : getL l = some (c, n)) (hk : k < n) : getAt (l.take k) 0 = none := by
  unfold getAt
  split
  · exact get_short h hk
  · rfl

set_option maxRecDepth 100000 in
set_option maxHeartbeats 1000000 in
theorem utfOnly_walk (v : Value) (b : List UInt8) (at_ : Int) (w : World) (hb : Sees bv w v b) :
    Calls Try.prog 12 #[v, .int .i64 at_] w fun e w' => e = .returned (.bool true) ∧ Below w.heap.size w w' := by
  obtain ⟨ad, cap, rfl, h1, h2, h3, -⟩ := id hb
  unfold maxLen at h2
  by_cases hl : b.length ≤ 300
  · cases hg : getAt b at_ with
    | none =>
      have HG := Lib.hid hg
      clear hg h3
      go_enter Try.func12, Try.ntmps12
      go_wp2_with fail
      refine (utfAlive_any _).mono ?_
      rintro e w0 ⟨rfl, hB0⟩
      have hb0 := hb.below hB0 (Nat.le_refl _)
      go_wp2_with fail
      refine (utfGet_any _ _ _ _ hb0).mono ?_
      rintro e w' ⟨rfl, rfl⟩
      rw [HG.out]
      unfold getRes
      dsimp only
      go_wp2
      go_ret
      exact ⟨rfl, hB0⟩
    | some q =>
      obtain ⟨c, n⟩ := q
      have hin : 0 ≤ at_ ∧ at_ < b.length := by
        by_cases h : 0 ≤ at_ ∧ at_ < b.length
        · exact h
        · rw [getAt, if_neg h] at hg; cases hg
      obtain ⟨g1, g2⟩ := hin
      obtain ⟨k, rfl⟩ := Int.eq_ofNat_of_zero_le g1
      have hk : k < b.length := by omega
      have hgl : getL (b.drop k) = some (c, n) := by rw [getAt_eq (by omega)] at hg; exact hg
      obtain ⟨hn1, hn2, hn3⟩ := get_len hgl
      rw [List.length_drop] at hn3
      have hput : put (c : Int) = (b.drop k).take n := by
        obtain ⟨hc, -, -⟩ := put_of_get hgl
        rw [get_take hgl, put]
        simp [isCode, hc]
      obtain ⟨⟨bb, off, sp⟩, rfl⟩ : ∃ x, ad = some x := by
        cases ad with
        | none => have := h3 rfl; omega
        | some x => exact ⟨x, rfl⟩
      obtain rfl : sp = none := by
        obtain ⟨a', cap', he, -, -, -, h4⟩ := id hb
        cases he
        exact (h4 _ rfl (by omega)).1
      have HG := Lib.hid hg
      have HP := Lib.hid hput
      have HZ := Lib.hid (fun j hj => get_zero (b.drop k) n j c hgl hj)
      have hkn : k + n ≤ b.length := by omega
      clear hg hgl hput h3
      go_enter Try.func12, Try.ntmps12
      go_wp2_with fail
      refine (utfAlive_any _).mono ?_
      rintro e w0 ⟨rfl, hB0⟩
      have hb0 := hb.below hB0 (Nat.le_refl _)
      go_wp2_with fail
      refine (utfGet_any _ _ _ _ hb0).mono ?_
      rintro e w' ⟨rfl, rfl⟩
      rw [HG.out]
      unfold getRes
      dsimp only
      go_wp2
      replace hb0 : Sees bv w0.drew (.slice (some ⟨bb, off, none⟩) b.length cap) b := hb0
      replace hB0 : Below w.heap.size w w0.drew := hB0.drew
      refine wp_region_mix (fun _ => True) (by kernel_rfl) (by kernel_rfl) trivial ?_
      have hBs := hB0.size
      have HLN : Hid (((b.drop k).take n).length = n) := by show ((b.drop k).take n).length = n; rw [List.length_take, List.length_drop]; omega
      have hkc : k ≤ cap := by omega
      have hkc2 : k + n ≤ cap := by omega
      repeat (first | (refine mix_skip (by rfl) ?_; simp only [Act.put, List.setIfInBounds_toArray, List.set_cons_zero, List.set_cons_succ]) | (refine mix_free (by rfl) (by rfl) (fun K hK => ?_); go_big_quiet_op; refine hK _ ?_; clear hK K) | (refine mix_chain (by rfl) (by rfl) (fun K hK => ?_); (go_simp; refine upV_call ?_; first | (go_at_call 29; refine (utfPut_any _ _).mono ?_; rw [HP.out]; rintro e w2 ⟨v2, rfl, hown2, hB3⟩; obtain ⟨pa, pc, rfl⟩ := owns_slice hown2; have hs2 := owns_sees' hown2; rw [HLN.out] at hs2; replace hs2 := Lib.hid hs2; clear hown2; rw [HLN.out]; refine ⟨_, rfl, hK _ _ trivial ?_⟩) | (go_at_call 20; refine (bytes_any _ _ ((b.drop k).take n) ((b.drop k).take n) w2 hs2.out ((hb0.below hB3 (Nat.le_refl _)).slice k n hkn)).mono ?_; rintro e w3 ⟨rfl, nd, rfl⟩; rw [decide_eq_true rfl]; refine ⟨_, rfl, hK _ _ trivial ?_⟩)); clear hK K; simp only [Act.put, List.setIfInBounds_toArray, List.set_cons_zero, List.set_cons_succ]))
      refine mix_nil ?_
      intro _
      have hBW : Below w.heap.size w (w2.drewN nd) := by
        have h := hB0.trans (hB3.mono hBs)
        exact ⟨h.os, h.tape, h.output, h.size, h.block⟩
      have hbW : Sees bv (w2.drewN nd) (.slice (some ⟨bb, off, none⟩) b.length cap) b := hb.below hBW (Nat.le_refl _)
      clear hb0 hB3 hB0 hs2 HP
      generalize w2.drewN nd = W at *
      go_wp2
      rw [Nat.add_sub_cancel_left k n]
      go_loop [8] (fun i => ∃ j : Nat, j ≤ n ∧ i = .int .i64 j) (fun i => n - (intOf i).toNat)
      case atStart => exact ⟨0, Nat.zero_le _, rfl⟩
      case round =>
        obtain ⟨j, hj, rfl⟩ := hrel
        by_cases hlt : j < n
        · have hkj : k + j ≤ b.length := by omega
          have hkj2 : k + j ≤ cap := by omega
          have hsl := Lib.hid (hbW.slice k j hkj)
          have hz : Hid (getAt ((b.drop k).take j) 0 = none) := HZ.out j hlt
          go_wp2_with fail
          refine (utfGet_any _ ((b.drop k).take j) 0 W (by first | exact hsl.out | (rw [Nat.add_sub_cancel_left]; exact hsl.out))).mono ?_
          rintro e w' ⟨rfl, rfl⟩
          rw [hz.out]
          unfold getRes
          dsimp only
          go_wp2
          go_round
          case rel => exact ⟨j + 1, by omega, by go_num⟩
          case measure => simp [intOf]; omega
        · go_wp2
          go_ret
          exact ⟨rfl, hBW⟩
  · go_enter Try.func12, Try.ntmps12
    go_wp2_with fail
    refine (utfAlive_any _).mono ?_
    rintro e w0 ⟨rfl, hB0⟩
    go_wp2
    go_ret
    exact ⟨rfl, hB0⟩
end Go.Proofs.Ythlidbddeclnaaa
