/- The document's example of layer 4. -/
import Derived.Test.YthlidbddeclnaaaSumMake
import Derived.Test.YthlidbddeclnaaaMix
import Derived.BigQuiet
import Derived.Deep.RegionWith
import Derived.Lib.SlBytesConst
namespace Go.Proofs.Ythlidbddeclnaaa
open Go.RowKit SumL

theorem owns_sees {α : Type} {enc : α → Value} {w : World} {base : Nat} {e : TypeId} {v : Value} {l : List α} (h : w.ownsRow base e 1 v l.length (l.map enc)) : Sees enc w v l := Sees.of_owns h rfl rfl

def T0 : List Int := tab 3988292384
theorem T0_len : T0.length = 256 := by simp [T0, tab, isU32, tabN]
theorem T0_9 : more T0 0 [49, 50, 51, 52, 53, 54, 55, 56, 57] = 3421780262 := by decide +kernel
theorem T0_0 : more T0 0 [] = 0 := by decide +kernel
theorem T0_4 : more T0 (more T0 0 [49, 50, 51, 52]) [53, 54, 55, 56, 57] = 3421780262 := by decide +kernel
theorem T0_n : more [] 0 [49, 50, 51, 52, 53, 54, 55, 56, 57] = -1 := by decide +kernel
theorem T0_g : SumL.get (put 300) = 300 := by decide +kernel

set_option maxHeartbeats 1000000 in
theorem sumAlive_any (w : World) :
    Calls Try.prog 13 #[] w fun e w' => e = .returned (.bool true) ∧ Below w.heap.size w w' := by
  have kc := fun (w : World) (C : Array Value) (n c : Nat) => Lib.run_convert_bytes_const (P := Try.prog) w 23 5 C n c Try.underlying23 Try.underlying5
  go_enter Try.func13, Try.ntmps13
  go_wp2_with fail
  refine (make_any 3988292384 w).mono ?_
  rintro e w1 ⟨v, rfl, hown, hB⟩
  have hT : Sees iv w1 v T0 := owns_sees hown
  have HT := Lib.hid T0_len
  have H9 := Lib.hid T0_9
  have H0 := Lib.hid T0_0
  have H4 := Lib.hid T0_4
  have HN := Lib.hid T0_n
  have HG := Lib.hid T0_g
  clear hown
  generalize T0 = T at *
  obtain ⟨a, cap, rfl, g1, g2, -⟩ := id hT
  unfold maxLen at g2
  have ht : ((T.length : Int) == 256) = true := by rw [beq_iff_eq, HT.out]; rfl
  go_wp2_with fail
  have hT := hT.below ((Below.refl w1.heap.size w1).alloc (Nat.le_refl _) (.cells #[.int .u8 49, .int .u8 50, .int .u8 51, .int .u8 52, .int .u8 53, .int .u8 54, .int .u8 55, .int .u8 56, .int .u8 57] 5 (9, 10))) (Nat.le_refl _)
  have hb := heap_alloc_new w1 (.cells #[.int .u8 49, .int .u8 50, .int .u8 51, .int .u8 52, .int .u8 53, .int .u8 54, .int .u8 55, .int .u8 56, .int .u8 57] 5 (9, 10))
  have hB2 : Below w.heap.size w (w1.alloc (.cells #[.int .u8 49, .int .u8 50, .int .u8 51, .int .u8 52, .int .u8 53, .int .u8 54, .int .u8 55, .int .u8 56, .int .u8 57] 5 (9, 10))) := hB.alloc hB.size _
  generalize w1.alloc (.cells #[.int .u8 49, .int .u8 50, .int .u8 51, .int .u8 52, .int .u8 53, .int .u8 54, .int .u8 55, .int .u8 56, .int .u8 57] 5 (9, 10)) = W at *
  generalize w1.heap.size = B at *
  have s9 : Sees bv W (.slice (some ⟨B, 0, none⟩) 9 9) [49, 50, 51, 52, 53, 54, 55, 56, 57] := Sees.lit hb [49, 50, 51, 52, 53, 54, 55, 56, 57] 0 9 (by decide) (by decide) (by intro i hi; match i, hi with | 0, _ => rfl | 1, _ => rfl | 2, _ => rfl | 3, _ => rfl | 4, _ => rfl | 5, _ => rfl | 6, _ => rfl | 7, _ => rfl | 8, _ => rfl)
  have s4 : Sees bv W (.slice (some ⟨B, 0, none⟩) 4 9) [49, 50, 51, 52] := Sees.lit hb [49, 50, 51, 52] 0 9 (by decide) (by decide) (by intro i hi; match i, hi with | 0, _ => rfl | 1, _ => rfl | 2, _ => rfl | 3, _ => rfl)
  have s5 : Sees bv W (.slice (some ⟨B, 4, none⟩) 5 5) [53, 54, 55, 56, 57] := Sees.lit hb [53, 54, 55, 56, 57] 4 5 (by decide) (by decide) (by intro i hi; match i, hi with | 0, _ => rfl | 1, _ => rfl | 2, _ => rfl | 3, _ => rfl | 4, _ => rfl)
  have s0 : Sees bv W (.slice none 0 0) ([] : List UInt8) := Sees.nil W
  have t0 : Sees iv W (.slice none 0 0) ([] : List Int) := Sees.nil W
  clear hb kc
  replace hT : Sees iv W.drew (.slice a T.length cap) T := hT
  replace s9 : Sees bv W.drew (.slice (some ⟨B, 0, none⟩) 9 9) [49, 50, 51, 52, 53, 54, 55, 56, 57] := s9
  replace s4 : Sees bv W.drew (.slice (some ⟨B, 0, none⟩) 4 9) [49, 50, 51, 52] := s4
  replace s5 : Sees bv W.drew (.slice (some ⟨B, 4, none⟩) 5 5) [53, 54, 55, 56, 57] := s5
  replace s0 : Sees bv W.drew (.slice none 0 0) ([] : List UInt8) := s0
  replace t0 : Sees iv W.drew (.slice none 0 0) ([] : List Int) := t0
  replace hB2 : Below w.heap.size w W.drew := hB2.drew
  refine wp_region_mix (fun _ => True) (by kernel_rfl) (by kernel_rfl) trivial ?_
  repeat (first | (refine mix_skip (by rfl) ?_; simp only [Act.put, List.setIfInBounds_toArray, List.set_cons_zero, List.set_cons_succ]) | (refine mix_free (by rfl) (by rfl) (fun K hK => ?_); go_big_quiet_op; refine hK _ ?_; clear hK K) | (refine mix_chain (by rfl) (by rfl) (fun K hK => ?_); (go_simp; refine upV_call ?_; first | (go_at_call_of 19 (Value.slice (some ⟨B, 0, none⟩) 4 9); refine (of_any _ _ T [49, 50, 51, 52] _ (by exact hT) (by exact s4)).mono ?_; rintro e w' ⟨rfl, rfl⟩; refine ⟨_, rfl, hK _ _ trivial ?_⟩) | (go_at_call_of 19 (Value.slice a T.length cap); first | (refine (of_any _ _ T [] _ (by exact hT) (by exact s0)).mono ?_; rintro e w' ⟨rfl, rfl⟩; rw [H0.out]; refine ⟨_, rfl, hK _ _ trivial ?_⟩) | (refine (of_any _ _ T [49, 50, 51, 52, 53, 54, 55, 56, 57] _ (by exact hT) (by exact s9)).mono ?_; rintro e w' ⟨rfl, rfl⟩; rw [H9.out]; refine ⟨_, rfl, hK _ _ trivial ?_⟩)) | (go_at_call 19; refine (of_any _ _ [] [49, 50, 51, 52, 53, 54, 55, 56, 57] _ (by exact t0) (by exact s9)).mono ?_; rintro e w' ⟨rfl, rfl⟩; rw [HN.out]; refine ⟨_, rfl, hK _ _ trivial ?_⟩) | (go_at_call 17; refine (more_any _ _ T _ [53, 54, 55, 56, 57] _ (by exact hT) (by exact s5)).mono ?_; rintro e w' ⟨rfl, rfl⟩; rw [H4.out]; refine ⟨_, rfl, hK _ _ trivial ?_⟩) | (go_at_call 21; refine (sumPut_any _ _).mono ?_; rintro e w2 ⟨v2, rfl, hown2, hB3⟩; have hs2 := Lib.hid (owns_sees (l := put 300) hown2); clear hown2; refine ⟨_, rfl, hK _ _ trivial ?_⟩) | (go_at_call 23; refine (sumGet_any _ _ _ (by exact hs2.out)).mono ?_; rintro e w' ⟨rfl, rfl⟩; rw [HG.out]; refine ⟨_, rfl, hK _ _ trivial ?_⟩)); clear hK K; simp only [Act.put, List.setIfInBounds_toArray, List.set_cons_zero, List.set_cons_succ]))
  refine mix_nil ?_
  intro _
  go_wp2
  go_ret
  exact ⟨rfl, hB2.trans (hB3.mono (by have := hB2.size; exact this))⟩
end Go.Proofs.Ythlidbddeclnaaa
