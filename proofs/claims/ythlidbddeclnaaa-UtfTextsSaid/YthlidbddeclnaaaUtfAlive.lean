/- The document's example of layer 1. -/
import Derived.Test.YthlidbddeclnaaaUtfText
import Derived.Test.YthlidbddeclnaaaRefBytes
namespace Go.Proofs.Ythlidbddeclnaaa
open Go.RowKit UtfL Go.Shelf

theorem A1_put : put 8364 = [226, 130, 172] := by decide +kernel
theorem A1_get : getAt [226, 130, 172] 0 = some (8364, 3) := by decide +kernel
theorem A1_no : getAt [192, 128] 0 = none := by decide +kernel
theorem A1_text : textRes [97, 8364] = .tuple #[.string ⟨#[97, 226, 130, 172]⟩, .bool true] := by
  have h : ([97, 8364] : List Int).all isCode = true := by decide +kernel
  have h2 : bytesL [97, 8364] = [97, 226, 130, 172] := by decide +kernel
  rw [textRes, h, h2]; rfl
theorem A1_scan : scan 0 [97, 226, 130, 172] = [(1, 97), (4, 8364)] := by
  rw [scan_some (show getL [97, 226, 130, 172] = some (97, 1) by decide +kernel)]
  show (1, 97) :: scan 1 [226, 130, 172] = _
  rw [scan_some (show getL [226, 130, 172] = some (8364, 3) by decide +kernel)]
  show (1, 97) :: (4, 8364) :: scan 4 [] = _
  rw [scan_none rfl]
theorem A1_count : countOf (⟨#[97, 226, 130, 172]⟩ : ByteArray).data.toList = 2 := by
  show countOf [97, 226, 130, 172] = 2
  rw [countOf, endOf, codesOf, A1_scan]; decide

set_option maxRecDepth 100000 in
set_option maxHeartbeats 1000000 in
theorem utfAlive_any (w : World) :
    Calls Try.prog 26 #[] w fun e w' => e = .returned (.bool true) ∧ Below w.heap.size w w' := by
  have HP := Lib.hid A1_put
  have HG := Lib.hid A1_get
  have HN := Lib.hid A1_no
  have HT := Lib.hid A1_text
  have HC := Lib.hid A1_count
  go_enter Try.func26, Try.ntmps26
  go_wp2_with fail
  refine (utfPut_any 8364 w).mono ?_
  rw [HP.out]
  rintro e w1 ⟨v, rfl, hown, hB⟩
  have hv : Sees bv w1 v [226, 130, 172] := owns_sees' (l := [226, 130, 172]) hown
  obtain ⟨pa, pc, rfl⟩ := owns_slice hown
  clear hown
  have hBs := hB.size
  go_wp2_with fail
  refine (utfGet_any _ _ _ _ hv).mono ?_
  rintro e w' ⟨rfl, rfl⟩
  rw [HG.out]
  unfold getRes
  dsimp only
  go_wp2_with fail
  have hb := heap_alloc_new w1 (.cells #[.int .u8 192, .int .u8 128] 5)
  have s2 : Sees bv (w1.alloc (.cells #[.int .u8 192, .int .u8 128] 5)) (.slice (some ⟨w1.heap.size, 0, none⟩) 2 2) [192, 128] := Sees.lit hb [192, 128] 0 2 (by decide) (by decide) (by intro i hi; match i, hi with | 0, _ => rfl | 1, _ => rfl)
  have hB2 : Below w.heap.size w (w1.alloc (.cells #[.int .u8 192, .int .u8 128] 5)) := hB.alloc hBs _
  have hv2 := hv.below ((Below.refl w1.heap.size w1).alloc (Nat.le_refl _) (.cells #[.int .u8 192, .int .u8 128] 5)) (Nat.le_refl _)
  clear hb hB hv
  refine (utfGet_any _ _ _ _ s2).mono ?_
  rintro e w' ⟨rfl, rfl⟩
  rw [HN.out]
  unfold getRes
  dsimp only
  generalize w1.alloc (.cells #[.int .u8 192, .int .u8 128] 5) = W at *
  clear s2 hBs
  have hBs := hB2.size
  go_wp2_with fail
  have hb := heap_alloc_new W (.cells #[.int .i64 97, .int .i64 8364] 3)
  have s2 : Sees iv (W.alloc (.cells #[.int .i64 97, .int .i64 8364] 3)) (.slice (some ⟨W.heap.size, 0, none⟩) 2 2) [97, 8364] := Sees.lit hb [97, 8364] 0 2 (by decide) (by decide) (by intro i hi; match i, hi with | 0, _ => rfl | 1, _ => rfl)
  have hB3 : Below w.heap.size w (W.alloc (.cells #[.int .i64 97, .int .i64 8364] 3)) := hB2.alloc hBs _
  have hv3 := hv2.below ((Below.refl W.heap.size W).alloc (Nat.le_refl _) (.cells #[.int .i64 97, .int .i64 8364] 3)) (Nat.le_refl _)
  clear hb hB2 hv2 hBs
  generalize W.alloc (.cells #[.int .i64 97, .int .i64 8364] 3) = W2 at *
  refine (text_any _ _ _ (by decide) s2).mono ?_
  rintro e W3 ⟨rfl, hB4⟩
  have hv4 := hv3.below hB4 (Nat.le_refl _)
  have hB5 := hB3.trans (hB4.mono hB3.size)
  rw [HT.out]
  clear s2 hB4 hB3 hv3
  have hBs := hB5.size
  go_wp2_with fail
  have hb := heap_alloc_new W3 (.cells #[.int .u8 226, .int .u8 130, .int .u8 172] 5)
  have s3 : Sees bv (W3.alloc (.cells #[.int .u8 226, .int .u8 130, .int .u8 172] 5)) (.slice (some ⟨W3.heap.size, 0, none⟩) 3 3) [226, 130, 172] := Sees.lit hb [226, 130, 172] 0 3 (by decide) (by decide) (by intro i hi; match i, hi with | 0, _ => rfl | 1, _ => rfl | 2, _ => rfl)
  have hB6 : Below w.heap.size w (W3.alloc (.cells #[.int .u8 226, .int .u8 130, .int .u8 172] 5)) := hB5.alloc hBs _
  have hv5 := hv4.below ((Below.refl W3.heap.size W3).alloc (Nat.le_refl _) (.cells #[.int .u8 226, .int .u8 130, .int .u8 172] 5)) (Nat.le_refl _)
  clear hb hB5 hv4 hBs
  generalize W3.alloc (.cells #[.int .u8 226, .int .u8 130, .int .u8 172] 5) = W4 at *
  refine (bytes_any _ _ _ _ _ hv5 s3).mono ?_
  rintro e w' ⟨rfl, nd, rfl⟩
  rw [decide_eq_true rfl]
  have hB7 : Below w.heap.size w (W4.drewN nd) := ⟨hB6.os, hB6.tape, hB6.output, hB6.size, hB6.block⟩
  clear hv5 s3 hB6
  generalize W4.drewN nd = W5 at *
  go_wp2_with fail
  refine (valid_any _ (by decide) _).mono ?_
  rintro e W6 ⟨rfl, hB8⟩
  rw [HC.out, decide_eq_true (by decide)]
  have hB9 := hB7.trans (hB8.mono hB7.size)
  clear hB7 hB8
  go_wp2_with fail
  refine (count_any _ (by decide) _).mono ?_
  rintro e W7 ⟨rfl, hB8⟩
  rw [HC.out]
  have hB10 := hB9.trans (hB8.mono hB9.size)
  clear hB9 hB8
  go_wp2
  go_ret
  exact ⟨rfl, hB10⟩
end Go.Proofs.Ythlidbddeclnaaa
