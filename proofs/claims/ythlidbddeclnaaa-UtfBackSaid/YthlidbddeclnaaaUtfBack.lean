/- The walk of the statement UtfBack. -/
import Derived.Test.YthlidbddeclnaaaUtfBackL
namespace Go.Proofs.Ythlidbddeclnaaa
open Go.RowKit UtfL Go.Shelf

set_option maxRecDepth 100000 in
set_option maxHeartbeats 1000000 in
theorem utfBack_walk (c : Int) (v : Value) (s : ByteArray) (b : List UInt8) (w : World) (hb : Sees bv w v b) :
    Calls Try.prog 10 #[.int .i64 c, v, .string s] w fun e w' => e = .returned (.bool true) ∧ Below w.heap.size w w' := by
  obtain ⟨ad, cap, rfl, h1, h2, -⟩ := id hb
  unfold maxLen at h2
  by_cases hl : b.length ≤ 300
  · by_cases hs : s.size ≤ 300
    · have hlen : s.data.toList.length = s.size := by simp
      have hEle := endOf_le s.data.toList
      have hcl := codes_le s.data.toList
      rw [hlen] at hEle hcl
      have hx : (s.extract 0 (endOf s.data.toList)).data.toList = s.data.toList.take (endOf s.data.toList) := by simp
      have hst : (⟨(s.data.toList.take (endOf s.data.toList)).toArray⟩ : ByteArray) = s.extract 0 (endOf s.data.toList) := by
        have : ∀ x y : ByteArray, x.data.toList = y.data.toList → x = y := fun x y h => by
          cases x; cases y
          simpa using h
        exact this _ _ (by rw [hx])
      have HT : Hid (textRes ((codesOf s.data.toList).map fun x : Nat => (x : Int)) = .tuple #[.string (s.extract 0 (endOf s.data.toList)), .bool true]) := by
        show textRes _ = _
        rw [text_back, hst]
      have HV : Hid (decide (0 ≤ countOf (s.extract 0 (endOf s.data.toList)).data.toList) = true) := by
        show decide _ = true
        rw [hx, decide_eq_true (valid_back _)]
      have HXS : Hid ((s.extract 0 (endOf s.data.toList)).size ≤ 1000000) := by
        show _ ≤ _
        have h := congrArg List.length hx
        simp only [Array.length_toList, List.length_take] at h
        have : (s.extract 0 (endOf s.data.toList)).size = (s.extract 0 (endOf s.data.toList)).data.size := rfl
        omega
      obtain ⟨f, hE, hF⟩ : ∃ f : Bool, ((endOf s.data.toList : Int) == (s.size : Int)) = f ∧ decide (0 ≤ countOf s.data.toList) = f := by
        refine ⟨_, rfl, ?_⟩
        rw [Bool.eq_iff_iff, decide_eq_true_iff, beq_iff_eq, count_pos, hlen]
        omega
      have HF := Lib.hid hF
      clear hx hst hF hlen
      by_cases hc : isCode c = true
      case' pos =>
        obtain ⟨hg1, hg2⟩ := get_back hc b
        have hpp := put_pos hc
        have hpl := put_len c
        have HG := Lib.hid hg1
        have hg2' := Lib.hid hg2
        clear hg1 hg2 hc
        generalize hP : put c = P at *
        go_enter Try.func10, Try.ntmps10
        go_wp2_with fail
        refine (utfAlive_any _).mono ?_
        rintro e w0 ⟨rfl, hB0⟩
        go_wp2_with fail
        refine (utfPut_any _ _).mono ?_
        rw [hP]
        rintro e w1 ⟨pv, rfl, hpo, hB1⟩
        have hC1 := hB0.trans (hB1.mono hB0.size)
        have sp := owns_sees' hpo
        obtain ⟨pa, pc, rfl⟩ := owns_slice hpo
        clear hpo hP hB0 hB1
        have hC1s := hC1.size
        have hin : Below w1.heap.size w1 (w1.alloc (.cells #[] 5)) := (Below.refl _ _).alloc (Nat.le_refl _) _
        have sp' := sp.below hin (Nat.le_refl _)
        have hown0 : (w1.alloc (.cells #[] 5)).ownsRow w1.heap.size 5 1 (.slice (some ⟨w1.heap.size, 0, none⟩) 0 0) 0 [] := World.ownsRow_lit (base := w1.heap.size) (e := 5) (size := 1) w1 #[] 0 (Nat.le_refl _) (by decide) rfl
        have sb1 : Sees bv (w1.alloc (.cells #[] 5)) (.slice ad b.length cap) b := hb.below (hC1.trans (hin.mono hC1s)) (Nat.le_refl _)
        go_wp2_with (first
          | (at_builtin; refine wpList_app _ rfl (.tmp 31) (.tmp 32) 23 rfl w1.heap.size 5 (.int .u8 0) 1 1 Try.underlying23 utfInfoByte rfl (by decide) (.slice (some ⟨w1.heap.size, 0, none⟩) 0 0) 0 [] rfl hown0 _ P.length (P.map bv) rfl sp'.src (bv_one' P) (by unfold maxLen; omega) (by omega) (by simp) ?_; intro v3 w3 hown3 hc3 hb3 hn3; simp only [Nat.zero_add, List.nil_append] at hown3; have hB3 : Below w1.heap.size w1 w3 := hin.trans (hc3.below (by simp) (fun k hk e => by simp [Value.ownBlock] at e; omega)); have sb3 : Sees bv w3 (.slice ad b.length cap) b := hb.below (hC1.trans (hB3.mono hC1s)) (Nat.le_refl _); have hz3 := hB3.size; clear hc3 hb3 hn3)
          | (at_builtin; refine wpList_app _ rfl (.tmp 33) (.tmp 34) 23 rfl w1.heap.size 5 (.int .u8 0) 1 1 Try.underlying23 utfInfoByte rfl (by decide) v3 P.length (P.map bv) rfl hown3 _ b.length (b.map bv) rfl sb3.src (bv_one' b) (by unfold maxLen; omega) (by omega) hz3 ?_; intro v4 w4 hown4 hc4 hb4 hn4))
        have hB4 : Below w1.heap.size w1 w4 := hB3.trans (hc4.below hz3 (fun k hk e => by have := (hown3.lt k e).1; omega))
        have s4 : Sees bv w4 v4 (P ++ b) := by
          rw [← List.map_append, ← List.length_append] at hown4
          exact owns_sees' hown4
        have hBW : Below w.heap.size w w4 := hC1.trans (hB4.mono hC1s)
        obtain ⟨W, rfl⟩ : ∃ W, W = w4 := ⟨_, rfl⟩
        clear hown3 hc4 hb4 hn4 hown4 hB3 hB4 hC1 sp sp' sb1 sb3 hown0 hin
        refine (utfGet_any _ _ _ _ s4).mono ?_
        rintro e w5 ⟨rfl, rfl⟩
        rw [HG.out]
        unfold getRes
        dsimp only
        rw [hg2'.out]
        clear s4
        go_wp2_with fail
      case' neg =>
        have hP : put c = [] := by rw [put, if_neg hc]
        clear hc
        go_enter Try.func10, Try.ntmps10
        go_wp2_with fail
        refine (utfAlive_any _).mono ?_
        rintro e w0 ⟨rfl, hB0⟩
        go_wp2_with fail
        refine (utfPut_any _ _).mono ?_
        rw [hP]
        rintro e w1 ⟨pv, rfl, hpo, hB1⟩
        have hBW := hB0.trans (hB1.mono hB0.size)
        obtain ⟨pa, pc, rfl⟩ := owns_slice hpo
        obtain ⟨W, rfl⟩ : ∃ W, W = w1 := ⟨_, rfl⟩
        clear hpo hP hB0 hB1
        go_wp2_with fail
      all_goals
        refine (codes_any s (by omega) _).mono ?_
        rintro e w5 ⟨cv, rfl, hown5, hB5⟩
        have hC5 := hBW.trans (hB5.mono hBW.size)
        have sc : Sees iv w5 cv ((codesOf s.data.toList).map fun x : Nat => (x : Int)) := Sees.of_owns hown5 (by rw [List.map_map]; rfl) (by simp)
        obtain ⟨ca, cc, rfl⟩ := owns_slice hown5
        clear hown5 hB5 hBW
        go_wp2_with fail
        refine (text_any _ _ _ (by rw [List.length_map]; omega) sc).mono ?_
        rintro e w6 ⟨rfl, hB6⟩
        have hC6 := hC5.trans (hB6.mono hC5.size)
        rw [HT.out]
        clear sc hB6 hC5
        go_wp2_with fail
        refine (valid_any _ HXS.out _).mono ?_
        rintro e w7 ⟨rfl, hB7⟩
        rw [HV.out]
        have hC7 := hC6.trans (hB7.mono hC6.size)
        clear hB7 hC6
        go_wp2_with fail
        refine (valid_any _ (by omega) _).mono ?_
        rintro e w8 ⟨rfl, hB8⟩
        rw [HF.out]
        have hC8 := hC7.trans (hB8.mono hC7.size)
        clear hB8 hC7
        go_wp2
        go_ret
        exact ⟨ret_bool (by simp), hC8⟩
    · go_enter Try.func10, Try.ntmps10
      go_wp2_with fail
      refine (utfAlive_any _).mono ?_
      rintro e w0 ⟨rfl, hB0⟩
      go_wp2
      go_ret
      exact ⟨rfl, hB0⟩
  · go_enter Try.func10, Try.ntmps10
    go_wp2_with fail
    refine (utfAlive_any _).mono ?_
    rintro e w0 ⟨rfl, hB0⟩
    go_wp2
    go_ret
    exact ⟨rfl, hB0⟩
end Go.Proofs.Ythlidbddeclnaaa
