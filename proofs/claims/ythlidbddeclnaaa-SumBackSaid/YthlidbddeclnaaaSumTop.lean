/- The walks of layer 4's statements. -/
import Derived.Test.YthlidbddeclnaaaSumAlive
import Derived.Test.YthlidbddeclnaaaSumLaw2
import Derived.Test.YthlidbddeclnaaaRefMore
import Derived.Test.YthlidbddeclnaaaRefInts
import Derived.Test.YthlidbddeclnaaaRefBytes
namespace Go.Proofs.Ythlidbddeclnaaa
open Go.RowKit SumL

set_option maxRecDepth 100000 in
set_option maxHeartbeats 1000000 in
theorem sumLinear_walk (p : Int) (a b : UInt8) (w : World) :
    Calls Try.prog 7 #[.int .i64 p, .int .u8 (a.toNat : Int), .int .u8 (b.toNat : Int)] w fun e w' => e = .returned (.bool true) ∧ Below w.heap.size w w' := by
  by_cases hp : isU32 p = true
  · have hp2 : 0 ≤ p ∧ p ≤ 4294967295 := by simpa [isU32] using hp
    obtain ⟨hp0, hp1⟩ := hp2
    obtain ⟨p, rfl⟩ := Int.eq_ofNat_of_zero_le hp0
    have hlen := tab_len _ hp
    have ga := tab_get p (by omega) a.toNat a.toNat_lt
    have gb := tab_get p (by omega) b.toNat b.toNat_lt
    have hx : a.toNat ^^^ b.toNat < 256 := Nat.xor_lt_two_pow (n := 8) a.toNat_lt b.toNat_lt
    have gx := tab_get p (by omega) (a.toNat ^^^ b.toNat) hx
    have g0 := tab_get p (by omega) 0 (by omega)
    rw [row_xor] at gx
    rw [row_zero] at g0
    have la := row_lt (p := p) (by omega) (i := a.toNat) (by have := a.toNat_lt; omega) 8
    have lb := row_lt (p := p) (by omega) (i := b.toNat) (by have := b.toNat_lt; omega) 8
    have hx1 := Lib.hid (u8_xor_nat a.toNat b.toNat a.toNat_lt b.toNat_lt)
    have hx2 := Lib.hid (i64_xor_nat (row p 8 a.toNat) (row p 8 b.toNat) (by omega) (by omega))
    have al := a.toNat_lt
    have bl := b.toNat_lt
    clear hp
    generalize row p 8 a.toNat = ra at *
    generalize row p 8 b.toNat = rb at *
    generalize a.toNat ^^^ b.toNat = ab at *
    generalize a.toNat = a at *
    generalize b.toNat = b at *
    go_enter Try.func7, Try.ntmps7
    go_wp2_with fail
    refine (sumAlive_any _).mono ?_
    rintro e w0 ⟨rfl, hB0⟩
    go_wp2_with fail
    refine (make_any _ _).mono ?_
    rintro e w1 ⟨v, rfl, hown, hB1⟩
    have hB : Below w.heap.size w w1 := hB0.trans (hB1.mono hB0.size)
    have hT : Sees iv w1 v (tab (p : Int)) := owns_sees hown
    obtain ⟨ad, cap, rfl, h1, h2, h3, h4⟩ := hT
    unfold maxLen at h2
    rw [hlen] at h1 ⊢
    obtain ⟨⟨tb, off, sp⟩, rfl⟩ : ∃ x, ad = some x := by
      cases ad with
      | none => have := h3 rfl; omega
      | some x => exact ⟨x, rfl⟩
    obtain ⟨e1, e2, e3⟩ := h4 _ rfl (by omega)
    dsimp only at e1 e2 e3
    subst e1
    have cell : ∀ j (x : Nat), (tab (p : Int))[j]? = some (x : Int) → j < 256 → w1.cell? ⟨tb, off + j, none⟩ = some (.int .i64 (x : Int)) := fun j x h hj => by
      have := e3 j (by omega)
      rw [List.getElem?_eq_getElem (by omega)] at h
      rw [Option.some.inj h] at this
      exact this
    have c0 := cell 0 0 g0 (by omega)
    have ca := cell a ra ga (by omega)
    have cb := cell b rb gb (by omega)
    have cx := cell ab (ra ^^^ rb) gx (by omega)
    rw [Nat.add_zero] at c0
    clear cell e3 h4 h3 ga gb gx g0 hown hB0 hB1
    have hx1' := hx1.out
    have hx2' := hx2.out
    generalize ra ^^^ rb = rab at *
    clear hx1 hx2 hlen
    go_wp2_with fail
    go_quiet (fail)
    go_wp2
    go_ret
    exact ⟨ret_bool (by simp), below_drewN hB _⟩
  · have hp' : isU32 p = false := by simpa using hp
    have HT : Hid (tab p = []) := by show tab p = []; simp [tab, hp']
    have hp2 : ¬ (0 ≤ p ∧ p ≤ 4294967295) := by simpa [isU32] using hp
    clear hp hp'
    by_cases hp0 : 0 ≤ p
    · have hp1 : 4294967295 < p := by omega
      clear hp2
      go_enter Try.func7, Try.ntmps7
      go_wp2_with fail
      refine (sumAlive_any _).mono ?_
      rintro e w0 ⟨rfl, hB0⟩
      go_wp2_with fail
      refine (make_any _ _).mono ?_
      rintro e w1 ⟨v, rfl, hown, hB1⟩
      rw [HT.out] at hown
      have hB : Below w.heap.size w w1 := hB0.trans (hB1.mono hB0.size)
      have hT : Sees iv w1 v [] := owns_sees hown
      obtain ⟨ad, cap, rfl, -⟩ := hT
      go_wp2
      go_ret
      exact ⟨ret_bool (by simp), hB⟩
    · clear hp2
      go_enter Try.func7, Try.ntmps7
      go_wp2_with fail
      refine (sumAlive_any _).mono ?_
      rintro e w0 ⟨rfl, hB0⟩
      go_wp2_with fail
      refine (make_any _ _).mono ?_
      rintro e w1 ⟨v, rfl, hown, hB1⟩
      rw [HT.out] at hown
      have hB : Below w.heap.size w w1 := hB0.trans (hB1.mono hB0.size)
      have hT : Sees iv w1 v [] := owns_sees hown
      obtain ⟨ad, cap, rfl, -⟩ := hT
      go_wp2
      go_ret
      exact ⟨ret_bool (by simp), hB⟩

set_option maxRecDepth 100000 in
set_option maxHeartbeats 1000000 in
theorem sumPuts_walk (n : Int) (v : Value) (b : List UInt8) (w : World) (hb : Sees bv w v b) :
    Calls Try.prog 4 #[.int .i64 n, v] w fun e w' => e = .returned (.bool true) ∧ Below w.heap.size w w' := by
  obtain ⟨a, cap, rfl, h1, h2, -⟩ := id hb
  unfold maxLen at h2
  by_cases hl : b.length ≤ 100
  · go_enter Try.func4, Try.ntmps4
    go_wp2_with fail
    refine (sumAlive_any _).mono ?_
    rintro e w0 ⟨rfl, hB0⟩
    have hl' : decide (100 < b.length) = false := by simp; omega
    go_wp2_with fail
    refine (sumPut_any _ _).mono ?_
    rintro e w1 ⟨v1, rfl, hown1, hB1⟩
    have s1 : Sees bv w1 v1 (put n) := owns_sees hown1
    go_wp2_with fail
    refine (refPut_any _ _).mono ?_
    rintro e w2 ⟨v2, rfl, hown2, hB2⟩
    have s2 : Sees bv w2 v2 (put n) := owns_sees hown2
    have s1' := s1.below hB2 (Nat.le_refl _)
    have hB : Below w.heap.size w w2 := (hB0.trans (hB1.mono hB0.size)).trans (hB2.mono (by have := hB0.size; have := hB1.size; omega))
    clear hown1 hown2 hB1 hB2 hB0 s1
    go_wp2_with fail
    refine (bytes_any _ _ _ _ _ s1' s2).mono ?_
    rintro e w3 ⟨rfl, n3, rfl⟩
    rw [show decide (put n = put n) = true from by simp]
    have hb3 : Sees bv (w2.drewN n3) (.slice a b.length cap) b := hb.below (below_drewN hB _) (Nat.le_refl _)
    go_wp2_with fail
    refine (sumGet_any _ _ _ hb3).mono ?_
    rintro e w3 ⟨rfl, rfl⟩
    go_wp2_with fail
    refine (refGet_any _ _ _ hb3).mono ?_
    rintro e w4 ⟨rfl, n4, rfl⟩
    go_wp2
    go_ret
    exact ⟨ret_bool (by simp), below_drewN hB _⟩
  · have hl' : decide (100 < b.length) = true := by simp; omega
    go_enter Try.func4, Try.ntmps4
    go_wp2_with fail
    refine (sumAlive_any _).mono ?_
    rintro e w0 ⟨rfl, hB0⟩
    go_wp2
    go_ret
    exact ⟨ret_bool (by simp), hB0⟩

set_option maxRecDepth 100000 in
set_option maxHeartbeats 1000000 in
theorem sumTables_walk (p s : Int) (u v : Value) (t : List Int) (b : List UInt8) (w : World) (ht : Sees iv w u t) (hb : Sees bv w v b) :
    Calls Try.prog 3 #[.int .i64 p, u, .int .i64 s, v] w fun e w' => e = .returned (.bool true) ∧ Below w.heap.size w w' := by
  obtain ⟨a, cap, rfl, h1, h2, -⟩ := id hb
  obtain ⟨a', cap', rfl, h1', h2', -⟩ := id ht
  unfold maxLen at h2 h2'
  by_cases hl : t.length ≤ 300 ∧ b.length ≤ 500
  · obtain ⟨hl1, hl2⟩ := hl
    go_enter Try.func3, Try.ntmps3
    go_wp2_with fail
    refine (sumAlive_any _).mono ?_
    rintro e w0 ⟨rfl, hB0⟩
    go_wp2_with fail
    refine (make_any _ _).mono ?_
    rintro e w1 ⟨v1, rfl, hown1, hB1⟩
    have s1 : Sees iv w1 v1 (tab p) := owns_sees hown1
    go_wp2_with fail
    refine (refMake_any _ _).mono ?_
    rintro e w2 ⟨v2, rfl, hown2, hB2⟩
    have s2 : Sees iv w2 v2 (tab p) := owns_sees hown2
    have s1' := s1.below hB2 (Nat.le_refl _)
    have hB : Below w.heap.size w w2 := (hB0.trans (hB1.mono hB0.size)).trans (hB2.mono (by have := hB0.size; have := hB1.size; omega))
    clear hown1 hown2 hB1 hB2 hB0 s1
    go_wp2_with fail
    refine (ints_any _ _ _ _ _ s1' s2).mono ?_
    rintro e w3 ⟨rfl, n3, rfl⟩
    rw [show decide (tab p = tab p) = true from by simp]
    have hB3 := below_drewN hB n3
    have hb3 : Sees bv (w2.drewN n3) (.slice a b.length cap) b := hb.below hB3 (Nat.le_refl _)
    have ht3 : Sees iv (w2.drewN n3) (.slice a' t.length cap') t := ht.below hB3 (Nat.le_refl _)
    have hv3 : Sees iv (w2.drewN n3) v1 (tab p) := s1'
    generalize w2.drewN n3 = W at *
    go_wp2_with fail
    refine (more_any _ _ _ _ _ _ ht3 hb3).mono ?_
    rintro e w3 ⟨rfl, rfl⟩
    go_wp2_with fail
    refine (refMore_any _ _ _ _ _ _ ht3 hb3).mono ?_
    rintro e w3 ⟨rfl, rfl⟩
    go_wp2_with fail
    refine (more_any _ _ _ _ _ _ hv3 hb3).mono ?_
    rintro e w3 ⟨rfl, rfl⟩
    go_wp2_with fail
    refine (refMore_any _ _ _ _ _ _ hv3 hb3).mono ?_
    rintro e w3 ⟨rfl, rfl⟩
    go_wp2_with fail
    refine (of_any _ _ _ _ _ hv3 hb3).mono ?_
    rintro e w3 ⟨rfl, rfl⟩
    go_wp2_with fail
    refine (refMore_any _ _ _ _ _ _ hv3 hb3).mono ?_
    rintro e w3 ⟨rfl, rfl⟩
    go_wp2
    go_ret
    exact ⟨ret_bool (by simp), hB3⟩
  · by_cases hl1 : t.length ≤ 300
    · have hl2 : 500 < b.length := by omega
      clear hl
      go_enter Try.func3, Try.ntmps3
      go_wp2_with fail
      refine (sumAlive_any _).mono ?_
      rintro e w0 ⟨rfl, hB0⟩
      go_wp2
      go_ret
      exact ⟨ret_bool (by simp), hB0⟩
    · have hl2 : 300 < t.length := by omega
      clear hl hl1
      go_enter Try.func3, Try.ntmps3
      go_wp2_with fail
      refine (sumAlive_any _).mono ?_
      rintro e w0 ⟨rfl, hB0⟩
      go_wp2
      go_ret
      exact ⟨ret_bool (by simp), hB0⟩

theorem Try.infoByte : (Try.prog.info? 5).map (fun i => (i.zero, i.size, i.bytes)) = some (some (.int .u8 0), 1, 1) := by kernel_rfl
theorem bv_one (l : List UInt8) : ∀ u ∈ l.map bv, u.oneCell' = true := by
  intro u hu
  obtain ⟨x, _, rfl⟩ := List.mem_map.1 hu
  rfl

set_option maxRecDepth 100000 in
set_option maxHeartbeats 1000000 in
theorem sumParts_walk (p : Int) (u v : Value) (a b : List UInt8) (w : World) (ha : Sees bv w u a) (hb : Sees bv w v b) :
    Calls Try.prog 5 #[.int .i64 p, u, v] w fun e w' => e = .returned (.bool true) ∧ Below w.heap.size w w' := by
  obtain ⟨ad, cap, rfl, h1, h2, -⟩ := id hb
  obtain ⟨ad', cap', rfl, h1', h2', -⟩ := id ha
  unfold maxLen at h2 h2'
  by_cases hl : (a.length ≤ 300 ∧ b.length ≤ 300) ∧ 0 ≤ p ∧ p ≤ 4294967295
  · obtain ⟨⟨hl1, hl2⟩, hp0, hp1⟩ := hl
    have hp : isU32 p = true := by simp [isU32, hp0, hp1]
    have HM : Hid (more (tab p) (more (tab p) 0 a) b = more (tab p) 0 (a ++ b)) := by
      obtain ⟨q, rfl⟩ := Int.eq_ofNat_of_zero_le hp0
      exact more_more a b (isTab_tab q (by omega)) (by decide)
    have HB : Hid (more (tab 3988292384) 0 (a ++ b) = bitSum (a ++ b)) := more_bit (a ++ b)
    clear hp
    go_enter Try.func5, Try.ntmps5
    go_wp2_with fail
    refine (sumAlive_any _).mono ?_
    rintro e w0 ⟨rfl, hB0⟩
    go_wp2_with fail
    refine (make_any _ _).mono ?_
    rintro e w1 ⟨v1, rfl, hown1, hB1⟩
    have s1 : Sees iv w1 v1 (tab p) := owns_sees hown1
    go_wp2_with fail
    refine (make_any _ _).mono ?_
    rintro e w2 ⟨v2, rfl, hown2, hB2⟩
    have s2 : Sees iv w2 v2 (tab 3988292384) := owns_sees hown2
    have s1' := s1.below hB2 (Nat.le_refl _)
    have hB : Below w.heap.size w w2 := (hB0.trans (hB1.mono hB0.size)).trans (hB2.mono (by have := hB0.size; have := hB1.size; omega))
    have ha2 : Sees bv w2 (.slice ad' a.length cap') a := ha.below hB (Nat.le_refl _)
    have hb2 : Sees bv w2 (.slice ad b.length cap) b := hb.below hB (Nat.le_refl _)
    clear hown1 hown2 hB1 hB2 hB0 s1
    go_wp2_with (first
      | (at_builtin; refine wpList_app _ rfl (.tmp 31) (.tmp 32) 23 rfl w2.heap.size 5 (.int .u8 0) 1 1 Try.underlying23 Try.infoByte rfl (by decide) (.slice none 0 0) 0 [] rfl (World.ownsRow_nil _ _ _ _) _ a.length (a.map bv) rfl ha2.src (bv_one a) (by unfold maxLen; omega) (by omega) (Nat.le_refl _) ?_; intro v3 w3 hown3 hc3 hb3 hn3; have hB3 : Below w2.heap.size w2 w3 := hc3.below (Nat.le_refl _) (fun k hk e => by cases e); have hb3' := hb2.below hB3 (Nat.le_refl _); simp only [Nat.zero_add, List.nil_append] at hown3; have hz3 := hB3.size; clear hc3 hn3)
      | (at_builtin; refine wpList_app _ rfl (.tmp 34) (.tmp 35) 23 rfl w2.heap.size 5 (.int .u8 0) 1 1 Try.underlying23 Try.infoByte rfl (by decide) v3 a.length (a.map bv) rfl hown3 _ b.length (b.map bv) rfl hb3'.src (bv_one b) (by unfold maxLen; omega) (by omega) hz3 ?_; intro v4 w4 hown4 hc4 hb4 hn4))
    have hB4 : Below w2.heap.size w2 w4 := hB3.trans (hc4.below hz3 (fun k hk e => by have := (hown3.lt k e).1; omega))
    have s4 : Sees bv w4 v4 (a ++ b) := by
      rw [← List.map_append, ← List.length_append] at hown4
      exact owns_sees hown4
    have sT := s1'.below hB4 (Nat.le_refl _)
    have sU := s2.below hB4 (Nat.le_refl _)
    have sa := ha2.below hB4 (Nat.le_refl _)
    have sb := hb2.below hB4 (Nat.le_refl _)
    have hBW : Below w.heap.size w w4 := hB.trans (hB4.mono hB.size)
    clear hown3 hc4 hb4 hn4 hown4 hB3 hB4 hb3' hb3 s1' s2 ha2 hb2 hz3
    refine (of_any _ _ _ _ _ sT sa).mono ?_
    rintro e w5 ⟨rfl, rfl⟩
    go_wp2_with fail
    refine (more_any _ _ _ _ _ _ sT sb).mono ?_
    rintro e w5 ⟨rfl, rfl⟩
    rw [HM.out]
    go_wp2_with fail
    refine (of_any _ _ _ _ _ sT s4).mono ?_
    rintro e w5 ⟨rfl, rfl⟩
    go_wp2_with fail
    refine (of_any _ _ _ _ _ sU s4).mono ?_
    rintro e w5 ⟨rfl, rfl⟩
    rw [HB.out]
    go_wp2_with fail
    refine (bits_any _ _ _ s4).mono ?_
    rintro e w5 ⟨rfl, rfl⟩
    go_wp2
    go_ret
    exact ⟨ret_bool (by simp), hBW⟩
  · by_cases g1 : a.length ≤ 300
    · by_cases g2 : b.length ≤ 300
      · by_cases g3 : 0 ≤ p
        · have g4 : 4294967295 < p := by omega
          clear hl
          go_enter Try.func5, Try.ntmps5
          go_wp2_with fail
          refine (sumAlive_any _).mono ?_
          rintro e w0 ⟨rfl, hB0⟩
          go_wp2
          go_ret
          exact ⟨ret_bool (by simp), hB0⟩
        · have g4 : p < 0 := by omega
          clear hl g3
          go_enter Try.func5, Try.ntmps5
          go_wp2_with fail
          refine (sumAlive_any _).mono ?_
          rintro e w0 ⟨rfl, hB0⟩
          go_wp2
          go_ret
          exact ⟨ret_bool (by simp), hB0⟩
      · have g4 : 300 < b.length := by omega
        clear hl g2
        go_enter Try.func5, Try.ntmps5
        go_wp2_with fail
        refine (sumAlive_any _).mono ?_
        rintro e w0 ⟨rfl, hB0⟩
        go_wp2
        go_ret
        exact ⟨ret_bool (by simp), hB0⟩
    · have g4 : 300 < a.length := by omega
      clear hl g1
      go_enter Try.func5, Try.ntmps5
      go_wp2_with fail
      refine (sumAlive_any _).mono ?_
      rintro e w0 ⟨rfl, hB0⟩
      go_wp2
      go_ret
      exact ⟨ret_bool (by simp), hB0⟩
end Go.Proofs.Ythlidbddeclnaaa
