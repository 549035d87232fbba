/- The walk of layer 4's statement SumBack. -/
import Derived.Test.YthlidbddeclnaaaSumTop
import Derived.Test.YthlidbddeclnaaaRow
namespace Go.Proofs.Ythlidbddeclnaaa
open Go.RowKit SumL

theorem xor_ne (x y : UInt8) (hy : y ≠ 0) : UInt8.ofNat (x.toNat ^^^ y.toNat) ≠ x := by
  intro e
  apply hy
  have h := congrArg UInt8.toNat e
  have hl : x.toNat ^^^ y.toNat < 256 := Nat.xor_lt_two_pow (n := 8) x.toNat_lt y.toNat_lt
  rw [UInt8.toNat_ofNat', Nat.mod_eq_of_lt hl] at h
  have h2 := congrArg (x.toNat ^^^ ·) h
  simp only [← Nat.xor_assoc, Nat.xor_self, Nat.zero_xor] at h2
  exact UInt8.toNat_inj.1 h2
theorem back_ne (b : List UInt8) (k : Nat) (hk : k < b.length) (y : UInt8) (hy : y ≠ 0) : more (tab 3988292384) 0 (b.set k (UInt8.ofNat (b[k].toNat ^^^ y.toNat))) ≠ more (tab 3988292384) 0 b := by
  rw [more_bit, more_bit]
  intro e
  have e1 : b = b.take k ++ b[k] :: b.drop (k + 1) := by rw [List.getElem_cons_drop, List.take_append_drop]
  have e2 : ∀ c, b.set k c = b.take k ++ c :: b.drop (k + 1) := fun c => by rw [List.set_eq_take_append_cons_drop, if_pos hk]
  rw [e2] at e
  have e3 : bitSum b = bitSum (b.take k ++ b[k] :: b.drop (k + 1)) := congrArg bitSum e1
  rw [e3] at e
  exact xor_ne _ _ hy (bitSum_turn _ _ _ _ e)

set_option maxRecDepth 100000 in
set_option maxHeartbeats 1000000 in
theorem sumBack_back (n at_ : Int) (v : Value) (b : List UInt8) (y : UInt8) (w : World) (hb : Sees bv w v b) (hl : b.length ≤ 300) (k : Nat) (hk : k < b.length) (hat : at_ = (k : Int)) (hy : y ≠ 0) :
    Calls Try.prog 6 #[.int .i64 n, v, .int .i64 at_, .int .u8 (y.toNat : Int)] w fun e w' => e = .returned (.bool true) ∧ Below w.heap.size w w' := by
  subst hat
  obtain ⟨ad, cap, rfl, h1, h2, -⟩ := id hb
  unfold maxLen at h2
  have HN := Lib.hid (back_ne b k hk y hy)
  have hy1 : (((y.toNat : Nat) : Int) == 0) = false := by
    rw [beq_eq_false_iff_ne]
    intro e
    exact hy (UInt8.toNat_inj.1 (by simpa using e))
  have HG := Lib.hid (get_put n)
  have hx0 := Lib.hid (u8_xor_nat b[k].toNat y.toNat b[k].toNat_lt y.toNat_lt)
  have HI : (0 ≤ n ∧ n ≤ 4294967295) ∨ n < 0 ∨ 4294967295 < n := by omega
  have HGG : Hid (0 ≤ n → n ≤ 4294967295 → SumL.get (put n) = n) := fun a b => get_put n (by simp [isU32, a, b])
  rcases HI with ⟨hn0, hn1⟩ | hn | hn
  case' inl =>
    go_enter Try.func6, Try.ntmps6
    go_wp2_with fail
    refine (sumAlive_any _).mono ?_
    rintro e w0 ⟨rfl, hB0⟩
    go_wp2_with fail
    refine (sumPut_any _ _).mono ?_
    rintro e W ⟨v1, rfl, hown1, hB1⟩
    have s1 : Sees bv W v1 (put n) := owns_sees hown1
    have hBW : Below w.heap.size w W := hB0.trans (hB1.mono hB0.size)
    clear hown1 hB0 hB1
    go_wp2_with fail
    refine (sumGet_any _ _ _ s1).mono ?_
    rintro e w' ⟨rfl, rfl⟩
    rw [HGG.out hn0 hn1]
    clear s1
    go_wp2_with fail
  case' inr.inl =>
    go_enter Try.func6, Try.ntmps6
    go_wp2_with fail
    refine (sumAlive_any _).mono ?_
    rintro e w0 ⟨rfl, hB0⟩
    obtain ⟨W, rfl⟩ : ∃ W, W = w0 := ⟨_, rfl⟩
    have hBW : Below w.heap.size w W := hB0
    clear hB0
    go_wp2_with fail
  case' inr.inr =>
    go_enter Try.func6, Try.ntmps6
    go_wp2_with fail
    refine (sumAlive_any _).mono ?_
    rintro e w0 ⟨rfl, hB0⟩
    obtain ⟨W, rfl⟩ : ∃ W, W = w0 := ⟨_, rfl⟩
    have hBW : Below w.heap.size w W := hB0
    clear hB0
    go_wp2_with fail
  all_goals
    refine (make_any _ _).mono ?_
    rintro e w1 ⟨v1, rfl, hown1, hB1⟩
    have sT : Sees iv w1 v1 (tab 3988292384) := owns_sees hown1
    have hB : Below w.heap.size w w1 := hBW.trans (hB1.mono hBW.size)
    have sb : Sees bv w1 (.slice ad b.length cap) b := hb.below hB (Nat.le_refl _)
    clear hown1 hB1 hBW
    generalize tab 3988292384 = T at *
    go_wp2_with fail
    refine (of_any _ _ _ _ _ sT sb).mono ?_
    rintro e w2 ⟨rfl, rfl⟩
    have hin : Below w1.heap.size w1 (w1.alloc (.cells #[] 5)) := (Below.refl _ _).alloc (Nat.le_refl _) _
    have sb' := sb.below hin (Nat.le_refl _)
    have hown0 : (w1.alloc (.cells #[] 5)).ownsRow w1.heap.size 5 1 (.slice (some ⟨w1.heap.size, 0, none⟩) 0 0) 0 [] := World.ownsRow_lit (base := w1.heap.size) (e := 5) (size := 1) w1 #[] 0 (Nat.le_refl _) (by decide) rfl
    go_wp2_with (at_builtin; refine wpList_app _ rfl (.tmp 46) (.tmp 47) 23 rfl w1.heap.size 5 (.int .u8 0) 1 1 Try.underlying23 Try.infoByte rfl (by decide) (.slice (some ⟨w1.heap.size, 0, none⟩) 0 0) 0 [] rfl hown0 _ b.length (b.map bv) rfl sb'.src (bv_one b) (by unfold maxLen; omega) (by omega) (by simp) ?_; intro v3 w3 hown3 hc3 hb3 hn3; simp only [Nat.zero_add, List.nil_append] at hown3; have hB3 : Below w1.heap.size w1 w3 := hin.trans (hc3.below (by simp) (fun k hk e => by simp [Value.ownBlock] at e; omega)); obtain ⟨g, hg⟩ : ∃ g cp, v3 = .slice (some ⟨g, 0, none⟩) b.length cp := (by rcases hown3.2 with ⟨_, h0⟩ | ⟨g, cp, _, rfl, _⟩; (· omega); exact ⟨g, cp, rfl⟩); obtain ⟨cp, rfl⟩ := hg; have hcell := (hown3.cellAt k (by omega)).trans (show (b.map bv)[k]? = some (bv b[k]) by simp [hk]); have hfro := hown3.frozenAt k; have hst := hown3.stored k (bv (UInt8.ofNat (b[k].toNat ^^^ y.toNat))); clear hc3 hb3 hn3; unfold bv at hcell)
    have sT2 := sT.below hB3 (Nat.le_refl _)
    rw [hx0.out]
    have hxl : b[k].toNat ^^^ y.toNat < 256 := Nat.xor_lt_two_pow (n := 8) b[k].toNat_lt y.toNat_lt
    have ebv : bv (UInt8.ofNat (b[k].toNat ^^^ y.toNat)) = .int .u8 ((b[k].toNat ^^^ y.toNat : Nat) : Int) := by rw [bv, UInt8.toNat_ofNat', Nat.mod_eq_of_lt hxl]
    rw [← ebv]
    obtain ⟨hst1, hst2⟩ := hst
    rw [← List.map_set] at hst1
    have hB4 : Below w1.heap.size w1 (w3.setCell ⟨g, k, none⟩ (bv (UInt8.ofNat (b[k].toNat ^^^ y.toNat)))) := hB3.grown hst2 hB3.size (fun j e => by cases e; exact (hown3.lt g rfl).1)
    generalize w3.setCell ⟨g, k, none⟩ (bv (UInt8.ofNat (b[k].toNat ^^^ y.toNat))) = W4 at *
    generalize UInt8.ofNat (b[k].toNat ^^^ y.toNat) = c at *
    have s4 : Sees bv W4 (.slice (some ⟨g, 0, none⟩) b.length cp) (b.set k c) := by
      have e : b.length = (b.set k c).length := by simp
      have h5 : W4.ownsRow w1.heap.size 5 1 (.slice (some ⟨g, 0, none⟩) (b.set k c).length cp) (b.set k c).length ((b.set k c).map bv) := by rw [← e]; exact hst1
      have := owns_sees h5
      rwa [← e] at this
    have sT4 := sT.below hB4 (Nat.le_refl _)
    have hBW : Below w.heap.size w W4 := hB.trans (hB4.mono hB.size)
    refine (of_any _ _ _ _ _ sT4 s4).mono ?_
    rintro e w5 ⟨rfl, rfl⟩
    have hq : (more T 0 (b.set k c) != more T 0 b) = true := by rw [bne_iff_ne]; exact HN.out
    clear hst1 hst2 hB4 hB3 hcell hfro hown3 sT2 ebv hx0
    go_wp2
    go_ret
    exact ⟨ret_bool (by simp), hBW⟩

set_option maxRecDepth 100000 in
set_option maxHeartbeats 1000000 in
theorem sumBack_walk (n at_ : Int) (v : Value) (b : List UInt8) (y : UInt8) (w : World) (hb : Sees bv w v b) :
    Calls Try.prog 6 #[.int .i64 n, v, .int .i64 at_, .int .u8 (y.toNat : Int)] w fun e w' => e = .returned (.bool true) ∧ Below w.heap.size w w' := by
  by_cases hl : b.length ≤ 300
  · by_cases hmain : (0 ≤ at_ ∧ at_ < b.length) ∧ y ≠ 0
    · obtain ⟨⟨g1, g2⟩, g3⟩ := hmain
      exact sumBack_back n at_ v b y w hb hl at_.toNat (by omega) (by omega) g3
    · obtain ⟨ad, cap, rfl, h1, h2, -⟩ := id hb
      unfold maxLen at h2
      have HI : (0 ≤ n ∧ n ≤ 4294967295) ∨ n < 0 ∨ 4294967295 < n := by omega
      have HGG : Hid (0 ≤ n → n ≤ 4294967295 → SumL.get (put n) = n) := fun a b => get_put n (by simp [isU32, a, b])
      have HY : at_ < 0 ∨ (b.length : Int) ≤ at_ ∨ (0 ≤ at_ ∧ at_ < b.length ∧ (((y.toNat : Nat) : Int) == 0) = true) := by
        by_cases q1 : at_ < 0
        · exact .inl q1
        · by_cases q2 : (b.length : Int) ≤ at_
          · exact .inr (.inl q2)
          · refine .inr (.inr ⟨by omega, by omega, ?_⟩)
            have : ¬ y ≠ 0 := fun h => hmain ⟨⟨by omega, by omega⟩, h⟩
            rw [beq_iff_eq, Decidable.not_not.1 this]; rfl
      clear hmain
      have hle : b.length ≤ 300 := hl
      rcases HI with ⟨hn0, hn1⟩ | hn | hn
      all_goals rcases HY with q | q | ⟨q1, q2, q⟩
      all_goals
        go_enter Try.func6, Try.ntmps6
        go_wp2_with fail
        refine (sumAlive_any _).mono ?_
        rintro e w0 ⟨rfl, hB0⟩
        go_wp2_with fail
        first
          | (refine (sumPut_any _ _).mono ?_
             rintro e W ⟨v1, rfl, hown1, hB1⟩
             have s1 : Sees bv W v1 (put n) := owns_sees hown1
             have hBW : Below w.heap.size w W := hB0.trans (hB1.mono hB0.size)
             clear hown1 hB0 hB1
             go_wp2_with fail
             refine (sumGet_any _ _ _ s1).mono ?_
             rintro e w' ⟨rfl, rfl⟩
             rw [HGG.out hn0 hn1]
             clear s1
             go_wp2
             go_ret
             exact ⟨ret_bool (by simp), hBW⟩)
          | (go_ret
             exact ⟨ret_bool (by simp), hB0⟩)
  · obtain ⟨ad, cap, rfl, h1, h2, -⟩ := id hb
    unfold maxLen at h2
    have hle : 300 < b.length := by omega
    clear hl
    go_enter Try.func6, Try.ntmps6
    go_wp2_with fail
    refine (sumAlive_any _).mono ?_
    rintro e w0 ⟨rfl, hB0⟩
    go_wp2
    go_ret
    exact ⟨ret_bool (by simp), hB0⟩
end Go.Proofs.Ythlidbddeclnaaa
