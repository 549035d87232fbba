/- The walks of layer 4, continued: the references' sums, and the tables. -/
import Derived.Test.YthlidbddeclnaaaSumWalk3
import Derived.Deep.QuietTactic
import Derived.BigQuiet
namespace Go.Proofs.Ythlidbddeclnaaa
open Go.RowKit SumL

theorem Try.infoInt : (Try.prog.info? 3).map (fun i => (i.zero, i.size, i.bytes)) = some (some (.int .i64 0), 1, 8) := by kernel_rfl

theorem refPut_any (n : Int) (w : World) :
    Calls Try.prog 22 #[.int .i64 n] w fun e w' => ∃ v, e = .returned v ∧ w'.ownsRow w.heap.size 5 1 v 4 ((put n).map bv) ∧ Below w.heap.size w w' := by
  obtain ⟨U, hu⟩ := Int.eq_ofNat_of_zero_le (show 0 ≤ n % 18446744073709551616 by omega)
  have hw : IntKind.u64.wrap n = (U : Int) := by rw [IntKind.wrap_u64]; exact hu
  have hp : ((put n).map bv) = [Value.int .u8 ((U : Int) % 4294967296 / 16777216), Value.int .u8 ((U : Int) % 4294967296 / 65536 % 256), Value.int .u8 ((U : Int) % 4294967296 / 256 % 256), Value.int .u8 ((U : Int) % 256)] := by
    simp only [put, List.map_cons, List.map_nil, bv, UInt8.toNat_ofNat']
    congr 1
    · congr 1; omega
    · congr 1
      · congr 1; omega
      · congr 1
        · congr 1; omega
        · congr 2; omega
  have HP := Lib.hid hp
  have hU : (U : Int) ≤ 18446744073709551615 := by omega
  clear hp hu
  go_enter Try.func22, Try.ntmps22
  go_wp2
  go_ret
  refine ⟨_, rfl, ?_, (Below.refl _ _).alloc (Nat.le_refl _) _⟩
  rw [HP.out]
  exact World.ownsRow_lit (base := w.heap.size) (e := 5) (size := 1) w _ 4 (Nat.le_refl _) (by decide) rfl

theorem bits_any (v : Value) (b : List UInt8) (w : World) (h : Sees bv w v b) :
    Calls Try.prog 25 #[v] w fun e w' => e = .returned (.int .i64 (bitSum b)) ∧ w = w' := by
  obtain ⟨a, cap, rfl, h1, h2, h3, h4⟩ := h
  unfold maxLen at h2
  go_enter Try.func25, Try.ntmps25
  go_wp2
  go_loopw [3, 4] (fun r i wr => w = wr ∧ ∃ k : Nat, k ≤ b.length ∧ i = .int .i64 k ∧ r = .int .i64 ((b.take k).foldl bitStep 4294967295 : Nat)) (fun _ i _ => b.length - (intOf i).toNat)
  case atStart => exact ⟨rfl, 0, Nat.zero_le _, rfl, rfl⟩
  case round =>
    obtain ⟨rfl, k, hk, rfl, rfl⟩ := hrel
    have hr : (b.take k).foldl bitStep 4294967295 < 4294967296 := bitFold_lt _ (by decide)
    by_cases hlt : k < b.length
    · obtain ⟨⟨b', off', s'⟩, rfl⟩ : ∃ b, a = some b := by
        cases a with
        | none => have := h3 rfl; omega
        | some b => exact ⟨b, rfl⟩
      obtain ⟨e1, e2, e3⟩ := h4 _ rfl (by omega)
      dsimp only at e1 e2 e3
      subst e1
      have hc := e3 k hlt
      have HS : Hid ((b.take (k + 1)).foldl bitStep 4294967295 = bitStep ((b.take k).foldl bitStep 4294967295) b[k]) := by
        rw [take_snoc b k hlt, List.foldl_append]; rfl
      clear h4 e3 h3
      generalize b[k] = c at *
      generalize (b.take k).foldl bitStep 4294967295 = R at *
      have hcl := c.toNat_lt
      unfold bv at hc
      have hx1 : bits BinOp.xor IntKind.i64 (R : Int) (c.toNat : Int) = ((R ^^^ c.toNat : Nat) : Int) := i64_xor_nat R c.toNat (by omega) (by omega)
      have HS2 : Hid (bitStep R c = row 3988292384 8 ((R ^^^ c.toNat) % 256) ^^^ (R / 256)) := rfl
      generalize R ^^^ c.toNat = j at *
      have hj : row 3988292384 8 (j % 256) < 4294967296 := row_lt (by decide) (by omega) 8
      have hx2 := Lib.hid (i64_xor_nat (row 3988292384 8 (j % 256)) (R / 256) (by omega) (by omega))
      have HR := Lib.hid (row_any 3988292384 (j % 256) w (by decide) (by omega))
      generalize row 3988292384 8 (j % 256) = Y at *
      go_wp2_with fail
      refine (HR.out).mono ?_
      rintro e w' ⟨rfl, rfl⟩
      go_wp2
      go_roundw
      case rel => exact ⟨by trivial, k + 1, by omega, by go_num, by rw [HS.out, HS2.out, ← hx2.out]; rfl⟩
      case measure => simp [intOf]; omega
    · clear h3 h4
      rw [List.take_of_length_le (l := b) (i := k) (by omega)] at hr ⊢
      have HB : Hid (bitSum b = 4294967295 - ((b.foldl bitStep 4294967295 : Nat) : Int)) := rfl
      generalize b.foldl bitStep 4294967295 = R at *
      go_wp2
      go_ret
      exact ⟨ret_int HB.out.symm, rfl⟩

set_option maxRecDepth 100000 in
theorem refMake_any (p : Int) (w : World) :
    Calls Try.prog 16 #[.int .i64 p] w fun e w' => ∃ v, e = .returned v ∧ w'.ownsRow w.heap.size 3 1 v (tab p).length ((tab p).map iv) ∧ Below w.heap.size w w' := by
  obtain ⟨i0, hi, hz0, hz1, hz2⟩ := info_parts Try.infoInt
  by_cases hp : isU32 p = true
  · have hp2 : 0 ≤ p ∧ p ≤ 4294967295 := by simpa [isU32] using hp
    obtain ⟨hp0, hp1⟩ := hp2
    obtain ⟨P, rfl⟩ := Int.eq_ofNat_of_zero_le hp0
    have HT : Hid (tab (P : Int) = (List.range 256).map (fun i => Int.ofNat (row P 8 i))) := by
      show tab (P : Int) = _
      simp only [tab, hp, if_true, tabN, List.map_map]; rfl
    clear hp
    go_enter Try.func16, Try.ntmps16
    go_wp2
    go_loopw [3, 4] (fun v i wr => ∃ (k : Nat) (x : Value), k ≤ 256 ∧ i = .int .i64 k ∧ x = v ∧ wr.ownsRow w.heap.size 3 1 v k ((List.range k).map (fun i => iv (Int.ofNat (row P 8 i)))) ∧ Below w.heap.size w wr) (fun _ i _ => 256 - (intOf i).toNat)
    case atStart => exact ⟨0, _, by omega, rfl, rfl, World.ownsRow_nil _ _ _ _, Below.refl _ _⟩
    case round =>
      obtain ⟨k, v, hk, rfl, rfl, hown, hB⟩ := hrel
      have hsz := hB.size
      by_cases hlt : k < 256
      · go_wp2_with fail
        refine (row_any P k wr (by omega) (by omega)).mono ?_
        rintro e w' ⟨rfl, rfl⟩
        go_wp2_with (at_builtin; refine wpList_append_own _ rfl _ _ 22 rfl w.heap.size 3 i0 (.int .i64 0) 1 8 Try.underlying22 hi hz0 hz1 hz2 rfl (by decide) _ _ _ rfl (hown.alloc _) ⟨wr.heap.size, 0, none⟩ 1 1 [.int .i64 (row P 8 k : Nat)] rfl rfl (cell_one_new _ _ _) (by simp [Value.oneCell']) (by unfold maxLen; omega) (by omega) (by simp; omega) ?_; intro v' w1 hown' hgrow _)
        have hB1 : Below w.heap.size w w1 := (hB.alloc hsz _).grown hgrow (by simp; omega) (fun j ej => (hown.lt j ej).1)
        have e1 : (List.range (k + 1)).map (fun i => iv (Int.ofNat (row P 8 i))) = (List.range k).map (fun i => iv (Int.ofNat (row P 8 i))) ++ [.int .i64 (row P 8 k : Nat)] := by
          rw [List.range_succ, List.map_append]; rfl
        rw [← e1] at hown'
        clear hgrow hown hB e1
        go_wp2
        go_roundw
        case rel => exact ⟨k + 1, _, by omega, by go_num, rfl, hown', hB1⟩
        case measure => simp [intOf]; omega
      · have e : k = 256 := by omega
        have hlen : (tab (P : Int)).length = 256 := by rw [HT.out]; simp
        have hl : (List.range k).map (fun i => iv (Int.ofNat (row P 8 i))) = (tab (P : Int)).map iv := by rw [HT.out, e, List.map_map]; rfl
        rw [hl] at hown
        have HO : Hid (wr.ownsRow w.heap.size 3 1 v (tab (P : Int)).length ((tab (P : Int)).map iv)) := by
          show wr.ownsRow w.heap.size 3 1 v (tab (P : Int)).length ((tab (P : Int)).map iv)
          rw [hlen, ← e]; exact hown
        clear e hlen hl hown
        go_wp2
        go_ret
        exact ⟨_, rfl, HO.out, hB⟩
  · have HT : Hid (tab p = []) := by show tab p = _; simp [tab, hp]
    have hp2 : ¬ (0 ≤ p ∧ p ≤ 4294967295) := by simpa [isU32] using hp
    clear hp
    go_enter Try.func16, Try.ntmps16
    go_wp2
    go_loop [3, 4] (fun v i => i = .int .i64 0 ∧ v = .slice none 0 0) (fun _ i => 0)
    case atStart => exact ⟨rfl, rfl⟩
    case round =>
      obtain ⟨rfl, rfl⟩ := hrel
      by_cases g0 : 0 ≤ p
      · have g1 : 4294967295 < p := by omega
        go_wp2
        go_ret
        exact ⟨_, rfl, by rw [HT.out]; exact World.ownsRow_nil _ _ _ _, Below.refl _ _⟩
      · go_wp2
        go_ret
        exact ⟨_, rfl, by rw [HT.out]; exact World.ownsRow_nil _ _ _ _, Below.refl _ _⟩
end Go.Proofs.Ythlidbddeclnaaa
