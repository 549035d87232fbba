/- The walk of sum.Make: an iterator and its caller. -/
import Derived.Test.YthlidbddeclnaaaSumWalk4
import Derived.Test.YthlidbddeclnaaaAppend
import Derived.RangeFuncCalls
import Derived.Shelf.Abstract
import Derived.TacticsInMore
import Derived.LoopNIn
import Derived.LoopIn
namespace Go.Proofs.Ythlidbddeclnaaa
open Go.RowKit SumL Go.Shelf
attribute [local go_sem] Oper.semAt_some

theorem entries_any (p : Int) (w : World) :
    Calls Try.prog 38 #[.int .u32 p] w fun e w' => e = .returned (.func (.func 47) #[] #[.pointer (some ⟨w.heap.size, 0, none⟩)]) ∧ w.alloc (.cells #[.int .u32 p] 54) = w' := by
  go_enter Try.func38, Try.ntmps38
  go_wp2
  go_ret
  exact ⟨rfl, rfl⟩

theorem u32_step_odd {y p : Nat} (hy : y < 4294967296) (hp : p < 4294967296) (h : y % 2 = 1) : bits .xor .u32 ((y : Int) / 2) (p : Int) = ((step1 p y : Nat) : Int) := by
  have := u32_xor_nat (y / 2) p (by omega) hp
  rw [step1, if_pos h]; exact this

set_option maxHeartbeats 1000000 in
set_option maxRecDepth 100000 in
theorem entries1_seq (n : Nat) (hn : 1 ≤ n) (p : Nat) (hp : p < 4294967296) (B : Nat) (w : World) (hB : B < w.heap.size) (hc : w.cell? ⟨B, 0, none⟩ = some (.int .u32 (p : Int))) :
    SeqC Fence.wide n Try.prog 47 #[.pointer (some ⟨B, 0, none⟩)] (fun x : Nat => #[Value.int .i64 (x : Int)]) (fun _ => False) (fun k => B = k) (fun pre => ∃ k, k ≤ 256 ∧ pre = (tabN p).take k) (fun xs _ => xs = tabN p) (fun _ _ => True) w := by
  intro l J Jx W hW hJ hJx hY h0
  have hcW : W.cell? ⟨B, 0, none⟩ = some (.int .u32 (p : Int)) := (hW.cell hB (fun h => h)).trans hc
  have hsz := hW.size
  refine callsIn_of_wp Try.func47 rfl trivial ?_ rfl
  simp only [Try.ntmps47, List.size_toArray, List.length_cons, List.length_nil, Nat.reduceAdd, Nat.reduceSub, Array.replicate_succ, Array.replicate_zero, List.push_toArray, List.append_toArray, List.nil_append, List.cons_append]
  gi_wp2
  gi_loopw [6] (fun c wr => ∃ k : Nat, k ≤ 256 ∧ c = .int .u32 k ∧ J ((tabN p).take k) (fun k => B = k) wr ∧ wr.cell? ⟨B, 0, none⟩ = some (.int .u32 (p : Int))) (fun c _ => 256 - (intOf c).toNat)
  case atStart => exact ⟨0, by omega, rfl, by simpa using h0, hcW⟩
  case round =>
    obtain ⟨k, hk, rfl, hj, hcr⟩ := hrel
    have HJ := Lib.hid hj; clear hj
    by_cases hlt : k < 256
    · gi_wp2
      gi_loop [4, 5, 10] (fun r _ c => ∃ j : Nat, j ≤ 8 ∧ c = .int .i64 j ∧ r = .int .u32 (row p j k : Nat)) (fun _ _ c => 8 - (intOf c).toNat)
      case atStart => exact ⟨0, by omega, rfl, rfl⟩
      case round =>
        obtain ⟨j, hj, rfl, rfl⟩ := hrel
        have hy := row_lt hp (show k < 4294967296 by omega) j
        have HS : Hid (row p (j + 1) k = step1 p (row p j k)) := rfl
        by_cases hlt2 : j < 8
        · generalize row p j k = y at *
          have hb := Lib.hid (u32_and_nat y 1 (by omega) (by omega))
          by_cases hodd : y % 2 = 1
          · have hx := Lib.hid (u32_step_odd hy hp hodd)
            have ho : (bits BinOp.and IntKind.u32 (y : Int) 1 == 1) = true := by
              have := hb.out
              rw [nat_mask1, hodd] at this
              rw [beq_iff_eq]; exact this
            clear hodd
            gi_wp2
            go_round
            case rel => exact ⟨j + 1, by omega, by go_num, by rw [HS.out, hx.out]⟩
            case measure => simp [intOf]; omega
          · have hx : Hid (step1 p y = y / 2) := by show step1 p y = y / 2; simp [step1, hodd]
            have ho : (bits BinOp.and IntKind.u32 (y : Int) 1 == 1) = false := by
              have := hb.out
              rw [nat_mask1, show y % 2 = 0 by omega] at this
              rw [beq_eq_false_iff_ne]
              intro e; have this2 := this.symm.trans e; omega
            clear hodd
            gi_wp2
            go_round
            case rel => exact ⟨j + 1, by omega, by go_num, by rw [HS.out, hx.out]; go_num⟩
            case measure => simp [intOf]; omega
        · have e : j = 8 := by omega
          subst e
          have hS : (tabN p).take (k + 1) = (tabN p).take k ++ [row p 8 k] := by
            rw [take_snoc _ k (by simp [tabN]; omega)]
            simp [tabN]
          obtain ⟨fn, tmps, assign, body, hyy, hR⟩ := hY _ (row p 8 k) _ _ HJ.out (fun _ h => h) ⟨k + 1, by omega, hS.symm⟩
          have HSS := Lib.hid hS; clear hS
          clear HS
          generalize row p 8 k = y at *
          gi_wp2
          refine hR.mono ?_
          rintro e W3 (⟨rfl, hJ3, hk3⟩ | ⟨rfl, hJx3, hk3⟩)
          · have hc3 : W3.cell? ⟨B, 0, none⟩ = some (.int .u32 (p : Int)) := (hk3.cell (p := ⟨B, 0, none⟩) (World.block_lt_of_cell? _ _ hcr) (fun h => h rfl)).trans hcr
            gi_wp2
            go_roundw
            case rel => exact ⟨k + 1, by omega, by go_num, by rw [HSS.out]; exact hJ3, hc3⟩
            case measure => simp [intOf]; omega
          · gi_wp2
            refine bodyPost_ret (results_none rfl _ _ _) rfl ?_
            exact ⟨⟨_, rfl⟩, .inr ⟨_, trivial, hJx3⟩⟩
    · gi_wp2
      go_end0
      refine ⟨⟨_, rfl⟩, .inl ⟨_, rfl, ?_⟩⟩
      have := HJ.out
      rwa [List.take_of_length_le (by simp [tabN]; omega)] at this

theorem tab_good {p : Nat} (hp : p < 4294967296) : tab (p : Int) = (tabN p).map Int.ofNat := by
  have : isU32 (p : Int) = true := by simp [isU32]; omega
  simp [tab, this]
theorem tabN_len (p : Nat) : (tabN p).length = 256 := by simp [tabN]

set_option maxRecDepth 100000 in
set_option maxHeartbeats 1000000 in
theorem make_any (p : Int) (w : World) :
    Calls Try.prog 14 #[.int .i64 p] w fun e w' => ∃ v, e = .returned v ∧ w'.ownsRow w.heap.size 3 1 v (tab p).length ((tab p).map iv) ∧ Below w.heap.size w w' := by
  by_cases hp : isU32 p = true
  · have hp2 : 0 ≤ p ∧ p ≤ 4294967295 := by simpa [isU32] using hp
    obtain ⟨hp0, hp1⟩ := hp2
    obtain ⟨p, rfl⟩ := Int.eq_ofNat_of_zero_le hp0
    have HP := Lib.hid hp; clear hp
    refine (callsIn_wide (n := 5)).1 ?_
    refine callsIn_of_wp_marks Try.func14 rfl trivial ?_ rfl
    simp only [Try.ntmps14, List.size_toArray, List.length_cons, List.length_nil, Nat.reduceAdd, Nat.reduceSub, Array.replicate_succ, Array.replicate_zero, List.push_toArray, List.append_toArray, List.nil_append, List.cons_append]
    gi_wp2_with fail
    refine wcall (number_any _ _) ?_
    rintro e w' ⟨rfl, rfl⟩
    rw [HP.out]
    gi_wp2_with fail
    refine wcall (entries_any _ _) ?_
    rintro e w' ⟨rfl, rfl⟩
    gi_wp2_with fail
    have hs : ((w.alloc (.cells #[.slice none 0 0] 22)).alloc (.cells #[.int .u32 (p : Int)] 54)).heap.size = w.heap.size + 2 := by simp
    have hc0 : ((w.alloc (.cells #[.slice none 0 0] 22)).alloc (.cells #[.int .u32 (p : Int)] 54)).cell? ⟨w.heap.size + 1, 0, none⟩ = some (.int .u32 (p : Int)) := by
      have := (Boxed.new (w.alloc (.cells #[.slice none 0 0] 22)) 54 (.int .u32 (p : Int))).cell
      rwa [World.size_alloc] at this
    have hb0 : Boxed ((w.alloc (.cells #[.slice none 0 0] 22)).alloc (.cells #[.int .u32 (p : Int)] 54)) w.heap.size 22 (.slice none 0 0) := (Boxed.new w _ _).alloc _
    have hB0 : Below w.heap.size w ((w.alloc (.cells #[.slice none 0 0] 22)).alloc (.cells #[.int .u32 (p : Int)] 54)) := ((Below.refl _ w).alloc (Nat.le_refl _) _).alloc (by simp) _
    have HT := Lib.hid (tab_good (p := p) (by omega))
    generalize (w.alloc (.cells #[.slice none 0 0] 22)).alloc (.cells #[.int .u32 (p : Int)] 54) = W0 at *
    have hs1 : W0.heap.size ≤ w.heap.size + 2 := by omega
    have hs2 : w.heap.size + 2 ≤ W0.heap.size := by omega
    clear hs
    refine wpIn_range1 rfl (by omega) (gf := 47) (lb := #[.pointer (some ⟨w.heap.size + 1, 0, none⟩)]) rfl trivial (enters_of Try.func47 (by kernel_rfl) rfl)
      (entries1_seq 4 (by omega) p (by omega) (w.heap.size + 1) W0 (by omega) hc0) (Chg.refl _ _) (fun _ h => h.elim) (fun k h => by omega) (fun _ => rfl)
      (fun pre Pr W => Coll w.heap.size w.heap.size 22 3 1 pre.length (pre.map fun x : Nat => iv (x : Int)) (fun k => W0.heap.size = k ∨ W0.heap.size + 1 = k) Pr W ∧ Below w.heap.size w W) (fun _ _ _ _ => False)
      (Bears.and (Coll.bears (fun k h => h.elim (fun h => h.elim) id)) (Bears.below (Nat.le_refl _) (fun k hk h => by rcases h with h | h | h; exact h; all_goals omega))) (fun _ => Bears.false _)
      ⟨⟨_, hb0, by omega, by omega, World.ownsRow_nil _ _ _ _, fun k e => (by cases e), by simp⟩, hB0⟩
      (fun x => { tmps := #[.int .i64 (p : Int), undef, .slice none 0 0, .pointer (some ⟨w.heap.size, 0, none⟩), .int .i64 (x : Int), .int .i64 (p : Int), .bool true, .bool false, .int .i64 (p : Int), .int .u32 (p : Int), .func (.func 47) #[] #[.pointer (some ⟨w.heap.size + 1, 0, none⟩)], .int .i64 (x : Int), undef, undef, undef, undef, undef], defers := [] }) ?assign ?body ?done ?stop
    case assign =>
      intro l x W K hK
      gi_wp2
      exact hK
    case body =>
      rintro l pre x Pr W hsW hPb hP0 hPl - ⟨⟨v, hv, hPB, hMB, hrow, hvb, hnil⟩, hB⟩ ⟨k, hk, hG⟩
      have hlen : pre.length + 1 ≤ 256 := by
        have := congrArg List.length hG
        rw [List.length_take, tabN_len] at this
        simp at this; omega
      clear hG hk
      have hBs := hB.size
      have hc := hv.cell
      have hf := hv.frozen
      gi_wp2_with (gi_at_builtin; refine wpListIn_app _ rfl _ _ 22 rfl w.heap.size 3 (.int .i64 0) 1 8 Try.underlying22 Try.infoInt rfl (by decide) _ _ _ rfl (hrow.alloc _) _ 1 _ rfl (Src.new W _ 3 1 1 1 rfl) (by simp [Value.oneCell']) (by unfold maxLen; omega) (by omega) (by simp; omega) ?_; intro v' w1 hown' hc' hb' hn'; obtain ⟨h1, h2, h3⟩ := Coll.appended hv hPB hMB hrow hvb (by decide) (fun k hk => by omega) hPb hown' hc' hb' (by rw [hn']; omega); obtain ⟨g', cap', rfl⟩ := ownsRow_succ hown'; have hc1 := h1.cell; have hf1 := h1.frozen)
      have hB1 : Below w.heap.size w (w1.setCell ⟨w.heap.size, 0, none⟩ (.slice (some ⟨g', 0, none⟩) (pre.length + 1) cap')) := by
        refine hB.trans (Chg.below (n := w.heap.size) (M := fun k => ¬ k < w.heap.size) ?_ hBs (fun k hk h => h hk))
        refine Chg.setCell ?_ (fun _ => by simp) _
        exact ((Chg.refl _ W).alloc _).trans (hc'.mono fun k _ e => by have := (hrow.lt k e).1; omega)
      refine ⟨h3, ?_, hB1⟩
      rw [List.length_append, List.map_append]; exact h2
    case done =>
      rintro xs Wa W rfl - ⟨⟨v, hv, -, -, hrow, -, -⟩, hB⟩ hK
      have hc := hv.cell
      rw [tabN_len] at hrow
      have HR := Lib.hid hrow; clear hrow hv hB0 hb0
      gi_wp2
      refine ⟨by simp, .inl ⟨_, _, rfl, run_takeDeferred hK, ?_⟩⟩
      refine ⟨_, results_tmp rfl _ _ _, v, rfl, ?_, ?_⟩
      · rw [HT.out, List.length_map, tabN_len, List.map_map]
        exact ownsRow_putObj HR.out _ hK rfl
      · exact hB.trans ((Chg.refl (fun k => ¬ k < w.heap.size) W).putObj (fun _ => by omega) _ |>.below hB.size (fun k hk h => h hk))
    case stop =>
      rintro c pre Wa W - - h
      exact h.elim
  · have hp' : isU32 p = false := by simpa using hp
    have HP := Lib.hid hp'
    have HT : Hid (tab p = []) := by show tab p = []; simp [tab, hp']
    clear hp hp'
    go_enter Try.func14, Try.ntmps14
    go_wp2_with fail
    refine (number_any _ _).mono ?_
    rintro e w' ⟨rfl, rfl⟩
    rw [HP.out]
    go_wp2
    go_ret
    exact ⟨_, rfl, by rw [HT.out]; exact World.ownsRow_nil _ _ _ _, Below.refl _ _⟩
end Go.Proofs.Ythlidbddeclnaaa
