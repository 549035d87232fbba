/- The walk of utf.Codes: the iterator's caller. -/
import Derived.Test.YthlidbddeclnaaaUtfCodes
import Derived.BigRegionIn
import Derived.Lib.SmallJoins
namespace Go.Proofs.Ythlidbddeclnaaa
open Go.RowKit UtfL Go.Shelf
attribute [local go_sem] Oper.semAt_some

theorem utfInfoInt : (Try.prog.info? 3).map (fun i => (i.zero, i.size, i.bytes)) = some (some (.int .i64 0), 1, 8) := by kernel_rfl
set_option maxRecDepth 100000 in
set_option maxHeartbeats 2000000 in
theorem codes_any (s : ByteArray) (hs : s.size ≤ 1000000) (w : World) :
    Calls Try.prog 31 #[.string s] w fun e w' => ∃ v, e = .returned (.tuple #[v, .int .i64 (endOf s.data.toList : Nat)]) ∧ w'.ownsRow w.heap.size 3 1 v (codesOf s.data.toList).length ((codesOf s.data.toList).map fun x : Nat => iv (x : Int)) ∧ Below w.heap.size w w' := by
  have hSL := scan_len s.data.toList.length 0 s.data.toList (Nat.le_refl _)
  have hlen : s.data.toList.length = s.size := by simp
  refine (callsIn_wide (n := 5)).1 ?_
  refine callsIn_of_wp_marks Try.func31 rfl trivial ?_ rfl
  simp only [Try.ntmps31, List.size_toArray, List.length_cons, List.length_nil, Nat.reduceAdd, Nat.reduceSub, Array.replicate_succ, Array.replicate_zero, List.push_toArray, List.append_toArray, List.nil_append, List.cons_append]
  gi_wp2_with fail
  refine wcall (all_any _ _) ?_
  rintro e w' ⟨rfl, rfl⟩
  gi_wp2_with fail
  obtain ⟨W0, hW0⟩ : ∃ W0, ((w.alloc (.cells #[.slice none 0 0] 22)).alloc (.cells #[.int .i64 0] 3)).alloc (.cells #[.string s] 9) = W0 := ⟨_, rfl⟩
  have hs0 : W0.heap.size = w.heap.size + 3 := by rw [← hW0]; simp
  have hc0 : W0.cell? ⟨w.heap.size + 2, 0, none⟩ = some (.string s) := by
    have := (Boxed.new ((w.alloc (.cells #[.slice none 0 0] 22)).alloc (.cells #[.int .i64 0] 3)) 9 (.string s)).cell
    rw [hW0] at this
    simpa using this
  have hb0 : Boxed W0 w.heap.size 22 (.slice none 0 0) := by rw [← hW0]; exact ((Boxed.new w _ _).alloc _).alloc _
  have hb1 : Boxed W0 (w.heap.size + 1) 3 (.int .i64 0) := by
    have := (Boxed.new (w.alloc (.cells #[.slice none 0 0] 22)) 3 (.int .i64 0)).alloc (.cells #[.string s] 9)
    rw [hW0] at this
    simpa using this
  have hB0 : Below w.heap.size w W0 := by rw [← hW0]; exact (((Below.refl _ w).alloc (Nat.le_refl _) _).alloc (by simp) _).alloc (by simp; omega) _
  rw [hW0]
  have HSL := Lib.hid hSL
  have HL := Lib.hid hlen
  clear hSL hlen
  refine wpIn_range1 rfl (by omega) (gf := 50) (lb := #[.pointer (some ⟨w.heap.size + 2, 0, none⟩)]) rfl trivial (enters_of Try.func50 (by kernel_rfl) rfl)
    (all1_seq 4 (by omega) s hs (w.heap.size + 2) W0 (by omega) hc0) (Chg.refl _ _) (fun _ h => h.elim) (fun k h => by omega) (fun _ => rfl)
    (fun pre Pr W => (Coll (w.heap.size + 3) w.heap.size 22 3 1 pre.length (pre.map fun x : Nat × Nat => iv (x.2 : Int)) (fun k => W0.heap.size = k ∨ W0.heap.size + 1 = k ∨ w.heap.size + 1 = k) Pr W ∧ Held (w.heap.size + 1) 3 (.int .i64 (lastEnd 0 pre : Nat)) (fun k => W0.heap.size = k ∨ W0.heap.size + 1 = k) Pr W) ∧ Below w.heap.size w W) (fun _ _ _ _ => False)
    (Bears.and (Bears.and (Coll.bears (fun k h => h.elim (fun h => h.elim) (fun h => h.imp id .inl))) (Held.bears (fun k h => h.elim (fun h => h.elim) id))) (Bears.below (Nat.le_refl _) (fun k hk h => by rcases h with h | h | h; exact h; all_goals omega))) (fun _ => Bears.false _)
    ⟨⟨⟨_, hb0, by omega, by omega, World.ownsRow_nil _ _ _ _, fun k e => (by cases e), by simp⟩, hb1, by omega, by omega⟩, hB0⟩
    (fun x => { tmps := #[.string s, undef, .slice none 0 0, .int .i64 0, .pointer (some ⟨w.heap.size, 0, none⟩), .pointer (some ⟨w.heap.size + 1, 0, none⟩), .int .i64 (x.1 : Int), .int .i64 (x.2 : Int), .string s, .func (.func 50) #[] #[.pointer (some ⟨w.heap.size + 2, 0, none⟩)], .int .i64 (x.1 : Int), .int .i64 (x.2 : Int), undef, undef, undef, undef, undef, undef, undef], defers := [] }) ?assign ?body ?done ?stop
  case assign =>
    intro l x W K hK
    gi_wp2
    exact hK
  case body =>
    rintro l pre ⟨p, x⟩ Pr W hsW hPb hP0 hPl - ⟨⟨⟨v, hv, hPB, hMB, hrow, hvb, hnil⟩, hv2, hP2, hM2⟩, hB⟩ ⟨q, hat⟩
    dsimp only
    have hle : lastEnd 0 (pre ++ [(p, x)]) = p := lastEnd_snoc _ _ _
    have hlen : pre.length + 1 ≤ 1000000 := by
      have h1 := congrArg List.length hat.2.1
      have h2 := HSL.out.1
      have h3 := HL.out
      simp only [List.length_append, List.length_cons, List.length_nil] at h1
      omega
    clear hat
    have hBs := hB.size
    have hc := hv.cell
    have hf := hv.frozen
    gi_wp2_with (gi_at_builtin; go_loud (refine wpListIn_app _ rfl _ _ 22 rfl (w.heap.size + 3) 3 (.int .i64 0) 1 8 Try.underlying22 utfInfoInt rfl (by decide) _ _ _ rfl (hrow.alloc _) _ 1 _ rfl (Src.new W _ 3 1 1 1 rfl) (by simp [Value.oneCell']) (by unfold maxLen; omega) (by omega) (by simp; omega) ?_; intro v' w1 hown' hc' hb' hn'; obtain ⟨h1, h2, h3⟩ := Coll.appended hv hPB hMB hrow hvb (by decide) (fun k hk => by omega) hPb hown' hc' hb' (by rw [hn']; omega); obtain ⟨g', cap', rfl⟩ := ownsRow_succ hown'; have hc1 := h1.cell; have hf1 := h1.frozen; have hn1 : ∀ k, v.ownBlock = some k → ¬ k = w.heap.size + 1 := (fun k e => by have := (hrow.lt k e).1; omega); have hq1 : Boxed w1 (w.heap.size + 1) 3 (.int .i64 (lastEnd 0 pre : Nat)) := Boxed.chg (hv2.alloc _) hc' (fun e => hn1 _ e rfl); have hq2 := hq1.other (show w.heap.size + 1 ≠ w.heap.size by omega) (.slice (some ⟨g', 0, none⟩) (pre.length + 1) cap'); have hc2 := hq2.cell; have hf2 := hq2.frozen))
    have hB1 : Below w.heap.size w ((w1.setCell ⟨w.heap.size, 0, none⟩ (.slice (some ⟨g', 0, none⟩) (pre.length + 1) cap')).setCell ⟨w.heap.size + 1, 0, none⟩ (.int .i64 (p : Int))) := by
      refine hB.trans (Chg.below (n := w.heap.size) (M := fun k => ¬ k < w.heap.size) ?_ hBs (fun k hk h => h hk))
      refine Chg.setCell ?_ (fun _ => by simp) _
      refine Chg.setCell ?_ (fun _ => by simp) _
      exact ((Chg.refl _ W).alloc _).trans (hc'.mono fun k _ e => by have := (hrow.lt k e).1; omega)
    have hset := (Chg.refl (fun k => w.heap.size + 1 = k) (w1.setCell ⟨w.heap.size, 0, none⟩ (.slice (some ⟨g', 0, none⟩) (pre.length + 1) cap'))).setCell (p := ⟨w.heap.size + 1, 0, none⟩) (fun _ => rfl) (.int .i64 (p : Int))
    refine ⟨h3.trans (hset.mono fun k _ e => by subst e; exact hP2), ⟨?_, (by rw [hle]; exact hq2.set _), hP2, (by dsimp only; omega)⟩, hB1⟩
    have h4 := (h2.step hset (fun k e => .inr (.inr e))).less (Pr' := Pr) (fun k hk => .inl hk)
    rw [List.length_append, List.map_append]
    rw [hs0] at h4
    exact h4
  case done =>
    rintro xs Wa W rfl - ⟨⟨⟨v, hv, -, -, hrow, -, -⟩, hv2, -, -⟩, hB⟩ hK
    have hc := hv.cell
    have hc2 := hv2.cell
    have HR := Lib.hid hrow; clear hrow hv hB0 hb0 hv2 hb1
    gi_wp2
    gi_region
    gi_wp2
    refine ⟨by simp, .inl ⟨_, _, rfl, run_takeDeferred (w := W.drew) hK, ?_⟩⟩
    refine ⟨_, results_tmp2 rfl _ _ _, v, rfl, ?_, ?_⟩
    · rw [codesOf, List.length_map, List.map_map]
      exact Joins.ownsRow_le (ownsRow_putObj HR.out.drew _ hK rfl) (by omega)
    · exact hB.trans ((((Chg.refl (fun k => ¬ k < w.heap.size) W).drew).putObj (fun _ => by omega) _).below hB.size (fun k hk h => h hk))
  case stop =>
    rintro c pre Wa W - - h
    exact h.elim
end Go.Proofs.Ythlidbddeclnaaa
