/- The walk of utf.all and utf.Codes: an iterator with memory of its own, and its caller. -/
import Derived.Test.YthlidbddeclnaaaUtfGet
import Derived.Test.YthlidbddeclnaaaUtfScan
import Derived.Test.YthlidbddeclnaaaAppend
import Derived.Laws.IdiomStrings
import Derived.RangeFuncCalls
import Derived.Shelf.Abstract
import Derived.TacticsInMore
import Derived.LoopNIn
import Derived.LoopIn
import Derived.BigQuiet
namespace Go.Proofs.Ythlidbddeclnaaa
open Go.RowKit UtfL Go.Shelf
attribute [local go_sem] Oper.semAt_some

theorem strSees {w : World} {g cap : Nat} {e : TypeId} {fr : Nat × Nat} {s : ByteArray} (hb : w.heap[g]? = some (.cells (bytesRow s cap) e fr)) (h1 : s.size ≤ cap) (h2 : cap ≤ maxLen) :
    Sees bv w (.slice (some ⟨g, 0, none⟩) s.size cap) s.data.toList := by
  have hl : s.data.toList.length = s.size := by simp
  have := Sees.lit (enc := bv) hb s.data.toList 0 cap (by omega) h2 (fun i hi => by
    rw [bytesRow, Nat.zero_add, Array.getElem?_append_left (by simpa using hi)]
    simp at hi
    simp [hi, bv])
  rwa [hl] at this

theorem all_any (s : ByteArray) (w : World) :
    Calls Try.prog 46 #[.string s] w fun e w' => e = .returned (.func (.func 50) #[] #[.pointer (some ⟨w.heap.size, 0, none⟩)]) ∧ w.alloc (.cells #[.string s] 9) = w' := by
  go_enter Try.func46, Try.ntmps46
  go_wp2
  go_ret
  exact ⟨rfl, rfl⟩

set_option maxHeartbeats 1000000 in
set_option maxRecDepth 100000 in
theorem all1_seq (n : Nat) (hn : 1 ≤ n) (s : ByteArray) (hs : s.size ≤ 1000000) (B : Nat) (w : World) (hB : B < w.heap.size) (hc : w.cell? ⟨B, 0, none⟩ = some (.string s)) :
    SeqC Fence.wide n Try.prog 50 #[.pointer (some ⟨B, 0, none⟩)] (fun x : Nat × Nat => #[Value.int .i64 (x.1 : Int), Value.int .i64 (x.2 : Int)]) (fun _ => False) (fun k => B = k)
      (fun pre => ∃ p, At s.data.toList pre p) (fun xs _ => xs = scan 0 s.data.toList) (fun _ _ => True) w := by
  intro l J Jx W hW hJ hJx hY h0
  have hcW : W.cell? ⟨B, 0, none⟩ = some (.string s) := (hW.cell hB (fun h => h)).trans hc
  have hsz := hW.size
  have hcv2 := fun w s => run_bytes_of_string (P := Try.prog) w 9 23 5 s Try.underlying9 Try.underlying23 Try.underlying5
  have hlen : s.data.toList.length = s.size := by simp
  refine callsIn_of_wp Try.func50 rfl trivial ?_ rfl
  simp only [Try.ntmps50, List.size_toArray, List.length_cons, List.length_nil, Nat.reduceAdd, Nat.reduceSub, Array.replicate_succ, Array.replicate_zero, List.push_toArray, List.append_toArray, List.nil_append, List.cons_append]
  gi_wp2
  have hcap1 := grownCap_ge W s.size 0 5
  have hcap2 := grownCap_le_maxLen W s.size 0 5 (by unfold maxLen; omega)
  generalize grownCap W s.size 0 5 = cap at *
  have hchg : Chg (fun _ => False) W (W.alloc (.cells (bytesRow s cap) 5 ((bytesRow s cap).size, (bytesRow s cap).size + 1))).drew := ((Chg.refl _ W).alloc _).drew
  have hnew : (W.alloc (.cells (bytesRow s cap) 5 ((bytesRow s cap).size, (bytesRow s cap).size + 1))).drew.heap[W.heap.size]? = some (.cells (bytesRow s cap) 5 ((bytesRow s cap).size, (bytesRow s cap).size + 1)) := World.alloc_heap_new W _
  have hJ0 := hJ.step _ _ _ _ h0 hchg
  have hsz1 : (W.alloc (.cells (bytesRow s cap) 5 ((bytesRow s cap).size, (bytesRow s cap).size + 1))).drew.heap.size = W.heap.size + 1 := by show (W.alloc _).heap.size = _; simp
  generalize (W.alloc (.cells (bytesRow s cap) 5 ((bytesRow s cap).size, (bytesRow s cap).size + 1))).drew = W1 at *
  generalize ((bytesRow s cap).size, (bytesRow s cap).size + 1) = fr at *
  have hPr : NewIn W W1 (fun k => B = k) W.heap.size := .inr ⟨Nat.le_refl _, by omega⟩
  generalize hPd : NewIn W W1 (fun k => B = k) = Pr1 at *
  have hPr0 : ∀ k, B = k → Pr1 k := fun k e => by rw [← hPd]; exact .inl e
  generalize hgl : s.data.toList = b at *
  have hgl' := Lib.hid hgl
  clear hgl hPd h0 hcW hW hchg
  gi_loopw [4] (fun c wr => ∃ (p : Nat) (pre : List (Nat × Nat)), c = .int .i64 p ∧ At b pre p ∧ J pre Pr1 wr ∧ wr.heap[W.heap.size]? = some (.cells (bytesRow s cap) 5 fr)) (fun c _ => b.length - (intOf c).toNat)
  case atStart => exact ⟨0, [], rfl, At.start b, hJ0, hnew⟩
  case round =>
    obtain ⟨p, pre, rfl, hat, hj, hblk⟩ := hrel
    have hp := hat.1
    have HJ := Lib.hid hj
    have HAT := Lib.hid hat
    have hsees : Sees bv wr (.slice (some ⟨W.heap.size, 0, none⟩) s.size cap) b := by rw [← hgl'.out]; exact strSees hblk hcap1 hcap2
    have HS := Lib.hid hsees
    clear hj hat hsees
    by_cases hlt : p < s.size
    · cases hg : getAt b (p : Int) with
      | none =>
        have HG := Lib.hid hg; clear hg
        gi_wp2_with fail
        refine wcall (utfGet_any _ b _ _ HS.out) ?_
        rintro e w' ⟨rfl, rfl⟩
        rw [HG.out]
        unfold getRes
        gi_wp2
        refine ⟨fun _ h => (by cases h), ?_⟩
        gi_wp2
        refine bodyPost_ret (results_none rfl _ _ _) rfl ?_
        exact ⟨⟨_, rfl⟩, .inl ⟨_, by rw [hgl'.out]; exact (HAT.out.done HG.out).symm, hJ.less _ _ _ _ HJ.out hPr0⟩⟩
      | some q =>
        obtain ⟨c, k⟩ := q
        obtain ⟨hat2, hk1, hk2⟩ := HAT.out.next hg
        have hp2 := hat2.1
        obtain ⟨fn, tmps, assign, body, hyy, hR⟩ := hY _ (p + k, c) _ _ HJ.out hPr0 ⟨p + k, hat2⟩
        dsimp only at hyy
        rw [Int.natCast_add] at hyy
        have HG := Lib.hid hg
        have HA := Lib.hid hat2
        clear hg hat2
        gi_wp2_with fail
        refine wcall (utfGet_any _ b _ _ HS.out) ?_
        rintro e w' ⟨rfl, rfl⟩
        rw [HG.out]
        unfold getRes
        gi_wp2
        refine hR.mono ?_
        rintro e W3 (⟨rfl, hJ3, hk3⟩ | ⟨rfl, hJx3, hk3⟩)
        · have hblk3 := (hk3.block W.heap.size (Array.getElem?_eq_some_iff.1 hblk).1 (fun h => h hPr)).trans hblk
          gi_wp2
          go_roundw
          case rel => exact ⟨p + k, _, by go_num, HA.out, hJ3, hblk3⟩
          case measure => simp [intOf]; omega
        · gi_wp2
          refine bodyPost_ret (results_none rfl _ _ _) rfl ?_
          exact ⟨⟨_, rfl⟩, .inr ⟨_, trivial, hJx.less _ _ _ _ hJx3 hPr0⟩⟩
    · gi_wp2
      go_end0
      have e : p = b.length := by omega
      subst e
      exact ⟨⟨_, rfl⟩, .inl ⟨_, by rw [hgl'.out]; exact HAT.out.full.symm, hJ.less _ _ _ _ HJ.out hPr0⟩⟩
end Go.Proofs.Ythlidbddeclnaaa
