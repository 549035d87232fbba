/- Texts put together: Types, Val, Val03a, Val03b, Val03c, Val03d, Val03e, UtfLaw, UtfWalk, UtfGet, UtfScan, UtfCodes, UtfCodes2, UtfText0, UtfRef, UtfRefL, UtfOnly0, RefBytes, UtfRefGet, AmUtf0, Val03f, Val03g, Val03h, Val03i, Val03j, Val03k. No statement is proved here. -/
import Derived.Test.YtooaagmhgakhgaaProg
import Derived.LoopN
import Derived.Laws.IdiomStrings
import Derived.RangeFuncCalls
import Derived.Shelf.Abstract
import Derived.TacticsInMore
import Derived.LoopNIn
import Derived.LoopIn
import Derived.BigQuiet
import Derived.BigRegionIn
import Derived.Lib.SmallJoins
import Derived.Deep.QuietTactic
import Derived.Deep.RegionWith
import Derived.Test.YtooaagmhgakhgaaZ2
set_option linter.all false
section
namespace Go.Proofs.Ytooaagmhgakhgaa
open Go.RowKit
set_option maxRecDepth 100000
theorem ti2 : tinfo Try.prog 2 = some ⟨false, 1, [Go.Value.int Go.IntKind.i64 0], .int Go.IntKind.i64⟩ := by kernel_rfl
theorem ti3 : tinfo Try.prog 3 = some ⟨false, 1, [Go.Value.int Go.IntKind.i64 0], .int Go.IntKind.i64⟩ := by kernel_rfl
theorem ti4 : tinfo Try.prog 4 = some ⟨false, 1, [Go.Value.bool false], .bool⟩ := by kernel_rfl
theorem ti5 : tinfo Try.prog 5 = some ⟨false, 1, [Go.Value.int Go.IntKind.u8 0], .int Go.IntKind.u8⟩ := by kernel_rfl
theorem ti9 : tinfo Try.prog 9 = some ⟨false, 1, [Go.Value.string ⟨#[]⟩], .string⟩ := by kernel_rfl
theorem ti12 : tinfo Try.prog 12 = some ⟨false, 1, [Go.Value.int Go.IntKind.u64 0], .int Go.IntKind.u64⟩ := by kernel_rfl
theorem ti13 : tinfo Try.prog 13 = some ⟨true, 2, [Go.Value.string ⟨#[]⟩, Go.Value.int Go.IntKind.u64 0], .struct [(0, 1, false), (1, 1, false)]⟩ := by kernel_rfl
theorem ti21 : tinfo Try.prog 21 = some ⟨false, 1, [Go.Value.int Go.IntKind.i32 0], .int Go.IntKind.i32⟩ := by kernel_rfl
theorem ti22 : tinfo Try.prog 22 = some ⟨false, 1, [Go.Value.slice none 0 0], .slice 24 4 56 [Go.Value.int Go.IntKind.i64 0, Go.Value.int Go.IntKind.i64 0, Go.Value.string ⟨#[]⟩, Go.Value.slice none 0 0]⟩ := by kernel_rfl
theorem ti23 : tinfo Try.prog 23 = some ⟨true, 4, [Go.Value.int Go.IntKind.i64 0, Go.Value.int Go.IntKind.i64 0, Go.Value.string ⟨#[]⟩, Go.Value.slice none 0 0], .struct [(0, 1, false), (1, 1, false), (2, 1, false), (3, 1, false)]⟩ := by kernel_rfl
theorem ti24 : tinfo Try.prog 24 = some ⟨true, 4, [Go.Value.int Go.IntKind.i64 0, Go.Value.int Go.IntKind.i64 0, Go.Value.string ⟨#[]⟩, Go.Value.slice none 0 0], .struct [(0, 1, false), (1, 1, false), (2, 1, false), (3, 1, false)]⟩ := by kernel_rfl
theorem ti25 : tinfo Try.prog 25 = some ⟨true, 7, [Go.Value.string ⟨#[]⟩, Go.Value.int Go.IntKind.i64 0, Go.Value.bool false, Go.Value.int Go.IntKind.i64 0, Go.Value.int Go.IntKind.i64 0, Go.Value.string ⟨#[]⟩, Go.Value.slice none 0 0], .struct [(0, 1, false), (1, 1, false), (2, 1, false), (3, 4, true)]⟩ := by kernel_rfl
theorem ti26 : tinfo Try.prog 26 = some ⟨true, 7, [Go.Value.string ⟨#[]⟩, Go.Value.int Go.IntKind.i64 0, Go.Value.bool false, Go.Value.int Go.IntKind.i64 0, Go.Value.int Go.IntKind.i64 0, Go.Value.string ⟨#[]⟩, Go.Value.slice none 0 0], .struct [(0, 1, false), (1, 1, false), (2, 1, false), (3, 4, true)]⟩ := by kernel_rfl
theorem ti30 : tinfo Try.prog 30 = some ⟨false, 1, [Go.Value.slice none 0 0], .slice 26 7 88 [Go.Value.string ⟨#[]⟩, Go.Value.int Go.IntKind.i64 0, Go.Value.bool false, Go.Value.int Go.IntKind.i64 0, Go.Value.int Go.IntKind.i64 0, Go.Value.string ⟨#[]⟩, Go.Value.slice none 0 0]⟩ := by kernel_rfl
theorem ti31 : tinfo Try.prog 31 = some ⟨false, 1, [Go.Value.slice none 0 0], .slice 74 10 128 [Go.Value.int Go.IntKind.i64 0, Go.Value.int Go.IntKind.i64 0, Go.Value.string ⟨#[]⟩, Go.Value.int Go.IntKind.i64 0, Go.Value.bool false, Go.Value.int Go.IntKind.i64 0, Go.Value.int Go.IntKind.i64 0, Go.Value.string ⟨#[]⟩, Go.Value.slice none 0 0, Go.Value.slice none 0 0]⟩ := by kernel_rfl
theorem ti32 : tinfo Try.prog 32 = some ⟨true, 3, [Go.Value.string ⟨#[]⟩, Go.Value.slice none 0 0, Go.Value.slice none 0 0], .struct [(0, 1, false), (1, 1, false), (2, 1, false)]⟩ := by kernel_rfl
theorem ti33 : tinfo Try.prog 33 = some ⟨true, 3, [Go.Value.string ⟨#[]⟩, Go.Value.slice none 0 0, Go.Value.slice none 0 0], .struct [(0, 1, false), (1, 1, false), (2, 1, false)]⟩ := by kernel_rfl
theorem ti36 : tinfo Try.prog 36 = some ⟨false, 1, [Go.Value.slice none 0 0], .slice 3 1 8 [Go.Value.int Go.IntKind.i64 0]⟩ := by kernel_rfl
theorem ti37 : tinfo Try.prog 37 = some ⟨true, 2, [Go.Value.slice none 0 0, Go.Value.slice none 0 0], .struct [(0, 1, false), (1, 1, false)]⟩ := by kernel_rfl
theorem ti38 : tinfo Try.prog 38 = some ⟨true, 2, [Go.Value.slice none 0 0, Go.Value.slice none 0 0], .struct [(0, 1, false), (1, 1, false)]⟩ := by kernel_rfl
theorem ti44 : tinfo Try.prog 44 = some ⟨true, 2, [Go.Value.int Go.IntKind.i64 0, Go.Value.slice none 0 0], .struct [(0, 1, false), (1, 1, false)]⟩ := by kernel_rfl
theorem ti45 : tinfo Try.prog 45 = some ⟨true, 2, [Go.Value.int Go.IntKind.i64 0, Go.Value.slice none 0 0], .struct [(0, 1, false), (1, 1, false)]⟩ := by kernel_rfl
theorem ti47 : tinfo Try.prog 47 = some ⟨false, 1, [Go.Value.int Go.IntKind.i64 0], .int Go.IntKind.i64⟩ := by kernel_rfl
theorem ti52 : tinfo Try.prog 52 = some ⟨true, 2, [Go.Value.slice none 0 0, Go.Value.slice none 0 0], .struct [(0, 1, false), (1, 1, false)]⟩ := by kernel_rfl
theorem ti60 : tinfo Try.prog 60 = some ⟨false, 1, [Go.Value.slice none 0 0], .slice 9 1 16 [Go.Value.string ⟨#[]⟩]⟩ := by kernel_rfl
theorem ti73 : tinfo Try.prog 73 = some ⟨true, 10, [Go.Value.int Go.IntKind.i64 0, Go.Value.int Go.IntKind.i64 0, Go.Value.string ⟨#[]⟩, Go.Value.int Go.IntKind.i64 0, Go.Value.bool false, Go.Value.int Go.IntKind.i64 0, Go.Value.int Go.IntKind.i64 0, Go.Value.string ⟨#[]⟩, Go.Value.slice none 0 0, Go.Value.slice none 0 0], .struct [(0, 1, false), (1, 1, false), (2, 7, true), (9, 1, false)]⟩ := by kernel_rfl
theorem ti74 : tinfo Try.prog 74 = some ⟨true, 10, [Go.Value.int Go.IntKind.i64 0, Go.Value.int Go.IntKind.i64 0, Go.Value.string ⟨#[]⟩, Go.Value.int Go.IntKind.i64 0, Go.Value.bool false, Go.Value.int Go.IntKind.i64 0, Go.Value.int Go.IntKind.i64 0, Go.Value.string ⟨#[]⟩, Go.Value.slice none 0 0, Go.Value.slice none 0 0], .struct [(0, 1, false), (1, 1, false), (2, 7, true), (9, 1, false)]⟩ := by kernel_rfl
theorem ti80 : tinfo Try.prog 80 = some ⟨false, 1, [Go.Value.slice none 0 0], .slice 52 2 48 [Go.Value.slice none 0 0, Go.Value.slice none 0 0]⟩ := by kernel_rfl
theorem ti97 : tinfo Try.prog 97 = some ⟨true, 6, [Go.Value.nilFunc, Go.Value.nilFunc, Go.Value.nilFunc, Go.Value.nilFunc, Go.Value.nilFunc, Go.Value.nilFunc], .array 6 1 false⟩ := by kernel_rfl
theorem ti99 : tinfo Try.prog 99 = some ⟨false, 1, [Go.Value.pointer none], .pointer⟩ := by kernel_rfl
theorem ti120 : tinfo Try.prog 120 = some ⟨false, 1, [Go.Value.pointer none], .pointer⟩ := by kernel_rfl
theorem ti127 : tinfo Try.prog 127 = some ⟨false, 1, [Go.Value.slice none 0 0], .slice 5 1 1 [Go.Value.int Go.IntKind.u8 0]⟩ := by kernel_rfl
theorem ti141 : tinfo Try.prog 141 = some ⟨false, 1, [Go.Value.int Go.IntKind.u64 0], .int Go.IntKind.u64⟩ := by kernel_rfl
theorem ti150 : tinfo Try.prog 150 = some ⟨false, 1, [Go.Value.int Go.IntKind.u32 0], .int Go.IntKind.u32⟩ := by kernel_rfl
theorem ti154 : tinfo Try.prog 154 = some ⟨false, 1, [Go.Value.pointer none], .pointer⟩ := by kernel_rfl
attribute [push_cast] ti2 ti3 ti4 ti5 ti9 ti12 ti13 ti21 ti22 ti23 ti24 ti25 ti26 ti30 ti31 ti32 ti33 ti36 ti37 ti38 ti44 ti45 ti47 ti52 ti60 ti73 ti74 ti80 ti97 ti99 ti120 ti127 ti141 ti150 ti154
end Go.Proofs.Ytooaagmhgakhgaa
end

section
namespace Go.Proofs.Ytooaagmhgakhgaa
set_option linter.unusedSimpArgs false
open Go.RowKit Go.ChangeShapes

inductive V where
  | mk (k n : Int) (s : ByteArray) (l : List V)
namespace V
mutual
def cells : V → List D
  | .mk k n s l => [.i k, .i n, .str s, .sl .shared (cellsL l)]
def cellsL : List V → List (List D)
  | [] => []
  | x :: l => x.cells :: cellsL l
end
theorem cellsL_map : ∀ l : List V, cellsL l = l.map cells
  | [] => rfl
  | x :: l => by rw [cellsL, cellsL_map l]; rfl
theorem cells_mk (k n : Int) (s : ByteArray) (l : List V) : (V.mk k n s l).cells = [.i k, .i n, .str s, .sl .shared (l.map cells)] := by rw [cells, cellsL_map]
theorem cells_len (v : V) : v.cells.length = 4 := by cases v; rw [cells_mk]; rfl
theorem cells_take (v : V) : v.cells.take 4 = v.cells := List.take_of_length_le (by rw [cells_len]; omega)
theorem cells_leaf (v : V) : ∀ d ∈ v.cells, d.leaf = true := by
  cases v
  rw [cells_mk]
  intro d hd
  simp only [List.mem_cons, List.not_mem_nil, or_false] at hd
  rcases hd with rfl | rfl | rfl | rfl <;> rfl
mutual
def nodes : V → Nat
  | .mk _ _ _ l => 1 + nodesL l
def nodesL : List V → Nat
  | [] => 0
  | x :: l => x.nodes + nodesL l
end
mutual
def deep : V → Nat
  | .mk k _ _ l => if k = 5 ∨ l ≠ [] then deepL l + 1 else 0
def deepL : List V → Nat
  | [] => 0
  | x :: l => max x.deep (deepL l)
end
theorem nodes_pos (v : V) : 0 < v.nodes := by cases v; rw [nodes]; omega
theorem nodesL_mem {x : V} : ∀ {l : List V}, x ∈ l → x.nodes ≤ nodesL l
  | y :: l, h => by
    rw [nodesL]
    rcases List.mem_cons.1 h with rfl | h
    · omega
    · have := nodesL_mem h; omega
theorem nodes_lt {k n : Int} {s : ByteArray} {l : List V} {x : V} (h : x ∈ l) : x.nodes < (V.mk k n s l).nodes := by
  have := nodesL_mem h
  rw [nodes]; omega
theorem nodesL_len : ∀ l : List V, l.length ≤ nodesL l
  | [] => Nat.le_refl _
  | x :: l => by have := nodesL_len l; have := x.nodes_pos; rw [nodesL, List.length_cons]; omega
mutual
theorem deep_le : ∀ v : V, v.deep ≤ v.nodes
  | .mk k n s l => by
    have := deepL_le l
    rw [deep, nodes]
    split <;> omega
theorem deepL_le : ∀ l : List V, deepL l ≤ nodesL l
  | [] => Nat.le_refl _
  | x :: l => by
    have := deep_le x
    have := deepL_le l
    rw [deepL, nodesL]; omega
end
theorem drop_cons {α : Type} {l : List α} {i : Nat} {x : α} (h : l[i]? = some x) : l.drop i = x :: l.drop (i + 1) := by
  obtain ⟨h1, rfl⟩ := List.getElem?_eq_some_iff.1 h
  exact List.drop_eq_getElem_cons h1
theorem mem_of {α : Type} {l : List α} {i : Nat} {x : α} (h : l[i]? = some x) : x ∈ l := List.mem_of_getElem? h
inductive Ok : V → Prop
  | mk {k n : Int} {s : ByteArray} {l : List V} (hk : -9223372036854775808 ≤ k ∧ k ≤ 9223372036854775807) (hn : -9223372036854775808 ≤ n ∧ n ≤ 9223372036854775807) (hs : s.size ≤ maxLen) (hl : l.length ≤ maxLen) (h : ∀ x ∈ l, Ok x) : Ok (.mk k n s l)
end V
theorem i64_bounds {n : Int} (h : (Lit.int .i64 n).wf = true) : -9223372036854775808 ≤ n ∧ n ≤ 9223372036854775807 := by
  simpa [Lit.wf, IntKind.min, IntKind.max, IntKind.bits, IntKind.signed] using h
section
open V
theorem readsV : ∀ n, ReadsN n Try.prog 24 V.cells V.Ok
  | 0 => fun H enc W fuel cs x hf h => by
    obtain rfl : fuel = 0 := by omega
    simp [DataW.trod] at h
  | 1 => fun H enc W fuel cs x hf h => by
    obtain ⟨xs, m, rfl, -, hl, hn, hx⟩ := DataW.trod_struct Try.underlying24 h
    obtain ⟨a, -⟩ := struct_field (i := 0) (n := 0) (f := fun a : Int => [D.i a]) hx hn rfl (k := 1) (by kernel_rfl) (reads_int (k := .i64) Try.underlying3 0) (by omega)
    have := hx 0 _ rfl
    obtain rfl : m = 0 := by omega
    rw [List.getElem?_eq_getElem (by rw [hn]; exact Nat.le_of_ble_eq_true rfl)] at this
    simp [DataW.trod] at this
  | n + 2 => fun H enc W fuel cs x hf h => by
    obtain ⟨xs, m, rfl, -, hl, hn, hx⟩ := DataW.trod_struct Try.underlying24 h
    have hl4 : cs.length = 4 := hl.trans (by kernel_rfl)
    obtain ⟨a, a1, a2⟩ := struct_field (i := 0) (n := n + 1) (f := fun a : Int => [D.i a]) hx hn rfl (k := 1) (by kernel_rfl) (reads_int (k := .i64) Try.underlying3 _) (by omega)
    obtain ⟨b, b1, b2⟩ := struct_field (i := 1) (n := n + 1) (f := fun a : Int => [D.i a]) hx hn rfl (k := 1) (by kernel_rfl) (reads_int (k := .i64) Try.underlying2 _) (by omega)
    obtain ⟨c, c1, c2⟩ := struct_field (i := 2) (n := n + 1) (f := fun a : ByteArray => [D.str a]) hx hn rfl (k := 1) (by kernel_rfl) (reads_string Try.underlying9 _) (by omega)
    obtain ⟨d, d1, d2, d3⟩ := struct_field (i := 3) (n := n + 1) (f := fun l : List V => [D.sl .shared (l.map V.cells)]) hx hn rfl (k := 1) (by kernel_rfl) (reads_slice (sz := 4) Try.underlying22 (by kernel_rfl) (by omega) (readsV n) V.cells_len V.cells_leaf) (by omega)
    refine ⟨.mk a b c d, ?_, .mk (i64_bounds a2) (i64_bounds b2) c2 d3 d2⟩
    rw [V.cells_mk]
    have := RepL.glue a1 (RepL.glue b1 (RepL.glue c1 (RepL.glue d1 (RepL.glue_end hl4))))
    exact this
theorem readsVs : Reads Try.prog 22 (fun l : List V => [D.sl .shared (l.map V.cells)]) fun l => (∀ x ∈ l, V.Ok x) ∧ l.length ≤ maxLen :=
  reads_slice' (sz := 4) Try.underlying22 (by kernel_rfl) (by omega) readsV V.cells_len V.cells_leaf
end
end Go.Proofs.Ytooaagmhgakhgaa
end

section
namespace Go.Proofs.Ytooaagmhgakhgaa
set_option linter.unusedSimpArgs false
attribute [local push_cast] encB encI V.cells_mk V.cells_take V.cells_len
open Go.RowKit
set_option maxRecDepth 10000
namespace V
mutual
def cnt : V → Int → Int → Int
  | .mk _ _ _ l, n, d => if n - 1 < 0 ∨ d < 0 then -1 else cntL l (n - 1) (d - 1)
def cntL : List V → Int → Int → Int
  | [], n, _ => n
  | x :: l, n, d => if x.cnt n d < 0 then -1 else cntL l (x.cnt n d) d
end
mutual
theorem cnt_le : ∀ (v : V) (n d : Int), -1 ≤ n → -1 ≤ v.cnt n d ∧ v.cnt n d ≤ n
  | .mk k m s l, n, d, h => by
    rw [cnt]
    split
    · omega
    · have := cntL_le l (n - 1) (d - 1) (by omega)
      omega
theorem cntL_le : ∀ (l : List V) (n d : Int), -1 ≤ n → -1 ≤ cntL l n d ∧ cntL l n d ≤ n
  | [], n, d, h => by rw [cntL]; omega
  | x :: l, n, d, h => by
    rw [cntL]
    have h1 := cnt_le x n d h
    split
    · omega
    · have := cntL_le l (x.cnt n d) d (by omega)
      omega
end
end V
open V in
theorem refCountF : ∀ (N : Nat) (v : V), v.nodes ≤ N → v.Ok → ∀ (n d : Int), -1 ≤ n → n ≤ 4611686018427387904 → -1 ≤ d → d ≤ 4611686018427387904 → ∀ st, TrF Try.prog 40 [.agg v.cells, .i n, .i d] st fun x st' => x = .i (v.cnt n d) ∧ st' = st
  | 0, v, h, _ => by have := v.nodes_pos; omega
  | N + 1, .mk k n0 s l, hN, hok => by
    intro n d h1 h2 h3 h4 st
    obtain ⟨hk, hn, hs, hl, hall⟩ := hok
    unfold maxLen at hl
    have IH := fun x (hx : x ∈ l) => refCountF N x (by have := nodes_lt (k := k) (n := n0) (s := s) hx; omega) (hall x hx)
    clear hall hN
    rw [V.cells_mk]
    refine trF_enter (ts := [6]) Try.func40 rfl (by rw [Try.ntmps40]; exact Nat.le_of_ble_eq_true rfl) (fun tmps w => by simp [results, Try.results40, go_sem, resVal]) ?_
    simp only [Try.ntmps40]
    by_cases c1 : n - 1 < 0
    · rw [cnt, if_pos (.inl c1)]
      clear IH
      repeat' (first | with_reducible refine Go1.go ?_ | ((with_reducible apply ev_go); (focus ((try simp (disch := omega) only [push_cast, simprocAttr, *]); (try exact rfl); done))) | ((with_reducible refine w_last ?_ ?_ ?_); kernel_rfl; rfl) | with_reducible refine Go2.go ?_ | ((with_reducible first | apply w_stepG | refine s_bi ?_ ?_ | refine blk_ne ?_ ?_); rfl) | ((with_reducible refine al_go ?_); intro b) | ((with_reducible first | refine w_region ?_ ?_ | refine w_dra ?_ ?_); kernel_rfl) | ((with_reducible refine Go3.go ?_ ?_); all_goals (intro hb; (try with_reducible intro hb1); (try (exfalso; first | contradiction | omega)))) | fail)
      all_goals (refine ret_eq (by simp) (by first | rfl | assumption) (by (repeat (first | exact List.Sublist.refl _ | apply List.Sublist.cons))) ?_; (try simp (disch := omega) only [push_cast, simprocAttr, *]); try (first | exact LE.refl _ | exact LE.sl _ _ | ((first | refine LE.tup ?_ | refine LE.agg ?_); (repeat' (first | exact LEL.nil | refine LEL.cons ?_ ?_ | exact LE.refl _ | exact LE.sl _ _ | refine LE.agg ?_)); done) | refine LE.of_eq ?_))
    by_cases c2 : d < 0
    · rw [cnt, if_pos (.inr c2)]
      clear IH
      repeat' (first | with_reducible refine Go1.go ?_ | ((with_reducible apply ev_go); (focus ((try simp (disch := omega) only [push_cast, simprocAttr, *]); (try exact rfl); done))) | ((with_reducible refine w_last ?_ ?_ ?_); kernel_rfl; rfl) | with_reducible refine Go2.go ?_ | ((with_reducible first | apply w_stepG | refine s_bi ?_ ?_ | refine blk_ne ?_ ?_); rfl) | ((with_reducible refine al_go ?_); intro b) | ((with_reducible first | refine w_region ?_ ?_ | refine w_dra ?_ ?_); kernel_rfl) | ((with_reducible refine Go3.go ?_ ?_); all_goals (intro hb; (try with_reducible intro hb1); (try (exfalso; first | contradiction | omega)))) | fail)
      all_goals (refine ret_eq (by simp) (by first | rfl | assumption) (by (repeat (first | exact List.Sublist.refl _ | apply List.Sublist.cons))) ?_; (try simp (disch := omega) only [push_cast, simprocAttr, *]); try (first | exact LE.refl _ | exact LE.sl _ _ | ((first | refine LE.tup ?_ | refine LE.agg ?_); (repeat' (first | exact LEL.nil | refine LEL.cons ?_ ?_ | exact LE.refl _ | exact LE.sl _ _ | refine LE.agg ?_)); done) | refine LE.of_eq ?_))
    rw [cnt, if_neg (by omega)]
    repeat' (first | with_reducible refine Go1.go ?_ | ((with_reducible apply ev_go); (focus ((try simp (disch := omega) only [push_cast, simprocAttr, *]); (try exact rfl); done))) | ((with_reducible refine w_last ?_ ?_ ?_); kernel_rfl; rfl) | with_reducible refine Go2.go ?_ | ((with_reducible first | apply w_stepG | refine s_bi ?_ ?_ | refine blk_ne ?_ ?_); rfl) | ((with_reducible refine al_go ?_); intro b) | ((with_reducible first | refine w_region ?_ ?_ | refine w_dra ?_ ?_); kernel_rfl) | ((with_reducible refine Go3.go ?_ ?_); all_goals (intro hb; (try with_reducible intro hb1); (try (exfalso; first | contradiction | omega)))) | fail)
    refine tr_loop (ι := Nat × Int) (fun i A st' => i.1 ≤ l.length ∧ 0 ≤ i.2 ∧ i.2 ≤ n ∧ Hid (cntL (l.drop i.1) i.2 (d - 1) = cntL l (n - 1) (d - 1)) ∧ A.df = [] ∧ A.e 1 = .i i.2 ∧ A.e 2 = .i d ∧ A.e 3 = .ip [.i k, .i n0, .str s, .sl .shared (l.map V.cells)] ∧ A.e 7 = .i i.1 ∧ st' = st) (fun i => l.length - i.1) (0, n - 1) ⟨Nat.zero_le _, by omega, by omega, rfl, rfl, ?_, ?_, ?_, ?_, rfl⟩ ?_
    iterate 4 (focus (first | rfl | assumption | omega | (simp (disch := omega) only [push_cast, simprocAttr, *]; try omega; done)))
    rintro ⟨i, m⟩ A st' ⟨hi, hm0, hmn, HT, hdf, h1', h2', h3', h7, rfl⟩
    dsimp only at hi hm0 hmn HT h1' h7 ⊢
    by_cases hlt : i < l.length
    · obtain ⟨x, hx⟩ : ∃ x, l[i]? = some x := ⟨_, List.getElem?_eq_getElem hlt⟩
      have ih := IH x (mem_of hx) m (d - 1) (by omega) (by omega) (by omega) (by omega)
      have hb := cnt_le x m (d - 1) (by omega)
      have hlx := V.cells_len x
      have HD := HT.out
      rw [drop_cons hx, cntL] at HD
      generalize x.cnt m (d - 1) = m' at *
      clear IH
      by_cases hm' : m' < 0
      · rw [if_pos hm'] at HD
        rw [← HD]
        clear HD HT
        repeat' (first | with_reducible refine Go1.go ?_ | ((with_reducible apply ev_go); (focus ((try simp (disch := omega) only [push_cast, simprocAttr, *]); (try exact rfl); done))) | ((with_reducible refine w_last ?_ ?_ ?_); kernel_rfl; rfl) | with_reducible refine Go2.go ?_ | ((with_reducible first | apply w_stepG | refine s_bi ?_ ?_ | refine blk_ne ?_ ?_); rfl) | ((with_reducible refine al_go ?_); intro b) | ((with_reducible apply (ck_le Try.call40)); exact LEL.refl _; exact ih _) | ((with_reducible first | refine w_region ?_ ?_ | refine w_dra ?_ ?_); kernel_rfl) | ((with_reducible refine Go3.go ?_ ?_); all_goals (intro hb; (try with_reducible intro hb1); (try (exfalso; first | contradiction | omega)))) | fail)
        all_goals (refine ret_eq (by simp) (by first | rfl | assumption) (by (repeat (first | exact List.Sublist.refl _ | apply List.Sublist.cons))) ?_; (try simp (disch := omega) only [push_cast, simprocAttr, *]); try (first | exact LE.refl _ | exact LE.sl _ _ | ((first | refine LE.tup ?_ | refine LE.agg ?_); (repeat' (first | exact LEL.nil | refine LEL.cons ?_ ?_ | exact LE.refl _ | exact LE.sl _ _ | refine LE.agg ?_)); done) | refine LE.of_eq ?_))
      · rw [if_neg hm'] at HD
        have HE := Lib.hid HD
        clear HD HT
        repeat' (first | with_reducible refine Go1.go ?_ | ((with_reducible apply ev_go); (focus ((try simp (disch := omega) only [push_cast, simprocAttr, *]); (try exact rfl); done))) | ((with_reducible refine w_last ?_ ?_ ?_); kernel_rfl; rfl) | with_reducible refine Go2.go ?_ | ((with_reducible first | apply w_stepG | refine s_bi ?_ ?_ | refine blk_ne ?_ ?_); rfl) | ((with_reducible refine al_go ?_); intro b) | ((with_reducible apply (ck_le Try.call40)); exact LEL.refl _; exact ih _) | ((with_reducible first | refine w_region ?_ ?_ | refine w_dra ?_ ?_); kernel_rfl) | ((with_reducible refine Go3.go ?_ ?_); all_goals (intro hb; (try with_reducible intro hb1); (try (exfalso; first | contradiction | omega)))) | fail)
        refine ⟨(i + 1, m'), ⟨hlt, by omega, by dsimp only; omega, HE, ?_, ?_, ?_, ?_, ?_, rfl⟩, ?_⟩
        all_goals (first | rfl | assumption | omega | (simp (disch := omega) only [push_cast, simprocAttr, *]; try omega; done))
    · have HD := HT.out
      rw [List.drop_eq_nil_of_le (by omega), cntL] at HD
      rw [← HD]
      clear HD HT IH
      repeat' (first | with_reducible refine Go1.go ?_ | ((with_reducible apply ev_go); (focus ((try simp (disch := omega) only [push_cast, simprocAttr, *]); (try exact rfl); done))) | ((with_reducible refine w_last ?_ ?_ ?_); kernel_rfl; rfl) | with_reducible refine Go2.go ?_ | ((with_reducible first | apply w_stepG | refine s_bi ?_ ?_ | refine blk_ne ?_ ?_); rfl) | ((with_reducible refine al_go ?_); intro b) | ((with_reducible first | refine w_region ?_ ?_ | refine w_dra ?_ ?_); kernel_rfl) | ((with_reducible refine Go3.go ?_ ?_); all_goals (intro hb; (try with_reducible intro hb1); (try (exfalso; first | contradiction | omega)))) | fail)
      all_goals (refine ret_eq (by simp) (by first | rfl | assumption) (by (repeat (first | exact List.Sublist.refl _ | apply List.Sublist.cons))) ?_; (try simp (disch := omega) only [push_cast, simprocAttr, *]); try (first | exact LE.refl _ | exact LE.sl _ _ | ((first | refine LE.tup ?_ | refine LE.agg ?_); (repeat' (first | exact LEL.nil | refine LEL.cons ?_ ?_ | exact LE.refl _ | exact LE.sl _ _ | refine LE.agg ?_)); done) | refine LE.of_eq ?_))
end Go.Proofs.Ytooaagmhgakhgaa
end

section
namespace Go.Proofs.Ytooaagmhgakhgaa
set_option linter.unusedSimpArgs false
attribute [local push_cast] encB encI V.cells_mk V.cells_take V.cells_len
open Go.RowKit
set_option maxRecDepth 10000
namespace V
mutual
theorem cnt_eq : ∀ (v : V) (n d : Int), 0 ≤ v.cnt n d → v.cnt n d = n - v.nodes
  | .mk k m s l, n, d, h => by
    rw [cnt] at h ⊢
    split at h
    · omega
    · rename_i hc
      rw [if_neg hc, nodes]
      have := cntL_eq l (n - 1) (d - 1) h
      omega
theorem cntL_eq : ∀ (l : List V) (n d : Int), 0 ≤ cntL l n d → cntL l n d = n - nodesL l
  | [], n, d, h => by rw [cntL, nodesL]; omega
  | x :: l, n, d, h => by
    rw [cntL] at h ⊢
    split at h
    · omega
    · rename_i hc
      rw [if_neg hc, nodesL, cntL_eq l _ d h]
      have := cnt_eq x n d (by omega)
      omega
end
mutual
theorem cnt_all : ∀ (v : V) (n d : Int), (v.nodes : Int) ≤ n → (v.deep : Int) ≤ d → v.cnt n d = n - v.nodes
  | .mk k m s l, n, d, h, hd => by
    have hp := (V.mk k m s l).nodes_pos
    rw [cnt, if_neg (by omega), nodes] at *
    rw [deep] at hd
    have := cntL_all l (n - 1) (d - 1) (by omega) (by
      cases l with
      | nil => exact .inl rfl
      | cons x l => rw [if_pos (.inr (by simp))] at hd; exact .inr (by omega))
    omega
theorem cntL_all : ∀ (l : List V) (n d : Int), (nodesL l : Int) ≤ n → (l = [] ∨ (deepL l : Int) ≤ d) → cntL l n d = n - nodesL l
  | [], n, d, h, _ => by rw [cntL, nodesL]; omega
  | x :: l, n, d, h, hd => by
    rw [nodesL] at h
    rcases hd with hd | hd
    · cases hd
    rw [deepL] at hd
    have h1 := cnt_all x n d (by omega) (by omega)
    rw [cntL, if_neg (by omega), h1, cntL_all l _ d (by omega) (.inr (by omega)), nodesL]
    omega
end
def accI : Int → List V → Int
  | n, [] => n
  | n, x :: l => accI (if (x.deep : Int) > n then x.deep else n) l
theorem max_if (a b : Nat) : ((max a b : Nat) : Int) = if (a : Int) ≤ b then (b : Int) else a := by
  rw [Nat.max_def]; split <;> split <;> omega
theorem accI_eq : ∀ (l : List V) (n : Int), accI n l = match l with | [] => n | x :: l => max n (deepL (x :: l))
  | [], n => rfl
  | [x], n => by
    show (if (x.deep : Int) > n then (x.deep : Int) else n) = max n ((max x.deep 0 : Nat) : Int)
    rw [max_if]; split <;> split <;> omega
  | x :: y :: l, n => by
    have h := accI_eq (y :: l) (if (x.deep : Int) > n then x.deep else n)
    show accI _ (y :: l) = max n ((max x.deep (deepL (y :: l)) : Nat) : Int)
    rw [h, max_if]
    dsimp only
    split <;> split <;> omega
theorem accI_deep (k n : Int) (s : ByteArray) (l : List V) : accI (if k = 5 then 0 else -1) l + 1 = (V.mk k n s l).deep := by
  rw [accI_eq, deep]
  cases l with
  | nil =>
    by_cases h : k = 5
    · simp [h, deepL]
    · simp [h]
  | cons x l =>
    rw [if_pos (show k = 5 ∨ x :: l ≠ [] from .inr (by simp))]
    dsimp only
    split <;> omega
theorem accI_deep' (k n : Int) (s : ByteArray) (l : List V) : (if k = 5 ∨ 0 < l.length then accI 0 l + 1 else accI 0 l) = (V.mk k n s l).deep := by
  rw [accI_eq, deep]
  cases l with
  | nil =>
    by_cases h : k = 5
    · simp [h, deepL]
    · simp [h]
  | cons x l =>
    rw [if_pos (show k = 5 ∨ x :: l ≠ [] from .inr (by simp)), if_pos (show k = 5 ∨ 0 < (x :: l).length from .inr (by simp))]
    dsimp only
    omega
end V
open V in
theorem refDeepF : ∀ (N : Nat) (v : V), v.nodes ≤ N → v.nodes ≤ 4611686018427387904 → ∀ st, TrF Try.prog 41 [.agg v.cells] st fun x st' => x = .i v.deep ∧ st' = st
  | 0, v, h, _ => by have := v.nodes_pos; omega
  | N + 1, .mk k n0 s l, hN, hB => by
    intro st
    have IH := fun x (hx : x ∈ l) => refDeepF N x (by have := nodes_lt (k := k) (n := n0) (s := s) hx; omega) (by have := nodes_lt (k := k) (n := n0) (s := s) hx; omega)
    have hll := nodesL_len l
    have hdl := deepL_le l
    rw [nodes] at hN hB
    have hD := accI_deep k n0 s l
    generalize (V.mk k n0 s l).deep = dd at *
    rw [V.cells_mk]
    clear hN
    refine trF_enter (ts := [2]) Try.func41 rfl (by rw [Try.ntmps41]; exact Nat.le_of_ble_eq_true rfl) (fun tmps w => by simp [results, Try.results41, go_sem, resVal]) ?_
    simp only [Try.ntmps41]
    obtain ⟨a0, ha0⟩ : ∃ a0 : Int, (if k = 5 then (0 : Int) else -1) = a0 := ⟨_, rfl⟩
    have hab : -1 ≤ a0 ∧ a0 ≤ 0 := by rw [← ha0]; split <;> omega
    have HD := Lib.hid hD
    rw [ha0] at HD
    clear hD
    by_cases hk : k = 5
    all_goals
      simp only [hk, if_true, if_false] at ha0
      first | have hkb : (k == 5) = true := by rw [hk]; rfl
            | have hkb : (k == 5) = false := by rw [beq_eq_false_iff_ne]; exact hk
      clear hk
      subst ha0
      have IH := Lib.hid IH
      repeat' (first | with_reducible refine Go1.go ?_ | ((with_reducible apply ev_go); (focus ((try simp (disch := omega) only [push_cast, simprocAttr, *]); (try exact rfl); done))) | ((with_reducible refine w_last ?_ ?_ ?_); kernel_rfl; rfl) | with_reducible refine Go2.go ?_ | ((with_reducible first | apply w_stepG | refine s_bi ?_ ?_ | refine blk_ne ?_ ?_); rfl) | ((with_reducible refine al_go ?_); intro b) | ((with_reducible first | refine w_region ?_ ?_ | refine w_dra ?_ ?_); kernel_rfl) | ((with_reducible refine Go3.go ?_ ?_); all_goals (intro hb; (try with_reducible intro hb1); (try (exfalso; first | contradiction | omega)))) | fail)
      refine tr_loop (ι := Nat × Int) (fun i A st' => i.1 ≤ l.length ∧ -1 ≤ i.2 ∧ i.2 ≤ nodesL l ∧ Hid (accI i.2 (l.drop i.1) + 1 = dd) ∧ A.df = [] ∧ A.e 1 = .ip [.i k, .i n0, .str s, .sl .shared (l.map V.cells)] ∧ A.e 3 = .i i.2 ∧ A.e 4 = .i i.1 ∧ st' = st) (fun i => l.length - i.1) (0, _) ⟨Nat.zero_le _, hab.1, by dsimp only; omega, HD.out, ?_, ?_, ?_, ?_, rfl⟩ ?_
      iterate 4 (focus (first | rfl | assumption | omega | (simp (disch := omega) only [push_cast, simprocAttr, *]; try omega; done)))
      rintro ⟨i, m⟩ A st' ⟨hi, hm0, hmn, HT, hdf, h1', h3', h4', rfl⟩
      dsimp only at hi hm0 hmn HT h3' h4' ⊢
      by_cases hlt : i < l.length
      · obtain ⟨x, hx⟩ : ∃ x, l[i]? = some x := ⟨_, List.getElem?_eq_getElem hlt⟩
        have ih := IH.out x (mem_of hx)
        have hdx := deep_le x
        have hnx := nodesL_mem (mem_of hx)
        have HE := HT.out
        rw [drop_cons hx, accI] at HE
        have HE := Lib.hid HE
        generalize x.deep = dx at *
        by_cases hm' : (dx : Int) > m
        · have he := HE.out
          rw [if_pos hm'] at he
          have HE := Lib.hid he
          clear he HT IH
          repeat' (first | with_reducible refine Go1.go ?_ | ((with_reducible apply ev_go); (focus ((try simp (disch := omega) only [push_cast, simprocAttr, *]); (try exact rfl); done))) | ((with_reducible refine w_last ?_ ?_ ?_); kernel_rfl; rfl) | with_reducible refine Go2.go ?_ | ((with_reducible first | apply w_stepG | refine s_bi ?_ ?_ | refine blk_ne ?_ ?_); rfl) | ((with_reducible refine al_go ?_); intro b) | ((with_reducible apply (ck_le Try.call41)); exact LEL.refl _; exact ih _) | ((with_reducible first | refine w_region ?_ ?_ | refine w_dra ?_ ?_); kernel_rfl) | ((with_reducible refine Go3.go ?_ ?_); all_goals (intro hb; (try with_reducible intro hb1); (try (exfalso; first | contradiction | omega)))) | fail)
          refine ⟨(i + 1, dx), ⟨hlt, by dsimp only; omega, by dsimp only; omega, HE, ?_, ?_, ?_, ?_, rfl⟩, ?_⟩
          all_goals (first | rfl | assumption | omega | (simp (disch := omega) only [push_cast, simprocAttr, *]; try omega; done))
        · have he := HE.out
          rw [if_neg hm'] at he
          have HE := Lib.hid he
          clear he HT IH
          repeat' (first | with_reducible refine Go1.go ?_ | ((with_reducible apply ev_go); (focus ((try simp (disch := omega) only [push_cast, simprocAttr, *]); (try exact rfl); done))) | ((with_reducible refine w_last ?_ ?_ ?_); kernel_rfl; rfl) | with_reducible refine Go2.go ?_ | ((with_reducible first | apply w_stepG | refine s_bi ?_ ?_ | refine blk_ne ?_ ?_); rfl) | ((with_reducible refine al_go ?_); intro b) | ((with_reducible apply (ck_le Try.call41)); exact LEL.refl _; exact ih _) | ((with_reducible first | refine w_region ?_ ?_ | refine w_dra ?_ ?_); kernel_rfl) | ((with_reducible refine Go3.go ?_ ?_); all_goals (intro hb; (try with_reducible intro hb1); (try (exfalso; first | contradiction | omega)))) | fail)
          refine ⟨(i + 1, m), ⟨hlt, by dsimp only; omega, by dsimp only; omega, HE, ?_, ?_, ?_, ?_, rfl⟩, ?_⟩
          all_goals (first | rfl | assumption | omega | (simp (disch := omega) only [push_cast, simprocAttr, *]; try omega; done))
      · have he := HT.out
        rw [List.drop_eq_nil_of_le (by omega), accI] at he
        clear IH HT HD
        repeat' (first | with_reducible refine Go1.go ?_ | ((with_reducible apply ev_go); (focus ((try simp (disch := omega) only [push_cast, simprocAttr, *]); (try exact rfl); done))) | ((with_reducible refine w_last ?_ ?_ ?_); kernel_rfl; rfl) | with_reducible refine Go2.go ?_ | ((with_reducible first | apply w_stepG | refine s_bi ?_ ?_ | refine blk_ne ?_ ?_); rfl) | ((with_reducible refine al_go ?_); intro b) | ((with_reducible first | refine w_region ?_ ?_ | refine w_dra ?_ ?_); kernel_rfl) | ((with_reducible refine Go3.go ?_ ?_); all_goals (intro hb; (try with_reducible intro hb1); (try (exfalso; first | contradiction | omega)))) | fail)
        all_goals (refine ret_eq (by simp) (by first | rfl | assumption) (by (repeat (first | exact List.Sublist.refl _ | apply List.Sublist.cons))) ?_; (try simp (disch := omega) only [push_cast, simprocAttr, *]); try (first | exact LE.refl _ | exact LE.sl _ _ | ((first | refine LE.tup ?_ | refine LE.agg ?_); (repeat' (first | exact LEL.nil | refine LEL.cons ?_ ?_ | exact LE.refl _ | exact LE.sl _ _ | refine LE.agg ?_)); done) | refine LE.of_eq ?_))
end Go.Proofs.Ytooaagmhgakhgaa
end

section
namespace Go.Proofs.Ytooaagmhgakhgaa
set_option linter.unusedSimpArgs false
attribute [local push_cast] encB encI V.cells_mk V.cells_take V.cells_len
open Go.RowKit
set_option maxRecDepth 10000
open V in
theorem valDeepF : ∀ (N : Nat) (v : V), v.nodes ≤ N → v.nodes ≤ 4611686018427387904 → ∀ st, TrF Try.prog 65 [.agg v.cells] st fun x st' => x = .i v.deep ∧ st' = st
  | 0, v, h, _ => by have := v.nodes_pos; omega
  | N + 1, .mk k n0 s l, hN, hB => by
    intro st
    have IH := fun x (hx : x ∈ l) => valDeepF N x (by have := nodes_lt (k := k) (n := n0) (s := s) hx; omega) (by have := nodes_lt (k := k) (n := n0) (s := s) hx; omega)
    have hll := nodesL_len l
    have hdl := deepL_le l
    rw [nodes] at hN hB
    have HD := Lib.hid (accI_deep' k n0 s l)
    generalize (V.mk k n0 s l).deep = dd at *
    rw [V.cells_mk]
    clear hN
    refine trF_enter (ts := [2]) Try.func65 rfl (by rw [Try.ntmps65]; exact Nat.le_of_ble_eq_true rfl) (fun tmps w => by simp [results, Try.results65, go_sem, resVal]) ?_
    simp only [Try.ntmps65]
    have IH := Lib.hid IH
    repeat' (first | with_reducible refine Go1.go ?_ | ((with_reducible apply ev_go); (focus ((try simp (disch := omega) only [push_cast, simprocAttr, *]); (try exact rfl); done))) | ((with_reducible refine w_last ?_ ?_ ?_); kernel_rfl; rfl) | with_reducible refine Go2.go ?_ | ((with_reducible first | apply w_stepG | refine s_bi ?_ ?_ | refine blk_ne ?_ ?_); rfl) | ((with_reducible refine al_go ?_); intro b) | ((with_reducible first | refine w_region ?_ ?_ | refine w_dra ?_ ?_); kernel_rfl) | ((with_reducible refine Go3.go ?_ ?_); all_goals (intro hb; (try with_reducible intro hb1); (try (exfalso; first | contradiction | omega)))) | fail)
    refine tr_loopd (ι := Nat × Int) (fun i A st' => i.1 ≤ l.length ∧ 0 ≤ i.2 ∧ i.2 ≤ nodesL l ∧ Hid (accI i.2 (l.drop i.1) = accI 0 l) ∧ A.df = [] ∧ A.e 1 = .ip [.i k, .i n0, .str s, .sl .shared (l.map V.cells)] ∧ A.e 3 = .i i.2 ∧ A.e 7 = .sl .shared (l.map V.cells) ∧ A.e 8 = .i l.length ∧ A.e 9 = .i i.1 ∧ st' = st) (fun i => l.length - i.1) (0, 0) ⟨Nat.zero_le _, Int.le_refl _, by dsimp only; omega, rfl, ?_, ?_, ?_, ?_, ?_, ?_, rfl⟩ ?_
    iterate 6 (focus (first | rfl | assumption | omega | (simp (disch := omega) only [push_cast, simprocAttr, *]; try omega; done)))
    rintro ⟨i, m⟩ A st' ⟨hi, hm0, hmn, HT, hdf, h1', h3', h7', h8', h9', rfl⟩
    dsimp only at hi hm0 hmn HT h3' h9' ⊢
    by_cases hlt : i < l.length
    · obtain ⟨x, hx⟩ : ∃ x, l[i]? = some x := ⟨_, List.getElem?_eq_getElem hlt⟩
      have ih := fun st => IH.out x (mem_of hx) st
      have hdx := deep_le x
      have hnx := nodesL_mem (mem_of hx)
      have HE := HT.out
      rw [drop_cons hx, accI] at HE
      have HE := Lib.hid HE
      clear IH HT HD
      cases x with
      | mk k1 n1 s1 l1 =>
        simp only [V.cells_mk] at ih
        generalize (V.mk k1 n1 s1 l1).deep = dx at *
        repeat' (first | with_reducible refine Go1.go ?_ | ((with_reducible apply ev_go); (focus ((try simp (disch := omega) only [push_cast, simprocAttr, *]); (try exact rfl); done))) | ((with_reducible refine w_last ?_ ?_ ?_); kernel_rfl; rfl) | with_reducible refine Go2.go ?_ | ((with_reducible first | apply w_stepG | refine s_bi ?_ ?_ | refine blk_ne ?_ ?_); rfl) | ((with_reducible refine al_go ?_); intro b) | ((with_reducible apply (ck_le Try.call65)); exact LEL.refl _; exact ih _) | ((with_reducible first | refine w_region ?_ ?_ | refine w_dra ?_ ?_); kernel_rfl) | ((with_reducible refine Go3.go ?_ ?_); all_goals (intro hb; (try with_reducible intro hb1); (try (exfalso; first | contradiction | omega)))) | fail)
        refine ⟨(i + 1, if (dx : Int) > m then dx else m), _, List.sublist_cons_self _ _, ⟨hlt, ?_, ?_, HE, ?_, ?_, ?_, ?_, ?_, ?_, rfl⟩, ?_⟩
        · dsimp only; split <;> omega
        · dsimp only; split <;> omega
        all_goals (first | rfl | assumption | omega | (simp (disch := omega) only [push_cast, simprocAttr, *]; try omega; done))
    · have he := HT.out
      rw [List.drop_eq_nil_of_le (by omega), accI] at he
      have hd := HD.out
      rw [← he] at hd
      clear IH HT HD he
      by_cases hk : k = 5 ∨ 0 < l.length
      · rw [if_pos hk] at hd
        rw [← hd]
        clear hd
        rcases hk with hk | hk
        · have hkb : (k == 5) = true := by rw [hk]; rfl
          clear hk
          repeat' (first | with_reducible refine Go1.go ?_ | ((with_reducible apply ev_go); (focus ((try simp (disch := omega) only [push_cast, simprocAttr, *]); (try exact rfl); done))) | ((with_reducible refine w_last ?_ ?_ ?_); kernel_rfl; rfl) | with_reducible refine Go2.go ?_ | ((with_reducible first | apply w_stepG | refine s_bi ?_ ?_ | refine blk_ne ?_ ?_); rfl) | ((with_reducible refine al_go ?_); intro b) | ((with_reducible first | refine w_region ?_ ?_ | refine w_dra ?_ ?_); kernel_rfl) | ((with_reducible refine Go3.go ?_ ?_); all_goals (intro hb; (try with_reducible intro hb1); (try (exfalso; first | contradiction | omega)))) | fail)
          all_goals (refine ret_eq (by simp) (by first | rfl | assumption) (by (repeat (first | exact List.Sublist.refl _ | apply List.Sublist.cons))) ?_; (try simp (disch := omega) only [push_cast, simprocAttr, *]); try (first | exact LE.refl _ | exact LE.sl _ _ | ((first | refine LE.tup ?_ | refine LE.agg ?_); (repeat' (first | exact LEL.nil | refine LEL.cons ?_ ?_ | exact LE.refl _ | exact LE.sl _ _ | refine LE.agg ?_)); done) | refine LE.of_eq ?_))
        · have hk : (0 : Int) < l.length := by omega
          by_cases hk5 : k = 5
          · have hkb : (k == 5) = true := by rw [hk5]; rfl
            clear hk5
            repeat' (first | with_reducible refine Go1.go ?_ | ((with_reducible apply ev_go); (focus ((try simp (disch := omega) only [push_cast, simprocAttr, *]); (try exact rfl); done))) | ((with_reducible refine w_last ?_ ?_ ?_); kernel_rfl; rfl) | with_reducible refine Go2.go ?_ | ((with_reducible first | apply w_stepG | refine s_bi ?_ ?_ | refine blk_ne ?_ ?_); rfl) | ((with_reducible refine al_go ?_); intro b) | ((with_reducible first | refine w_region ?_ ?_ | refine w_dra ?_ ?_); kernel_rfl) | ((with_reducible refine Go3.go ?_ ?_); all_goals (intro hb; (try with_reducible intro hb1); (try (exfalso; first | contradiction | omega)))) | fail)
            all_goals (refine ret_eq (by simp) (by first | rfl | assumption) (by (repeat (first | exact List.Sublist.refl _ | apply List.Sublist.cons))) ?_; (try simp (disch := omega) only [push_cast, simprocAttr, *]); try (first | exact LE.refl _ | exact LE.sl _ _ | ((first | refine LE.tup ?_ | refine LE.agg ?_); (repeat' (first | exact LEL.nil | refine LEL.cons ?_ ?_ | exact LE.refl _ | exact LE.sl _ _ | refine LE.agg ?_)); done) | refine LE.of_eq ?_))
          · have hkb : (k == 5) = false := by rw [beq_eq_false_iff_ne]; exact hk5
            clear hk5
            repeat' (first | with_reducible refine Go1.go ?_ | ((with_reducible apply ev_go); (focus ((try simp (disch := omega) only [push_cast, simprocAttr, *]); (try exact rfl); done))) | ((with_reducible refine w_last ?_ ?_ ?_); kernel_rfl; rfl) | with_reducible refine Go2.go ?_ | ((with_reducible first | apply w_stepG | refine s_bi ?_ ?_ | refine blk_ne ?_ ?_); rfl) | ((with_reducible refine al_go ?_); intro b) | ((with_reducible first | refine w_region ?_ ?_ | refine w_dra ?_ ?_); kernel_rfl) | ((with_reducible refine Go3.go ?_ ?_); all_goals (intro hb; (try with_reducible intro hb1); (try (exfalso; first | contradiction | omega)))) | fail)
            all_goals (refine ret_eq (by simp) (by first | rfl | assumption) (by (repeat (first | exact List.Sublist.refl _ | apply List.Sublist.cons))) ?_; (try simp (disch := omega) only [push_cast, simprocAttr, *]); try (first | exact LE.refl _ | exact LE.sl _ _ | ((first | refine LE.tup ?_ | refine LE.agg ?_); (repeat' (first | exact LEL.nil | refine LEL.cons ?_ ?_ | exact LE.refl _ | exact LE.sl _ _ | refine LE.agg ?_)); done) | refine LE.of_eq ?_))
      · rw [if_neg hk] at hd
        rw [← hd]
        have hkb : (k == 5) = false := by rw [beq_eq_false_iff_ne]; intro h; exact hk (.inl h)
        have hl0 : ¬ (0 : Int) < l.length := fun h => hk (.inr (by omega))
        clear hk hd
        repeat' (first | with_reducible refine Go1.go ?_ | ((with_reducible apply ev_go); (focus ((try simp (disch := omega) only [push_cast, simprocAttr, *]); (try exact rfl); done))) | ((with_reducible refine w_last ?_ ?_ ?_); kernel_rfl; rfl) | with_reducible refine Go2.go ?_ | ((with_reducible first | apply w_stepG | refine s_bi ?_ ?_ | refine blk_ne ?_ ?_); rfl) | ((with_reducible refine al_go ?_); intro b) | ((with_reducible first | refine w_region ?_ ?_ | refine w_dra ?_ ?_); kernel_rfl) | ((with_reducible refine Go3.go ?_ ?_); all_goals (intro hb; (try with_reducible intro hb1); (try (exfalso; first | contradiction | omega)))) | fail)
        all_goals (refine ret_eq (by simp) (by first | rfl | assumption) (by (repeat (first | exact List.Sublist.refl _ | apply List.Sublist.cons))) ?_; (try simp (disch := omega) only [push_cast, simprocAttr, *]); try (first | exact LE.refl _ | exact LE.sl _ _ | ((first | refine LE.tup ?_ | refine LE.agg ?_); (repeat' (first | exact LEL.nil | refine LEL.cons ?_ ?_ | exact LE.refl _ | exact LE.sl _ _ | refine LE.agg ?_)); done) | refine LE.of_eq ?_))
open V in
theorem valNodesF : ∀ (N : Nat) (v : V), v.nodes ≤ N → v.nodes ≤ 4611686018427387904 → ∀ st, TrF Try.prog 66 [.agg v.cells] st fun x st' => x = .i v.nodes ∧ st' = st
  | 0, v, h, _ => by have := v.nodes_pos; omega
  | N + 1, .mk k n0 s l, hN, hB => by
    intro st
    have IH := Lib.hid fun x (hx : x ∈ l) => valNodesF N x (by have := nodes_lt (k := k) (n := n0) (s := s) hx; omega) (by have := nodes_lt (k := k) (n := n0) (s := s) hx; omega)
    have hll := nodesL_len l
    rw [nodes] at hN hB
    rw [V.cells_mk, show (V.mk k n0 s l).nodes = 1 + nodesL l from nodes.eq_1 ..]
    clear hN
    obtain ⟨T, hT⟩ : ∃ T, nodesL l = T := ⟨_, rfl⟩
    rw [hT] at hll hB ⊢
    have HT0 := Lib.hid hT
    clear hT
    refine trF_enter (ts := [2]) Try.func66 rfl (by rw [Try.ntmps66]; exact Nat.le_of_ble_eq_true rfl) (fun tmps w => by simp [results, Try.results66, go_sem, resVal]) ?_
    simp only [Try.ntmps66]
    repeat' (first | with_reducible refine Go1.go ?_ | ((with_reducible apply ev_go); (focus ((try simp (disch := omega) only [push_cast, simprocAttr, *]); (try exact rfl); done))) | ((with_reducible refine w_last ?_ ?_ ?_); kernel_rfl; rfl) | with_reducible refine Go2.go ?_ | ((with_reducible first | apply w_stepG | refine s_bi ?_ ?_ | refine blk_ne ?_ ?_); rfl) | ((with_reducible refine al_go ?_); intro b) | ((with_reducible first | refine w_region ?_ ?_ | refine w_dra ?_ ?_); kernel_rfl) | ((with_reducible refine Go3.go ?_ ?_); all_goals (intro hb; (try with_reducible intro hb1); (try (exfalso; first | contradiction | omega)))) | fail)
    refine tr_loopd (ι := Nat × Nat) (fun i A st' => i.1 ≤ l.length ∧ Hid (i.2 + nodesL (l.drop i.1) = 1 + T) ∧ i.2 ≤ 1 + T ∧ A.df = [] ∧ A.e 1 = .ip [.i k, .i n0, .str s, .sl .shared (l.map V.cells)] ∧ A.e 3 = .i i.2 ∧ A.e 7 = .sl .shared (l.map V.cells) ∧ A.e 8 = .i l.length ∧ A.e 9 = .i i.1 ∧ st' = st) (fun i => l.length - i.1) (0, 1) ⟨Nat.zero_le _, by show 1 + nodesL l = 1 + T; rw [HT0.out], by dsimp only; omega, ?_, ?_, ?_, ?_, ?_, ?_, rfl⟩ ?_
    iterate 6 (focus (first | rfl | assumption | omega | (simp (disch := omega) only [push_cast, simprocAttr, *]; try omega; done)))
    rintro ⟨i, m⟩ A st' ⟨hi, HT, hm0, hdf, h1', h3', h7', h8', h9', rfl⟩
    dsimp only at hi HT h3' h9' hm0 ⊢
    by_cases hlt : i < l.length
    · obtain ⟨x, hx⟩ : ∃ x, l[i]? = some x := ⟨_, List.getElem?_eq_getElem hlt⟩
      have ih := fun st => IH.out x (mem_of hx) st
      have HE := HT.out
      rw [drop_cons hx, nodesL, ← Nat.add_assoc] at HE
      have hle : m + x.nodes ≤ 1 + T := by omega
      have HE := Lib.hid HE
      clear IH HT
      cases x with
      | mk k1 n1 s1 l1 =>
        simp only [V.cells_mk] at ih
        generalize (V.mk k1 n1 s1 l1).nodes = dx at *
        repeat' (first | with_reducible refine Go1.go ?_ | ((with_reducible apply ev_go); (focus ((try simp (disch := omega) only [push_cast, simprocAttr, *]); (try exact rfl); done))) | ((with_reducible refine w_last ?_ ?_ ?_); kernel_rfl; rfl) | with_reducible refine Go2.go ?_ | ((with_reducible first | apply w_stepG | refine s_bi ?_ ?_ | refine blk_ne ?_ ?_); rfl) | ((with_reducible refine al_go ?_); intro b) | ((with_reducible apply (ck_le Try.call66)); exact LEL.refl _; exact ih _) | ((with_reducible first | refine w_region ?_ ?_ | refine w_dra ?_ ?_); kernel_rfl) | ((with_reducible refine Go3.go ?_ ?_); all_goals (intro hb; (try with_reducible intro hb1); (try (exfalso; first | contradiction | omega)))) | fail)
        refine ⟨(i + 1, m + dx), _, List.sublist_cons_self _ _, ⟨hlt, HE, hle, ?_, ?_, ?_, ?_, ?_, ?_, rfl⟩, ?_⟩
        all_goals (first | rfl | assumption | omega | (simp (disch := omega) only [push_cast, simprocAttr, *]; try omega; done))
    · have he := HT.out
      rw [List.drop_eq_nil_of_le (by omega), nodesL, Nat.add_zero] at he
      rw [← he]
      clear IH HT HT0 he
      repeat' (first | with_reducible refine Go1.go ?_ | ((with_reducible apply ev_go); (focus ((try simp (disch := omega) only [push_cast, simprocAttr, *]); (try exact rfl); done))) | ((with_reducible refine w_last ?_ ?_ ?_); kernel_rfl; rfl) | with_reducible refine Go2.go ?_ | ((with_reducible first | apply w_stepG | refine s_bi ?_ ?_ | refine blk_ne ?_ ?_); rfl) | ((with_reducible refine al_go ?_); intro b) | ((with_reducible first | refine w_region ?_ ?_ | refine w_dra ?_ ?_); kernel_rfl) | ((with_reducible refine Go3.go ?_ ?_); all_goals (intro hb; (try with_reducible intro hb1); (try (exfalso; first | contradiction | omega)))) | fail)
      all_goals (refine ret_eq (by simp) (by first | rfl | assumption) (by (repeat (first | exact List.Sublist.refl _ | apply List.Sublist.cons))) ?_; (try simp (disch := omega) only [push_cast, simprocAttr, *]); try (first | exact LE.refl _ | exact LE.sl _ _ | ((first | refine LE.tup ?_ | refine LE.agg ?_); (repeat' (first | exact LEL.nil | refine LEL.cons ?_ ?_ | exact LE.refl _ | exact LE.sl _ _ | refine LE.agg ?_)); done) | refine LE.of_eq ?_))
end Go.Proofs.Ytooaagmhgakhgaa
end

section
namespace Go.Proofs.Ytooaagmhgakhgaa
set_option linter.unusedSimpArgs false
attribute [local push_cast] encB encI V.cells_mk V.cells_take V.cells_len isE_eq
open Go.RowKit
set_option maxRecDepth 10000
set_option maxHeartbeats 4000000
namespace V
def isLetter (c : UInt8) : Bool := (decide (97 ≤ (c.toNat : Int)) && decide ((c.toNat : Int) ≤ 122)) || (decide (65 ≤ (c.toNat : Int)) && decide ((c.toNat : Int) ≤ 90))
def isOther (c : UInt8) : Bool := (decide (48 ≤ (c.toNat : Int)) && decide ((c.toNat : Int) ≤ 57)) || ((c.toNat : Int) == 95) || ((c.toNat : Int) == 45)
def nameFrom : Nat → List UInt8 → Bool
  | _, [] => true
  | i, c :: t => (isLetter c || (decide (i ≠ 0) && isOther c)) && nameFrom (i + 1) t
def isName (l : List UInt8) : Bool := decide (1 ≤ l.length) && decide (l.length ≤ 40) && nameFrom 0 l
end V
theorem letter_bits : ∀ n : Fin 256, (decide (97 ≤ bits .or .u8 (n : Int) 32) && decide (bits .or .u8 (n : Int) 32 ≤ 122)) = ((decide (97 ≤ (n : Int)) && decide ((n : Int) ≤ 122)) || (decide (65 ≤ (n : Int)) && decide ((n : Int) ≤ 90))) := by decide +kernel
theorem letter_eq (c : UInt8) : (decide (97 ≤ bits .or .u8 (c.toNat : Int) 32) && decide (bits .or .u8 (c.toNat : Int) 32 ≤ 122)) = V.isLetter c := letter_bits ⟨c.toNat, c.toNat_lt⟩
theorem valLetterF (c : UInt8) (st : St) : TrF Try.prog 101 [.y c] st fun x st' => x = .b (V.isLetter c) ∧ st' = st := by
  have h := letter_eq c
  generalize hq : bits .or .u8 (c.toNat : Int) 32 = q at *
  rw [← h]
  clear h
  refine trF_enter (ts := [2]) Try.func101 rfl (by rw [Try.ntmps101]; exact Nat.le_of_ble_eq_true rfl) (fun tmps w => by simp [results, Try.results101, go_sem, resVal]) ?_
  simp only [Try.ntmps101]
  repeat' (first | with_reducible refine Go1.go ?_ | ((with_reducible apply ev_go); (focus ((try simp (disch := omega) only [push_cast, simprocAttr, *]); (try exact rfl); done))) | ((with_reducible refine w_last ?_ ?_ ?_); kernel_rfl; rfl) | with_reducible refine Go2.go ?_ | ((with_reducible first | apply w_stepG | refine s_bi ?_ ?_ | refine blk_ne ?_ ?_); rfl) | ((with_reducible refine al_go ?_); intro b) | ((with_reducible first | refine w_region ?_ ?_ | refine w_dra ?_ ?_); kernel_rfl) | ((with_reducible refine Go3.go ?_ ?_); all_goals (intro hb; (try with_reducible intro hb1); (try (exfalso; first | contradiction | omega)))) | fail)
  all_goals (refine ret_eq (by simp) (by first | rfl | assumption) (by (repeat (first | exact List.Sublist.refl _ | apply List.Sublist.cons))) ?_; (try simp (disch := omega) only [push_cast, simprocAttr, *]); try (first | exact LE.refl _ | exact LE.sl _ _ | ((first | refine LE.tup ?_ | refine LE.agg ?_); (repeat' (first | exact LEL.nil | refine LEL.cons ?_ ?_ | exact LE.refl _ | exact LE.sl _ _ | refine LE.agg ?_)); done) | refine LE.of_eq ?_))
  all_goals (first | rfl | assumption | omega | (simp (disch := omega) only [push_cast, simprocAttr, *]; try omega; done))
namespace V
def nameC (c : UInt8) : Bool := isLetter c || isOther c
theorem nameFrom_pos : ∀ (l : List UInt8) (i : Nat), 0 < i → nameFrom i l = l.all nameC
  | [], i, _ => rfl
  | c :: t, i, h => by
    rw [nameFrom, nameFrom_pos t (i + 1) (by omega), List.all_cons, nameC, show decide (i ≠ 0) = true from decide_eq_true (by omega), Bool.true_and]
theorem isName_all {c : UInt8} {t : List UInt8} (h1 : (c :: t).length ≤ 40) (h2 : isLetter c = true) : isName (c :: t) = (c :: t).all nameC := by
  rw [isName, decide_eq_true h1, decide_eq_true (by simp), nameFrom, nameFrom_pos t 1 (by omega), List.all_cons, nameC, h2]; simp
theorem isName_not {c : UInt8} {t : List UInt8} (h2 : isLetter c = false) : isName (c :: t) = false := by
  rw [isName, nameFrom, h2]; simp
theorem nameC_yes {c : UInt8} (h : nameC c = true) (hl : isLetter c = false) : (48 ≤ (c.toNat : Int) ∧ (c.toNat : Int) ≤ 57) ∨ (c.toNat : Int) = 95 ∨ (c.toNat : Int) = 45 := by
  rw [nameC, hl, Bool.false_or, isOther] at h
  simp only [Bool.or_eq_true, Bool.and_eq_true, decide_eq_true_eq, beq_iff_eq] at h
  omega
theorem nameC_no {c : UInt8} (h : nameC c = false) : isLetter c = false ∧ ((c.toNat : Int) < 48 ∨ 57 < (c.toNat : Int)) ∧ (c.toNat : Int) ≠ 95 ∧ (c.toNat : Int) ≠ 45 := by
  rw [nameC, Bool.or_eq_false_iff, isOther] at h
  simp only [Bool.or_eq_false_iff, Bool.and_eq_false_iff, decide_eq_false_iff_not, beq_eq_false_iff_ne, ne_eq] at h
  exact ⟨h.1, by omega, by omega, by omega⟩
end V
open V in
theorem valIsNameF (s : ByteArray) (st : St) : TrF Try.prog 86 [.str s] st fun x st' => x = .b (V.isName s.data.toList) ∧ st' = st := by
  have hl : s.data.toList.length = s.size := by simp
  refine trF_enter (ts := [2]) Try.func86 rfl (by rw [Try.ntmps86]; exact Nat.le_of_ble_eq_true rfl) (fun tmps w => by simp [results, Try.results86, go_sem, resVal]) ?_
  simp only [Try.ntmps86]
  by_cases h0 : s.size = 0
  · have : s.data.toList = [] := List.eq_nil_of_length_eq_zero (by omega)
    rw [this]
    clear this
    repeat' (first | with_reducible refine Go1.go ?_ | ((with_reducible apply ev_go); (focus ((try simp (disch := omega) only [push_cast, simprocAttr, *]); (try exact rfl); done))) | ((with_reducible refine w_last ?_ ?_ ?_); kernel_rfl; rfl) | with_reducible refine Go2.go ?_ | ((with_reducible first | apply w_stepG | refine s_bi ?_ ?_ | refine blk_ne ?_ ?_); rfl) | ((with_reducible refine al_go ?_); intro b) | ((with_reducible first | refine w_region ?_ ?_ | refine w_dra ?_ ?_); kernel_rfl) | ((with_reducible refine Go3.go ?_ ?_); all_goals (intro hb; (try with_reducible intro hb1); (try (exfalso; first | contradiction | omega)))) | fail)
    all_goals (refine ret_eq (by simp) (by first | rfl | assumption) (by (repeat (first | exact List.Sublist.refl _ | apply List.Sublist.cons))) ?_; (try simp (disch := omega) only [push_cast, simprocAttr, *]); try (first | exact LE.refl _ | exact LE.sl _ _ | ((first | refine LE.tup ?_ | refine LE.agg ?_); (repeat' (first | exact LEL.nil | refine LEL.cons ?_ ?_ | exact LE.refl _ | exact LE.sl _ _ | refine LE.agg ?_)); done) | refine LE.of_eq ?_))
  by_cases h40 : 40 < s.size
  · have : isName s.data.toList = false := by rw [isName, decide_eq_false (show ¬ s.data.toList.length ≤ 40 by omega)]; simp
    rw [this]
    clear this
    repeat' (first | with_reducible refine Go1.go ?_ | ((with_reducible apply ev_go); (focus ((try simp (disch := omega) only [push_cast, simprocAttr, *]); (try exact rfl); done))) | ((with_reducible refine w_last ?_ ?_ ?_); kernel_rfl; rfl) | with_reducible refine Go2.go ?_ | ((with_reducible first | apply w_stepG | refine s_bi ?_ ?_ | refine blk_ne ?_ ?_); rfl) | ((with_reducible refine al_go ?_); intro b) | ((with_reducible first | refine w_region ?_ ?_ | refine w_dra ?_ ?_); kernel_rfl) | ((with_reducible refine Go3.go ?_ ?_); all_goals (intro hb; (try with_reducible intro hb1); (try (exfalso; first | contradiction | omega)))) | fail)
    all_goals (refine ret_eq (by simp) (by first | rfl | assumption) (by (repeat (first | exact List.Sublist.refl _ | apply List.Sublist.cons))) ?_; (try simp (disch := omega) only [push_cast, simprocAttr, *]); try (first | exact LE.refl _ | exact LE.sl _ _ | ((first | refine LE.tup ?_ | refine LE.agg ?_); (repeat' (first | exact LEL.nil | refine LEL.cons ?_ ?_ | exact LE.refl _ | exact LE.sl _ _ | refine LE.agg ?_)); done) | refine LE.of_eq ?_))
  obtain ⟨c, t, hct⟩ : ∃ c t, s.data.toList = c :: t := by
    cases h : s.data.toList with
    | nil => rw [h] at hl; simp at hl; omega
    | cons c t => exact ⟨c, t, rfl⟩
  have hc0 : s.data.toList[0]? = some c := by rw [hct]; rfl
  by_cases hc : isLetter c = true
  · have HN := Lib.hid (isName_all (c := c) (t := t) (by rw [← hct]; omega) hc)
    rw [← hct] at HN
    clear hct
    obtain ⟨B, hB⟩ : ∃ B, isName s.data.toList = B := ⟨_, rfl⟩
    rw [hB] at HN ⊢
    clear hB
    repeat' (first | with_reducible refine Go1.go ?_ | ((with_reducible apply ev_go); (focus ((try simp (disch := omega) only [push_cast, simprocAttr, *]); (try exact rfl); done))) | ((with_reducible refine w_last ?_ ?_ ?_); kernel_rfl; rfl) | with_reducible refine Go2.go ?_ | ((with_reducible first | apply w_stepG | refine s_bi ?_ ?_ | refine blk_ne ?_ ?_); rfl) | ((with_reducible refine al_go ?_); intro b) | ((with_reducible apply (ck_le Try.call101)); exact LEL.refl _; exact valLetterF _ _) | ((with_reducible first | refine w_region ?_ ?_ | refine w_dra ?_ ?_); kernel_rfl) | ((with_reducible refine Go3.go ?_ ?_); all_goals (intro hb; (try with_reducible intro hb1); (try (exfalso; first | contradiction | omega)))) | fail)
    refine tr_loop (ι := Nat) (fun i A st' => i ≤ s.size ∧ Hid (B = (s.data.toList.drop i).all nameC) ∧ A.df = [] ∧ A.e 0 = .str s ∧ A.e 19 = .i s.size ∧ A.e 20 = .i i ∧ st' = st) (fun i => s.size - i) 0 ⟨Nat.zero_le _, HN, ?_, ?_, ?_, ?_, rfl⟩ ?_
    iterate 4 (focus (first | rfl | assumption | omega | (simp (disch := omega) only [push_cast, simprocAttr, *]; try omega; done)))
    rintro i A st' ⟨hi, HT, hdf, h1', h2', h3', rfl⟩
    clear HN hc0
    by_cases hlt : i < s.size
    · obtain ⟨x, hx⟩ : ∃ x, s.data.toList[i]? = some x := ⟨_, List.getElem?_eq_getElem (by omega)⟩
      have HE := HT.out
      rw [drop_cons hx, List.all_cons] at HE
      by_cases hnc : nameC x = true
      · rw [hnc, Bool.true_and] at HE
        have HE := Lib.hid HE
        clear HT
        by_cases hL : isLetter x = true
        · clear hnc hc
          repeat' (first | with_reducible refine Go1.go ?_ | ((with_reducible apply ev_go); (focus ((try simp (disch := omega) only [push_cast, simprocAttr, *]); (try exact rfl); done))) | ((with_reducible refine w_last ?_ ?_ ?_); kernel_rfl; rfl) | with_reducible refine Go2.go ?_ | ((with_reducible first | apply w_stepG | refine s_bi ?_ ?_ | refine blk_ne ?_ ?_); rfl) | ((with_reducible refine al_go ?_); intro b) | ((with_reducible apply (ck_le Try.call101)); exact LEL.refl _; exact valLetterF _ _) | ((with_reducible first | refine w_region ?_ ?_ | refine w_dra ?_ ?_); kernel_rfl) | ((with_reducible refine Go3.go ?_ ?_); all_goals (intro hb; (try with_reducible intro hb1); (try (exfalso; first | contradiction | omega)))) | fail)
          refine ⟨i + 1, ⟨hlt, HE, ?_, ?_, ?_, ?_, rfl⟩, ?_⟩
          all_goals (first | rfl | assumption | omega | (simp (disch := omega) only [push_cast, simprocAttr, *]; try omega; done))
        · have hL' : isLetter x = false := by simpa using hL
          have hq := nameC_yes hnc hL'
          clear hnc hL hc
          repeat' (first | with_reducible refine Go1.go ?_ | ((with_reducible apply ev_go); (focus ((try simp (disch := omega) only [push_cast, simprocAttr, *]); (try exact rfl); done))) | ((with_reducible refine w_last ?_ ?_ ?_); kernel_rfl; rfl) | with_reducible refine Go2.go ?_ | ((with_reducible first | apply w_stepG | refine s_bi ?_ ?_ | refine blk_ne ?_ ?_); rfl) | ((with_reducible refine al_go ?_); intro b) | ((with_reducible apply (ck_le Try.call101)); exact LEL.refl _; exact valLetterF _ _) | ((with_reducible first | refine w_region ?_ ?_ | refine w_dra ?_ ?_); kernel_rfl) | ((with_reducible refine Go3.go ?_ ?_); all_goals (intro hb; (try with_reducible intro hb1); (try (exfalso; first | contradiction | omega)))) | fail)
          all_goals
            refine ⟨i + 1, ⟨hlt, HE, ?_, ?_, ?_, ?_, rfl⟩, ?_⟩
            all_goals (first | rfl | assumption | omega | (simp (disch := omega) only [push_cast, simprocAttr, *]; try omega; done))
      · obtain ⟨hL, hq⟩ := nameC_no (show nameC x = false by simpa using hnc)
        rw [show nameC x = false by simpa using hnc, Bool.false_and] at HE
        rw [HE]
        clear HE HT hnc hc
        repeat' (first | with_reducible refine Go1.go ?_ | ((with_reducible apply ev_go); (focus ((try simp (disch := omega) only [push_cast, simprocAttr, *]); (try exact rfl); done))) | ((with_reducible refine w_last ?_ ?_ ?_); kernel_rfl; rfl) | with_reducible refine Go2.go ?_ | ((with_reducible first | apply w_stepG | refine s_bi ?_ ?_ | refine blk_ne ?_ ?_); rfl) | ((with_reducible refine al_go ?_); intro b) | ((with_reducible apply (ck_le Try.call101)); exact LEL.refl _; exact valLetterF _ _) | ((with_reducible first | refine w_region ?_ ?_ | refine w_dra ?_ ?_); kernel_rfl) | ((with_reducible refine Go3.go ?_ ?_); all_goals (intro hb; (try with_reducible intro hb1); (try (exfalso; first | contradiction | omega)))) | fail)
        all_goals (refine ret_eq (by simp) (by first | rfl | assumption) (by (repeat (first | exact List.Sublist.refl _ | apply List.Sublist.cons))) ?_; (try simp (disch := omega) only [push_cast, simprocAttr, *]); try (first | exact LE.refl _ | exact LE.sl _ _ | ((first | refine LE.tup ?_ | refine LE.agg ?_); (repeat' (first | exact LEL.nil | refine LEL.cons ?_ ?_ | exact LE.refl _ | exact LE.sl _ _ | refine LE.agg ?_)); done) | refine LE.of_eq ?_))
    · have HE := HT.out
      rw [List.drop_eq_nil_of_le (by omega)] at HE
      rw [HE, List.all_nil]
      clear HE HT hc
      repeat' (first | with_reducible refine Go1.go ?_ | ((with_reducible apply ev_go); (focus ((try simp (disch := omega) only [push_cast, simprocAttr, *]); (try exact rfl); done))) | ((with_reducible refine w_last ?_ ?_ ?_); kernel_rfl; rfl) | with_reducible refine Go2.go ?_ | ((with_reducible first | apply w_stepG | refine s_bi ?_ ?_ | refine blk_ne ?_ ?_); rfl) | ((with_reducible refine al_go ?_); intro b) | ((with_reducible apply (ck_le Try.call101)); exact LEL.refl _; exact valLetterF _ _) | ((with_reducible first | refine w_region ?_ ?_ | refine w_dra ?_ ?_); kernel_rfl) | ((with_reducible refine Go3.go ?_ ?_); all_goals (intro hb; (try with_reducible intro hb1); (try (exfalso; first | contradiction | omega)))) | fail)
      all_goals (refine ret_eq (by simp) (by first | rfl | assumption) (by (repeat (first | exact List.Sublist.refl _ | apply List.Sublist.cons))) ?_; (try simp (disch := omega) only [push_cast, simprocAttr, *]); try (first | exact LE.refl _ | exact LE.sl _ _ | ((first | refine LE.tup ?_ | refine LE.agg ?_); (repeat' (first | exact LEL.nil | refine LEL.cons ?_ ?_ | exact LE.refl _ | exact LE.sl _ _ | refine LE.agg ?_)); done) | refine LE.of_eq ?_))
  · have : isName s.data.toList = false := by rw [hct]; exact isName_not (by simpa using hc)
    have hc' : isLetter c = false := by simpa using hc
    rw [this]
    clear this hct hc
    repeat' (first | with_reducible refine Go1.go ?_ | ((with_reducible apply ev_go); (focus ((try simp (disch := omega) only [push_cast, simprocAttr, *]); (try exact rfl); done))) | ((with_reducible refine w_last ?_ ?_ ?_); kernel_rfl; rfl) | with_reducible refine Go2.go ?_ | ((with_reducible first | apply w_stepG | refine s_bi ?_ ?_ | refine blk_ne ?_ ?_); rfl) | ((with_reducible refine al_go ?_); intro b) | ((with_reducible apply (ck_le Try.call101)); exact LEL.refl _; exact valLetterF _ _) | ((with_reducible first | refine w_region ?_ ?_ | refine w_dra ?_ ?_); kernel_rfl) | ((with_reducible refine Go3.go ?_ ?_); all_goals (intro hb; (try with_reducible intro hb1); (try (exfalso; first | contradiction | omega)))) | fail)
    all_goals (refine ret_eq (by simp) (by first | rfl | assumption) (by (repeat (first | exact List.Sublist.refl _ | apply List.Sublist.cons))) ?_; (try simp (disch := omega) only [push_cast, simprocAttr, *]); try (first | exact LE.refl _ | exact LE.sl _ _ | ((first | refine LE.tup ?_ | refine LE.agg ?_); (repeat' (first | exact LEL.nil | refine LEL.cons ?_ ?_ | exact LE.refl _ | exact LE.sl _ _ | refine LE.agg ?_)); done) | refine LE.of_eq ?_))
end Go.Proofs.Ytooaagmhgakhgaa
end

section
namespace Go.Proofs.Ytooaagmhgakhgaa
set_option linter.unusedSimpArgs false
attribute [local push_cast] encB encI V.cells_mk V.cells_take V.cells_len isE_eq
open Go.RowKit
set_option maxRecDepth 10000
set_option maxHeartbeats 4000000
open V in
theorem refIsNameF (s : ByteArray) (st : St) : TrF Try.prog 77 [.str s] st fun x st' => x = .b (V.isName s.data.toList) ∧ st' = st := by
  have hl : s.data.toList.length = s.size := by simp
  refine trF_enter (ts := [2]) Try.func77 rfl (by rw [Try.ntmps77]; exact Nat.le_of_ble_eq_true rfl) (fun tmps w => by simp [results, Try.results77, go_sem, resVal]) ?_
  simp only [Try.ntmps77]
  obtain ⟨B, hB⟩ : ∃ B, isName s.data.toList = B := ⟨_, rfl⟩
  have HB := Lib.hid hB
  rw [hB]
  clear hB
  by_cases h0 : s.size < 1
  · have := HB.out
    rw [isName, decide_eq_false (show ¬ 1 ≤ s.data.toList.length by omega)] at this
    rw [← this]
    clear this hl HB
    repeat' (first | with_reducible refine Go1.go ?_ | ((with_reducible apply ev_go); (focus ((try simp (disch := omega) only [push_cast, simprocAttr, *]); (try exact rfl); done))) | ((with_reducible refine w_last ?_ ?_ ?_); kernel_rfl; rfl) | with_reducible refine Go2.go ?_ | ((with_reducible first | apply w_stepG | refine s_bi ?_ ?_ | refine blk_ne ?_ ?_); rfl) | ((with_reducible refine al_go ?_); intro b) | ((with_reducible first | refine w_region ?_ ?_ | refine w_dra ?_ ?_); kernel_rfl) | ((with_reducible refine Go3.go ?_ ?_); all_goals (intro hb; (try with_reducible intro hb1); (try (exfalso; first | contradiction | omega)))) | fail)
    all_goals (refine ret_eq (by simp) (by first | rfl | assumption) (by (repeat (first | exact List.Sublist.refl _ | apply List.Sublist.cons))) ?_; (try simp (disch := omega) only [push_cast, simprocAttr, *]); try (first | exact LE.refl _ | exact LE.sl _ _ | ((first | refine LE.tup ?_ | refine LE.agg ?_); (repeat' (first | exact LEL.nil | refine LEL.cons ?_ ?_ | exact LE.refl _ | exact LE.sl _ _ | refine LE.agg ?_)); done) | refine LE.of_eq ?_))
  by_cases h40 : 40 < s.size
  · have := HB.out
    rw [isName, decide_eq_false (show ¬ s.data.toList.length ≤ 40 by omega)] at this
    rw [← this, Bool.and_false, Bool.false_and]
    clear this hl HB
    repeat' (first | with_reducible refine Go1.go ?_ | ((with_reducible apply ev_go); (focus ((try simp (disch := omega) only [push_cast, simprocAttr, *]); (try exact rfl); done))) | ((with_reducible refine w_last ?_ ?_ ?_); kernel_rfl; rfl) | with_reducible refine Go2.go ?_ | ((with_reducible first | apply w_stepG | refine s_bi ?_ ?_ | refine blk_ne ?_ ?_); rfl) | ((with_reducible refine al_go ?_); intro b) | ((with_reducible first | refine w_region ?_ ?_ | refine w_dra ?_ ?_); kernel_rfl) | ((with_reducible refine Go3.go ?_ ?_); all_goals (intro hb; (try with_reducible intro hb1); (try (exfalso; first | contradiction | omega)))) | fail)
    all_goals (refine ret_eq (by simp) (by first | rfl | assumption) (by (repeat (first | exact List.Sublist.refl _ | apply List.Sublist.cons))) ?_; (try simp (disch := omega) only [push_cast, simprocAttr, *]); try (first | exact LE.refl _ | exact LE.sl _ _ | ((first | refine LE.tup ?_ | refine LE.agg ?_); (repeat' (first | exact LEL.nil | refine LEL.cons ?_ ?_ | exact LE.refl _ | exact LE.sl _ _ | refine LE.agg ?_)); done) | refine LE.of_eq ?_))
  have HN : Hid (B = nameFrom 0 (s.data.toList.drop 0)) := by
    show _ = _
    rw [← HB.out, isName, decide_eq_true (show s.data.toList.length ≤ 40 by omega), decide_eq_true (show 1 ≤ s.data.toList.length by omega)]; rfl
  clear HB
  repeat' (first | with_reducible refine Go1.go ?_ | ((with_reducible apply ev_go); (focus ((try simp (disch := omega) only [push_cast, simprocAttr, *]); (try exact rfl); done))) | ((with_reducible refine w_last ?_ ?_ ?_); kernel_rfl; rfl) | with_reducible refine Go2.go ?_ | ((with_reducible first | apply w_stepG | refine s_bi ?_ ?_ | refine blk_ne ?_ ?_); rfl) | ((with_reducible refine al_go ?_); intro b) | ((with_reducible first | refine w_region ?_ ?_ | refine w_dra ?_ ?_); kernel_rfl) | ((with_reducible refine Go3.go ?_ ?_); all_goals (intro hb; (try with_reducible intro hb1); (try (exfalso; first | contradiction | omega)))) | fail)
  refine tr_loop (ι := Nat) (fun i A st' => i ≤ s.size ∧ Hid (B = nameFrom i (s.data.toList.drop i)) ∧ A.df = [] ∧ A.e 0 = .str s ∧ A.e 3 = .i i ∧ st' = st) (fun i => s.size - i) 0 ⟨Nat.zero_le _, HN, ?_, ?_, ?_, rfl⟩ ?_
  iterate 3 (focus (first | rfl | assumption | omega | (simp (disch := omega) only [push_cast, simprocAttr, *]; try omega; done)))
  rintro i A st' ⟨hi, HT, hdf, h1', h3', rfl⟩
  clear HN
  by_cases hlt : i < s.size
  · obtain ⟨x, hx⟩ : ∃ x, s.data.toList[i]? = some x := ⟨_, List.getElem?_eq_getElem (by omega)⟩
    have HE := HT.out
    rw [drop_cons hx, nameFrom] at HE
    have hx2 := x.toNat_lt
    obtain ⟨R, hR⟩ : ∃ R, nameFrom (i + 1) (List.drop (i + 1) s.data.toList) = R := ⟨_, rfl⟩
    rw [hR] at HE
    have hR := Lib.hid hR
    clear HT
    by_cases hL : (97 ≤ (x.toNat : Int) ∧ (x.toNat : Int) ≤ 122) ∨ (65 ≤ (x.toNat : Int) ∧ (x.toNat : Int) ≤ 90)
    · have hl2 : isLetter x = true := by unfold isLetter; simp only [Bool.or_eq_true, Bool.and_eq_true, decide_eq_true_eq]; exact hL
      rw [hl2, Bool.true_or, Bool.true_and, ← hR.out] at HE
      have HE := Lib.hid HE
      clear hl2
      repeat' (first | with_reducible refine Go1.go ?_ | ((with_reducible apply ev_go); (focus ((try simp (disch := omega) only [push_cast, simprocAttr, *]); (try exact rfl); done))) | ((with_reducible refine w_last ?_ ?_ ?_); kernel_rfl; rfl) | with_reducible refine Go2.go ?_ | ((with_reducible first | apply w_stepG | refine s_bi ?_ ?_ | refine blk_ne ?_ ?_); rfl) | ((with_reducible refine al_go ?_); intro b) | ((with_reducible first | refine w_region ?_ ?_ | refine w_dra ?_ ?_); kernel_rfl) | ((with_reducible refine Go3.go ?_ ?_); all_goals (intro hb; (try with_reducible intro hb1); (try (exfalso; first | contradiction | omega)))) | fail)
      all_goals
        refine ⟨i + 1, ⟨hlt, HE, ?_, ?_, ?_, rfl⟩, ?_⟩
        all_goals (first | rfl | assumption | omega | (simp (disch := omega) only [push_cast, simprocAttr, *]; try omega; done))
    · have hl2 : isLetter x = false := by unfold isLetter; simp only [Bool.or_eq_false_iff, Bool.and_eq_false_iff, decide_eq_false_iff_not]; omega
      rw [hl2, Bool.false_or] at HE
      clear hl2
      by_cases hO : i ≠ 0 ∧ ((48 ≤ (x.toNat : Int) ∧ (x.toNat : Int) ≤ 57) ∨ (x.toNat : Int) = 95 ∨ (x.toNat : Int) = 45)
      · have hO2 : isOther x = true := by unfold isOther; simp only [Bool.or_eq_true, Bool.and_eq_true, decide_eq_true_eq, beq_iff_eq]; omega
        rw [hO2, decide_eq_true hO.1, Bool.true_and, Bool.true_and, ← hR.out] at HE
        have HE := Lib.hid HE
        clear hO2
        obtain ⟨hi0, hO⟩ := hO
        have hi0' : (0 : Int) < i := by omega
        repeat' (first | with_reducible refine Go1.go ?_ | ((with_reducible apply ev_go); (focus ((try simp (disch := omega) only [push_cast, simprocAttr, *]); (try exact rfl); done))) | ((with_reducible refine w_last ?_ ?_ ?_); kernel_rfl; rfl) | with_reducible refine Go2.go ?_ | ((with_reducible first | apply w_stepG | refine s_bi ?_ ?_ | refine blk_ne ?_ ?_); rfl) | ((with_reducible refine al_go ?_); intro b) | ((with_reducible first | refine w_region ?_ ?_ | refine w_dra ?_ ?_); kernel_rfl) | ((with_reducible refine Go3.go ?_ ?_); all_goals (intro hb; (try with_reducible intro hb1); (try (exfalso; first | contradiction | omega)))) | fail)
        all_goals
          refine ⟨i + 1, ⟨hlt, HE, ?_, ?_, ?_, rfl⟩, ?_⟩
          all_goals (first | rfl | assumption | omega | (simp (disch := omega) only [push_cast, simprocAttr, *]; try omega; done))
      · have hO2 : (decide (i ≠ 0) && isOther x) = false := by
          unfold isOther
          rw [Bool.and_eq_false_iff]
          by_cases hi0 : i = 0
          · exact .inl (decide_eq_false (by omega))
          · refine .inr ?_
            simp only [Bool.or_eq_false_iff, Bool.and_eq_false_iff, decide_eq_false_iff_not, beq_eq_false_iff_ne, ne_eq]; omega
        rw [hO2, Bool.false_and] at HE
        rw [HE]
        clear HE hO2 hR
        have hO' : (i : Int) = 0 ∨ ((x.toNat : Int) < 48 ∨ 57 < (x.toNat : Int)) ∧ (x.toNat : Int) ≠ 95 ∧ (x.toNat : Int) ≠ 45 := by omega
        clear hO
        repeat' (first | with_reducible refine Go1.go ?_ | ((with_reducible apply ev_go); (focus ((try simp (disch := omega) only [push_cast, simprocAttr, *]); (try exact rfl); done))) | ((with_reducible refine w_last ?_ ?_ ?_); kernel_rfl; rfl) | with_reducible refine Go2.go ?_ | ((with_reducible first | apply w_stepG | refine s_bi ?_ ?_ | refine blk_ne ?_ ?_); rfl) | ((with_reducible refine al_go ?_); intro b) | ((with_reducible first | refine w_region ?_ ?_ | refine w_dra ?_ ?_); kernel_rfl) | ((with_reducible refine Go3.go ?_ ?_); all_goals (intro hb; (try with_reducible intro hb1); (try (exfalso; first | contradiction | omega)))) | fail)
        all_goals (refine ret_eq (by simp) (by first | rfl | assumption) (by (repeat (first | exact List.Sublist.refl _ | apply List.Sublist.cons))) ?_; (try simp (disch := omega) only [push_cast, simprocAttr, *]); try (first | exact LE.refl _ | exact LE.sl _ _ | ((first | refine LE.tup ?_ | refine LE.agg ?_); (repeat' (first | exact LEL.nil | refine LEL.cons ?_ ?_ | exact LE.refl _ | exact LE.sl _ _ | refine LE.agg ?_)); done) | refine LE.of_eq ?_))
  · have HE := HT.out
    rw [List.drop_eq_nil_of_le (by omega), nameFrom] at HE
    rw [HE]
    clear HE HT
    repeat' (first | with_reducible refine Go1.go ?_ | ((with_reducible apply ev_go); (focus ((try simp (disch := omega) only [push_cast, simprocAttr, *]); (try exact rfl); done))) | ((with_reducible refine w_last ?_ ?_ ?_); kernel_rfl; rfl) | with_reducible refine Go2.go ?_ | ((with_reducible first | apply w_stepG | refine s_bi ?_ ?_ | refine blk_ne ?_ ?_); rfl) | ((with_reducible refine al_go ?_); intro b) | ((with_reducible first | refine w_region ?_ ?_ | refine w_dra ?_ ?_); kernel_rfl) | ((with_reducible refine Go3.go ?_ ?_); all_goals (intro hb; (try with_reducible intro hb1); (try (exfalso; first | contradiction | omega)))) | fail)
    all_goals (refine ret_eq (by simp) (by first | rfl | assumption) (by (repeat (first | exact List.Sublist.refl _ | apply List.Sublist.cons))) ?_; (try simp (disch := omega) only [push_cast, simprocAttr, *]); try (first | exact LE.refl _ | exact LE.sl _ _ | ((first | refine LE.tup ?_ | refine LE.agg ?_); (repeat' (first | exact LEL.nil | refine LEL.cons ?_ ?_ | exact LE.refl _ | exact LE.sl _ _ | refine LE.agg ?_)); done) | refine LE.of_eq ?_))
end Go.Proofs.Ytooaagmhgakhgaa
end

section
namespace Go.Proofs.Ytooaagmhgakhgaa
namespace UtfL
def u (n : Nat) : UInt8 := UInt8.ofNat n
def isCodeN (c : Nat) : Bool := decide (c ≤ 1114111 ∧ (c < 55296 ∨ 57343 < c))
def isCode (c : Int) : Bool := decide (0 ≤ c) && isCodeN c.toNat
def longN (c : Nat) : Nat := if c < 128 then 1 else if c < 2048 then 2 else if c < 65536 then 3 else 4
def putN (c : Nat) : List UInt8 :=
  if c < 128 then [u c] else if c < 2048 then [u (192 + c / 64), u (128 + c % 64)]
  else if c < 65536 then [u (224 + c / 4096), u (128 + c / 64 % 64), u (128 + c % 64)]
  else [u (240 + c / 262144), u (128 + c / 4096 % 64), u (128 + c / 64 % 64), u (128 + c % 64)]
def put (c : Int) : List UInt8 := if isCode c then putN c.toNat else []
def first (x : Nat) : Nat × Nat :=
  if x < 128 then (1, x) else if 192 ≤ x ∧ x < 224 then (2, x % 32) else if 224 ≤ x ∧ x < 240 then (3, x % 16) else if 240 ≤ x ∧ x < 248 then (4, x % 8) else (0, 0)
def cont : Nat → List UInt8 → Option Nat
  | c, [] => some c
  | c, x :: r => if x.toNat / 64 = 2 then cont (c * 64 + x.toNat % 64) r else none
def getL : List UInt8 → Option (Nat × Nat)
  | [] => none
  | x :: r =>
    if (first x.toNat).1 = 0 ∨ r.length + 1 < (first x.toNat).1 then none
    else match cont (first x.toNat).2 (r.take ((first x.toNat).1 - 1)) with
      | none => none
      | some c => if isCodeN c && longN c == (first x.toNat).1 then some (c, (first x.toNat).1) else none
def getAt (b : List UInt8) (at_ : Int) : Option (Nat × Nat) := if 0 ≤ at_ ∧ at_ < b.length then getL (b.drop at_.toNat) else none

theorem u_toNat {n : Nat} (h : n < 256) : (u n).toNat = n := by rw [u, UInt8.toNat_ofNat']; omega
theorem u_eq {n : Nat} {x : UInt8} (h : n = x.toNat) : u n = x := by
  apply UInt8.toNat_inj.1
  rw [h, u_toNat x.toNat_lt]
theorem putN_len (c : Nat) : (putN c).length = longN c := by unfold putN longN; (repeat' split) <;> rfl
theorem longN_pos (c : Nat) : 1 ≤ longN c ∧ longN c ≤ 4 := by unfold longN; (repeat' split) <;> omega

theorem get_of_put {c : Nat} (h : isCodeN c = true) (r : List UInt8) : getL (putN c ++ r) = some (c, longN c) := by
  have hc : c ≤ 1114111 := by simp only [isCodeN, decide_eq_true_eq] at h; exact h.1
  by_cases c1 : c < 128
  · have e : putN c = [u c] := by simp [putN, c1]
    have hf : first (u c).toNat = (1, c) := by rw [u_toNat (by omega)]; simp [first, c1]
    have hl : longN c = 1 := by simp [longN, c1]
    rw [e, List.singleton_append, getL, hf]
    simp [cont, h, hl]
  · by_cases c2 : c < 2048
    · have e : putN c = [u (192 + c / 64), u (128 + c % 64)] := by simp [putN, c1, c2]
      have h0 := u_toNat (n := 192 + c / 64) (by omega)
      have h1 := u_toNat (n := 128 + c % 64) (by omega)
      have hf : first (u (192 + c / 64)).toNat = (2, c / 64) := by
        rw [h0, first, if_neg (by omega), if_pos (by omega)]; congr 1; omega
      have hl : longN c = 2 := by simp [longN, c1, c2]
      have hco : cont (c / 64) [u (128 + c % 64)] = some c := by
        rw [cont, h1, if_pos (by omega), cont]; congr 1; omega
      rw [e]
      show getL (u (192 + c / 64) :: (u (128 + c % 64) :: r)) = _
      rw [getL, hf]
      simp [hco, h, hl]
    · by_cases c3 : c < 65536
      · have e : putN c = [u (224 + c / 4096), u (128 + c / 64 % 64), u (128 + c % 64)] := by simp [putN, c1, c2, c3]
        have h0 := u_toNat (n := 224 + c / 4096) (by omega)
        have h1 := u_toNat (n := 128 + c / 64 % 64) (by omega)
        have h2 := u_toNat (n := 128 + c % 64) (by omega)
        have hf : first (u (224 + c / 4096)).toNat = (3, c / 4096) := by
          rw [h0, first, if_neg (by omega), if_neg (by omega), if_pos (by omega)]; congr 1; omega
        have hl : longN c = 3 := by simp [longN, c1, c2, c3]
        have hco : cont (c / 4096) [u (128 + c / 64 % 64), u (128 + c % 64)] = some c := by
          rw [cont, h1, if_pos (by omega), cont, h2, if_pos (by omega), cont]; congr 1; omega
        rw [e]
        show getL (u (224 + c / 4096) :: (u (128 + c / 64 % 64) :: (u (128 + c % 64) :: r))) = _
        rw [getL, hf]
        simp [hco, h, hl]
      · have e : putN c = [u (240 + c / 262144), u (128 + c / 4096 % 64), u (128 + c / 64 % 64), u (128 + c % 64)] := by simp [putN, c1, c2, c3]
        have h0 := u_toNat (n := 240 + c / 262144) (by omega)
        have h1 := u_toNat (n := 128 + c / 4096 % 64) (by omega)
        have h2 := u_toNat (n := 128 + c / 64 % 64) (by omega)
        have h3 := u_toNat (n := 128 + c % 64) (by omega)
        have hf : first (u (240 + c / 262144)).toNat = (4, c / 262144) := by
          rw [h0, first, if_neg (by omega), if_neg (by omega), if_neg (by omega), if_pos (by omega)]; congr 1; omega
        have hl : longN c = 4 := by simp [longN, c1, c2, c3]
        have hco : cont (c / 262144) [u (128 + c / 4096 % 64), u (128 + c / 64 % 64), u (128 + c % 64)] = some c := by
          rw [cont, h1, if_pos (by omega), cont, h2, if_pos (by omega), cont, h3, if_pos (by omega), cont]; congr 1; omega
        rw [e]
        show getL (u (240 + c / 262144) :: (u (128 + c / 4096 % 64) :: (u (128 + c / 64 % 64) :: (u (128 + c % 64) :: r)))) = _
        rw [getL, hf]
        simp [hco, h, hl]

theorem put_of_get {l : List UInt8} {c n : Nat} (h : getL l = some (c, n)) : isCodeN c = true ∧ n = longN c ∧ ∃ r, l = putN c ++ r := by
  cases l with
  | nil => cases h
  | cons x r =>
    rw [getL] at h
    split at h
    · cases h
    · rename_i hn
      cases hco : cont (first x.toNat).2 (r.take ((first x.toNat).1 - 1)) with
      | none => rw [hco] at h; cases h
      | some c' =>
        rw [hco] at h
        dsimp only at h
        split at h
        · rename_i hok
          simp only [Option.some.injEq, Prod.mk.injEq] at h
          obtain ⟨rfl, rfl⟩ := h
          simp only [Bool.and_eq_true, beq_iff_eq] at hok
          obtain ⟨hcode, hlong⟩ := hok
          refine ⟨hcode, hlong.symm, ?_⟩
          have hx := x.toNat_lt
          have hF : (x.toNat < 128 ∧ first x.toNat = (1, x.toNat)) ∨ ((192 ≤ x.toNat ∧ x.toNat < 224) ∧ first x.toNat = (2, x.toNat % 32)) ∨ ((224 ≤ x.toNat ∧ x.toNat < 240) ∧ first x.toNat = (3, x.toNat % 16)) ∨
              ((240 ≤ x.toNat ∧ x.toNat < 248) ∧ first x.toNat = (4, x.toNat % 8)) ∨ first x.toNat = (0, 0) := by
            unfold first
            by_cases q1 : x.toNat < 128
            · exact .inl ⟨q1, by rw [if_pos q1]⟩
            · rw [if_neg q1]
              by_cases q2 : 192 ≤ x.toNat ∧ x.toNat < 224
              · exact .inr (.inl ⟨q2, by rw [if_pos q2]⟩)
              · rw [if_neg q2]
                by_cases q3 : 224 ≤ x.toNat ∧ x.toNat < 240
                · exact .inr (.inr (.inl ⟨q3, by rw [if_pos q3]⟩))
                · rw [if_neg q3]
                  by_cases q4 : 240 ≤ x.toNat ∧ x.toNat < 248
                  · exact .inr (.inr (.inr (.inl ⟨q4, by rw [if_pos q4]⟩)))
                  · exact .inr (.inr (.inr (.inr (by rw [if_neg q4]))))
          rcases hF with ⟨hr, hf⟩ | ⟨hr, hf⟩ | ⟨hr, hf⟩ | ⟨hr, hf⟩ | hf
          all_goals rw [hf] at hn hco hlong; dsimp only at hn hco hlong
          · simp [cont] at hco
            subst hco
            refine ⟨r, ?_⟩
            rw [putN, if_pos hr, u_eq rfl]; rfl
          · match r, hn with
            | y :: r', _ =>
              have hy := y.toNat_lt
              simp only [Nat.reduceSub, List.take_succ_cons, List.take_zero, cont] at hco
              split at hco
              · rename_i g1
                injection hco with hco
                have c1 : ¬ c' < 128 := fun q => by simp [longN, q] at hlong
                have c2 : c' < 2048 := by omega
                refine ⟨r', ?_⟩
                rw [putN, if_neg c1, if_pos c2, u_eq (x := x) (by omega), u_eq (x := y) (by omega)]; rfl
              · cases hco
            | [], hn => exact absurd (by simp) hn
          · match r, hn with
            | y :: z :: r', _ =>
              have hy := y.toNat_lt
              have hz := z.toNat_lt
              simp only [Nat.reduceSub, List.take_succ_cons, List.take_zero, cont] at hco
              split at hco
              · rename_i g1
                split at hco
                · rename_i g2
                  injection hco with hco
                  have c1 : ¬ c' < 128 := fun q => by simp [longN, q] at hlong
                  have c2 : ¬ c' < 2048 := fun q => by simp [longN, c1, q] at hlong
                  have c3 : c' < 65536 := by omega
                  refine ⟨r', ?_⟩
                  rw [putN, if_neg c1, if_neg c2, if_pos c3, u_eq (x := x) (by omega), u_eq (x := y) (by omega), u_eq (x := z) (by omega)]; rfl
                · cases hco
              · cases hco
            | [_], hn => exact absurd (by simp) hn
            | [], hn => exact absurd (by simp) hn
          · match r, hn with
            | y :: z :: t :: r', _ =>
              have hy := y.toNat_lt
              have hz := z.toNat_lt
              have ht := t.toNat_lt
              simp only [Nat.reduceSub, List.take_succ_cons, List.take_zero, cont] at hco
              split at hco
              · rename_i g1
                split at hco
                · rename_i g2
                  split at hco
                  · rename_i g3
                    injection hco with hco
                    have c1 : ¬ c' < 128 := fun q => by simp [longN, q] at hlong
                    have c2 : ¬ c' < 2048 := fun q => by simp [longN, c1, q] at hlong
                    have c3 : ¬ c' < 65536 := fun q => by simp [longN, c1, c2, q] at hlong
                    refine ⟨r', ?_⟩
                    rw [putN, if_neg c1, if_neg c2, if_neg c3, u_eq (x := x) (by omega), u_eq (x := y) (by omega), u_eq (x := z) (by omega), u_eq (x := t) (by omega)]; rfl
                  · cases hco
                · cases hco
              · cases hco
            | [_, _], hn => exact absurd (by simp) hn
            | [_], hn => exact absurd (by simp) hn
            | [], hn => exact absurd (by simp) hn
          · exact absurd (.inl rfl) hn
        · cases h
theorem get_len {l : List UInt8} {c n : Nat} (h : getL l = some (c, n)) : 1 ≤ n ∧ n ≤ 4 ∧ n ≤ l.length := by
  obtain ⟨_, rfl, r, rfl⟩ := put_of_get h
  have := longN_pos c
  rw [List.length_append, putN_len]
  omega
theorem get_take {l : List UInt8} {c n : Nat} (h : getL l = some (c, n)) : l.take n = putN c := by
  obtain ⟨_, rfl, r, rfl⟩ := put_of_get h
  rw [← putN_len, List.take_left]
end UtfL
end Go.Proofs.Ytooaagmhgakhgaa
end

section
namespace Go.Proofs.Ytooaagmhgakhgaa
open Go.RowKit UtfL

set_option maxHeartbeats 400000 in
theorem code_any (c : Int) (w : World) :
    Calls Try.prog 129 #[.int .i64 c] w fun e w' => e = .returned (.bool (isCode c)) ∧ w = w' := by
  have H : c < 0 ∨ (0 ≤ c ∧ c < 55296) ∨ (55296 ≤ c ∧ c ≤ 57343) ∨ (57343 < c ∧ c ≤ 1114111) ∨ 1114111 < c := by omega
  have hcode : isCode c = decide ((0 ≤ c ∧ c < 55296) ∨ (57343 < c ∧ c ≤ 1114111)) := by
    unfold isCode isCodeN
    rw [← Bool.decide_and]
    congr 1
    apply propext
    omega
  have HC := Lib.hid hcode
  clear hcode
  rcases H with h | ⟨h1, h2⟩ | ⟨h1, h2⟩ | ⟨h1, h2⟩ | h
  all_goals
    go_enter Try.func129, Try.ntmps129
    go_wp2
    go_ret
    exact ⟨ret_bool (by rw [HC.out]; rw [Bool.eq_iff_iff]; simp; omega), rfl⟩
def longHd (c : Int) : Int := if c < 128 then 0 else if c < 2048 then 192 else if c < 65536 then 224 else 240
theorem long_any (c : Int) (w : World) :
    Calls Try.prog 128 #[.int .i64 c] w fun e w' => e = .returned (.tuple #[.int .i64 (longN c.toNat : Nat), .int .i64 (longHd c)]) ∧ w = w' := by
  have H : c < 128 ∨ (128 ≤ c ∧ c < 2048) ∨ (2048 ≤ c ∧ c < 65536) ∨ 65536 ≤ c := by omega
  rcases H with h | ⟨h1, h2⟩ | ⟨h1, h2⟩ | h
  · have HL := Lib.hid (show longN c.toNat = 1 by unfold longN; rw [if_pos (by omega)])
    have HD := Lib.hid (show longHd c = _ from by rw [longHd, if_pos h])
    rw [HL.out, HD.out]
    go_enter Try.func128, Try.ntmps128
    go_wp2
    go_ret2
    exact ⟨rfl, rfl⟩
  · have HL := Lib.hid (show longN c.toNat = 2 by unfold longN; rw [if_neg (by omega), if_pos (by omega)])
    have HD := Lib.hid (show longHd c = _ from by rw [longHd, if_neg (by omega), if_pos h2])
    rw [HL.out, HD.out]
    go_enter Try.func128, Try.ntmps128
    go_wp2
    go_ret2
    exact ⟨rfl, rfl⟩
  · have HL := Lib.hid (show longN c.toNat = 3 by unfold longN; rw [if_neg (by omega), if_neg (by omega), if_pos (by omega)])
    have HD := Lib.hid (show longHd c = _ from by rw [longHd, if_neg (by omega), if_neg (by omega), if_pos h2])
    rw [HL.out, HD.out]
    go_enter Try.func128, Try.ntmps128
    go_wp2
    go_ret2
    exact ⟨rfl, rfl⟩
  · have HL := Lib.hid (show longN c.toNat = 4 by unfold longN; rw [if_neg (by omega), if_neg (by omega), if_neg (by omega)])
    have HD := Lib.hid (show longHd c = _ from by rw [longHd, if_neg (by omega), if_neg (by omega), if_neg (by omega)])
    rw [HL.out, HD.out]
    go_enter Try.func128, Try.ntmps128
    go_wp2
    go_ret2
    exact ⟨rfl, rfl⟩
set_option maxRecDepth 100000 in
set_option maxHeartbeats 400000 in
theorem first_any (x : UInt8) (w : World) :
    Calls Try.prog 127 #[.int .u8 (x.toNat : Int)] w fun e w' => e = .returned (.tuple #[.int .i64 ((first x.toNat).1 : Nat), .int .i64 ((first x.toNat).2 : Nat)]) ∧ w = w' := by
  have hx := x.toNat_lt
  generalize x.toNat = x at *
  have H : x < 128 ∨ (128 ≤ x ∧ x < 192) ∨ (192 ≤ x ∧ x < 224) ∨ (224 ≤ x ∧ x < 240) ∨ (240 ≤ x ∧ x < 248) ∨ 248 ≤ x := by omega
  rcases H with h | ⟨h1, h2⟩ | ⟨h1, h2⟩ | ⟨h1, h2⟩ | ⟨h1, h2⟩ | h
  · have HF := Lib.hid (show first x = (1, x) by unfold first; rw [if_pos (by omega)])
    rw [HF.out]
    go_enter Try.func127, Try.ntmps127
    go_wp2
    go_ret2
    exact ⟨rfl, rfl⟩
  · have HF := Lib.hid (show first x = (0, 0) by unfold first; rw [if_neg (by omega), if_neg (by omega), if_neg (by omega), if_neg (by omega)])
    rw [HF.out]
    go_enter Try.func127, Try.ntmps127
    go_wp2
    go_ret2
    exact ⟨rfl, rfl⟩
  · have HF := Lib.hid (show first x = (2, x % 32) by unfold first; rw [if_neg (by omega), if_pos (by omega)])
    have hb := u8_and_nat x 31 hx (by decide)
    rw [nat_mask5] at hb
    rw [HF.out]
    go_enter Try.func127, Try.ntmps127
    go_wp2
    go_ret2
    exact ⟨rfl, rfl⟩
  · have HF := Lib.hid (show first x = (3, x % 16) by unfold first; rw [if_neg (by omega), if_neg (by omega), if_pos (by omega)])
    rw [HF.out]
    go_enter Try.func127, Try.ntmps127
    go_wp2
    go_ret2
    exact ⟨rfl, rfl⟩
  · have HF := Lib.hid (show first x = (4, x % 8) by unfold first; rw [if_neg (by omega), if_neg (by omega), if_neg (by omega), if_pos (by omega)])
    rw [HF.out]
    go_enter Try.func127, Try.ntmps127
    go_wp2
    go_ret2
    exact ⟨rfl, rfl⟩
  · have HF := Lib.hid (show first x = (0, 0) by unfold first; rw [if_neg (by omega), if_neg (by omega), if_neg (by omega), if_neg (by omega)])
    rw [HF.out]
    go_enter Try.func127, Try.ntmps127
    go_wp2
    go_ret2
    exact ⟨rfl, rfl⟩
end Go.Proofs.Ytooaagmhgakhgaa
end

section
namespace Go.Proofs.Ytooaagmhgakhgaa
open Go.RowKit UtfL

theorem andNot_bad : ∀ x : Nat, x < 256 → (x &&& 192 = 128 ↔ x / 64 = 2) := by
  have h : ∀ x : Fin 256, (x.1 &&& 192 = 128 ↔ x.1 / 64 = 2) := by decide +kernel
  intro x hx
  exact h ⟨x, hx⟩
def getRes (r : Option (Nat × Nat)) : Value := match r with
  | some (c, n) => .tuple #[.int .i64 (c : Int), .int .i64 (n : Int), .bool true]
  | none => .tuple #[.int .i64 0, .int .i64 0, .bool false]
theorem cont_snoc (x : UInt8) : ∀ (c : Nat) (r : List UInt8), cont c (r ++ [x]) = (cont c r).bind fun d => if x.toNat / 64 = 2 then some (d * 64 + x.toNat % 64) else none
  | c, [] => by simp [cont]
  | c, y :: r => by
    rw [List.cons_append, cont, cont]
    split
    · exact cont_snoc x _ r
    · rfl
theorem cont_bad (x : UInt8) (h : ¬ x.toNat / 64 = 2) : ∀ (c : Nat) (r s : List UInt8), cont c (r ++ x :: s) = none
  | c, [], s => by simp [cont, h]
  | c, y :: r, s => by
    rw [List.cons_append, cont]
    split
    · exact cont_bad x h _ r s
    · rfl
theorem first_cases (x : Nat) : first x = (0, 0) ∨ (first x = (1, x) ∧ x < 128) ∨ ∃ n c, first x = (n, c) ∧ 2 ≤ n ∧ n ≤ 4 ∧ c < 32 := by
  unfold first
  by_cases q1 : x < 128
  · exact .inr (.inl ⟨by rw [if_pos q1], q1⟩)
  · rw [if_neg q1]
    by_cases q2 : 192 ≤ x ∧ x < 224
    · exact .inr (.inr ⟨_, _, by rw [if_pos q2], by omega, by omega, by omega⟩)
    · rw [if_neg q2]
      by_cases q3 : 224 ≤ x ∧ x < 240
      · exact .inr (.inr ⟨_, _, by rw [if_pos q3], by omega, by omega, by omega⟩)
      · rw [if_neg q3]
        by_cases q4 : 240 ≤ x ∧ x < 248
        · exact .inr (.inr ⟨_, _, by rw [if_pos q4], by omega, by omega, by omega⟩)
        · exact .inl (by rw [if_neg q4])
set_option maxRecDepth 100000 in
set_option maxHeartbeats 1000000 in
theorem utfGet_any (v : Value) (b : List UInt8) (at_ : Int) (w : World) (hb : Sees bv w v b) :
    Calls Try.prog 126 #[v, .int .i64 at_] w fun e w' => e = .returned (getRes (getAt b at_)) ∧ w = w' := by
  obtain ⟨a, cap, rfl, h1, h2, h3, h4⟩ := hb
  unfold maxLen at h2
  by_cases hin : 0 ≤ at_ ∧ at_ < b.length
  · obtain ⟨g1, g2⟩ := hin
    obtain ⟨k, rfl⟩ := Int.eq_ofNat_of_zero_le g1
    have hk : k < b.length := by omega
    obtain ⟨⟨bb, off, s⟩, rfl⟩ : ∃ b, a = some b := by
      cases a with
      | none => have := h3 rfl; omega
      | some b => exact ⟨b, rfl⟩
    obtain ⟨e1, e2, e3⟩ := h4 _ rfl (by omega)
    dsimp only at e1 e2 e3
    subst e1
    clear h4 h3
    have hc0 := e3 k hk
    have hd : b.drop k = b[k] :: b.drop (k + 1) := (List.getElem_cons_drop hk).symm
    obtain ⟨R, hR⟩ : ∃ R, getAt b (k : Int) = R := ⟨_, rfl⟩
    rw [hR]
    rw [getAt, if_pos ⟨g1, g2⟩, Int.toNat_natCast, hd] at hR
    have HR := Lib.hid hR
    have HE := Lib.hid e3
    clear hd e3 hR
    generalize b[k] = x at *
    have hx := x.toNat_lt
    unfold bv at hc0
    rcases first_cases x.toNat with hf | ⟨hf, hx1⟩ | ⟨n, c0, hf, hn1, hn2, hc⟩
    · have hr0 : R = none := by rw [← HR.out, getL, hf]; rfl
      have HF := Lib.hid hf
      subst hr0
      clear hf HE
      go_enter Try.func126, Try.ntmps126
      go_wp2_with fail
      refine (first_any _ _).mono ?_
      rintro e w' ⟨rfl, rfl⟩
      rw [HF.out]
      go_wp2
      go_ret3
      exact ⟨rfl, rfl⟩
    · have hcN : isCodeN x.toNat = true := by simp [isCodeN]; omega
      have hr0 : R = some (x.toNat, 1) := by
        rw [← HR.out, getL, hf]
        have hl1 : longN x.toNat = 1 := by simp [longN, hx1]
        simp [cont, hcN, hl1]
      have HF := Lib.hid hf
      subst hr0
      have HC : Hid (isCode (x.toNat : Int) = true) := by show isCode (x.toNat : Int) = true; simp [isCode, hcN]
      have HL : Hid (longN (x.toNat : Int).toNat = 1) := by show longN (x.toNat : Int).toNat = 1; rw [Int.toNat_natCast, longN, if_pos hx1]
      clear hf HE hcN
      go_enter Try.func126, Try.ntmps126
      go_wp2_with fail
      refine (first_any _ _).mono ?_
      rintro e w' ⟨rfl, rfl⟩
      rw [HF.out]
      by_cases hcap : cap = k + 1
      all_goals
        go_wp2
        refine wp_loop_rounds 1 ?_
        rw [rounds_succ]
        go_wp2_with fail
        refine (long_any _ _).mono ?_
        rintro e w' ⟨rfl, rfl⟩
        rw [HL.out]
        go_wp2_with fail
        refine (code_any _ _).mono ?_
        rintro e w' ⟨rfl, rfl⟩
        rw [HC.out]
        go_wp2
        go_ret3
        exact ⟨rfl, rfl⟩
    · have HF := Lib.hid hf
      by_cases hfit : k + n ≤ b.length
      · have hcap : ¬ cap = k + 1 := by omega
        have hcap2 : k + 1 < cap := by omega
        obtain ⟨m, hm⟩ : ∃ m, n = m + 1 := ⟨n - 1, by omega⟩
        obtain ⟨rest, hrest⟩ : ∃ rest, rest = b.drop (k + 1) := ⟨_, rfl⟩
        rw [← hrest] at HR
        have hlr : m ≤ rest.length := by rw [hrest, List.length_drop]; omega
        have hcell : ∀ j (hj : j < rest.length), w.cell? ⟨bb, off + (k + 1) + j, none⟩ = some (bv rest[j]) := fun j hj => by
          subst hrest
          rw [List.length_drop] at hj
          have := HE.out (k + 1 + j) (by omega)
          rw [← Nat.add_assoc] at this
          rw [this, List.getElem_drop]
        have hRR : R = match cont c0 (rest.take m) with
            | none => none
            | some c => if isCodeN c && longN c == n then some (c, n) else none := by
          rw [← HR.out, getL, hf]
          rw [if_neg (by simp <;> omega), show n - 1 = m by omega]
          all_goals (dsimp only; cases cont c0 (rest.take m) <;> rfl)
        have HCE := Lib.hid hcell
        have HRR := Lib.hid hRR
        have HM := Lib.hid hm
        clear hcell hRR HE HR hf hrest hm
        have t1 : ((n : Int) == 0) = false := by rw [beq_eq_false_iff_ne]; omega
        have t2 : decide ((b.length : Int) - (k : Int) < (n : Int)) = false := by rw [decide_eq_false_iff_not]; omega
        go_enter Try.func126, Try.ntmps126
        go_wp2_with fail
        refine (first_any _ _).mono ?_
        rintro e w' ⟨rfl, rfl⟩
        rw [HF.out]
        go_wp2
        go_loop [8, 10, 47] (fun c _ i => ∃ j d : Nat, j ≤ m ∧ i = .int .i64 j ∧ c = .int .i64 d ∧ cont c0 (rest.take j) = some d ∧ d < 32 * 64 ^ j) (fun _ _ i => m - (intOf i).toNat)
        case atStart => exact ⟨0, c0, Nat.zero_le _, rfl, rfl, by simp [cont], by omega⟩
        case round =>
          obtain ⟨j, d, hj, rfl, rfl, hco, hd⟩ := hrel
          have HCO := Lib.hid hco
          have HD := Lib.hid hd
          have hd64 : d < 8388608 := by
            have hm := HM.out
            have : 64 ^ j ≤ 64 ^ 3 := Nat.pow_le_pow_right (by decide) (by omega)
            omega
          clear hco hd
          by_cases hlt : j < m
          · have hjr : j < rest.length := by omega
            have hc1 := HCE.out j hjr
            have hjc : j < k + n - (k + 1) := by have hm := HM.out; omega
            have hts := take_snoc rest j hjr
            have hdr : rest.take m = rest.take j ++ rest[j] :: (rest.drop (j + 1)).take (m - j - 1) := by
              have e1 : rest.take m = (rest.take j ++ rest.drop j).take m := by rw [List.take_append_drop]
              rw [e1, List.take_append, List.take_take, Nat.min_eq_right (by omega), List.length_take, Nat.min_eq_left (by omega), ← List.getElem_cons_drop hjr]
              congr 1
              rw [show m - j = (m - j - 1) + 1 by omega, List.take_succ_cons]
              rfl
            have HTS := Lib.hid hts
            have HDR := Lib.hid hdr
            clear hts hdr
            generalize rest[j] = y at *
            have hy := y.toNat_lt
            have hand : bits BinOp.andNot IntKind.u8 (y.toNat : Int) 63 = ((y.toNat &&& 192 : Nat) : Int) := u8_andNot_nat y.toNat 63 hy (by decide)
            have hiff := andNot_bad y.toNat hy
            generalize y.toNat &&& 192 = Y at *
            unfold bv at hc1
            by_cases hg : y.toNat / 64 = 2
            · have hY : (((Y : Nat) : Int) != 128) = false := by rw [bne_eq_false_iff_eq]; have := hiff.2 hg; omega
              have HN : Hid (cont c0 (rest.take (j + 1)) = some (d * 64 + y.toNat % 64)) := by
                show cont c0 (rest.take (j + 1)) = _
                rw [HTS.out, cont_snoc, HCO.out]
                simp [hg]
              have hor : Hid (bits BinOp.or IntKind.i64 ((d : Int) * 64) ((y.toNat : Int) % 64) = ((d * 64 + y.toNat % 64 : Nat) : Int)) := by
                have := i64_or_nat (d * 64) (y.toNat % 64) (by omega) (by omega)
                rw [nat_join 6 (d * 64) (y.toNat % 64) (by omega) (by omega)] at this
                exact this
              have HD2 : Hid (d * 64 + y.toNat % 64 < 32 * 64 ^ (j + 1)) := by
                show d * 64 + y.toNat % 64 < 32 * 64 ^ (j + 1)
                have := HD.out
                rw [Nat.pow_succ]
                omega
              clear hiff hg
              go_wp2
              go_round
              case rel => exact ⟨j + 1, d * 64 + y.toNat % 64, by omega, by go_num, by rw [← hor.out], HN.out, HD2.out⟩
              case measure => simp [intOf]; omega
            · have hY : (((Y : Nat) : Int) != 128) = true := by
                rw [bne_iff_ne]; intro e; exact hg (hiff.1 (by omega))
              have hr0 : R = none := by
                rw [HRR.out, HDR.out, cont_bad y hg]
              subst hr0
              clear hiff hg
              go_wp2
              go_ret3
              exact ⟨rfl, rfl⟩
          · have hjm : j = m := by omega
            have hje : ¬ j < k + n - (k + 1) := by have hm := HM.out; omega
            have hRd : R = if isCodeN d && longN d == n then some (d, n) else none := by
              rw [HRR.out, ← hjm, HCO.out]
            have hcd : isCode (d : Int) = isCodeN d := by simp [isCode]
            have HCD := Lib.hid hcd
            clear hcd hjm
            by_cases hok : isCodeN d = true
            · by_cases hlo : longN d = n
              · have hr0 : R = some (d, n) := by rw [hRd]; simp [hok, hlo]
                subst hr0
                have HOK := Lib.hid hok
                have t3 : (((longN d : Nat) : Int) != (n : Int)) = false := by rw [bne_eq_false_iff_eq, hlo]
                clear hRd hok hlo
                go_wp2_with fail
                refine (long_any _ _).mono ?_
                rintro e w' ⟨rfl, rfl⟩
                rw [Int.toNat_natCast]
                go_wp2_with fail
                refine (code_any _ _).mono ?_
                rintro e w' ⟨rfl, rfl⟩
                rw [HCD.out, HOK.out]
                go_wp2
                go_ret3
                exact ⟨rfl, rfl⟩
              · have hr0 : R = none := by rw [hRd]; simp [hlo]
                subst hr0
                have HOK := Lib.hid hok
                have t3 : (((longN d : Nat) : Int) != (n : Int)) = true := by rw [bne_iff_ne]; intro e; exact hlo (by omega)
                clear hRd hok hlo
                go_wp2_with fail
                refine (long_any _ _).mono ?_
                rintro e w' ⟨rfl, rfl⟩
                rw [Int.toNat_natCast]
                go_wp2_with fail
                refine (code_any _ _).mono ?_
                rintro e w' ⟨rfl, rfl⟩
                rw [HCD.out, HOK.out]
                go_wp2
                go_ret3
                exact ⟨rfl, rfl⟩
            · have hr0 : R = none := by rw [hRd]; simp [hok]
              subst hr0
              have HOK := Lib.hid (show isCodeN d = false by simpa using hok)
              clear hRd hok
              go_wp2_with fail
              refine (long_any _ _).mono ?_
              rintro e w' ⟨rfl, rfl⟩
              rw [Int.toNat_natCast]
              go_wp2_with fail
              refine (code_any _ _).mono ?_
              rintro e w' ⟨rfl, rfl⟩
              rw [HCD.out, HOK.out]
              go_wp2
              go_ret3
              exact ⟨rfl, rfl⟩
      · have hr0 : R = none := by
          rw [← HR.out, getL, hf]
          rw [if_pos (.inr (by simp; omega))]
        subst hr0
        have hfit' : b.length - k < n := by omega
        clear hf HE hfit
        go_enter Try.func126, Try.ntmps126
        go_wp2_with fail
        refine (first_any _ _).mono ?_
        rintro e w' ⟨rfl, rfl⟩
        rw [HF.out]
        go_wp2
        go_ret3
        exact ⟨rfl, rfl⟩
  · have HR : Hid (getAt b at_ = none) := by show getAt b at_ = none; rw [getAt, if_neg hin]
    rw [HR.out]
    by_cases q : at_ < 0
    · go_enter Try.func126, Try.ntmps126
      go_wp2
      go_ret3
      exact ⟨rfl, rfl⟩
    · have q2 : (b.length : Int) ≤ at_ := by omega
      clear hin
      go_enter Try.func126, Try.ntmps126
      go_wp2
      go_ret3
      exact ⟨rfl, rfl⟩
end Go.Proofs.Ytooaagmhgakhgaa
end

section
namespace Go.Proofs.Ytooaagmhgakhgaa
namespace UtfL
def scan (p : Nat) (l : List UInt8) : List (Nat × Nat) :=
  match _h : getL l with
  | none => []
  | some (c, n) => (p + n, c) :: scan (p + n) (l.drop n)
termination_by l.length
decreasing_by
  have := get_len _h
  rw [List.length_drop]; omega
theorem scan_none {p : Nat} {l : List UInt8} (h : getL l = none) : scan p l = [] := by
  rw [scan]; split
  · rfl
  · rename_i e; rw [h] at e; cases e
theorem scan_some {p : Nat} {l : List UInt8} {c n : Nat} (h : getL l = some (c, n)) : scan p l = (p + n, c) :: scan (p + n) (l.drop n) := by
  rw [scan]; split
  · rename_i e; rw [h] at e; cases e
  · rename_i e; rw [h] at e; cases e; rfl
def lastEnd (p : Nat) (l : List (Nat × Nat)) : Nat := l.foldl (fun _ x => x.1) p
theorem lastEnd_snoc (p : Nat) (l : List (Nat × Nat)) (x : Nat × Nat) : lastEnd p (l ++ [x]) = x.1 := by simp [lastEnd]
def codesOf (b : List UInt8) : List Nat := (scan 0 b).map (·.2)
def endOf (b : List UInt8) : Nat := lastEnd 0 (scan 0 b)
def At (b : List UInt8) (pre : List (Nat × Nat)) (p : Nat) : Prop := p ≤ b.length ∧ scan 0 b = pre ++ scan p (b.drop p) ∧ p = lastEnd 0 pre
theorem At.start (b : List UInt8) : At b [] 0 := ⟨Nat.zero_le _, by simp, rfl⟩
theorem getAt_eq {b : List UInt8} {p : Nat} (hp : p ≤ b.length) : getAt b (p : Int) = getL (b.drop p) := by
  rw [getAt]
  by_cases h : p < b.length
  · rw [if_pos ⟨by omega, by omega⟩]; rfl
  · rw [if_neg (by omega)]
    have : p = b.length := by omega
    rw [this, List.drop_length]; rfl
theorem At.next {b : List UInt8} {pre : List (Nat × Nat)} {p c n : Nat} (h : At b pre p) (hg : getAt b (p : Int) = some (c, n)) : At b (pre ++ [(p + n, c)]) (p + n) ∧ 1 ≤ n ∧ n ≤ 4 := by
  obtain ⟨h1, h2, h3⟩ := h
  rw [getAt_eq h1] at hg
  have hl := get_len hg
  rw [List.length_drop] at hl
  refine ⟨⟨by omega, ?_, (by rw [lastEnd_snoc])⟩, hl.1, hl.2.1⟩
  rw [h2, scan_some hg, List.drop_drop, List.append_assoc]; rfl
theorem At.done {b : List UInt8} {pre : List (Nat × Nat)} {p : Nat} (h : At b pre p) (hg : getAt b (p : Int) = none) : scan 0 b = pre := by
  obtain ⟨h1, h2, h3⟩ := h
  rw [getAt_eq h1] at hg
  rw [h2, scan_none hg, List.append_nil]
theorem At.full {b : List UInt8} {pre : List (Nat × Nat)} (h : At b pre b.length) : scan 0 b = pre := by
  refine h.done ?_
  rw [getAt, if_neg (by omega)]
theorem scan_len : ∀ (k p : Nat) (l : List UInt8), l.length ≤ k → (scan p l).length ≤ l.length ∧ p ≤ lastEnd p (scan p l) ∧ lastEnd p (scan p l) ≤ p + l.length
  | 0, p, l, h => by
    have : l = [] := List.eq_nil_of_length_eq_zero (by omega)
    subst this
    rw [scan_none rfl]; simp [lastEnd]
  | k + 1, p, l, h => by
    cases hg : getL l with
    | none => rw [scan_none hg]; simp [lastEnd]
    | some q =>
      obtain ⟨c, n⟩ := q
      have hl := get_len hg
      have := scan_len k (p + n) (l.drop n) (by rw [List.length_drop]; omega)
      rw [scan_some hg]
      rw [List.length_drop] at this
      simp only [List.length_cons]
      have e : lastEnd p ((p + n, c) :: scan (p + n) (l.drop n)) = lastEnd (p + n) (scan (p + n) (l.drop n)) := rfl
      rw [e]
      omega
end UtfL
end Go.Proofs.Ytooaagmhgakhgaa
end

section
namespace Go.Proofs.Ytooaagmhgakhgaa
open Go.RowKit UtfL Go.Shelf
attribute [local go_sem] Oper.semAt_some

theorem strSees {w : World} {g cap : Nat} {e : TypeId} {fr : Nat × Nat} {s : ByteArray} (hb : w.heap[g]? = some (.cells (bytesRow s cap) e fr)) (h1 : s.size ≤ cap) (h2 : cap ≤ maxLen) :
    Sees bv w (.slice (some ⟨g, 0, none⟩) s.size cap) s.data.toList := by
  have hl : s.data.toList.length = s.size := by simp
  have := Sees.lit (enc := bv) hb s.data.toList 0 cap (by omega) h2 (fun i hi => by
    rw [bytesRow, Nat.zero_add, Array.getElem?_append_left (by simpa using hi)]
    simp at hi
    simp [hi, bv])
  rwa [hl] at this

theorem all_any (s : ByteArray) (w : World) :
    Calls Try.prog 123 #[.string s] w fun e w' => e = .returned (.func (.func 125) #[] #[.pointer (some ⟨w.heap.size, 0, none⟩)]) ∧ w.alloc (.cells #[.string s] 9) = w' := by
  go_enter Try.func123, Try.ntmps123
  go_wp2
  go_ret
  exact ⟨rfl, rfl⟩

set_option maxHeartbeats 1000000 in
set_option maxRecDepth 100000 in
theorem all1_seq (n : Nat) (hn : 1 ≤ n) (s : ByteArray) (hs : s.size ≤ 1000000) (B : Nat) (w : World) (hB : B < w.heap.size) (hc : w.cell? ⟨B, 0, none⟩ = some (.string s)) :
    SeqC Fence.wide n Try.prog 125 #[.pointer (some ⟨B, 0, none⟩)] (fun x : Nat × Nat => #[Value.int .i64 (x.1 : Int), Value.int .i64 (x.2 : Int)]) (fun _ => False) (fun k => B = k)
      (fun pre => ∃ p, At s.data.toList pre p) (fun xs _ => xs = scan 0 s.data.toList) (fun _ _ => True) w := by
  intro l J Jx W hW hJ hJx hY h0
  have hcW : W.cell? ⟨B, 0, none⟩ = some (.string s) := (hW.cell hB (fun h => h)).trans hc
  have hsz := hW.size
  have hcv2 := fun w s => run_bytes_of_string (P := Try.prog) w 9 127 5 s Try.underlying9 Try.underlying127 Try.underlying5
  have hlen : s.data.toList.length = s.size := by simp
  refine callsIn_of_wp Try.func125 rfl trivial ?_ rfl
  simp only [Try.ntmps125, List.size_toArray, List.length_cons, List.length_nil, Nat.reduceAdd, Nat.reduceSub, Array.replicate_succ, Array.replicate_zero, List.push_toArray, List.append_toArray, List.nil_append, List.cons_append]
  gi_wp2
  have hcap1 := grownCap_ge W s.size 0 5
  have hcap2 := grownCap_le_maxLen W s.size 0 5 (by unfold maxLen; omega)
  generalize grownCap W s.size 0 5 = cap at *
  have hchg : Chg (fun _ => False) W (W.alloc (.cells (bytesRow s cap) 5 ((bytesRow s cap).size, (bytesRow s cap).size + 1))).drew := ((Chg.refl _ W).alloc _).drew
  have hnew : (W.alloc (.cells (bytesRow s cap) 5 ((bytesRow s cap).size, (bytesRow s cap).size + 1))).drew.heap[W.heap.size]? = some (.cells (bytesRow s cap) 5 ((bytesRow s cap).size, (bytesRow s cap).size + 1)) := World.alloc_heap_new W _
  have hJ0 := hJ.step _ _ _ _ h0 hchg
  have hsz1 : (W.alloc (.cells (bytesRow s cap) 5 ((bytesRow s cap).size, (bytesRow s cap).size + 1))).drew.heap.size = W.heap.size + 1 := by show (W.alloc _).heap.size = _; simp
  generalize (W.alloc (.cells (bytesRow s cap) 5 ((bytesRow s cap).size, (bytesRow s cap).size + 1))).drew = W1 at *
  generalize ((bytesRow s cap).size, (bytesRow s cap).size + 1) = fr at *
  have hPr : NewIn W W1 (fun k => B = k) W.heap.size := .inr ⟨Nat.le_refl _, by omega⟩
  generalize hPd : NewIn W W1 (fun k => B = k) = Pr1 at *
  have hPr0 : ∀ k, B = k → Pr1 k := fun k e => by rw [← hPd]; exact .inl e
  generalize hgl : s.data.toList = b at *
  have hgl' := Lib.hid hgl
  clear hgl hPd h0 hcW hW hchg
  gi_loopw [4] (fun c wr => ∃ (p : Nat) (pre : List (Nat × Nat)), c = .int .i64 p ∧ At b pre p ∧ J pre Pr1 wr ∧ wr.heap[W.heap.size]? = some (.cells (bytesRow s cap) 5 fr)) (fun c _ => b.length - (intOf c).toNat)
  case atStart => exact ⟨0, [], rfl, At.start b, hJ0, hnew⟩
  case round =>
    obtain ⟨p, pre, rfl, hat, hj, hblk⟩ := hrel
    have hp := hat.1
    have HJ := Lib.hid hj
    have HAT := Lib.hid hat
    have hsees : Sees bv wr (.slice (some ⟨W.heap.size, 0, none⟩) s.size cap) b := by rw [← hgl'.out]; exact strSees hblk hcap1 hcap2
    have HS := Lib.hid hsees
    clear hj hat hsees
    by_cases hlt : p < s.size
    · cases hg : getAt b (p : Int) with
      | none =>
        have HG := Lib.hid hg; clear hg
        gi_wp2_with fail
        refine wcall (utfGet_any _ b _ _ HS.out) ?_
        rintro e w' ⟨rfl, rfl⟩
        rw [HG.out]
        unfold getRes
        gi_wp2
        refine ⟨fun _ h => (by cases h), ?_⟩
        gi_wp2
        refine bodyPost_ret (results_none rfl _ _ _) rfl ?_
        exact ⟨⟨_, rfl⟩, .inl ⟨_, by rw [hgl'.out]; exact (HAT.out.done HG.out).symm, hJ.less _ _ _ _ HJ.out hPr0⟩⟩
      | some q =>
        obtain ⟨c, k⟩ := q
        obtain ⟨hat2, hk1, hk2⟩ := HAT.out.next hg
        have hp2 := hat2.1
        obtain ⟨fn, tmps, assign, body, hyy, hR⟩ := hY _ (p + k, c) _ _ HJ.out hPr0 ⟨p + k, hat2⟩
        dsimp only at hyy
        rw [Int.natCast_add] at hyy
        have HG := Lib.hid hg
        have HA := Lib.hid hat2
        clear hg hat2
        gi_wp2_with fail
        refine wcall (utfGet_any _ b _ _ HS.out) ?_
        rintro e w' ⟨rfl, rfl⟩
        rw [HG.out]
        unfold getRes
        gi_wp2
        refine hR.mono ?_
        rintro e W3 (⟨rfl, hJ3, hk3⟩ | ⟨rfl, hJx3, hk3⟩)
        · have hblk3 := (hk3.block W.heap.size (Array.getElem?_eq_some_iff.1 hblk).1 (fun h => h hPr)).trans hblk
          gi_wp2
          go_roundw
          case rel => exact ⟨p + k, _, by go_num, HA.out, hJ3, hblk3⟩
          case measure => simp [intOf]; omega
        · gi_wp2
          refine bodyPost_ret (results_none rfl _ _ _) rfl ?_
          exact ⟨⟨_, rfl⟩, .inr ⟨_, trivial, hJx.less _ _ _ _ hJx3 hPr0⟩⟩
    · gi_wp2
      go_end0
      have e : p = b.length := by omega
      subst e
      exact ⟨⟨_, rfl⟩, .inl ⟨_, by rw [hgl'.out]; exact HAT.out.full.symm, hJ.less _ _ _ _ HJ.out hPr0⟩⟩
end Go.Proofs.Ytooaagmhgakhgaa
end

section
namespace Go.Proofs.Ytooaagmhgakhgaa
open Go.RowKit UtfL Go.Shelf
attribute [local go_sem] Oper.semAt_some

theorem utfInfoInt : (Try.prog.info? 3).map (fun i => (i.zero, i.size, i.bytes)) = some (some (.int .i64 0), 1, 8) := by kernel_rfl
set_option maxRecDepth 100000 in
set_option maxHeartbeats 2000000 in
theorem codes_any (s : ByteArray) (hs : s.size ≤ 1000000) (w : World) :
    Calls Try.prog 120 #[.string s] w fun e w' => ∃ v, e = .returned (.tuple #[v, .int .i64 (endOf s.data.toList : Nat)]) ∧ w'.ownsRow w.heap.size 3 1 v (codesOf s.data.toList).length ((codesOf s.data.toList).map fun x : Nat => iv (x : Int)) ∧ Below w.heap.size w w' := by
  have hSL := scan_len s.data.toList.length 0 s.data.toList (Nat.le_refl _)
  have hlen : s.data.toList.length = s.size := by simp
  refine (callsIn_wide (n := 5)).1 ?_
  refine callsIn_of_wp_marks Try.func120 rfl trivial ?_ rfl
  simp only [Try.ntmps120, List.size_toArray, List.length_cons, List.length_nil, Nat.reduceAdd, Nat.reduceSub, Array.replicate_succ, Array.replicate_zero, List.push_toArray, List.append_toArray, List.nil_append, List.cons_append]
  gi_wp2_with fail
  refine wcall (all_any _ _) ?_
  rintro e w' ⟨rfl, rfl⟩
  gi_wp2_with fail
  obtain ⟨W0, hW0⟩ : ∃ W0, ((w.alloc (.cells #[.slice none 0 0] 36)).alloc (.cells #[.int .i64 0] 3)).alloc (.cells #[.string s] 9) = W0 := ⟨_, rfl⟩
  have hs0 : W0.heap.size = w.heap.size + 3 := by rw [← hW0]; simp
  have hc0 : W0.cell? ⟨w.heap.size + 2, 0, none⟩ = some (.string s) := by
    have := (Boxed.new ((w.alloc (.cells #[.slice none 0 0] 36)).alloc (.cells #[.int .i64 0] 3)) 9 (.string s)).cell
    rw [hW0] at this
    simpa using this
  have hb0 : Boxed W0 w.heap.size 36 (.slice none 0 0) := by rw [← hW0]; exact ((Boxed.new w _ _).alloc _).alloc _
  have hb1 : Boxed W0 (w.heap.size + 1) 3 (.int .i64 0) := by
    have := (Boxed.new (w.alloc (.cells #[.slice none 0 0] 36)) 3 (.int .i64 0)).alloc (.cells #[.string s] 9)
    rw [hW0] at this
    simpa using this
  have hB0 : Below w.heap.size w W0 := by rw [← hW0]; exact (((Below.refl _ w).alloc (Nat.le_refl _) _).alloc (by simp) _).alloc (by simp; omega) _
  rw [hW0]
  have HSL := Lib.hid hSL
  have HL := Lib.hid hlen
  clear hSL hlen
  refine wpIn_range1 rfl (by omega) (gf := 125) (lb := #[.pointer (some ⟨w.heap.size + 2, 0, none⟩)]) rfl trivial (enters_of Try.func125 (by kernel_rfl) rfl)
    (all1_seq 4 (by omega) s hs (w.heap.size + 2) W0 (by omega) hc0) (Chg.refl _ _) (fun _ h => h.elim) (fun k h => by omega) (fun _ => rfl)
    (fun pre Pr W => (Coll (w.heap.size + 3) w.heap.size 36 3 1 pre.length (pre.map fun x : Nat × Nat => iv (x.2 : Int)) (fun k => W0.heap.size = k ∨ W0.heap.size + 1 = k ∨ w.heap.size + 1 = k) Pr W ∧ Held (w.heap.size + 1) 3 (.int .i64 (lastEnd 0 pre : Nat)) (fun k => W0.heap.size = k ∨ W0.heap.size + 1 = k) Pr W) ∧ Below w.heap.size w W) (fun _ _ _ _ => False)
    (Bears.and (Bears.and (Coll.bears (fun k h => h.elim (fun h => h.elim) (fun h => h.imp id .inl))) (Held.bears (fun k h => h.elim (fun h => h.elim) id))) (Bears.below (Nat.le_refl _) (fun k hk h => by rcases h with h | h | h; exact h; all_goals omega))) (fun _ => Bears.false _)
    ⟨⟨⟨_, hb0, by omega, by omega, World.ownsRow_nil _ _ _ _, fun k e => (by cases e), by simp⟩, hb1, by omega, by omega⟩, hB0⟩
    (fun x => { tmps := #[.string s, undef, .slice none 0 0, .int .i64 0, .pointer (some ⟨w.heap.size, 0, none⟩), .pointer (some ⟨w.heap.size + 1, 0, none⟩), .int .i64 (x.1 : Int), .int .i64 (x.2 : Int), .string s, .func (.func 125) #[] #[.pointer (some ⟨w.heap.size + 2, 0, none⟩)], .int .i64 (x.1 : Int), .int .i64 (x.2 : Int), undef, undef, undef, undef, undef, undef, undef], defers := [] }) ?assign ?body ?done ?stop
  case assign =>
    intro l x W K hK
    gi_wp2
    exact hK
  case body =>
    rintro l pre ⟨p, x⟩ Pr W hsW hPb hP0 hPl - ⟨⟨⟨v, hv, hPB, hMB, hrow, hvb, hnil⟩, hv2, hP2, hM2⟩, hB⟩ ⟨q, hat⟩
    dsimp only
    have hle : lastEnd 0 (pre ++ [(p, x)]) = p := lastEnd_snoc _ _ _
    have hlen : pre.length + 1 ≤ 1000000 := by
      have h1 := congrArg List.length hat.2.1
      have h2 := HSL.out.1
      have h3 := HL.out
      simp only [List.length_append, List.length_cons, List.length_nil] at h1
      omega
    clear hat
    have hBs := hB.size
    have hc := hv.cell
    have hf := hv.frozen
    gi_wp2_with (gi_at_builtin; go_loud (refine wpListIn_app _ rfl _ _ 36 rfl (w.heap.size + 3) 3 (.int .i64 0) 1 8 Try.underlying36 utfInfoInt rfl (by decide) _ _ _ rfl (hrow.alloc _) _ 1 _ rfl (Src.new W _ 3 1 1 1 rfl) (by simp [Value.oneCell']) (by unfold maxLen; omega) (by omega) (by simp; omega) ?_; intro v' w1 hown' hc' hb' hn'; obtain ⟨h1, h2, h3⟩ := Coll.appended hv hPB hMB hrow hvb (by decide) (fun k hk => by omega) hPb hown' hc' hb' (by rw [hn']; omega); obtain ⟨g', cap', rfl⟩ := ownsRow_succ hown'; have hc1 := h1.cell; have hf1 := h1.frozen; have hn1 : ∀ k, v.ownBlock = some k → ¬ k = w.heap.size + 1 := (fun k e => by have := (hrow.lt k e).1; omega); have hq1 : Boxed w1 (w.heap.size + 1) 3 (.int .i64 (lastEnd 0 pre : Nat)) := Boxed.chg (hv2.alloc _) hc' (fun e => hn1 _ e rfl); have hq2 := hq1.other (show w.heap.size + 1 ≠ w.heap.size by omega) (.slice (some ⟨g', 0, none⟩) (pre.length + 1) cap'); have hc2 := hq2.cell; have hf2 := hq2.frozen))
    have hB1 : Below w.heap.size w ((w1.setCell ⟨w.heap.size, 0, none⟩ (.slice (some ⟨g', 0, none⟩) (pre.length + 1) cap')).setCell ⟨w.heap.size + 1, 0, none⟩ (.int .i64 (p : Int))) := by
      refine hB.trans (Chg.below (n := w.heap.size) (M := fun k => ¬ k < w.heap.size) ?_ hBs (fun k hk h => h hk))
      refine Chg.setCell ?_ (fun _ => by simp) _
      refine Chg.setCell ?_ (fun _ => by simp) _
      exact ((Chg.refl _ W).alloc _).trans (hc'.mono fun k _ e => by have := (hrow.lt k e).1; omega)
    have hset := (Chg.refl (fun k => w.heap.size + 1 = k) (w1.setCell ⟨w.heap.size, 0, none⟩ (.slice (some ⟨g', 0, none⟩) (pre.length + 1) cap'))).setCell (p := ⟨w.heap.size + 1, 0, none⟩) (fun _ => rfl) (.int .i64 (p : Int))
    refine ⟨h3.trans (hset.mono fun k _ e => by subst e; exact hP2), ⟨?_, (by rw [hle]; exact hq2.set _), hP2, (by dsimp only; omega)⟩, hB1⟩
    have h4 := (h2.step hset (fun k e => .inr (.inr e))).less (Pr' := Pr) (fun k hk => .inl hk)
    rw [List.length_append, List.map_append]
    rw [hs0] at h4
    exact h4
  case done =>
    rintro xs Wa W rfl - ⟨⟨⟨v, hv, -, -, hrow, -, -⟩, hv2, -, -⟩, hB⟩ hK
    have hc := hv.cell
    have hc2 := hv2.cell
    have HR := Lib.hid hrow; clear hrow hv hB0 hb0 hv2 hb1
    gi_wp2
    gi_region
    gi_wp2
    refine ⟨by simp, .inl ⟨_, _, rfl, run_takeDeferred (w := W.drew) hK, ?_⟩⟩
    refine ⟨_, results_tmp2 rfl _ _ _, v, rfl, ?_, ?_⟩
    · rw [codesOf, List.length_map, List.map_map]
      exact Joins.ownsRow_le (ownsRow_putObj HR.out.drew _ hK rfl) (by omega)
    · exact hB.trans ((((Chg.refl (fun k => ¬ k < w.heap.size) W).drew).putObj (fun _ => by omega) _).below hB.size (fun k hk h => h hk))
  case stop =>
    rintro c pre Wa W - - h
    exact h.elim
end Go.Proofs.Ytooaagmhgakhgaa
end

section
namespace Go.Proofs.Ytooaagmhgakhgaa
open Go.RowKit UtfL Go.Shelf

def countOf (b : List UInt8) : Int := if endOf b < b.length then -1 else (codesOf b).length
theorem owns_slice {w : World} {base : Nat} {e : TypeId} {size n : Nat} {v : Value} {xs : List Value} (h : w.ownsRow base e size v n xs) : ∃ a cap, v = .slice a n cap := by
  rcases h.2 with ⟨rfl, rfl⟩ | ⟨g, cap, cur, rfl, _⟩
  · exact ⟨_, _, rfl⟩
  · exact ⟨_, _, rfl⟩
theorem owns_sees' {α : Type} {enc : α → Value} {w : World} {B : Nat} {E : TypeId} {v : Value} {l : List α} (h : w.ownsRow B E 1 v l.length (l.map enc)) : Sees enc w v l := Sees.of_owns h rfl rfl
theorem count_any (s : ByteArray) (hs : s.size ≤ 1000000) (w : World) :
    Calls Try.prog 114 #[.string s] w fun e w' => e = .returned (.int .i64 (countOf s.data.toList)) ∧ Below w.heap.size w w' := by
  have hlen : s.data.toList.length = s.size := by simp
  have hco : countOf s.data.toList = if endOf s.data.toList < s.size then -1 else ((codesOf s.data.toList).length : Int) := by rw [countOf, hlen]
  rw [hco]
  clear hco hlen
  by_cases h : endOf s.data.toList < s.size
  · rw [if_pos h]
    go_enter Try.func114, Try.ntmps114
    go_wp2_with fail
    refine (codes_any _ hs _).mono ?_
    rintro e w' ⟨v, rfl, hown, hB⟩
    obtain ⟨a, cap, rfl⟩ := owns_slice hown
    have HO := Lib.hid hown
    clear hown
    go_wp2
    go_ret
    exact ⟨rfl, hB⟩
  · rw [if_neg h]
    go_enter Try.func114, Try.ntmps114
    go_wp2_with fail
    refine (codes_any _ hs _).mono ?_
    rintro e w' ⟨v, rfl, hown, hB⟩
    obtain ⟨a, cap, rfl⟩ := owns_slice hown
    have HO := Lib.hid hown
    clear hown
    go_wp2
    go_ret
    exact ⟨rfl, hB⟩

theorem valid_any (s : ByteArray) (hs : s.size ≤ 1000000) (w : World) :
    Calls Try.prog 99 #[.string s] w fun e w' => e = .returned (.bool (decide (0 ≤ countOf s.data.toList))) ∧ Below w.heap.size w w' := by
  go_enter Try.func99, Try.ntmps99
  go_wp2_with fail
  refine (count_any _ hs _).mono ?_
  rintro e w' ⟨rfl, hB⟩
  go_wp2
  go_ret
  exact ⟨rfl, hB⟩

end Go.Proofs.Ytooaagmhgakhgaa
end

section
namespace Go.Proofs.Ytooaagmhgakhgaa
open Go.RowKit UtfL

set_option maxHeartbeats 400000 in
theorem refCode_any (c : Int) (w : World) :
    Calls Try.prog 124 #[.int .i64 c] w fun e w' => e = .returned (.bool (isCode c)) ∧ w = w' := by
  have H : c < 0 ∨ (0 ≤ c ∧ c < 55296) ∨ (55296 ≤ c ∧ c ≤ 57343) ∨ (57343 < c ∧ c ≤ 1114111) ∨ 1114111 < c := by omega
  have hcode : isCode c = decide ((0 ≤ c ∧ c < 55296) ∨ (57343 < c ∧ c ≤ 1114111)) := by
    unfold isCode isCodeN
    rw [← Bool.decide_and]
    congr 1
    apply propext
    omega
  have HC := Lib.hid hcode
  clear hcode
  rcases H with h | ⟨h1, h2⟩ | ⟨h1, h2⟩ | ⟨h1, h2⟩ | h
  all_goals
    go_enter Try.func124, Try.ntmps124
    go_wp2
    go_ret
    exact ⟨ret_bool (by rw [HC.out]; rw [Bool.eq_iff_iff]; simp; omega), rfl⟩

set_option maxRecDepth 1000000 in
set_option maxHeartbeats 1000000 in
theorem refPut1_any (c : Int) (w : World) :
    Calls Try.prog 122 #[.int .i64 c] w fun e w' => ∃ v, e = .returned v ∧ w'.ownsRow w.heap.size 5 1 v (put c).length ((put c).map bv) ∧ Below w.heap.size w w' := by
  by_cases hc : isCode c = true
  · have h0 : 0 ≤ c := by simp only [isCode, Bool.and_eq_true, decide_eq_true_eq] at hc; exact hc.1
    obtain ⟨c, rfl⟩ := Int.eq_ofNat_of_zero_le h0
    have hmax : c ≤ 1114111 := by simp only [isCode, isCodeN, Bool.and_eq_true, decide_eq_true_eq, Int.toNat_natCast] at hc; omega
    have hp : put (c : Int) = putN c := by simp [put, hc]
    have HC := Lib.hid hc
    rw [hp]
    clear hp hc h0
    by_cases c1 : c < 128
    · have HPL := Lib.hid (show (putN c).length = 1 by rw [putN, if_pos c1]; rfl)
      have HP := Lib.hid (show [Value.int .u8 (c : Int)] = (putN c).map bv by
        rw [putN, if_pos c1]
        simp only [List.map_cons, List.map_nil, bv, u_toNat (n := c) (by omega)])
      go_enter Try.func122, Try.ntmps122
      go_wp2_with fail
      refine (refCode_any _ _).mono ?_
      rintro e w' ⟨rfl, rfl⟩
      rw [HC.out]
      go_wp2
      go_ret
      exact ⟨_, rfl, by rw [← HP.out, HPL.out]; exact World.ownsRow_lit (base := w.heap.size) (e := 5) (size := 1) w _ 1 (Nat.le_refl _) (by decide) rfl, (Below.refl _ _).alloc (Nat.le_refl _) _⟩
    · by_cases c2 : c < 2048
      · have HPL := Lib.hid (show (putN c).length = 2 by rw [putN, if_neg c1, if_pos c2]; rfl)
        have HP := Lib.hid (show [Value.int .u8 (192 + (c : Int) / 64), Value.int .u8 (128 + (c : Int) % 64)] = (putN c).map bv by
          rw [putN, if_neg c1, if_pos c2]
          simp only [List.map_cons, List.map_nil, bv, u_toNat (n := 192 + c / 64) (by omega), u_toNat (n := 128 + c % 64) (by omega)]
          refine List.cons_eq_cons.2 ⟨by first | (congr 1; done) | (congr 1; omega), ?_⟩
          refine List.cons_eq_cons.2 ⟨by first | (congr 1; done) | (congr 1; omega), ?_⟩
          rfl)
        go_enter Try.func122, Try.ntmps122
        go_wp2_with fail
        refine (refCode_any _ _).mono ?_
        rintro e w' ⟨rfl, rfl⟩
        rw [HC.out]
        go_wp2
        go_ret
        exact ⟨_, rfl, by rw [← HP.out, HPL.out]; exact World.ownsRow_lit (base := w.heap.size) (e := 5) (size := 1) w _ 2 (Nat.le_refl _) (by decide) rfl, (Below.refl _ _).alloc (Nat.le_refl _) _⟩
      · by_cases c3 : c < 65536
        · have HPL := Lib.hid (show (putN c).length = 3 by rw [putN, if_neg c1, if_neg c2, if_pos c3]; rfl)
          have HP := Lib.hid (show [Value.int .u8 (224 + (c : Int) / 4096), Value.int .u8 (128 + (c : Int) / 64 % 64), Value.int .u8 (128 + (c : Int) % 64)] = (putN c).map bv by
            rw [putN, if_neg c1, if_neg c2, if_pos c3]
            simp only [List.map_cons, List.map_nil, bv, u_toNat (n := 224 + c / 4096) (by omega), u_toNat (n := 128 + c / 64 % 64) (by omega), u_toNat (n := 128 + c % 64) (by omega)]
            refine List.cons_eq_cons.2 ⟨by first | (congr 1; done) | (congr 1; omega), ?_⟩
            refine List.cons_eq_cons.2 ⟨by first | (congr 1; done) | (congr 1; omega), ?_⟩
            refine List.cons_eq_cons.2 ⟨by first | (congr 1; done) | (congr 1; omega), ?_⟩
            rfl)
          go_enter Try.func122, Try.ntmps122
          go_wp2_with fail
          refine (refCode_any _ _).mono ?_
          rintro e w' ⟨rfl, rfl⟩
          rw [HC.out]
          go_wp2
          go_ret
          exact ⟨_, rfl, by rw [← HP.out, HPL.out]; exact World.ownsRow_lit (base := w.heap.size) (e := 5) (size := 1) w _ 3 (Nat.le_refl _) (by decide) rfl, (Below.refl _ _).alloc (Nat.le_refl _) _⟩
        · have HPL := Lib.hid (show (putN c).length = 4 by rw [putN, if_neg c1, if_neg c2, if_neg c3]; rfl)
          have HP := Lib.hid (show [Value.int .u8 (240 + (c : Int) / 262144), Value.int .u8 (128 + (c : Int) / 4096 % 64), Value.int .u8 (128 + (c : Int) / 64 % 64), Value.int .u8 (128 + (c : Int) % 64)] = (putN c).map bv by
            rw [putN, if_neg c1, if_neg c2, if_neg c3]
            simp only [List.map_cons, List.map_nil, bv, u_toNat (n := 240 + c / 262144) (by omega), u_toNat (n := 128 + c / 4096 % 64) (by omega), u_toNat (n := 128 + c / 64 % 64) (by omega), u_toNat (n := 128 + c % 64) (by omega)]
            refine List.cons_eq_cons.2 ⟨by first | (congr 1; done) | (congr 1; omega), ?_⟩
            refine List.cons_eq_cons.2 ⟨by first | (congr 1; done) | (congr 1; omega), ?_⟩
            refine List.cons_eq_cons.2 ⟨by first | (congr 1; done) | (congr 1; omega), ?_⟩
            refine List.cons_eq_cons.2 ⟨by first | (congr 1; done) | (congr 1; omega), ?_⟩
            rfl)
          go_enter Try.func122, Try.ntmps122
          go_wp2_with fail
          refine (refCode_any _ _).mono ?_
          rintro e w' ⟨rfl, rfl⟩
          rw [HC.out]
          go_wp2
          go_ret
          exact ⟨_, rfl, by rw [← HP.out, HPL.out]; exact World.ownsRow_lit (base := w.heap.size) (e := 5) (size := 1) w _ 4 (Nat.le_refl _) (by decide) rfl, (Below.refl _ _).alloc (Nat.le_refl _) _⟩
  · have hP : put c = [] := by rw [put, if_neg hc]
    have HC := Lib.hid (show isCode c = false by simpa using hc)
    rw [hP]
    clear hc hP
    go_enter Try.func122, Try.ntmps122
    go_wp2_with fail
    refine (refCode_any _ _).mono ?_
    rintro e w' ⟨rfl, rfl⟩
    rw [HC.out]
    go_wp2
    go_ret
    exact ⟨_, rfl, World.ownsRow_nil _ _ _ _, Below.refl _ _⟩
end Go.Proofs.Ytooaagmhgakhgaa
end

section
namespace Go.Proofs.Ytooaagmhgakhgaa
namespace UtfL
def lead (x : Nat) : Nat := if 240 ≤ x then x - 240 else if 224 ≤ x then x - 224 else if 192 ≤ x then x - 192 else x
def acc : List UInt8 → Nat
  | [] => 0
  | x :: r => r.foldl (fun c y => c * 64 + y.toNat % 64) (lead x.toNat)
theorem acc_snoc {l : List UInt8} (h : l ≠ []) (y : UInt8) : acc (l ++ [y]) = acc l * 64 + y.toNat % 64 := by
  cases l with
  | nil => exact absurd rfl h
  | cons x r => simp [acc]
theorem cont_fold : ∀ (r : List UInt8) (c d : Nat), cont c r = some d → d = r.foldl (fun c y => c * 64 + y.toNat % 64) c
  | [], c, d, h => by simp [cont] at h; simp [h]
  | y :: r, c, d, h => by
    rw [cont] at h
    split at h
    · rw [List.foldl_cons]; exact cont_fold r _ d h
    · cases h
theorem lead_first {x n c : Nat} (hx : x < 256) (h : first x = (n, c)) (hn : 1 ≤ n) : lead x = c := by
  unfold first at h
  unfold lead
  by_cases q1 : x < 128
  · rw [if_pos q1] at h; cases h
    rw [if_neg (by omega), if_neg (by omega), if_neg (by omega)]
  · rw [if_neg q1] at h
    by_cases q2 : 192 ≤ x ∧ x < 224
    · rw [if_pos q2] at h; cases h
      rw [if_neg (by omega), if_neg (by omega), if_pos (by omega)]; omega
    · rw [if_neg q2] at h
      by_cases q3 : 224 ≤ x ∧ x < 240
      · rw [if_pos q3] at h; cases h
        rw [if_neg (by omega), if_pos (by omega)]; omega
      · rw [if_neg q3] at h
        by_cases q4 : 240 ≤ x ∧ x < 248
        · rw [if_pos q4] at h; cases h
          rw [if_pos (by omega)]; omega
        · rw [if_neg q4] at h; cases h; omega
theorem acc_get {l : List UInt8} {c n : Nat} (h : getL l = some (c, n)) : acc (l.take n) = c := by
  have hl := get_len h
  cases l with
  | nil => cases h
  | cons x r =>
    rw [getL] at h
    obtain ⟨fn, fc, hf⟩ : ∃ fn fc, first x.toNat = (fn, fc) := ⟨_, _, rfl⟩
    rw [hf] at h
    dsimp only at h
    split at h
    · cases h
    · cases hco : cont fc (r.take (fn - 1)) with
      | none => rw [hco] at h; cases h
      | some d =>
        rw [hco] at h
        dsimp only at h
        split at h
        · cases h
          obtain ⟨m, rfl⟩ : ∃ m, n = m + 1 := ⟨n - 1, by omega⟩
          rw [List.take_succ_cons, acc, lead_first x.toNat_lt hf (by omega), cont_fold _ _ _ hco]
          rfl
        · cases h
theorem ref_hit {l : List UInt8} {n : Nat} (hn : 1 ≤ n) (hl : n ≤ l.length) (h : put (acc (l.take n) : Int) = l.take n) : getL l = some (acc (l.take n), n) := by
  have hne : (l.take n).length = n := by rw [List.length_take]; omega
  have hc : isCode (acc (l.take n) : Int) = true := by
    by_cases q : isCode (acc (l.take n) : Int) = true
    · exact q
    · rw [put, if_neg q] at h
      rw [← h] at hne
      simp at hne; omega
  have hN : isCodeN (acc (l.take n)) = true := by simpa [isCode] using hc
  rw [put, if_pos hc, Int.toNat_natCast] at h
  have hlong : longN (acc (l.take n)) = n := by rw [← putN_len, h, hne]
  have := get_of_put hN (l.drop n)
  rw [hlong, h, List.take_append_drop] at this
  exact this
theorem ref_miss {l : List UInt8} {c n : Nat} (h : getL l = some (c, n)) : put (acc (l.take n) : Int) = l.take n := by
  rw [acc_get h, get_take h, put]
  obtain ⟨hc, -, -⟩ := put_of_get h
  simp [isCode, hc]
theorem ref_none {l : List UInt8} (h : ∀ n, 1 ≤ n → n ≤ 4 → n ≤ l.length → put (acc (l.take n) : Int) ≠ l.take n) : getL l = none := by
  cases hg : getL l with
  | none => rfl
  | some q =>
    obtain ⟨c, n⟩ := q
    obtain ⟨h1, h2, h3⟩ := get_len hg
    exact absurd (ref_miss hg) (h n h1 h2 h3)
theorem acc_lt : ∀ (r : List UInt8) (c : Nat), r.foldl (fun c y => c * 64 + y.toNat % 64) c < (c + 1) * 64 ^ r.length
  | [], c => by simp
  | y :: r, c => by
    rw [List.foldl_cons, List.length_cons]
    have h := acc_lt r (c * 64 + y.toNat % 64)
    have h2 : (c * 64 + y.toNat % 64 + 1) * 64 ^ r.length ≤ ((c + 1) * 64) * 64 ^ r.length := Nat.mul_le_mul_right _ (by omega)
    rw [Nat.pow_succ]
    calc _ < _ := h
      _ ≤ _ := h2
      _ = _ := by rw [Nat.mul_assoc, Nat.mul_comm 64]
theorem acc_bound {l : List UInt8} (h : l.length ≤ 4) : acc l < 67108864 := by
  cases l with
  | nil => simp [acc]
  | cons x r =>
    have h1 := acc_lt r (lead x.toNat)
    have h2 : lead x.toNat + 1 ≤ 256 := by
      have := x.toNat_lt
      unfold lead
      (repeat' split) <;> omega
    have h3 : 64 ^ r.length ≤ 64 ^ 3 := Nat.pow_le_pow_right (by decide) (by simp at h; omega)
    have h4 := Nat.mul_le_mul h2 h3
    rw [acc]; omega
end UtfL
end Go.Proofs.Ytooaagmhgakhgaa
end

section
namespace Go.Proofs.Ytooaagmhgakhgaa
open Go.RowKit
theorem Sees.slice {α : Type} {enc : α → Value} {w : World} {bb off cap : Nat} {b : List α} (h : Sees enc w (.slice (some ⟨bb, off, none⟩) b.length cap) b) (i n : Nat) (hi : i + n ≤ b.length) :
    Sees enc w (.slice (some ⟨bb, off + i, none⟩) n (cap - i)) ((b.drop i).take n) := by
  obtain ⟨a, cap', he, h1, h2, h3, h4⟩ := h
  cases he
  have hl : ((b.drop i).take n).length = n := by rw [List.length_take, List.length_drop]; omega
  refine ⟨some ⟨bb, off + i, none⟩, cap - i, by rw [hl], by omega, by omega, fun e => (by cases e), fun x e hx => ?_⟩
  cases e
  rw [hl] at hx
  obtain ⟨e1, e2, e3⟩ := h4 _ rfl (by omega)
  refine ⟨rfl, e2, fun j hj => ?_⟩
  have := e3 (i + j) (by omega)
  dsimp only at this ⊢
  rw [Nat.add_assoc, this]
  congr 2
  rw [List.getElem_take, List.getElem_drop]
end Go.Proofs.Ytooaagmhgakhgaa
end

section
namespace Go.Proofs.Ytooaagmhgakhgaa
open Go.RowKit

theorem take_eq_stepB {α : Type} {xs ys : List α} {k : Nat} (h : xs.take k = ys.take k) (hx : k < xs.length) (hy : k < ys.length) (e : xs[k] = ys[k]) : xs.take (k + 1) = ys.take (k + 1) := by
  rw [take_snoc xs k hx, take_snoc ys k hy, h, e]

set_option maxHeartbeats 400000 in
theorem bytes_any (u v : Value) (xs ys : List UInt8) (w : World) (hu : Sees bv w u xs) (hv : Sees bv w v ys) :
    Calls Try.prog 121 #[u, v] w fun e w' => e = .returned (.bool (decide (xs = ys))) ∧ ∃ n, w' = w.drewN n := by
  obtain ⟨a, cap, rfl, h1, h2, h3, h4⟩ := hu
  obtain ⟨a', cap', rfl, h1', h2', h3', h4'⟩ := hv
  unfold maxLen at h2 h2'
  by_cases hl : xs.length = ys.length
  · have hl' : ((xs.length : Int) != (ys.length : Int)) = false := by rw [bne_eq_false_iff_eq]; omega
    have HL := Lib.hid hl
    have i1 : xs.length ≤ ys.length := by omega
    have i2 : ys.length ≤ xs.length := by omega
    clear hl
    obtain ⟨q, hq⟩ : ∃ q, decide (xs = ys) = q := ⟨_, rfl⟩
    rw [hq]
    have HQ := Lib.hid hq; clear hq
    go_enter Try.func121, Try.ntmps121
    go_wp2
    go_loopw [5] (fun i wr => ∃ k : Nat, k ≤ xs.length ∧ i = .int .i64 k ∧ xs.take k = ys.take k ∧ ∃ n, wr = w.drewN n) (fun i _ => xs.length - (intOf i).toNat)
    case atStart => exact ⟨0, Nat.zero_le _, rfl, rfl, 0, rfl⟩
    case round =>
      obtain ⟨k, hk, rfl, htk, n, rfl⟩ := hrel
      have HT := Lib.hid htk; clear htk
      by_cases hlt : k < xs.length
      · have hlt' : k < ys.length := by omega
        obtain ⟨⟨b, off, s⟩, rfl⟩ : ∃ b, a = some b := by
          cases a with
          | none => have := h3 rfl; omega
          | some b => exact ⟨b, rfl⟩
        obtain ⟨⟨b', off', s'⟩, rfl⟩ : ∃ b, a' = some b := by
          cases a' with
          | none => have := h3' rfl; omega
          | some b => exact ⟨b, rfl⟩
        obtain ⟨e1, e2, e3⟩ := h4 _ rfl (by omega)
        obtain ⟨e1', e2', e3'⟩ := h4' _ rfl (by omega)
        dsimp only at e1 e2 e3 e1' e2' e3'
        subst e1 e1'
        have hc := e3 k hlt
        have hc' := e3' k hlt'
        have HX := Lib.hid (fun e : xs[k] = ys[k] => take_eq_stepB HT.out hlt hlt' e)
        have HN := Lib.hid (fun (h : xs[k] ≠ ys[k]) (e : xs = ys) => h (by simp only [e]))
        clear h4 h4' e3 e3' h3 h3'
        generalize xs[k] = x at *
        generalize ys[k] = y at *
        unfold bv at hc hc'
        by_cases hxy : x = y
        · subst hxy
          go_wp2
          go_quiet (fail)
          go_wp2
          go_roundw
          case rel => exact ⟨k + 1, by omega, by go_num, HX.out trivial, _, rfl⟩
          case measure => simp [intOf]; omega
        · have hn : ((x.toNat : Int) != (y.toNat : Int)) = true := by rw [bne_iff_ne]; intro e; exact hxy (UInt8.toNat_inj.1 (by omega))
          have hne : decide (xs = ys) = false := by rw [decide_eq_false_iff_not]; exact HN.out hxy
          have HE := Lib.hid (HQ.out.symm.trans hne)
          clear hne hxy
          go_wp2
          go_quiet (fail)
          go_wp2
          go_ret
          exact ⟨ret_bool HE.out.symm, _, by first | rfl | exact World.drewN_drewN _ _ _⟩
      · clear h4 h4' h3 h3'
        have HE : Hid (q = true) := by
          have := HT.out
          rw [List.take_of_length_le (by omega), List.take_of_length_le (by omega)] at this
          show q = true
          rw [← HQ.out, this]; simp
        go_wp2
        go_ret
        exact ⟨ret_bool HE.out.symm, _, by first | rfl | exact World.drewN_drewN _ _ _⟩
  · have hl' : ((xs.length : Int) != (ys.length : Int)) = true := by rw [bne_iff_ne]; omega
    have hne : decide (xs = ys) = false := by rw [decide_eq_false_iff_not]; intro e; exact hl (by rw [e])
    rw [hne]
    clear hne hl
    go_enter Try.func121, Try.ntmps121
    go_wp2
    go_ret
    exact ⟨rfl, 0, rfl⟩
end Go.Proofs.Ytooaagmhgakhgaa
end

section
namespace Go.Proofs.Ytooaagmhgakhgaa
open Go.RowKit UtfL Go.Shelf

set_option maxRecDepth 100000 in
set_option maxHeartbeats 2000000 in
theorem refGet_any (v : Value) (b : List UInt8) (at_ : Int) (w : World) (hb : Sees bv w v b) :
    Calls Try.prog 115 #[v, .int .i64 at_] w fun e w' => e = .returned (getRes (getAt b at_)) ∧ Below w.heap.size w w' := by
  obtain ⟨a, cap, rfl, h1, h2, h3, h4⟩ := id hb
  unfold maxLen at h2
  by_cases hin : 0 ≤ at_ ∧ at_ < b.length
  · obtain ⟨g1, g2⟩ := hin
    obtain ⟨k, rfl⟩ := Int.eq_ofNat_of_zero_le g1
    have hk : k < b.length := by omega
    obtain ⟨⟨bb, off, s⟩, rfl⟩ : ∃ b, a = some b := by
      cases a with
      | none => have := h3 rfl; omega
      | some b => exact ⟨b, rfl⟩
    obtain ⟨e1, e2, e3⟩ := h4 _ rfl (by omega)
    dsimp only at e1 e2 e3
    subst e1
    clear h4 h3
    have HE := Lib.hid e3
    have HB := Lib.hid hb
    obtain ⟨R, hR⟩ : ∃ R, getAt b (k : Int) = R := ⟨_, rfl⟩
    rw [hR]
    rw [getAt_eq (by omega)] at hR
    have hll : (b.drop k).length = b.length - k := List.length_drop
    have HR := Lib.hid hR
    have HL := Lib.hid hll
    clear e3 hb hR hll
    go_enter Try.func115, Try.ntmps115
    go_wp2
    have hd0 : decide (b.length ≤ k) = false := decide_eq_false (by omega)
    rw [hd0, Bool.or_false]
    clear hd0
    go_loopw [7, 8] (fun c n wr => ∃ j : Nat, j ≤ 4 ∧ k + j ≤ b.length ∧ n = .int .i64 ((j + 1 : Nat) : Int) ∧ c = .int .i64 (acc ((b.drop k).take j) : Nat) ∧ (∀ i, 1 ≤ i → i ≤ j → put (acc ((b.drop k).take i) : Int) ≠ (b.drop k).take i) ∧ Below w.heap.size w wr) (fun _ n _ => 5 - (intOf n).toNat)
    case atStart => exact ⟨0, by omega, by omega, rfl, rfl, fun i h1 h2 => by omega, Below.refl _ _⟩
    case round =>
      obtain ⟨j, hj4, hjl, rfl, rfl, hno, hB⟩ := hrel
      have HNO := Lib.hid hno
      have hBs := hB.size
      clear hno
      by_cases hlt : j < 4 ∧ k + j < b.length
      · obtain ⟨hl4, hlb⟩ := hlt
        have hc := (hB.cell (p := ⟨bb, off + (k + j), none⟩) e2).trans (HE.out (k + j) hlb)
        have hjr : j < (b.drop k).length := by have := HL.out; omega
        have hgetd : (b.drop k)[j] = b[k + j] := List.getElem_drop
        have hts := take_snoc (b.drop k) j hjr
        rw [hgetd] at hts
        have hac := acc_bound (l := (b.drop k).take j) (by rw [List.length_take]; omega)
        generalize b[k + j] = x at *
        have hx := x.toNat_lt
        unfold bv at hc
        have hlen1 : ((b.drop k).take (j + 1)).length = j + 1 := by rw [List.length_take]; omega
        have hA1 := acc_bound (l := (b.drop k).take (j + 1)) (by omega)
        have hform : ((((j : Int) + 1 == 1) = true ∧ 240 ≤ x.toNat ∧ (x.toNat : Int) - 240 = (acc ((b.drop k).take (j + 1)) : Nat)) ∨ (((j : Int) + 1 == 1) = true ∧ (224 ≤ x.toNat ∧ x.toNat < 240) ∧ (x.toNat : Int) - 224 = (acc ((b.drop k).take (j + 1)) : Nat))) ∨
            ((((j : Int) + 1 == 1) = true ∧ (192 ≤ x.toNat ∧ x.toNat < 224) ∧ (x.toNat : Int) - 192 = (acc ((b.drop k).take (j + 1)) : Nat)) ∨ (((j : Int) + 1 == 1) = true ∧ x.toNat < 192 ∧ x.toNat = acc ((b.drop k).take (j + 1)))) ∨
            (((j : Int) + 1 == 1) = false ∧ (acc ((b.drop k).take j) : Int) * 64 + (x.toNat : Int) % 64 = (acc ((b.drop k).take (j + 1)) : Nat)) := by
          rcases Nat.eq_zero_or_pos j with hj0 | hj0
          · have e : acc ((b.drop k).take (j + 1)) = lead x.toNat := by
              rw [hts, hj0]; simp [acc]
            have hb1 : ((j : Int) + 1 == 1) = true := by rw [beq_iff_eq]; omega
            rw [e, lead]
            by_cases q1 : 240 ≤ x.toNat
            · rw [if_pos q1]; exact .inl (.inl ⟨hb1, q1, by omega⟩)
            · rw [if_neg q1]
              by_cases q2 : 224 ≤ x.toNat
              · rw [if_pos q2]; exact .inl (.inr ⟨hb1, ⟨q2, by omega⟩, by omega⟩)
              · rw [if_neg q2]
                by_cases q3 : 192 ≤ x.toNat
                · rw [if_pos q3]; exact .inr (.inl (.inl ⟨hb1, ⟨q3, by omega⟩, by omega⟩))
                · rw [if_neg q3]; exact .inr (.inl (.inr ⟨hb1, by omega, rfl⟩))
          · have e : acc ((b.drop k).take (j + 1)) = acc ((b.drop k).take j) * 64 + x.toNat % 64 := by
              rw [hts, acc_snoc (fun e => by have := congrArg List.length e; rw [List.length_take] at this; simp at this; omega)]
            have hb1 : ((j : Int) + 1 == 1) = false := by rw [beq_eq_false_iff_ne]; omega
            rw [e]; exact .inr (.inr ⟨hb1, by omega⟩)
        have HLEN := Lib.hid hlen1
        have HMS : Hid (∀ i, 1 ≤ i → i ≤ j + 1 → put (acc ((b.drop k).take (j + 1)) : Int) ≠ (b.drop k).take (j + 1) → put (acc ((b.drop k).take i) : Int) ≠ (b.drop k).take i) := by
          intro i h1 h2 h3
          rcases Nat.lt_or_ge j i with h4 | h4
          · have : i = j + 1 := by omega
            subst this; exact h3
          · exact HNO.out i h1 h4
        have HHIT : Hid (put (acc ((b.drop k).take (j + 1)) : Int) = (b.drop k).take (j + 1) → R = some (acc ((b.drop k).take (j + 1)), j + 1)) := by
          intro h
          rw [← HR.out]
          exact ref_hit (by omega) (by omega) h
        have hkj : k + (j + 1) ≤ b.length := by omega
        have HSL := Lib.hid (fun (w' : World) (h : Sees bv w' (.slice (some ⟨bb, off, none⟩) b.length cap) b) => h.slice k (j + 1) hkj)
        clear hlen1 hts hgetd hjr HL
        generalize hT : (b.drop k).take (j + 1) = T at *
        generalize hA : acc T = A at *
        generalize acc ((b.drop k).take j) = d at *
        generalize x.toNat = X at *
        have HT := Lib.hid hT
        have HA := Lib.hid hA
        clear hT hA
        obtain ⟨P, hP⟩ : ∃ P, put (A : Int) = P := ⟨_, rfl⟩
        have HP := Lib.hid hP
        have hkc : k ≤ cap := by omega
        have hkc2 : k + (j + 1) ≤ cap := by omega
        by_cases hit : put (A : Int) = T
        · have hr := HHIT.out hit
          subst hr
          have HD : Hid (decide (P = T) = true) := by show decide (P = T) = true; rw [← hP]; exact decide_eq_true hit
          clear hit HHIT HMS hP
          rcases hform with (⟨hj0, hq, hform⟩ | ⟨hj0, ⟨hq, hq2⟩, hform⟩) | (⟨hj0, ⟨hq, hq2⟩, hform⟩ | ⟨hj0, hq, hform⟩) | ⟨hj0, hform⟩
          all_goals
            go_wp2
            have hbd := (HB.out.below hB (Nat.le_refl _)).drew 1
            replace hbd : Sees bv wr.drew (.slice (some ⟨bb, off, none⟩) b.length cap) b := hbd
            have hBd : Below w.heap.size w wr.drew := hB.drew
            have hBds := hBd.size
            refine wp_region_mix (fun _ => True) (by kernel_rfl) (by kernel_rfl) trivial ?_
            repeat (first | (refine mix_skip (by rfl) ?_; simp only [Act.put, List.setIfInBounds_toArray, List.set_cons_zero, List.set_cons_succ]) | (refine mix_free (by rfl) (by rfl) (fun K hK => ?_); go_big_quiet_op; refine hK _ ?_; clear hK K) | (refine mix_chain (by rfl) (by rfl) (fun K hK => ?_); (go_simp; refine upV_call ?_; first | (go_at_call 122; refine (refPut1_any _ _).mono ?_; rw [HP.out]; rintro e w2 ⟨v2, rfl, hown2, hB3⟩; obtain ⟨pa, pc, rfl⟩ := owns_slice hown2; have hs2 := Lib.hid (owns_sees' hown2); clear hown2; refine ⟨_, rfl, hK _ _ trivial ?_⟩) | (go_at_call 121; refine (bytes_any _ _ P T w2 hs2.out (HSL.out w2 (hbd.below hB3 (Nat.le_refl _)))).mono ?_; rintro e w3 ⟨rfl, nd, rfl⟩; rw [HD.out]; refine ⟨_, rfl, hK _ _ trivial ?_⟩)); clear hK K; simp only [Act.put, List.setIfInBounds_toArray, List.set_cons_zero, List.set_cons_succ]))
            refine mix_nil ?_
            intro _
            have hBW : Below w.heap.size w (w2.drewN nd) := by
              have h := hBd.trans (hB3.mono hBds)
              exact ⟨h.os, h.tape, h.output, h.size, h.block⟩
            clear hB3 hBd hbd hs2 hB hBs hBds
            generalize w2.drewN nd = W at *
            go_wp2
            go_ret3
            exact ⟨by first | rfl | simp [getRes], hBW⟩
        · have HMS2 := Lib.hid (fun i h1 h2 => HMS.out i h1 h2 hit)
          have HD : Hid (decide (P = T) = false) := by show decide (P = T) = false; rw [← hP]; exact decide_eq_false hit
          clear hit HHIT HMS hP
          rcases hform with (⟨hj0, hq, hform⟩ | ⟨hj0, ⟨hq, hq2⟩, hform⟩) | (⟨hj0, ⟨hq, hq2⟩, hform⟩ | ⟨hj0, hq, hform⟩) | ⟨hj0, hform⟩
          all_goals
            go_wp2
            have hbd := (HB.out.below hB (Nat.le_refl _)).drew 1
            replace hbd : Sees bv wr.drew (.slice (some ⟨bb, off, none⟩) b.length cap) b := hbd
            have hBd : Below w.heap.size w wr.drew := hB.drew
            have hBds := hBd.size
            refine wp_region_mix (fun _ => True) (by kernel_rfl) (by kernel_rfl) trivial ?_
            repeat (first | (refine mix_skip (by rfl) ?_; simp only [Act.put, List.setIfInBounds_toArray, List.set_cons_zero, List.set_cons_succ]) | (refine mix_free (by rfl) (by rfl) (fun K hK => ?_); go_big_quiet_op; refine hK _ ?_; clear hK K) | (refine mix_chain (by rfl) (by rfl) (fun K hK => ?_); (go_simp; refine upV_call ?_; first | (go_at_call 122; refine (refPut1_any _ _).mono ?_; rw [HP.out]; rintro e w2 ⟨v2, rfl, hown2, hB3⟩; obtain ⟨pa, pc, rfl⟩ := owns_slice hown2; have hs2 := Lib.hid (owns_sees' hown2); clear hown2; refine ⟨_, rfl, hK _ _ trivial ?_⟩) | (go_at_call 121; refine (bytes_any _ _ P T w2 hs2.out (HSL.out w2 (hbd.below hB3 (Nat.le_refl _)))).mono ?_; rintro e w3 ⟨rfl, nd, rfl⟩; rw [HD.out]; refine ⟨_, rfl, hK _ _ trivial ?_⟩)); clear hK K; simp only [Act.put, List.setIfInBounds_toArray, List.set_cons_zero, List.set_cons_succ]))
            refine mix_nil ?_
            intro _
            have hBW : Below w.heap.size w (w2.drewN nd) := by
              have h := hBd.trans (hB3.mono hBds)
              exact ⟨h.os, h.tape, h.output, h.size, h.block⟩
            clear hB3 hBd hbd hs2 hB hBs hBds
            generalize w2.drewN nd = W at *
            go_wp2
            go_roundw
            case rel => exact ⟨j + 1, by omega, hkj, by go_num, by rw [HT.out, HA.out], HMS2.out, hBW⟩
            case measure => simp [intOf]; omega
      · have hr : R = none := by
          rw [← HR.out]
          refine ref_none fun n h1 h2 h3 => HNO.out n h1 ?_
          have := HL.out
          omega
        subst hr
        by_cases hj : j < 4
        · have hkb : k + j = b.length := by omega
          have ht : decide ((j : Int) + 1 ≤ (b.length : Int) - (k : Int)) = false := by rw [decide_eq_false_iff_not]; omega
          clear hkb
          go_wp2
          go_ret3
          exact ⟨rfl, hB⟩
        · go_wp2
          go_ret3
          exact ⟨rfl, hB⟩
  · have HR : Hid (getAt b at_ = none) := by show getAt b at_ = none; rw [getAt, if_neg hin]
    rw [HR.out]
    by_cases q : at_ < 0
    · go_enter Try.func115, Try.ntmps115
      go_wp2
      go_ret3
      exact ⟨rfl, Below.refl _ _⟩
    · have q2 : (b.length : Int) ≤ at_ := by omega
      clear hin
      go_enter Try.func115, Try.ntmps115
      go_wp2
      go_ret3
      exact ⟨rfl, Below.refl _ _⟩
end Go.Proofs.Ytooaagmhgakhgaa
end

section
namespace Go.Proofs.Ytooaagmhgakhgaa
set_option linter.unusedSimpArgs false
attribute [local push_cast] encI encB
open Go.RowKit UtfL
set_option maxRecDepth 10000
set_option maxHeartbeats 4000000
def getD' (r : Option (Nat × Nat)) : D := match r with
  | some (c, n) => .tup [.i c, .i n, .b true]
  | none => .tup [.i 0, .i 0, .b false]
theorem getD'_rep (r : Option (Nat × Nat)) (O : Nat → Nat → Prop) (w : World) : Rep O w (getRes r) (getD' r) := by
  cases r with
  | none =>
    have := RepL.cons (Rep.s (O := O) (w := w) (.int .i64 0) rfl) (.cons (.s (.int .i64 0) rfl) (.cons (.s (.bool false) rfl) .nil))
    exact .tup _ _ this.1 this.2
  | some q =>
    obtain ⟨c, n⟩ := q
    have := RepL.cons (Rep.s (O := O) (w := w) (.int .i64 c) rfl) (.cons (.s (.int .i64 n) rfl) (.cons (.s (.bool true) rfl) .nil))
    exact .tup _ _ this.1 this.2
theorem refUtfGetF (o : Own) (b : List UInt8) (at_ : Int) (st : St) : TrF Try.prog 115 [.sl o (b.map encB), .i at_] st fun d st' => d = getD' (getAt b at_) ∧ st' = st :=
  trF_pure fun vs w hv => by
    obtain ⟨v, v', rfl, h1, h2⟩ := args2 hv
    cases rep_s h2
    exact ⟨_, getD'_rep _, refGet_any v b at_ w (sees_bytes h1)⟩
theorem utfValidF (s : ByteArray) (hs : s.size ≤ 1000000) (st : St) : TrF Try.prog 99 [.str s] st fun d st' => d = .b (decide (0 ≤ countOf s.data.toList)) ∧ st' = st :=
  trF_pure fun vs w hv => by
    obtain ⟨v, rfl, h1⟩ := args1 hv
    cases rep_s h1
    exact ⟨_, fun _ _ => .s _ rfl, valid_any s hs w⟩
def encN (n : Nat) : List D := [.i n]
theorem refCodesF (s : ByteArray) (hs : s.size ≤ 1000000) (st : St) : TrF Try.prog 100 [.str s] st fun d st' => d = .tup [.sl .shared ((codesOf s.data.toList).map encN), .i (endOf s.data.toList : Nat)] ∧ st' = st := by
  refine trF_enter (ts := [2, 3]) Try.func100 rfl (by rw [Try.ntmps100]; exact Nat.le_of_ble_eq_true rfl) (fun tmps w => by simp [results, Try.results100, go_sem, resVal]) ?_
  simp only [Try.ntmps100]
  have hl : s.data.toList.length = s.size := by simp
  generalize hb : s.data.toList = b at *
  repeat' (first | with_reducible refine Go1.go ?_ | ((with_reducible apply ev_go); (focus ((try simp (disch := omega) only [push_cast, simprocAttr, getD', encN, *]); (try exact rfl); done))) | ((with_reducible refine w_last ?_ ?_ ?_); kernel_rfl; rfl) | with_reducible refine Go2.go ?_ | ((with_reducible first | apply w_stepG | refine s_bi ?_ ?_ | refine blk_ne ?_ ?_); rfl) | ((with_reducible refine al_go ?_); intro b) | ((with_reducible apply a2_go); (focus (first | assumption | (intro h; cases h))); (focus (intro o'; repeat (first | exact ra_h | apply ra_t))); (iterate 2 (focus (first | assumption | exact len_nil | exact len_one rfl | (intro a ha; obtain ⟨x, -, rfl⟩ := List.mem_map.1 ha; first | rfl | simp) | (intro a ha; simp at ha; simp [ha])))); (iterate 2 (focus (first | omega | (simp only [List.length_map, List.length_cons, List.length_nil, List.length_append]; omega)))); intro o' ho') | ((with_reducible first | refine w_region ?_ ?_ | refine w_dra ?_ ?_); kernel_rfl) | ((with_reducible refine Go3.go ?_ ?_); all_goals (intro hb; (try with_reducible intro hb1); (try (exfalso; first | contradiction | omega)))) | fail)
  refine tr_room 3 1 0 ?_
  refine tr_loop (ι := Nat × List (Nat × Nat)) (fun i A st' => ∃ o', o' ≠ .shared ∧ UtfL.At b i.2 i.1 ∧ A.df = [] ∧ A.e 0 = .str s ∧ A.e 4 = .sl o' ((i.2.map (·.2)).map encN) ∧ A.e 5 = .i i.1 ∧ st' = .room o' 3 1 ((i.2.map (·.2)).map encN).length :: st) (fun i => b.length - i.1) (0, []) ⟨.tight, by simp, At.start b, rfl, rfl, rfl, rfl, rfl⟩ ?_
  rintro ⟨p, pre⟩ A st' ⟨o', ho, hat, hdf, h0, h4, h5, rfl⟩
  dsimp only at hat h4 h5 ⊢
  have hp := hat.1
  have hpl : pre.length ≤ 1000000 := by
    have h1 := congrArg List.length hat.2.1
    have h2 := (scan_len b.length 0 b (Nat.le_refl _)).1
    rw [List.length_append] at h1
    omega
  have HAT := Lib.hid hat
  clear hat
  by_cases hlt : p < s.size
  · cases hg : getAt b (p : Int) with
    | none =>
      have hco : codesOf b = pre.map (·.2) := by rw [codesOf, HAT.out.done hg]
      have hen : endOf b = p := by rw [endOf, HAT.out.done hg, HAT.out.2.2]
      repeat' (first | with_reducible refine Go1.go ?_ | ((with_reducible apply ev_go); (focus ((try simp (disch := omega) only [push_cast, simprocAttr, getD', encN, *]); (try exact rfl); done))) | ((with_reducible refine w_last ?_ ?_ ?_); kernel_rfl; rfl) | with_reducible refine Go2.go ?_ | ((with_reducible first | apply w_stepG | refine s_bi ?_ ?_ | refine blk_ne ?_ ?_); rfl) | ((with_reducible refine al_go ?_); intro b) | ((with_reducible apply (ck_le Try.call115)); exact LEL.refl _; exact refUtfGetF _ b p _) | ((with_reducible apply a2_go); (focus (first | assumption | (intro h; cases h))); (focus (intro o'; repeat (first | exact ra_h | apply ra_t))); (iterate 2 (focus (first | assumption | exact len_nil | exact len_one rfl | (intro a ha; obtain ⟨x, -, rfl⟩ := List.mem_map.1 ha; first | rfl | simp) | (intro a ha; simp at ha; simp [ha])))); (iterate 2 (focus (first | omega | (simp only [List.length_map, List.length_cons, List.length_nil, List.length_append]; omega)))); intro o' ho') | ((with_reducible first | refine w_region ?_ ?_ | refine w_dra ?_ ?_); kernel_rfl) | ((with_reducible refine Go3.go ?_ ?_); all_goals (intro hb; (try with_reducible intro hb1); (try (exfalso; first | contradiction | omega)))) | fail)
      (refine ret_eq (by simp) (by first | rfl | assumption) (by (repeat (first | exact List.Sublist.refl _ | apply List.Sublist.cons))) ?_; (try simp (disch := omega) only [push_cast, simprocAttr, getD', encN, *]); try (first | exact LE.refl _ | exact LE.sl _ _ | ((first | refine LE.tup ?_ | refine LE.agg ?_); (repeat' (first | exact LEL.nil | refine LEL.cons ?_ ?_ | exact LE.refl _ | exact LE.sl _ _ | refine LE.agg ?_)); done) | refine LE.of_eq ?_))
    | some q =>
      obtain ⟨c, n⟩ := q
      obtain ⟨hat2, hn1, hn2⟩ := HAT.out.next hg
      have hp2 := hat2.1
      have HA := Lib.hid hat2
      clear hat2
      repeat' (first | with_reducible refine Go1.go ?_ | ((with_reducible apply ev_go); (focus ((try simp (disch := omega) only [push_cast, simprocAttr, getD', encN, *]); (try exact rfl); done))) | ((with_reducible refine w_last ?_ ?_ ?_); kernel_rfl; rfl) | with_reducible refine Go2.go ?_ | ((with_reducible first | apply w_stepG | refine s_bi ?_ ?_ | refine blk_ne ?_ ?_); rfl) | ((with_reducible refine al_go ?_); intro b) | ((with_reducible apply (ck_le Try.call115)); exact LEL.refl _; exact refUtfGetF _ b p _) | ((with_reducible apply a2_go); (focus (first | assumption | (intro h; cases h))); (focus (intro o'; repeat (first | exact ra_h | apply ra_t))); (iterate 2 (focus (first | assumption | exact len_nil | exact len_one rfl | (intro a ha; obtain ⟨x, -, rfl⟩ := List.mem_map.1 ha; first | rfl | simp) | (intro a ha; simp at ha; simp [ha])))); (iterate 2 (focus (first | omega | (simp only [List.length_map, List.length_cons, List.length_nil, List.length_append]; omega)))); intro o' ho') | ((with_reducible first | refine w_region ?_ ?_ | refine w_dra ?_ ?_); kernel_rfl) | ((with_reducible refine Go3.go ?_ ?_); all_goals (intro hb; (try with_reducible intro hb1); (try (exfalso; first | contradiction | omega)))) | fail)
      refine ⟨(p + n, pre ++ [(p + n, c)]), ⟨o', ho', HA.out, hdf, ?_, ?_, ?_, ?_⟩, ?_⟩
      all_goals (first | rfl | assumption | omega | (simp (disch := omega) only [push_cast, simprocAttr, getD', encN, *]; try omega; done))
  · obtain ⟨hco, hen⟩ : codesOf b = pre.map (·.2) ∧ endOf b = p := by
      have e : p = b.length := by omega
      exact ⟨by rw [codesOf, UtfL.At.full (e ▸ HAT.out)], by rw [endOf, UtfL.At.full (e ▸ HAT.out), HAT.out.2.2]⟩
    repeat' (first | with_reducible refine Go1.go ?_ | ((with_reducible apply ev_go); (focus ((try simp (disch := omega) only [push_cast, simprocAttr, getD', encN, *]); (try exact rfl); done))) | ((with_reducible refine w_last ?_ ?_ ?_); kernel_rfl; rfl) | with_reducible refine Go2.go ?_ | ((with_reducible first | apply w_stepG | refine s_bi ?_ ?_ | refine blk_ne ?_ ?_); rfl) | ((with_reducible refine al_go ?_); intro b) | ((with_reducible apply (ck_le Try.call115)); exact LEL.refl _; exact refUtfGetF _ b p _) | ((with_reducible apply a2_go); (focus (first | assumption | (intro h; cases h))); (focus (intro o'; repeat (first | exact ra_h | apply ra_t))); (iterate 2 (focus (first | assumption | exact len_nil | exact len_one rfl | (intro a ha; obtain ⟨x, -, rfl⟩ := List.mem_map.1 ha; first | rfl | simp) | (intro a ha; simp at ha; simp [ha])))); (iterate 2 (focus (first | omega | (simp only [List.length_map, List.length_cons, List.length_nil, List.length_append]; omega)))); intro o' ho') | ((with_reducible first | refine w_region ?_ ?_ | refine w_dra ?_ ?_); kernel_rfl) | ((with_reducible refine Go3.go ?_ ?_); all_goals (intro hb; (try with_reducible intro hb1); (try (exfalso; first | contradiction | omega)))) | fail)
    (refine ret_eq (by simp) (by first | rfl | assumption) (by (repeat (first | exact List.Sublist.refl _ | apply List.Sublist.cons))) ?_; (try simp (disch := omega) only [push_cast, simprocAttr, getD', encN, *]); try (first | exact LE.refl _ | exact LE.sl _ _ | ((first | refine LE.tup ?_ | refine LE.agg ?_); (repeat' (first | exact LEL.nil | refine LEL.cons ?_ ?_ | exact LE.refl _ | exact LE.sl _ _ | refine LE.agg ?_)); done) | refine LE.of_eq ?_))
theorem refUtfValidF (s : ByteArray) (hs : s.size ≤ 1000000) (st : St) : TrF Try.prog 85 [.str s] st fun d st' => d = .b (decide (0 ≤ countOf s.data.toList)) ∧ st' = st := by
  have hle := scan_len s.data.toList.length 0 s.data.toList (Nat.le_refl _)
  have hsz : s.data.toList.length = s.size := by simp
  have he : endOf s.data.toList ≤ s.data.toList.length := by
    have := hle.2.2
    rw [endOf]; omega
  have hc : decide (0 ≤ countOf s.data.toList) = decide ((endOf s.data.toList : Int) = s.size) := by
    rw [decide_eq_decide, countOf]
    split <;> omega
  rw [hc]
  refine trF_enter (ts := [2]) Try.func85 rfl (by rw [Try.ntmps85]; exact Nat.le_of_ble_eq_true rfl) (fun tmps w => by simp [results, Try.results85, go_sem, resVal]) ?_
  simp only [Try.ntmps85]
  repeat' (first | with_reducible refine Go1.go ?_ | ((with_reducible apply ev_go); (focus ((try simp (disch := omega) only [push_cast, simprocAttr, getD', encN, *]); (try exact rfl); done))) | ((with_reducible refine w_last ?_ ?_ ?_); kernel_rfl; rfl) | with_reducible refine Go2.go ?_ | ((with_reducible first | apply w_stepG | refine s_bi ?_ ?_ | refine blk_ne ?_ ?_); rfl) | ((with_reducible refine al_go ?_); intro b) | ((with_reducible apply (ck_le Try.call100)); exact LEL.refl _; exact refCodesF s hs _) | ((with_reducible first | refine w_region ?_ ?_ | refine w_dra ?_ ?_); kernel_rfl) | ((with_reducible refine Go3.go ?_ ?_); all_goals (intro hb; (try with_reducible intro hb1); (try (exfalso; first | contradiction | omega)))) | fail)
  all_goals (refine ret_eq (by simp) (by first | rfl | assumption) (by (repeat (first | exact List.Sublist.refl _ | apply List.Sublist.cons))) ?_; (try simp (disch := omega) only [push_cast, simprocAttr, getD', encN, *]); try (first | exact LE.refl _ | exact LE.sl _ _ | ((first | refine LE.tup ?_ | refine LE.agg ?_); (repeat' (first | exact LEL.nil | refine LEL.cons ?_ ?_ | exact LE.refl _ | exact LE.sl _ _ | refine LE.agg ?_)); done) | refine LE.of_eq ?_))
end Go.Proofs.Ytooaagmhgakhgaa
end

section
namespace Go.Proofs.Ytooaagmhgakhgaa
set_option linter.unusedSimpArgs false
attribute [local push_cast] encB encI V.cells_mk V.cells_take V.cells_len isE_eq
open Go.RowKit
set_option maxRecDepth 10000
set_option maxHeartbeats 4000000
namespace V
def validB (l : List UInt8) : Bool := decide (0 ≤ countOf l)
def sgl (k n : Int) (s : ByteArray) (len : Nat) : Bool :=
  if k = 0 then (n == 0) && decide (s.size = 0)
  else if k = 1 then ((n == 0) || (n == 1)) && decide (s.size = 0)
  else if k = 2 then decide (s.size = 0)
  else if k = 3 then (n == 0) && isName s.data.toList
  else if k = 4 then (n == 0) && (decide (s.size ≤ 200) && validB s.data.toList)
  else if k = 5 then (n == 0) && (decide (s.size = 0) && decide (len ≤ 20))
  else false
end V
open V in
theorem valSingleF (k n : Int) (s : ByteArray) (l : List V) (st : St) : TrF Try.prog 84 [.agg [.i k, .i n, .str s, .sl .shared (l.map V.cells)]] st fun x st' => x = .b (sgl k n s l.length) ∧ st' = st := by
  obtain ⟨nm, hnm⟩ : ∃ nm, isName s.data.toList = nm := ⟨_, rfl⟩
  obtain ⟨vd, hvd⟩ : ∃ vd, validB s.data.toList = vd := ⟨_, rfl⟩
  have hN := valIsNameF s
  have hV := fun h => utfValidF s h
  rw [validB] at hvd
  rw [hnm] at hN
  rw [hvd] at hV
  have hS : Hid (∀ b, sgl k n s l.length = b → sgl k n s l.length = b) := fun b h => h
  have hE : sgl k n s l.length = (if k = 0 then (n == 0) && decide (s.size = 0)
  else if k = 1 then ((n == 0) || (n == 1)) && decide (s.size = 0)
  else if k = 2 then decide (s.size = 0)
  else if k = 3 then (n == 0) && nm
  else if k = 4 then (n == 0) && (decide (s.size ≤ 200) && vd)
  else if k = 5 then (n == 0) && (decide (s.size = 0) && decide (l.length ≤ 20))
  else false) := by rw [← hnm, ← hvd]; rfl
  rw [hE]
  clear hE hS hnm hvd
  have hN := Lib.hid hN
  have hV := Lib.hid hV
  refine trF_enter (ts := [2]) Try.func84 rfl (by rw [Try.ntmps84]; exact Nat.le_of_ble_eq_true rfl) (fun tmps w => by simp [results, Try.results84, go_sem, resVal]) ?_
  simp only [Try.ntmps84]
  by_cases k0 : k = 0
  · subst k0
    repeat' (first | with_reducible refine Go1.go ?_ | ((with_reducible apply ev_go); (focus ((try simp (disch := omega) only [push_cast, simprocAttr, *]); (try exact rfl); done))) | ((with_reducible refine w_last ?_ ?_ ?_); kernel_rfl; rfl) | with_reducible refine Go2.go ?_ | ((with_reducible first | apply w_stepG | refine s_bi ?_ ?_ | refine blk_ne ?_ ?_); rfl) | ((with_reducible refine al_go ?_); intro b) | ((with_reducible first | refine w_region ?_ ?_ | refine w_dra ?_ ?_); kernel_rfl) | ((with_reducible refine Go3.go ?_ ?_); all_goals (intro hb; (try with_reducible intro hb1); (try (exfalso; first | contradiction | omega)))) | fail)
    all_goals (refine ret_eq (by simp) (by first | rfl | assumption) (by (repeat (first | exact List.Sublist.refl _ | apply List.Sublist.cons))) ?_; (try simp (disch := omega) only [push_cast, simprocAttr, *]); try (first | exact LE.refl _ | exact LE.sl _ _ | ((first | refine LE.tup ?_ | refine LE.agg ?_); (repeat' (first | exact LEL.nil | refine LEL.cons ?_ ?_ | exact LE.refl _ | exact LE.sl _ _ | refine LE.agg ?_)); done) | refine LE.of_eq ?_))
    all_goals simp_all
    all_goals (try (intros; first | omega | (exfalso; omega)))
  by_cases k1 : k = 1
  · subst k1
    repeat' (first | with_reducible refine Go1.go ?_ | ((with_reducible apply ev_go); (focus ((try simp (disch := omega) only [push_cast, simprocAttr, *]); (try exact rfl); done))) | ((with_reducible refine w_last ?_ ?_ ?_); kernel_rfl; rfl) | with_reducible refine Go2.go ?_ | ((with_reducible first | apply w_stepG | refine s_bi ?_ ?_ | refine blk_ne ?_ ?_); rfl) | ((with_reducible refine al_go ?_); intro b) | ((with_reducible first | refine w_region ?_ ?_ | refine w_dra ?_ ?_); kernel_rfl) | ((with_reducible refine Go3.go ?_ ?_); all_goals (intro hb; (try with_reducible intro hb1); (try (exfalso; first | contradiction | omega)))) | fail)
    all_goals (refine ret_eq (by simp) (by first | rfl | assumption) (by (repeat (first | exact List.Sublist.refl _ | apply List.Sublist.cons))) ?_; (try simp (disch := omega) only [push_cast, simprocAttr, *]); try (first | exact LE.refl _ | exact LE.sl _ _ | ((first | refine LE.tup ?_ | refine LE.agg ?_); (repeat' (first | exact LEL.nil | refine LEL.cons ?_ ?_ | exact LE.refl _ | exact LE.sl _ _ | refine LE.agg ?_)); done) | refine LE.of_eq ?_))
    all_goals simp_all
    all_goals (try (intros; first | omega | (exfalso; omega)))
  by_cases k2 : k = 2
  · subst k2
    repeat' (first | with_reducible refine Go1.go ?_ | ((with_reducible apply ev_go); (focus ((try simp (disch := omega) only [push_cast, simprocAttr, *]); (try exact rfl); done))) | ((with_reducible refine w_last ?_ ?_ ?_); kernel_rfl; rfl) | with_reducible refine Go2.go ?_ | ((with_reducible first | apply w_stepG | refine s_bi ?_ ?_ | refine blk_ne ?_ ?_); rfl) | ((with_reducible refine al_go ?_); intro b) | ((with_reducible first | refine w_region ?_ ?_ | refine w_dra ?_ ?_); kernel_rfl) | ((with_reducible refine Go3.go ?_ ?_); all_goals (intro hb; (try with_reducible intro hb1); (try (exfalso; first | contradiction | omega)))) | fail)
    all_goals (refine ret_eq (by simp) (by first | rfl | assumption) (by (repeat (first | exact List.Sublist.refl _ | apply List.Sublist.cons))) ?_; (try simp (disch := omega) only [push_cast, simprocAttr, *]); try (first | exact LE.refl _ | exact LE.sl _ _ | ((first | refine LE.tup ?_ | refine LE.agg ?_); (repeat' (first | exact LEL.nil | refine LEL.cons ?_ ?_ | exact LE.refl _ | exact LE.sl _ _ | refine LE.agg ?_)); done) | refine LE.of_eq ?_))
    all_goals simp_all
    all_goals (try (intros; first | omega | (exfalso; omega)))
  by_cases k3 : k = 3
  · subst k3
    repeat' (first | with_reducible refine Go1.go ?_ | ((with_reducible apply ev_go); (focus ((try simp (disch := omega) only [push_cast, simprocAttr, *]); (try exact rfl); done))) | ((with_reducible refine w_last ?_ ?_ ?_); kernel_rfl; rfl) | with_reducible refine Go2.go ?_ | ((with_reducible first | apply w_stepG | refine s_bi ?_ ?_ | refine blk_ne ?_ ?_); rfl) | ((with_reducible refine al_go ?_); intro b) | ((with_reducible apply (ck_le Try.call86)); exact LEL.refl _; exact hN.out _) | ((with_reducible first | refine w_region ?_ ?_ | refine w_dra ?_ ?_); kernel_rfl) | ((with_reducible refine Go3.go ?_ ?_); all_goals (intro hb; (try with_reducible intro hb1); (try (exfalso; first | contradiction | omega)))) | fail)
    all_goals (refine ret_eq (by simp) (by first | rfl | assumption) (by (repeat (first | exact List.Sublist.refl _ | apply List.Sublist.cons))) ?_; (try simp (disch := omega) only [push_cast, simprocAttr, *]); try (first | exact LE.refl _ | exact LE.sl _ _ | ((first | refine LE.tup ?_ | refine LE.agg ?_); (repeat' (first | exact LEL.nil | refine LEL.cons ?_ ?_ | exact LE.refl _ | exact LE.sl _ _ | refine LE.agg ?_)); done) | refine LE.of_eq ?_))
    all_goals simp_all
    all_goals (try (intros; first | omega | (exfalso; omega)))
  by_cases k4 : k = 4
  · subst k4
    repeat' (first | with_reducible refine Go1.go ?_ | ((with_reducible apply ev_go); (focus ((try simp (disch := omega) only [push_cast, simprocAttr, *]); (try exact rfl); done))) | ((with_reducible refine w_last ?_ ?_ ?_); kernel_rfl; rfl) | with_reducible refine Go2.go ?_ | ((with_reducible first | apply w_stepG | refine s_bi ?_ ?_ | refine blk_ne ?_ ?_); rfl) | ((with_reducible refine al_go ?_); intro b) | ((with_reducible apply (ck_le Try.call99)); exact LEL.refl _; exact hV.out (by omega) _) | ((with_reducible first | refine w_region ?_ ?_ | refine w_dra ?_ ?_); kernel_rfl) | ((with_reducible refine Go3.go ?_ ?_); all_goals (intro hb; (try with_reducible intro hb1); (try (exfalso; first | contradiction | omega)))) | fail)
    all_goals (refine ret_eq (by simp) (by first | rfl | assumption) (by (repeat (first | exact List.Sublist.refl _ | apply List.Sublist.cons))) ?_; (try simp (disch := omega) only [push_cast, simprocAttr, *]); try (first | exact LE.refl _ | exact LE.sl _ _ | ((first | refine LE.tup ?_ | refine LE.agg ?_); (repeat' (first | exact LEL.nil | refine LEL.cons ?_ ?_ | exact LE.refl _ | exact LE.sl _ _ | refine LE.agg ?_)); done) | refine LE.of_eq ?_))
    all_goals simp_all
    all_goals (try (intros; first | omega | (exfalso; omega)))
  by_cases k5 : k = 5
  · subst k5
    repeat' (first | with_reducible refine Go1.go ?_ | ((with_reducible apply ev_go); (focus ((try simp (disch := omega) only [push_cast, simprocAttr, *]); (try exact rfl); done))) | ((with_reducible refine w_last ?_ ?_ ?_); kernel_rfl; rfl) | with_reducible refine Go2.go ?_ | ((with_reducible first | apply w_stepG | refine s_bi ?_ ?_ | refine blk_ne ?_ ?_); rfl) | ((with_reducible refine al_go ?_); intro b) | ((with_reducible first | refine w_region ?_ ?_ | refine w_dra ?_ ?_); kernel_rfl) | ((with_reducible refine Go3.go ?_ ?_); all_goals (intro hb; (try with_reducible intro hb1); (try (exfalso; first | contradiction | omega)))) | fail)
    all_goals (refine ret_eq (by simp) (by first | rfl | assumption) (by (repeat (first | exact List.Sublist.refl _ | apply List.Sublist.cons))) ?_; (try simp (disch := omega) only [push_cast, simprocAttr, *]); try (first | exact LE.refl _ | exact LE.sl _ _ | ((first | refine LE.tup ?_ | refine LE.agg ?_); (repeat' (first | exact LEL.nil | refine LEL.cons ?_ ?_ | exact LE.refl _ | exact LE.sl _ _ | refine LE.agg ?_)); done) | refine LE.of_eq ?_))
    all_goals simp_all
    all_goals (try (intros; first | omega | (exfalso; omega)))
  have a0 : (k == 0) = false := by simpa using k0
  have a1 : (k == 1) = false := by simpa using k1
  have a2 : (k == 2) = false := by simpa using k2
  have a3 : (k == 3) = false := by simpa using k3
  have a4 : (k == 4) = false := by simpa using k4
  have a5 : (k == 5) = false := by simpa using k5
  clear hN hV
  repeat' (first | with_reducible refine Go1.go ?_ | ((with_reducible apply ev_go); (focus ((try simp (disch := omega) only [push_cast, simprocAttr, *]); (try exact rfl); done))) | ((with_reducible refine w_last ?_ ?_ ?_); kernel_rfl; rfl) | with_reducible refine Go2.go ?_ | ((with_reducible first | apply w_stepG | refine s_bi ?_ ?_ | refine blk_ne ?_ ?_); rfl) | ((with_reducible refine al_go ?_); intro b) | ((with_reducible first | refine w_region ?_ ?_ | refine w_dra ?_ ?_); kernel_rfl) | ((with_reducible refine Go3.go ?_ ?_); all_goals (intro hb; (try with_reducible intro hb1); (try (exfalso; first | contradiction | omega)))) | fail)
  all_goals (refine ret_eq (by simp) (by first | rfl | assumption) (by (repeat (first | exact List.Sublist.refl _ | apply List.Sublist.cons))) ?_; (try simp (disch := omega) only [push_cast, simprocAttr, *]); try (first | exact LE.refl _ | exact LE.sl _ _ | ((first | refine LE.tup ?_ | refine LE.agg ?_); (repeat' (first | exact LEL.nil | refine LEL.cons ?_ ?_ | exact LE.refl _ | exact LE.sl _ _ | refine LE.agg ?_)); done) | refine LE.of_eq ?_))
end Go.Proofs.Ytooaagmhgakhgaa
end

section
namespace Go.Proofs.Ytooaagmhgakhgaa
set_option linter.unusedSimpArgs false
attribute [local push_cast] encB encI V.cells_mk V.cells_take V.cells_len isE_eq
open Go.RowKit
set_option maxRecDepth 10000
set_option maxHeartbeats 4000000
namespace V
mutual
def parts : V → Bool
  | .mk k n s l => sgl k n s l.length && (decide (k = 5) || decide (l.length = 0)) && partsL l
def partsL : List V → Bool
  | [] => true
  | x :: l => x.parts && partsL l
end
end V
open V in
theorem valPartsF : ∀ (N : Nat) (v : V), v.nodes ≤ N → ∀ st, TrF Try.prog 67 [.agg v.cells] st fun x st' => x = .b v.parts ∧ st' = st
  | 0, v, h => by have := v.nodes_pos; omega
  | N + 1, .mk k n s l, hN => by
    intro st
    have IH := Lib.hid fun x (hx : x ∈ l) => valPartsF N x (by have := nodes_lt (k := k) (n := n) (s := s) hx; omega)
    rw [V.cells_mk, show (V.mk k n s l).parts = (sgl k n s l.length && (decide (k = 5) || decide (l.length = 0)) && partsL l) from parts.eq_1 ..]
    clear hN
    have hS := Lib.hid (valSingleF k n s l)
    have h20 : sgl k n s l.length = true → k = 5 → l.length ≤ 20 := fun h hk => by
      subst hk
      simp [sgl] at h
      omega
    obtain ⟨B, hB⟩ : ∃ B, sgl k n s l.length = B := ⟨_, rfl⟩
    rw [hB] at hS h20 ⊢
    clear hB
    obtain ⟨L, hL⟩ : ∃ L, partsL l = L := ⟨_, rfl⟩
    have HL : Hid (partsL (l.drop 0) = L) := hL
    rw [hL]
    clear hL
    refine trF_enter (ts := [2]) Try.func67 rfl (by rw [Try.ntmps67]; exact Nat.le_of_ble_eq_true rfl) (fun tmps w => by simp [results, Try.results67, go_sem, resVal]) ?_
    simp only [Try.ntmps67]
    by_cases hb0 : B = false
    · subst hb0
      clear h20
      rw [Bool.false_and, Bool.false_and]
      repeat' (first | with_reducible refine Go1.go ?_ | ((with_reducible apply ev_go); (focus ((try simp (disch := omega) only [push_cast, simprocAttr, *]); (try exact rfl); done))) | ((with_reducible refine w_last ?_ ?_ ?_); kernel_rfl; rfl) | with_reducible refine Go2.go ?_ | ((with_reducible first | apply w_stepG | refine s_bi ?_ ?_ | refine blk_ne ?_ ?_); rfl) | ((with_reducible refine al_go ?_); intro b) | ((with_reducible apply (ck_le Try.call84)); exact LEL.refl _; exact hS.out _) | ((with_reducible first | refine w_region ?_ ?_ | refine w_dra ?_ ?_); kernel_rfl) | ((with_reducible refine Go3.go ?_ ?_); all_goals (intro hb; (try with_reducible intro hb1); (try (exfalso; first | contradiction | omega)))) | fail)
      all_goals (refine ret_eq (by simp) (by first | rfl | assumption) (by (repeat (first | exact List.Sublist.refl _ | apply List.Sublist.cons))) ?_; (try simp (disch := omega) only [push_cast, simprocAttr, *]); try (first | exact LE.refl _ | exact LE.sl _ _ | ((first | refine LE.tup ?_ | refine LE.agg ?_); (repeat' (first | exact LEL.nil | refine LEL.cons ?_ ?_ | exact LE.refl _ | exact LE.sl _ _ | refine LE.agg ?_)); done) | refine LE.of_eq ?_))
    obtain rfl : B = true := by simpa using hb0
    clear hb0
    rw [Bool.true_and]
    have h20 := Lib.hid h20
    by_cases hk : k ≠ 5 ∧ 0 < l.length
    · rw [decide_eq_false hk.1, decide_eq_false (show ¬ l.length = 0 by omega), Bool.or_self, Bool.false_and]
      obtain ⟨hk, h0⟩ := hk
      have h0' : (0 : Int) < l.length := by omega
      have hk' : (k == 5) = false := by simpa using hk
      repeat' (first | with_reducible refine Go1.go ?_ | ((with_reducible apply ev_go); (focus ((try simp (disch := omega) only [push_cast, simprocAttr, *]); (try exact rfl); done))) | ((with_reducible refine w_last ?_ ?_ ?_); kernel_rfl; rfl) | with_reducible refine Go2.go ?_ | ((with_reducible first | apply w_stepG | refine s_bi ?_ ?_ | refine blk_ne ?_ ?_); rfl) | ((with_reducible refine al_go ?_); intro b) | ((with_reducible apply (ck_le Try.call84)); exact LEL.refl _; exact hS.out _) | ((with_reducible first | refine w_region ?_ ?_ | refine w_dra ?_ ?_); kernel_rfl) | ((with_reducible refine Go3.go ?_ ?_); all_goals (intro hb; (try with_reducible intro hb1); (try (exfalso; first | contradiction | omega)))) | fail)
      all_goals (refine ret_eq (by simp) (by first | rfl | assumption) (by (repeat (first | exact List.Sublist.refl _ | apply List.Sublist.cons))) ?_; (try simp (disch := omega) only [push_cast, simprocAttr, *]); try (first | exact LE.refl _ | exact LE.sl _ _ | ((first | refine LE.tup ?_ | refine LE.agg ?_); (repeat' (first | exact LEL.nil | refine LEL.cons ?_ ?_ | exact LE.refl _ | exact LE.sl _ _ | refine LE.agg ?_)); done) | refine LE.of_eq ?_))
    rw [show (decide (k = 5) || decide (l.length = 0)) = true by rw [Bool.or_eq_true, decide_eq_true_eq, decide_eq_true_eq]; omega, Bool.true_and]
    have hk : k = 5 ∨ (l.length : Int) = 0 := by omega
    have hlen : l.length ≤ 20 := by
      rcases hk with h | h
      · exact h20.out rfl h
      · omega
    clear h20
    repeat' (first | with_reducible refine Go1.go ?_ | ((with_reducible apply ev_go); (focus ((try simp (disch := omega) only [push_cast, simprocAttr, *]); (try exact rfl); done))) | ((with_reducible refine w_last ?_ ?_ ?_); kernel_rfl; rfl) | with_reducible refine Go2.go ?_ | ((with_reducible first | apply w_stepG | refine s_bi ?_ ?_ | refine blk_ne ?_ ?_); rfl) | ((with_reducible refine al_go ?_); intro b) | ((with_reducible apply (ck_le Try.call84)); exact LEL.refl _; exact hS.out _) | ((with_reducible first | refine w_region ?_ ?_ | refine w_dra ?_ ?_); kernel_rfl) | ((with_reducible refine Go3.go ?_ ?_); all_goals (intro hb; (try with_reducible intro hb1); (try (exfalso; first | contradiction | omega)))) | fail)
    all_goals
      refine tr_loopd (ι := Nat) (fun i A st' => i ≤ l.length ∧ Hid (partsL (l.drop i) = L) ∧ A.df = [] ∧ A.e 20 = .sl .shared (l.map V.cells) ∧ A.e 21 = .i l.length ∧ A.e 22 = .i i ∧ st' = st) (fun i => l.length - i) 0 ⟨Nat.zero_le _, HL, ?_, ?_, ?_, ?_, rfl⟩ ?_
      iterate 4 (focus (first | rfl | assumption | omega | (simp (disch := omega) only [push_cast, simprocAttr, *]; try omega; done)))
      rintro i A st' ⟨hi, HT, hdf, h7', h8', h9', rfl⟩
      by_cases hlt : i < l.length
      · obtain ⟨x, hx⟩ : ∃ x, l[i]? = some x := ⟨_, List.getElem?_eq_getElem hlt⟩
        have ih := IH.out x (mem_of hx)
        have HE := HT.out
        rw [drop_cons hx, partsL] at HE
        clear HT HL hk
        cases x with
        | mk k1 n1 s1 l1 =>
          rw [V.cells_mk] at ih
          generalize (V.mk k1 n1 s1 l1).parts = pp at *
          have ih := Lib.hid ih
          cases pp
          · rw [Bool.false_and] at HE
            rw [← HE]
            clear HE
            repeat' (first | with_reducible refine Go1.go ?_ | ((with_reducible apply ev_go); (focus ((try simp (disch := omega) only [push_cast, simprocAttr, *]); (try exact rfl); done))) | ((with_reducible refine w_last ?_ ?_ ?_); kernel_rfl; rfl) | with_reducible refine Go2.go ?_ | ((with_reducible first | apply w_stepG | refine s_bi ?_ ?_ | refine blk_ne ?_ ?_); rfl) | ((with_reducible refine al_go ?_); intro b) | ((with_reducible apply (ck_le Try.call67)); exact LEL.refl _; exact ih.out _) | ((with_reducible first | refine w_region ?_ ?_ | refine w_dra ?_ ?_); kernel_rfl) | ((with_reducible refine Go3.go ?_ ?_); all_goals (intro hb; (try with_reducible intro hb1); (try (exfalso; first | contradiction | omega)))) | fail)
            all_goals (refine ret_eq (by simp) (by first | rfl | assumption) (by (repeat (first | exact List.Sublist.refl _ | apply List.Sublist.cons))) ?_; (try simp (disch := omega) only [push_cast, simprocAttr, *]); try (first | exact LE.refl _ | exact LE.sl _ _ | ((first | refine LE.tup ?_ | refine LE.agg ?_); (repeat' (first | exact LEL.nil | refine LEL.cons ?_ ?_ | exact LE.refl _ | exact LE.sl _ _ | refine LE.agg ?_)); done) | refine LE.of_eq ?_))
          · rw [Bool.true_and] at HE
            have HE := Lib.hid HE
            repeat' (first | with_reducible refine Go1.go ?_ | ((with_reducible apply ev_go); (focus ((try simp (disch := omega) only [push_cast, simprocAttr, *]); (try exact rfl); done))) | ((with_reducible refine w_last ?_ ?_ ?_); kernel_rfl; rfl) | with_reducible refine Go2.go ?_ | ((with_reducible first | apply w_stepG | refine s_bi ?_ ?_ | refine blk_ne ?_ ?_); rfl) | ((with_reducible refine al_go ?_); intro b) | ((with_reducible apply (ck_le Try.call67)); exact LEL.refl _; exact ih.out _) | ((with_reducible first | refine w_region ?_ ?_ | refine w_dra ?_ ?_); kernel_rfl) | ((with_reducible refine Go3.go ?_ ?_); all_goals (intro hb; (try with_reducible intro hb1); (try (exfalso; first | contradiction | omega)))) | fail)
            refine ⟨i + 1, _, List.sublist_cons_self _ _, ⟨hlt, HE, ?_, ?_, ?_, ?_, rfl⟩, ?_⟩
            all_goals (first | rfl | assumption | omega | (simp (disch := omega) only [push_cast, simprocAttr, *]; try omega; done))
      · have HE := HT.out
        rw [List.drop_eq_nil_of_le (by omega), partsL] at HE
        rw [← HE]
        clear HE HT HL hk
        repeat' (first | with_reducible refine Go1.go ?_ | ((with_reducible apply ev_go); (focus ((try simp (disch := omega) only [push_cast, simprocAttr, *]); (try exact rfl); done))) | ((with_reducible refine w_last ?_ ?_ ?_); kernel_rfl; rfl) | with_reducible refine Go2.go ?_ | ((with_reducible first | apply w_stepG | refine s_bi ?_ ?_ | refine blk_ne ?_ ?_); rfl) | ((with_reducible refine al_go ?_); intro b) | ((with_reducible first | refine w_region ?_ ?_ | refine w_dra ?_ ?_); kernel_rfl) | ((with_reducible refine Go3.go ?_ ?_); all_goals (intro hb; (try with_reducible intro hb1); (try (exfalso; first | contradiction | omega)))) | fail)
        all_goals (refine ret_eq (by simp) (by first | rfl | assumption) (by (repeat (first | exact List.Sublist.refl _ | apply List.Sublist.cons))) ?_; (try simp (disch := omega) only [push_cast, simprocAttr, *]); try (first | exact LE.refl _ | exact LE.sl _ _ | ((first | refine LE.tup ?_ | refine LE.agg ?_); (repeat' (first | exact LEL.nil | refine LEL.cons ?_ ?_ | exact LE.refl _ | exact LE.sl _ _ | refine LE.agg ?_)); done) | refine LE.of_eq ?_))
end Go.Proofs.Ytooaagmhgakhgaa
end

section
namespace Go.Proofs.Ytooaagmhgakhgaa
set_option linter.unusedSimpArgs false
attribute [local push_cast] encB encI V.cells_mk V.cells_take V.cells_len isE_eq
open Go.RowKit
set_option maxRecDepth 10000
set_option maxHeartbeats 4000000
namespace V
def c1 (k : Int) (sz len : Nat) : Prop := k < 0 ∨ 5 < k ∨ (k ≠ 5 ∧ 0 < len) ∨ (k ≠ 3 ∧ k ≠ 4 ∧ sz ≠ 0)
instance (k : Int) (sz len : Nat) : Decidable (c1 k sz len) := by unfold c1; infer_instance
def c2 (k n : Int) : Prop := k ≠ 2 ∧ n ≠ 0 ∧ ¬ (k = 1 ∧ n = 1)
instance (k n : Int) : Decidable (c2 k n) := by unfold c2; infer_instance
def c3 (k : Int) (sz len a b : Nat) : Prop := (k = 3 ∧ a ≠ 1) ∨ (k = 4 ∧ (200 < sz ∨ b ≠ 1)) ∨ 20 < len
instance (k : Int) (sz len a b : Nat) : Decidable (c3 k sz len a b) := by unfold c3; infer_instance
theorem each_eq {k n : Int} {s : ByteArray} {len a b : Nat} (ha : isName s.data.toList = decide (a = 1)) (hb : validB s.data.toList = decide (b = 1)) : (sgl k n s len && (decide (k = 5) || decide (len = 0))) = decide (¬ c1 k s.size len ∧ ¬ c2 k n ∧ ¬ c3 k s.size len a b) := by
  rw [Bool.eq_iff_iff]
  unfold sgl c1 c2 c3
  rw [ha, hb]
  clear ha hb
  generalize s.size = z
  by_cases k0 : k = 0
  · subst k0; simp <;> omega
  by_cases k1 : k = 1
  · subst k1; simp <;> omega
  by_cases k2 : k = 2
  · subst k2; simp <;> omega
  by_cases k3 : k = 3
  · subst k3; simp <;> omega
  by_cases k4 : k = 4
  · subst k4; simp <;> omega
  by_cases k5 : k = 5
  · subst k5; simp <;> omega
  simp [k0, k1, k2, k3, k4, k5]
  omega
end V
open V in
theorem refEachF : ∀ (N : Nat) (v : V), v.nodes ≤ N → ∀ st, TrF Try.prog 68 [.agg v.cells] st fun x st' => x = .b v.parts ∧ st' = st
  | 0, v, h => by have := v.nodes_pos; omega
  | N + 1, .mk k n s l, hN => by
    intro st
    have IH := Lib.hid fun x (hx : x ∈ l) => refEachF N x (by have := nodes_lt (k := k) (n := n) (s := s) hx; omega)
    rw [V.cells_mk, show (V.mk k n s l).parts = (sgl k n s l.length && (decide (k = 5) || decide (l.length = 0)) && partsL l) from parts.eq_1 ..]
    clear hN
    obtain ⟨a, ha⟩ : ∃ a : Nat, isName s.data.toList = decide (a = 1) := ⟨if isName s.data.toList then 1 else 0, by cases isName s.data.toList <;> rfl⟩
    obtain ⟨b, hb⟩ : ∃ b : Nat, validB s.data.toList = decide (b = 1) := ⟨if validB s.data.toList then 1 else 0, by cases validB s.data.toList <;> rfl⟩
    rw [each_eq ha hb]
    have hNm := refIsNameF s
    have hVd := fun h => refUtfValidF s h
    rw [ha] at hNm
    rw [show decide (0 ≤ countOf s.data.toList) = decide (b = 1) from hb] at hVd
    clear ha hb
    have hNm := Lib.hid hNm
    have hVd := Lib.hid hVd
    obtain ⟨L, hL⟩ : ∃ L, partsL l = L := ⟨_, rfl⟩
    have HL : Hid (partsL (l.drop 0) = L) := hL
    rw [hL]
    clear hL
    refine trF_enter (ts := [2]) Try.func68 rfl (by rw [Try.ntmps68]; exact Nat.le_of_ble_eq_true rfl) (fun tmps w => by simp [results, Try.results68, go_sem, resVal]) ?_
    simp only [Try.ntmps68]
    repeat' (first | with_reducible refine Go1.go ?_ | ((with_reducible apply ev_go); (focus ((try simp (disch := omega) only [push_cast, simprocAttr, *]); (try exact rfl); done))) | refine tr_cutR 1 (fun A st' => A.df = [] ∧ A.e 1 = .ip [.i k, .i n, .str s, .sl .shared (l.map V.cells)] ∧ A.e 37 = .b (decide (c1 k s.size l.length)) ∧ st = st') ?_ ?_ | ((with_reducible refine w_last ?_ ?_ ?_); kernel_rfl; rfl) | with_reducible refine Go2.go ?_ | ((with_reducible first | apply w_stepG | refine s_bi ?_ ?_ | refine blk_ne ?_ ?_); rfl) | ((with_reducible refine al_go ?_); intro b) | ((with_reducible first | refine w_region ?_ ?_ | refine w_dra ?_ ?_); kernel_rfl) | ((with_reducible refine Go3.go ?_ ?_); all_goals (intro hb; (try with_reducible intro hb1); (try (exfalso; first | contradiction | omega)))) | fail)
    all_goals try (refine ⟨by (first | rfl | assumption | omega | (simp (disch := omega) only [push_cast, simprocAttr, *]; try omega; done)), by (first | rfl | assumption | omega | (simp (disch := omega) only [push_cast, simprocAttr, *]; try omega; done)), ?_, rfl⟩; simp (disch := omega) only [push_cast, simprocAttr, *]; (first | rfl | (refine congrArg D.b ?_; rw [Bool.eq_iff_iff]; simp only [Bool.true_and, Bool.false_and, Bool.and_true, Bool.and_false, Bool.or_false, Bool.or_true, Bool.true_or, Bool.false_or, true_and, and_true, Bool.not_eq_true', Bool.not_eq_false', decide_eq_true_eq, decide_eq_false_iff_not, beq_iff_eq, beq_eq_false_iff_ne, bne_iff_ne, ne_eq, reduceCtorEq, iff_true, true_iff, iff_false, false_iff, Bool.and_eq_true, Bool.or_eq_true, Bool.false_eq_true, Bool.true_eq_false]; (try simp only [c1, true_and, and_true, true_or, or_true, false_or, or_false, false_and, and_false, not_true, not_false_eq_true, ne_eq]); first | done | omega)))
    rintro A st' ⟨hdf, e1, e37, rfl⟩
    by_cases h1 : c1 k s.size l.length
    · rw [decide_eq_false (fun h => h.1 h1), Bool.false_and]
      rw [decide_eq_true h1] at e37
      clear h1
      repeat' (first | with_reducible refine Go1.go ?_ | ((with_reducible apply ev_go); (focus ((try simp (disch := omega) only [push_cast, simprocAttr, *]); (try exact rfl); done))) | ((with_reducible refine w_last ?_ ?_ ?_); kernel_rfl; rfl) | with_reducible refine Go2.go ?_ | ((with_reducible first | apply w_stepG | refine s_bi ?_ ?_ | refine blk_ne ?_ ?_); rfl) | ((with_reducible refine al_go ?_); intro b) | ((with_reducible first | refine w_region ?_ ?_ | refine w_dra ?_ ?_); kernel_rfl) | ((with_reducible refine Go3.go ?_ ?_); all_goals (intro hb; (try with_reducible intro hb1); (try (exfalso; first | contradiction | omega)))) | fail)
      (refine ret_eq (by simp) (by first | rfl | assumption) (by (repeat (first | exact List.Sublist.refl _ | apply List.Sublist.cons))) ?_; (try simp (disch := omega) only [push_cast, simprocAttr, *]); try (first | exact LE.refl _ | exact LE.sl _ _ | ((first | refine LE.tup ?_ | refine LE.agg ?_); (repeat' (first | exact LEL.nil | refine LEL.cons ?_ ?_ | exact LE.refl _ | exact LE.sl _ _ | refine LE.agg ?_)); done) | refine LE.of_eq ?_))
    rw [decide_eq_false h1] at e37
    rw [show decide (¬ c1 k s.size l.length ∧ ¬ c2 k n ∧ ¬ c3 k s.size l.length a b) = decide (¬ c2 k n ∧ ¬ c3 k s.size l.length a b) from decide_eq_decide.2 ⟨fun h => h.2, fun h => ⟨h1, h⟩⟩]
    clear h1
    repeat' (first | with_reducible refine Go1.go ?_ | ((with_reducible apply ev_go); (focus ((try simp (disch := omega) only [push_cast, simprocAttr, *]); (try exact rfl); done))) | refine tr_cutR 3 (fun A st' => A.df = [] ∧ A.e 1 = .ip [.i k, .i n, .str s, .sl .shared (l.map V.cells)] ∧ A.e 56 = .b (decide (c2 k n)) ∧ st = st') ?_ ?_ | ((with_reducible refine w_last ?_ ?_ ?_); kernel_rfl; rfl) | with_reducible refine Go2.go ?_ | ((with_reducible first | apply w_stepG | refine s_bi ?_ ?_ | refine blk_ne ?_ ?_); rfl) | ((with_reducible refine al_go ?_); intro b) | ((with_reducible first | refine w_region ?_ ?_ | refine w_dra ?_ ?_); kernel_rfl) | ((with_reducible refine Go3.go ?_ ?_); all_goals (intro hb; (try with_reducible intro hb1); (try (exfalso; first | contradiction | omega)))) | fail)
    all_goals try (refine ⟨by (first | rfl | assumption | omega | (simp (disch := omega) only [push_cast, simprocAttr, *]; try omega; done)), by (first | rfl | assumption | omega | (simp (disch := omega) only [push_cast, simprocAttr, *]; try omega; done)), ?_, rfl⟩; simp (disch := omega) only [push_cast, simprocAttr, *]; (first | rfl | (refine congrArg D.b ?_; rw [Bool.eq_iff_iff]; simp only [Bool.true_and, Bool.false_and, Bool.and_true, Bool.and_false, Bool.or_false, Bool.or_true, Bool.true_or, Bool.false_or, true_and, and_true, Bool.not_eq_true', Bool.not_eq_false', decide_eq_true_eq, decide_eq_false_iff_not, beq_iff_eq, beq_eq_false_iff_ne, bne_iff_ne, ne_eq, reduceCtorEq, iff_true, true_iff, iff_false, false_iff, Bool.and_eq_true, Bool.or_eq_true, Bool.false_eq_true, Bool.true_eq_false]; (try simp only [c2, true_and, and_true, true_or, or_true, false_or, or_false, false_and, and_false, not_true, not_false_eq_true, ne_eq]); first | done | omega)))
    clear hdf e1 e37 A
    rintro A st' ⟨hdf, e1, e37, rfl⟩
    by_cases h1 : c2 k n
    · rw [decide_eq_false (fun h => h.1 h1), Bool.false_and]
      rw [decide_eq_true h1] at e37
      clear h1
      repeat' (first | with_reducible refine Go1.go ?_ | ((with_reducible apply ev_go); (focus ((try simp (disch := omega) only [push_cast, simprocAttr, *]); (try exact rfl); done))) | ((with_reducible refine w_last ?_ ?_ ?_); kernel_rfl; rfl) | with_reducible refine Go2.go ?_ | ((with_reducible first | apply w_stepG | refine s_bi ?_ ?_ | refine blk_ne ?_ ?_); rfl) | ((with_reducible refine al_go ?_); intro b) | ((with_reducible first | refine w_region ?_ ?_ | refine w_dra ?_ ?_); kernel_rfl) | ((with_reducible refine Go3.go ?_ ?_); all_goals (intro hb; (try with_reducible intro hb1); (try (exfalso; first | contradiction | omega)))) | fail)
      (refine ret_eq (by simp) (by first | rfl | assumption) (by (repeat (first | exact List.Sublist.refl _ | apply List.Sublist.cons))) ?_; (try simp (disch := omega) only [push_cast, simprocAttr, *]); try (first | exact LE.refl _ | exact LE.sl _ _ | ((first | refine LE.tup ?_ | refine LE.agg ?_); (repeat' (first | exact LEL.nil | refine LEL.cons ?_ ?_ | exact LE.refl _ | exact LE.sl _ _ | refine LE.agg ?_)); done) | refine LE.of_eq ?_))
    rw [decide_eq_false h1] at e37
    rw [show decide (¬ c2 k n ∧ ¬ c3 k s.size l.length a b) = decide (¬ c3 k s.size l.length a b) from decide_eq_decide.2 ⟨fun h => h.2, fun h => ⟨h1, h⟩⟩]
    clear h1
    repeat' (first | with_reducible refine Go1.go ?_ | ((with_reducible apply ev_go); (focus ((try simp (disch := omega) only [push_cast, simprocAttr, *]); (try exact rfl); done))) | refine tr_cutR 5 (fun A st' => A.df = [] ∧ A.e 1 = .ip [.i k, .i n, .str s, .sl .shared (l.map V.cells)] ∧ A.e 88 = .b (decide (c3 k s.size l.length a b)) ∧ st = st') ?_ ?_ | ((with_reducible refine w_last ?_ ?_ ?_); kernel_rfl; rfl) | with_reducible refine Go2.go ?_ | ((with_reducible first | apply w_stepG | refine s_bi ?_ ?_ | refine blk_ne ?_ ?_); rfl) | ((with_reducible refine al_go ?_); intro b) | ((with_reducible apply (ck_le Try.call77)); exact LEL.refl _; exact hNm.out _) | ((with_reducible apply (ck_le Try.call85)); exact LEL.refl _; exact hVd.out (by omega) _) | ((with_reducible first | refine w_region ?_ ?_ | refine w_dra ?_ ?_); kernel_rfl) | ((with_reducible refine Go3.go ?_ ?_); all_goals (intro hb; (try with_reducible intro hb1); (try (exfalso; first | contradiction | omega)))) | fail)
    all_goals try (refine ⟨by (first | rfl | assumption | omega | (simp (disch := omega) only [push_cast, simprocAttr, *]; try omega; done)), by (first | rfl | assumption | omega | (simp (disch := omega) only [push_cast, simprocAttr, *]; try omega; done)), ?_, rfl⟩; simp (disch := omega) only [push_cast, simprocAttr, *]; (first | rfl | (refine congrArg D.b ?_; rw [Bool.eq_iff_iff]; simp only [Bool.true_and, Bool.false_and, Bool.and_true, Bool.and_false, Bool.or_false, Bool.or_true, Bool.true_or, Bool.false_or, true_and, and_true, Bool.not_eq_true', Bool.not_eq_false', decide_eq_true_eq, decide_eq_false_iff_not, beq_iff_eq, beq_eq_false_iff_ne, bne_iff_ne, ne_eq, reduceCtorEq, iff_true, true_iff, iff_false, false_iff, Bool.and_eq_true, Bool.or_eq_true, Bool.false_eq_true, Bool.true_eq_false]; (try simp only [c3, true_and, and_true, true_or, or_true, false_or, or_false, false_and, and_false, not_true, not_false_eq_true, ne_eq]); first | done | omega)))
    clear hdf e1 e37 A
    rintro A st' ⟨hdf, e1, e37, rfl⟩
    by_cases h1 : c3 k s.size l.length a b
    · rw [decide_eq_false (fun h => h h1), Bool.false_and]
      rw [decide_eq_true h1] at e37
      clear h1
      repeat' (first | with_reducible refine Go1.go ?_ | ((with_reducible apply ev_go); (focus ((try simp (disch := omega) only [push_cast, simprocAttr, *]); (try exact rfl); done))) | ((with_reducible refine w_last ?_ ?_ ?_); kernel_rfl; rfl) | with_reducible refine Go2.go ?_ | ((with_reducible first | apply w_stepG | refine s_bi ?_ ?_ | refine blk_ne ?_ ?_); rfl) | ((with_reducible refine al_go ?_); intro b) | ((with_reducible first | refine w_region ?_ ?_ | refine w_dra ?_ ?_); kernel_rfl) | ((with_reducible refine Go3.go ?_ ?_); all_goals (intro hb; (try with_reducible intro hb1); (try (exfalso; first | contradiction | omega)))) | fail)
      (refine ret_eq (by simp) (by first | rfl | assumption) (by (repeat (first | exact List.Sublist.refl _ | apply List.Sublist.cons))) ?_; (try simp (disch := omega) only [push_cast, simprocAttr, *]); try (first | exact LE.refl _ | exact LE.sl _ _ | ((first | refine LE.tup ?_ | refine LE.agg ?_); (repeat' (first | exact LEL.nil | refine LEL.cons ?_ ?_ | exact LE.refl _ | exact LE.sl _ _ | refine LE.agg ?_)); done) | refine LE.of_eq ?_))
    rw [decide_eq_false h1] at e37
    rw [decide_eq_true h1, Bool.true_and]
    have hlen : l.length ≤ 20 := by unfold c3 at h1; omega
    clear h1 hNm hVd
    repeat' (first | with_reducible refine Go1.go ?_ | ((with_reducible apply ev_go); (focus ((try simp (disch := omega) only [push_cast, simprocAttr, *]); (try exact rfl); done))) | ((with_reducible refine w_last ?_ ?_ ?_); kernel_rfl; rfl) | with_reducible refine Go2.go ?_ | ((with_reducible first | apply w_stepG | refine s_bi ?_ ?_ | refine blk_ne ?_ ?_); rfl) | ((with_reducible refine al_go ?_); intro b) | ((with_reducible first | refine w_region ?_ ?_ | refine w_dra ?_ ?_); kernel_rfl) | ((with_reducible refine Go3.go ?_ ?_); all_goals (intro hb; (try with_reducible intro hb1); (try (exfalso; first | contradiction | omega)))) | fail)
    refine tr_loop (ι := Nat) (fun i A st' => i ≤ l.length ∧ Hid (partsL (l.drop i) = L) ∧ A.df = [] ∧ A.e 1 = .ip [.i k, .i n, .str s, .sl .shared (l.map V.cells)] ∧ A.e 3 = .i i ∧ st = st') (fun i => l.length - i) 0 ⟨Nat.zero_le _, HL, ?_, ?_, ?_, rfl⟩ ?_
    iterate 3 (focus (first | rfl | assumption | omega | (simp (disch := omega) only [push_cast, simprocAttr, *]; try omega; done)))
    clear hdf e1 e37 A
    rintro i A st' ⟨hi, HT, hdf, e1, e3, rfl⟩
    by_cases hlt : i < l.length
    · obtain ⟨x, hx⟩ : ∃ x, l[i]? = some x := ⟨_, List.getElem?_eq_getElem hlt⟩
      have ih := IH.out x (mem_of hx)
      have HE := HT.out
      rw [drop_cons hx, partsL] at HE
      clear HT HL
      cases x with
      | mk k1 n1 s1 l1 =>
        rw [V.cells_mk] at ih
        generalize (V.mk k1 n1 s1 l1).parts = pp at *
        have ih := Lib.hid ih
        cases pp
        · rw [Bool.false_and] at HE
          rw [← HE]
          clear HE
          repeat' (first | with_reducible refine Go1.go ?_ | ((with_reducible apply ev_go); (focus ((try simp (disch := omega) only [push_cast, simprocAttr, *]); (try exact rfl); done))) | ((with_reducible refine w_last ?_ ?_ ?_); kernel_rfl; rfl) | with_reducible refine Go2.go ?_ | ((with_reducible first | apply w_stepG | refine s_bi ?_ ?_ | refine blk_ne ?_ ?_); rfl) | ((with_reducible refine al_go ?_); intro b) | ((with_reducible apply (ck_le Try.call68)); exact LEL.refl _; exact ih.out _) | ((with_reducible first | refine w_region ?_ ?_ | refine w_dra ?_ ?_); kernel_rfl) | ((with_reducible refine Go3.go ?_ ?_); all_goals (intro hb; (try with_reducible intro hb1); (try (exfalso; first | contradiction | omega)))) | fail)
          all_goals (refine ret_eq (by simp) (by first | rfl | assumption) (by (repeat (first | exact List.Sublist.refl _ | apply List.Sublist.cons))) ?_; (try simp (disch := omega) only [push_cast, simprocAttr, *]); try (first | exact LE.refl _ | exact LE.sl _ _ | ((first | refine LE.tup ?_ | refine LE.agg ?_); (repeat' (first | exact LEL.nil | refine LEL.cons ?_ ?_ | exact LE.refl _ | exact LE.sl _ _ | refine LE.agg ?_)); done) | refine LE.of_eq ?_))
        · rw [Bool.true_and] at HE
          have HE := Lib.hid HE
          repeat' (first | with_reducible refine Go1.go ?_ | ((with_reducible apply ev_go); (focus ((try simp (disch := omega) only [push_cast, simprocAttr, *]); (try exact rfl); done))) | ((with_reducible refine w_last ?_ ?_ ?_); kernel_rfl; rfl) | with_reducible refine Go2.go ?_ | ((with_reducible first | apply w_stepG | refine s_bi ?_ ?_ | refine blk_ne ?_ ?_); rfl) | ((with_reducible refine al_go ?_); intro b) | ((with_reducible apply (ck_le Try.call68)); exact LEL.refl _; exact ih.out _) | ((with_reducible first | refine w_region ?_ ?_ | refine w_dra ?_ ?_); kernel_rfl) | ((with_reducible refine Go3.go ?_ ?_); all_goals (intro hb; (try with_reducible intro hb1); (try (exfalso; first | contradiction | omega)))) | fail)
          refine ⟨i + 1, ⟨hlt, HE, ?_, ?_, ?_, rfl⟩, ?_⟩
          all_goals (first | rfl | assumption | omega | (simp (disch := omega) only [push_cast, simprocAttr, *]; try omega; done))
    · have HE := HT.out
      rw [List.drop_eq_nil_of_le (by omega), partsL] at HE
      rw [← HE]
      clear HE HT HL
      repeat' (first | with_reducible refine Go1.go ?_ | ((with_reducible apply ev_go); (focus ((try simp (disch := omega) only [push_cast, simprocAttr, *]); (try exact rfl); done))) | ((with_reducible refine w_last ?_ ?_ ?_); kernel_rfl; rfl) | with_reducible refine Go2.go ?_ | ((with_reducible first | apply w_stepG | refine s_bi ?_ ?_ | refine blk_ne ?_ ?_); rfl) | ((with_reducible refine al_go ?_); intro b) | ((with_reducible first | refine w_region ?_ ?_ | refine w_dra ?_ ?_); kernel_rfl) | ((with_reducible refine Go3.go ?_ ?_); all_goals (intro hb; (try with_reducible intro hb1); (try (exfalso; first | contradiction | omega)))) | fail)
      all_goals (refine ret_eq (by simp) (by first | rfl | assumption) (by (repeat (first | exact List.Sublist.refl _ | apply List.Sublist.cons))) ?_; (try simp (disch := omega) only [push_cast, simprocAttr, *]); try (first | exact LE.refl _ | exact LE.sl _ _ | ((first | refine LE.tup ?_ | refine LE.agg ?_); (repeat' (first | exact LEL.nil | refine LEL.cons ?_ ?_ | exact LE.refl _ | exact LE.sl _ _ | refine LE.agg ?_)); done) | refine LE.of_eq ?_))
end Go.Proofs.Ytooaagmhgakhgaa
end

section
namespace Go.Proofs.Ytooaagmhgakhgaa
set_option linter.unusedSimpArgs false
attribute [local push_cast] encB encI V.cells_mk V.cells_take V.cells_len isE_eq
open Go.RowKit
set_option maxRecDepth 10000
set_option maxHeartbeats 4000000
namespace V
def great (v : V) : Bool := decide (v.cnt 1000 10 < 0) || decide (10 < (v.deep : Int))
def right (v : V) : Bool := v.parts && (decide (v.deep ≤ 4) && decide (v.nodes ≤ 100))
theorem not_great {v : V} (h : v.great = false) : v.nodes ≤ 1000 ∧ v.deep ≤ 10 := by
  unfold great at h
  rw [Bool.or_eq_false_iff, decide_eq_false_iff_not, decide_eq_false_iff_not] at h
  have := cnt_eq v 1000 10 (by omega)
  exact ⟨by omega, by omega⟩
theorem right_iff {v : V} : v.right = true ↔ v.parts = true ∧ v.deep ≤ 4 ∧ v.nodes ≤ 100 := by
  unfold right; simp
end V
open V in
theorem refGreatF (v : V) (hok : v.Ok) (st : St) : TrF Try.prog 12 [.agg v.cells] st fun x st' => x = .b v.great ∧ st' = st := by
  have hC := Lib.hid (refCountF v.nodes v (Nat.le_refl _) hok 1000 10 (by omega) (by omega) (by omega) (by omega))
  have hB : v.cnt 1000 10 < 0 ∨ v.nodes ≤ 1000 := by
    rcases Int.lt_or_le (v.cnt 1000 10) 0 with h | h
    · exact .inl h
    · have := cnt_eq v 1000 10 h; omega
  have hD := Lib.hid fun h => refDeepF v.nodes v (Nat.le_refl _) h
  unfold great
  generalize v.cnt 1000 10 = c at *
  cases v with
  | mk k n s l =>
  rw [V.cells_mk] at *
  generalize (V.mk k n s l).deep = d at *
  generalize (V.mk k n s l).nodes = nn at *
  refine trF_enter (ts := [2]) Try.func12 rfl (by rw [Try.ntmps12]; exact Nat.le_of_ble_eq_true rfl) (fun tmps w => by simp [results, Try.results12, go_sem, resVal]) ?_
  simp only [Try.ntmps12]
  repeat' (first | with_reducible refine Go1.go ?_ | ((with_reducible apply ev_go); (focus ((try simp (disch := omega) only [push_cast, simprocAttr, *]); (try exact rfl); done))) | ((with_reducible refine w_last ?_ ?_ ?_); kernel_rfl; rfl) | with_reducible refine Go2.go ?_ | ((with_reducible first | apply w_stepG | refine s_bi ?_ ?_ | refine blk_ne ?_ ?_); rfl) | ((with_reducible refine al_go ?_); intro b) | ((with_reducible apply (ck_le Try.call40)); exact LEL.refl _; exact hC.out _) | ((with_reducible apply (ck_le Try.call41)); exact LEL.refl _; exact hD.out (by omega) _) | ((with_reducible first | refine w_region ?_ ?_ | refine w_dra ?_ ?_); kernel_rfl) | ((with_reducible refine Go3.go ?_ ?_); all_goals (intro hb; (try with_reducible intro hb1); (try (exfalso; first | contradiction | omega)))) | fail)
  all_goals (refine ret_eq (by simp) (by first | rfl | assumption) (by (repeat (first | exact List.Sublist.refl _ | apply List.Sublist.cons))) ?_; (try simp (disch := omega) only [push_cast, simprocAttr, *]); try (first | exact LE.refl _ | exact LE.sl _ _ | ((first | refine LE.tup ?_ | refine LE.agg ?_); (repeat' (first | exact LEL.nil | refine LEL.cons ?_ ?_ | exact LE.refl _ | exact LE.sl _ _ | refine LE.agg ?_)); done) | refine LE.of_eq ?_))
  all_goals (first | rfl | (refine congrArg D.b ?_; rw [Bool.eq_iff_iff]; simp only [Bool.true_and, Bool.false_and, Bool.and_true, Bool.and_false, Bool.or_false, Bool.or_true, Bool.true_or, Bool.false_or, true_and, and_true, Bool.not_eq_true', Bool.not_eq_false', decide_eq_true_eq, decide_eq_false_iff_not, beq_iff_eq, beq_eq_false_iff_ne, bne_iff_ne, ne_eq, reduceCtorEq, iff_true, true_iff, iff_false, false_iff, Bool.and_eq_true, Bool.or_eq_true, Bool.false_eq_true, Bool.true_eq_false]; first | done | omega))
open V in
theorem valRightF (v : V) (hB : v.nodes ≤ 4611686018427387904) (st : St) : TrF Try.prog 42 [.agg v.cells] st fun x st' => x = .b v.right ∧ st' = st := by
  have hD := Lib.hid (valDeepF v.nodes v (Nat.le_refl _) hB)
  have hN := Lib.hid (valNodesF v.nodes v (Nat.le_refl _) hB)
  have hP := Lib.hid (valPartsF v.nodes v (Nat.le_refl _))
  unfold right
  cases v with
  | mk k n s l =>
  rw [V.cells_mk] at *
  generalize (V.mk k n s l).deep = d at *
  generalize (V.mk k n s l).nodes = nn at *
  generalize (V.mk k n s l).parts = p at *
  refine trF_enter (ts := [2]) Try.func42 rfl (by rw [Try.ntmps42]; exact Nat.le_of_ble_eq_true rfl) (fun tmps w => by simp [results, Try.results42, go_sem, resVal]) ?_
  simp only [Try.ntmps42]
  repeat' (first | with_reducible refine Go1.go ?_ | ((with_reducible apply ev_go); (focus ((try simp (disch := omega) only [push_cast, simprocAttr, *]); (try exact rfl); done))) | ((with_reducible refine w_last ?_ ?_ ?_); kernel_rfl; rfl) | with_reducible refine Go2.go ?_ | ((with_reducible first | apply w_stepG | refine s_bi ?_ ?_ | refine blk_ne ?_ ?_); rfl) | ((with_reducible refine al_go ?_); intro b) | ((with_reducible apply (ck_le Try.call65)); exact LEL.refl _; exact hD.out _) | ((with_reducible apply (ck_le Try.call66)); exact LEL.refl _; exact hN.out _) | ((with_reducible apply (ck_le Try.call67)); exact LEL.refl _; exact hP.out _) | ((with_reducible first | refine w_region ?_ ?_ | refine w_dra ?_ ?_); kernel_rfl) | ((with_reducible refine Go3.go ?_ ?_); all_goals (intro hb; (try with_reducible intro hb1); (try (exfalso; first | contradiction | omega)))) | fail)
  all_goals (refine ret_eq (by simp) (by first | rfl | assumption) (by (repeat (first | exact List.Sublist.refl _ | apply List.Sublist.cons))) ?_; (try simp (disch := omega) only [push_cast, simprocAttr, *]); try (first | exact LE.refl _ | exact LE.sl _ _ | ((first | refine LE.tup ?_ | refine LE.agg ?_); (repeat' (first | exact LEL.nil | refine LEL.cons ?_ ?_ | exact LE.refl _ | exact LE.sl _ _ | refine LE.agg ?_)); done) | refine LE.of_eq ?_))
  all_goals (cases p <;> (first | rfl | (refine congrArg D.b ?_; rw [Bool.eq_iff_iff]; simp only [Bool.true_and, Bool.false_and, Bool.and_true, Bool.and_false, Bool.or_false, Bool.or_true, Bool.true_or, Bool.false_or, true_and, and_true, Bool.not_eq_true', Bool.not_eq_false', decide_eq_true_eq, decide_eq_false_iff_not, beq_iff_eq, beq_eq_false_iff_ne, bne_iff_ne, ne_eq, reduceCtorEq, iff_true, true_iff, iff_false, false_iff, Bool.and_eq_true, Bool.or_eq_true, Bool.false_eq_true, Bool.true_eq_false]; first | done | omega)))
end Go.Proofs.Ytooaagmhgakhgaa
end

section
namespace Go.Proofs.Ytooaagmhgakhgaa
set_option linter.unusedSimpArgs false
attribute [local push_cast] encB encI V.cells_mk V.cells_take V.cells_len isE_eq bne_self_eq_false
open Go.RowKit
set_option maxRecDepth 10000
set_option maxHeartbeats 4000000
namespace V
def sgn (a b : Int) : Int := if a < b then -1 else if b < a then 1 else 0
def ors : List Int → Int
  | [] => 0
  | x :: l => if x = 0 then ors l else x
def cmpB : List UInt8 → List UInt8 → Int
  | [], [] => 0
  | [], _ :: _ => -1
  | _ :: _, [] => 1
  | x :: a, y :: b => if sgn x.toNat y.toNat = 0 then cmpB a b else sgn x.toNat y.toNat
theorem cmpB_end (a b : List UInt8) (i : Nat) (ha : i ≤ a.length) (hb : i ≤ b.length) (h : i = a.length ∨ i = b.length) : cmpB (a.drop i) (b.drop i) = sgn a.length b.length := by
  have h1 : (a.drop i).length = a.length - i := List.length_drop
  have h2 : (b.drop i).length = b.length - i := List.length_drop
  cases hx : a.drop i with
  | nil =>
    rw [hx] at h1
    cases hy : b.drop i with
    | nil => rw [hy] at h2; simp at h1 h2; rw [cmpB, sgn, if_neg (by omega), if_neg (by omega)]
    | cons y t => rw [hy] at h2; simp at h1 h2; rw [cmpB, sgn, if_pos (by omega)]
  | cons x s =>
    rw [hx] at h1
    cases hy : b.drop i with
    | nil => rw [hy] at h2; simp at h1 h2; rw [cmpB, sgn, if_neg (by omega), if_pos (by omega)]
    | cons y t => rw [hy] at h2; simp at h1 h2; omega
end V
theorem nanIF (a : Int) (st : St) : TrF Try.prog 118 [.i a] st fun x st' => x = .b false ∧ st' = st := by
  refine trF_enter (ts := [2]) Try.func118 rfl (by rw [Try.ntmps118]; exact Nat.le_of_ble_eq_true rfl) (fun tmps w => by simp [results, Try.results118, go_sem, resVal]) ?_
  simp only [Try.ntmps118]
  repeat' (first | with_reducible refine Go1.go ?_ | ((with_reducible apply ev_go); (focus ((try simp (disch := omega) only [push_cast, simprocAttr, *]); (try exact rfl); done))) | ((with_reducible refine w_last ?_ ?_ ?_); kernel_rfl; rfl) | with_reducible refine Go2.go ?_ | ((with_reducible first | apply w_stepG | refine s_bi ?_ ?_ | refine blk_ne ?_ ?_); rfl) | ((with_reducible refine al_go ?_); intro b) | ((with_reducible first | refine w_region ?_ ?_ | refine w_dra ?_ ?_); kernel_rfl) | ((with_reducible refine Go3.go ?_ ?_); all_goals (intro hb; (try with_reducible intro hb1); (try (exfalso; first | contradiction | omega)))) | fail)
  all_goals (refine ret_eq (by simp) (by first | rfl | assumption) (by (repeat (first | exact List.Sublist.refl _ | apply List.Sublist.cons))) ?_; (try simp (disch := omega) only [push_cast, simprocAttr, *]); try (first | exact LE.refl _ | exact LE.sl _ _ | ((first | refine LE.tup ?_ | refine LE.agg ?_); (repeat' (first | exact LEL.nil | refine LEL.cons ?_ ?_ | exact LE.refl _ | exact LE.sl _ _ | refine LE.agg ?_)); done) | refine LE.of_eq ?_))
theorem nanLF (a : Int) (st : St) : TrF Try.prog 119 [.i a] st fun x st' => x = .b false ∧ st' = st := by
  refine trF_enter (ts := [2]) Try.func119 rfl (by rw [Try.ntmps119]; exact Nat.le_of_ble_eq_true rfl) (fun tmps w => by simp [results, Try.results119, go_sem, resVal]) ?_
  simp only [Try.ntmps119]
  repeat' (first | with_reducible refine Go1.go ?_ | ((with_reducible apply ev_go); (focus ((try simp (disch := omega) only [push_cast, simprocAttr, *]); (try exact rfl); done))) | ((with_reducible refine w_last ?_ ?_ ?_); kernel_rfl; rfl) | with_reducible refine Go2.go ?_ | ((with_reducible first | apply w_stepG | refine s_bi ?_ ?_ | refine blk_ne ?_ ?_); rfl) | ((with_reducible refine al_go ?_); intro b) | ((with_reducible first | refine w_region ?_ ?_ | refine w_dra ?_ ?_); kernel_rfl) | ((with_reducible refine Go3.go ?_ ?_); all_goals (intro hb; (try with_reducible intro hb1); (try (exfalso; first | contradiction | omega)))) | fail)
  all_goals (refine ret_eq (by simp) (by first | rfl | assumption) (by (repeat (first | exact List.Sublist.refl _ | apply List.Sublist.cons))) ?_; (try simp (disch := omega) only [push_cast, simprocAttr, *]); try (first | exact LE.refl _ | exact LE.sl _ _ | ((first | refine LE.tup ?_ | refine LE.agg ?_); (repeat' (first | exact LEL.nil | refine LEL.cons ?_ ?_ | exact LE.refl _ | exact LE.sl _ _ | refine LE.agg ?_)); done) | refine LE.of_eq ?_))
theorem nanBF (a : UInt8) (st : St) : TrF Try.prog 117 [.y a] st fun x st' => x = .b false ∧ st' = st := by
  refine trF_enter (ts := [2]) Try.func117 rfl (by rw [Try.ntmps117]; exact Nat.le_of_ble_eq_true rfl) (fun tmps w => by simp [results, Try.results117, go_sem, resVal]) ?_
  simp only [Try.ntmps117]
  repeat' (first | with_reducible refine Go1.go ?_ | ((with_reducible apply ev_go); (focus ((try simp (disch := omega) only [push_cast, simprocAttr, *]); (try exact rfl); done))) | ((with_reducible refine w_last ?_ ?_ ?_); kernel_rfl; rfl) | with_reducible refine Go2.go ?_ | ((with_reducible first | apply w_stepG | refine s_bi ?_ ?_ | refine blk_ne ?_ ?_); rfl) | ((with_reducible refine al_go ?_); intro b) | ((with_reducible first | refine w_region ?_ ?_ | refine w_dra ?_ ?_); kernel_rfl) | ((with_reducible refine Go3.go ?_ ?_); all_goals (intro hb; (try with_reducible intro hb1); (try (exfalso; first | contradiction | omega)))) | fail)
  all_goals (refine ret_eq (by simp) (by first | rfl | assumption) (by (repeat (first | exact List.Sublist.refl _ | apply List.Sublist.cons))) ?_; (try simp (disch := omega) only [push_cast, simprocAttr, *]); try (first | exact LE.refl _ | exact LE.sl _ _ | ((first | refine LE.tup ?_ | refine LE.agg ?_); (repeat' (first | exact LEL.nil | refine LEL.cons ?_ ?_ | exact LE.refl _ | exact LE.sl _ _ | refine LE.agg ?_)); done) | refine LE.of_eq ?_))
theorem cmpIF (a b : Int) (st : St) : TrF Try.prog 110 [.i a, .i b] st fun x st' => x = .i (V.sgn a b) ∧ st' = st := by
  refine trF_enter (ts := [4]) Try.func110 rfl (by rw [Try.ntmps110]; exact Nat.le_of_ble_eq_true rfl) (fun tmps w => by simp [results, Try.results110, go_sem, resVal]) ?_
  simp only [Try.ntmps110]
  repeat' (first | with_reducible refine Go1.go ?_ | ((with_reducible apply ev_go); (focus ((try simp (disch := omega) only [push_cast, simprocAttr, *]); (try exact rfl); done))) | ((with_reducible refine w_last ?_ ?_ ?_); kernel_rfl; rfl) | with_reducible refine Go2.go ?_ | ((with_reducible first | apply w_stepG | refine s_bi ?_ ?_ | refine blk_ne ?_ ?_); rfl) | ((with_reducible refine al_go ?_); intro b) | ((with_reducible apply (ck_le Try.call118)); exact LEL.refl _; exact nanIF _ _) | ((with_reducible first | refine w_region ?_ ?_ | refine w_dra ?_ ?_); kernel_rfl) | ((with_reducible refine Go3.go ?_ ?_); all_goals (intro hb; (try with_reducible intro hb1); (try (exfalso; first | contradiction | omega)))) | fail)
  all_goals (refine ret_eq (by simp) (by first | rfl | assumption) (by (repeat (first | exact List.Sublist.refl _ | apply List.Sublist.cons))) ?_; (try simp (disch := omega) only [push_cast, simprocAttr, *]); try (first | exact LE.refl _ | exact LE.sl _ _ | ((first | refine LE.tup ?_ | refine LE.agg ?_); (repeat' (first | exact LEL.nil | refine LEL.cons ?_ ?_ | exact LE.refl _ | exact LE.sl _ _ | refine LE.agg ?_)); done) | refine LE.of_eq ?_))
  all_goals (unfold V.sgn; simp (disch := omega) only [push_cast, simprocAttr, *])
theorem cmpLF (a b : Int) (st : St) : TrF Try.prog 111 [.i a, .i b] st fun x st' => x = .i (V.sgn a b) ∧ st' = st := by
  refine trF_enter (ts := [4]) Try.func111 rfl (by rw [Try.ntmps111]; exact Nat.le_of_ble_eq_true rfl) (fun tmps w => by simp [results, Try.results111, go_sem, resVal]) ?_
  simp only [Try.ntmps111]
  repeat' (first | with_reducible refine Go1.go ?_ | ((with_reducible apply ev_go); (focus ((try simp (disch := omega) only [push_cast, simprocAttr, *]); (try exact rfl); done))) | ((with_reducible refine w_last ?_ ?_ ?_); kernel_rfl; rfl) | with_reducible refine Go2.go ?_ | ((with_reducible first | apply w_stepG | refine s_bi ?_ ?_ | refine blk_ne ?_ ?_); rfl) | ((with_reducible refine al_go ?_); intro b) | ((with_reducible apply (ck_le Try.call119)); exact LEL.refl _; exact nanLF _ _) | ((with_reducible first | refine w_region ?_ ?_ | refine w_dra ?_ ?_); kernel_rfl) | ((with_reducible refine Go3.go ?_ ?_); all_goals (intro hb; (try with_reducible intro hb1); (try (exfalso; first | contradiction | omega)))) | fail)
  all_goals (refine ret_eq (by simp) (by first | rfl | assumption) (by (repeat (first | exact List.Sublist.refl _ | apply List.Sublist.cons))) ?_; (try simp (disch := omega) only [push_cast, simprocAttr, *]); try (first | exact LE.refl _ | exact LE.sl _ _ | ((first | refine LE.tup ?_ | refine LE.agg ?_); (repeat' (first | exact LEL.nil | refine LEL.cons ?_ ?_ | exact LE.refl _ | exact LE.sl _ _ | refine LE.agg ?_)); done) | refine LE.of_eq ?_))
  all_goals (unfold V.sgn; simp (disch := omega) only [push_cast, simprocAttr, *])
theorem cmpBF (a b : UInt8) (st : St) : TrF Try.prog 108 [.y a, .y b] st fun x st' => x = .i (V.sgn a.toNat b.toNat) ∧ st' = st := by
  refine trF_enter (ts := [4]) Try.func108 rfl (by rw [Try.ntmps108]; exact Nat.le_of_ble_eq_true rfl) (fun tmps w => by simp [results, Try.results108, go_sem, resVal]) ?_
  simp only [Try.ntmps108]
  repeat' (first | with_reducible refine Go1.go ?_ | ((with_reducible apply ev_go); (focus ((try simp (disch := omega) only [push_cast, simprocAttr, *]); (try exact rfl); done))) | ((with_reducible refine w_last ?_ ?_ ?_); kernel_rfl; rfl) | with_reducible refine Go2.go ?_ | ((with_reducible first | apply w_stepG | refine s_bi ?_ ?_ | refine blk_ne ?_ ?_); rfl) | ((with_reducible refine al_go ?_); intro b) | ((with_reducible apply (ck_le Try.call117)); exact LEL.refl _; exact nanBF _ _) | ((with_reducible first | refine w_region ?_ ?_ | refine w_dra ?_ ?_); kernel_rfl) | ((with_reducible refine Go3.go ?_ ?_); all_goals (intro hb; (try with_reducible intro hb1); (try (exfalso; first | contradiction | omega)))) | fail)
  all_goals (refine ret_eq (by simp) (by first | rfl | assumption) (by (repeat (first | exact List.Sublist.refl _ | apply List.Sublist.cons))) ?_; (try simp (disch := omega) only [push_cast, simprocAttr, *]); try (first | exact LE.refl _ | exact LE.sl _ _ | ((first | refine LE.tup ?_ | refine LE.agg ?_); (repeat' (first | exact LEL.nil | refine LEL.cons ?_ ?_ | exact LE.refl _ | exact LE.sl _ _ | refine LE.agg ?_)); done) | refine LE.of_eq ?_))
  all_goals (unfold V.sgn; simp (disch := omega) only [push_cast, simprocAttr, *])
theorem cmpB1F (a b : UInt8) (st : St) : TrF Try.prog 107 [.y a, .y b] st fun x st' => x = .i (V.sgn a.toNat b.toNat) ∧ st' = st := by
  refine trF_enter (ts := [4]) Try.func107 rfl (by rw [Try.ntmps107]; exact Nat.le_of_ble_eq_true rfl) (fun tmps w => by simp [results, Try.results107, go_sem, resVal]) ?_
  simp only [Try.ntmps107]
  repeat' (first | with_reducible refine Go1.go ?_ | ((with_reducible apply ev_go); (focus ((try simp (disch := omega) only [push_cast, simprocAttr, *]); (try exact rfl); done))) | ((with_reducible refine w_last ?_ ?_ ?_); kernel_rfl; rfl) | with_reducible refine Go2.go ?_ | ((with_reducible first | apply w_stepG | refine s_bi ?_ ?_ | refine blk_ne ?_ ?_); rfl) | ((with_reducible refine al_go ?_); intro b) | ((with_reducible apply (ck_le Try.call108)); exact LEL.refl _; exact cmpBF _ _ _) | ((with_reducible first | refine w_region ?_ ?_ | refine w_dra ?_ ?_); kernel_rfl) | ((with_reducible refine Go3.go ?_ ?_); all_goals (intro hb; (try with_reducible intro hb1); (try (exfalso; first | contradiction | omega)))) | fail)
  all_goals (refine ret_eq (by simp) (by first | rfl | assumption) (by (repeat (first | exact List.Sublist.refl _ | apply List.Sublist.cons))) ?_; (try simp (disch := omega) only [push_cast, simprocAttr, *]); try (first | exact LE.refl _ | exact LE.sl _ _ | ((first | refine LE.tup ?_ | refine LE.agg ?_); (repeat' (first | exact LEL.nil | refine LEL.cons ?_ ?_ | exact LE.refl _ | exact LE.sl _ _ | refine LE.agg ?_)); done) | refine LE.of_eq ?_))
theorem orF (o : Own) (l : List Int) (hl : l.length ≤ 1000) (st : St) : TrF Try.prog 109 [.sl o (l.map encI)] st fun x st' => x = .i (V.ors l) ∧ st' = st := by
  obtain ⟨B, hB⟩ : ∃ B, V.ors l = B := ⟨_, rfl⟩
  have HB : Hid (V.ors (l.drop 0) = B) := hB
  rw [hB]
  clear hB
  refine trF_enter (ts := [2]) Try.func109 rfl (by rw [Try.ntmps109]; exact Nat.le_of_ble_eq_true rfl) (fun tmps w => by simp [results, Try.results109, go_sem, resVal]) ?_
  simp only [Try.ntmps109]
  repeat' (first | with_reducible refine Go1.go ?_ | ((with_reducible apply ev_go); (focus ((try simp (disch := omega) only [push_cast, simprocAttr, *]); (try exact rfl); done))) | ((with_reducible refine w_last ?_ ?_ ?_); kernel_rfl; rfl) | with_reducible refine Go2.go ?_ | ((with_reducible first | apply w_stepG | refine s_bi ?_ ?_ | refine blk_ne ?_ ?_); rfl) | ((with_reducible refine al_go ?_); intro b) | ((with_reducible apply a2_go); (focus (first | assumption | (intro h; cases h))); (focus (intro o'; repeat (first | exact ra_h | apply ra_t))); (iterate 2 (focus (first | assumption | exact len_nil | exact len_one rfl | (intro a ha; obtain ⟨x, -, rfl⟩ := List.mem_map.1 ha; first | rfl | simp) | (intro a ha; simp at ha; simp [ha])))); (iterate 2 (focus (first | omega | (simp only [List.length_map, List.length_cons, List.length_nil, List.length_append]; omega)))); intro o' ho') | ((with_reducible first | refine w_region ?_ ?_ | refine w_dra ?_ ?_); kernel_rfl) | ((with_reducible refine Go3.go ?_ ?_); all_goals (intro hb; (try with_reducible intro hb1); (try (exfalso; first | contradiction | omega)))) | fail)
  refine tr_loop (ι := Nat) (fun i A st' => i ≤ l.length ∧ Hid (V.ors (l.drop i) = B) ∧ A.df = [] ∧ A.e 3 = .i 0 ∧ A.e 6 = .sl o (l.map encI) ∧ A.e 7 = .i l.length ∧ A.e 8 = .i i ∧ st = st') (fun i => l.length - i) 0 ⟨Nat.zero_le _, HB, ?_, ?_, ?_, ?_, ?_, rfl⟩ ?_
  iterate 5 (focus (first | rfl | assumption | omega | (simp (disch := omega) only [push_cast, simprocAttr, *]; try omega; done)))
  rintro i A st' ⟨hi, HT, hdf, e3, e6, e7, e8, rfl⟩
  by_cases hlt : i < l.length
  · obtain ⟨x, hx⟩ : ∃ x, l[i]? = some x := ⟨_, List.getElem?_eq_getElem hlt⟩
    have HE := HT.out
    rw [V.drop_cons hx, V.ors] at HE
    clear HT HB
    by_cases h0 : x = 0
    · rw [if_pos h0] at HE
      have HE := Lib.hid HE
      subst h0
      repeat' (first | with_reducible refine Go1.go ?_ | ((with_reducible apply ev_go); (focus ((try simp (disch := omega) only [push_cast, simprocAttr, *]); (try exact rfl); done))) | ((with_reducible refine w_last ?_ ?_ ?_); kernel_rfl; rfl) | with_reducible refine Go2.go ?_ | ((with_reducible first | apply w_stepG | refine s_bi ?_ ?_ | refine blk_ne ?_ ?_); rfl) | ((with_reducible refine al_go ?_); intro b) | ((with_reducible apply a2_go); (focus (first | assumption | (intro h; cases h))); (focus (intro o'; repeat (first | exact ra_h | apply ra_t))); (iterate 2 (focus (first | assumption | exact len_nil | exact len_one rfl | (intro a ha; obtain ⟨x, -, rfl⟩ := List.mem_map.1 ha; first | rfl | simp) | (intro a ha; simp at ha; simp [ha])))); (iterate 2 (focus (first | omega | (simp only [List.length_map, List.length_cons, List.length_nil, List.length_append]; omega)))); intro o' ho') | ((with_reducible first | refine w_region ?_ ?_ | refine w_dra ?_ ?_); kernel_rfl) | ((with_reducible refine Go3.go ?_ ?_); all_goals (intro hb; (try with_reducible intro hb1); (try (exfalso; first | contradiction | omega)))) | fail)
      refine ⟨i + 1, ⟨hlt, HE, ?_, ?_, ?_, ?_, ?_, rfl⟩, ?_⟩
      all_goals (first | rfl | assumption | omega | (simp (disch := omega) only [push_cast, simprocAttr, *]; try omega; done))
    · rw [if_neg h0] at HE
      rw [← HE]
      clear HE
      repeat' (first | with_reducible refine Go1.go ?_ | ((with_reducible apply ev_go); (focus ((try simp (disch := omega) only [push_cast, simprocAttr, *]); (try exact rfl); done))) | ((with_reducible refine w_last ?_ ?_ ?_); kernel_rfl; rfl) | with_reducible refine Go2.go ?_ | ((with_reducible first | apply w_stepG | refine s_bi ?_ ?_ | refine blk_ne ?_ ?_); rfl) | ((with_reducible refine al_go ?_); intro b) | ((with_reducible apply a2_go); (focus (first | assumption | (intro h; cases h))); (focus (intro o'; repeat (first | exact ra_h | apply ra_t))); (iterate 2 (focus (first | assumption | exact len_nil | exact len_one rfl | (intro a ha; obtain ⟨x, -, rfl⟩ := List.mem_map.1 ha; first | rfl | simp) | (intro a ha; simp at ha; simp [ha])))); (iterate 2 (focus (first | omega | (simp only [List.length_map, List.length_cons, List.length_nil, List.length_append]; omega)))); intro o' ho') | ((with_reducible first | refine w_region ?_ ?_ | refine w_dra ?_ ?_); kernel_rfl) | ((with_reducible refine Go3.go ?_ ?_); all_goals (intro hb; (try with_reducible intro hb1); (try (exfalso; first | contradiction | omega)))) | fail)
      all_goals (refine ret_eq (by simp) (by first | rfl | assumption) (by (repeat (first | exact List.Sublist.refl _ | apply List.Sublist.cons))) ?_; (try simp (disch := omega) only [push_cast, simprocAttr, *]); try (first | exact LE.refl _ | exact LE.sl _ _ | ((first | refine LE.tup ?_ | refine LE.agg ?_); (repeat' (first | exact LEL.nil | refine LEL.cons ?_ ?_ | exact LE.refl _ | exact LE.sl _ _ | refine LE.agg ?_)); done) | refine LE.of_eq ?_))
  · have HE := HT.out
    rw [List.drop_eq_nil_of_le (by omega), V.ors] at HE
    rw [← HE]
    clear HE HT HB
    repeat' (first | with_reducible refine Go1.go ?_ | ((with_reducible apply ev_go); (focus ((try simp (disch := omega) only [push_cast, simprocAttr, *]); (try exact rfl); done))) | ((with_reducible refine w_last ?_ ?_ ?_); kernel_rfl; rfl) | with_reducible refine Go2.go ?_ | ((with_reducible first | apply w_stepG | refine s_bi ?_ ?_ | refine blk_ne ?_ ?_); rfl) | ((with_reducible refine al_go ?_); intro b) | ((with_reducible apply a2_go); (focus (first | assumption | (intro h; cases h))); (focus (intro o'; repeat (first | exact ra_h | apply ra_t))); (iterate 2 (focus (first | assumption | exact len_nil | exact len_one rfl | (intro a ha; obtain ⟨x, -, rfl⟩ := List.mem_map.1 ha; first | rfl | simp) | (intro a ha; simp at ha; simp [ha])))); (iterate 2 (focus (first | omega | (simp only [List.length_map, List.length_cons, List.length_nil, List.length_append]; omega)))); intro o' ho') | ((with_reducible first | refine w_region ?_ ?_ | refine w_dra ?_ ?_); kernel_rfl) | ((with_reducible refine Go3.go ?_ ?_); all_goals (intro hb; (try with_reducible intro hb1); (try (exfalso; first | contradiction | omega)))) | fail)
    all_goals (refine ret_eq (by simp) (by first | rfl | assumption) (by (repeat (first | exact List.Sublist.refl _ | apply List.Sublist.cons))) ?_; (try simp (disch := omega) only [push_cast, simprocAttr, *]); try (first | exact LE.refl _ | exact LE.sl _ _ | ((first | refine LE.tup ?_ | refine LE.agg ?_); (repeat' (first | exact LEL.nil | refine LEL.cons ?_ ?_ | exact LE.refl _ | exact LE.sl _ _ | refine LE.agg ?_)); done) | refine LE.of_eq ?_))
theorem listsBF (o o' : Own) (a b : List UInt8) (ha : a.length ≤ maxLen) (st : St) : TrF Try.prog 112 [.sl o (a.map encB), .sl o' (b.map encB), .fn (.func 107) [] []] st fun x st' => x = .i (V.cmpB a b) ∧ st' = st := by
  unfold maxLen at ha
  obtain ⟨B, hB⟩ : ∃ B, V.cmpB a b = B := ⟨_, rfl⟩
  have HB : Hid (V.cmpB (a.drop 0) (b.drop 0) = B) := hB
  rw [hB]
  clear hB
  obtain ⟨m, hm, hm1, hm2, hm3⟩ : ∃ m : Nat, (if b.length < a.length then (b.length : Int) else a.length) = m ∧ m ≤ a.length ∧ m ≤ b.length ∧ (m = a.length ∨ m = b.length) := by
    by_cases h : b.length < a.length
    · exact ⟨b.length, by rw [if_pos h], by omega, by omega, by omega⟩
    · exact ⟨a.length, by rw [if_neg h], by omega, by omega, by omega⟩
  refine trF_enter (ts := [6]) Try.func112 rfl (by rw [Try.ntmps112]; exact Nat.le_of_ble_eq_true rfl) (fun tmps w => by simp [results, Try.results112, go_sem, resVal]) ?_
  simp only [Try.ntmps112]
  repeat' (first | with_reducible refine Go1.go ?_ | ((with_reducible apply ev_go); (focus ((try simp (disch := omega) only [push_cast, simprocAttr, *]); (try exact rfl); done))) | ((with_reducible refine w_last ?_ ?_ ?_); kernel_rfl; rfl) | with_reducible refine Go2.go ?_ | ((with_reducible first | apply w_stepG | refine s_bi ?_ ?_ | refine blk_ne ?_ ?_); rfl) | ((with_reducible refine al_go ?_); intro b) | ((with_reducible apply a2_go); (focus (first | assumption | (intro h; cases h))); (focus (intro o'; repeat (first | exact ra_h | apply ra_t))); (iterate 2 (focus (first | assumption | exact len_nil | exact len_one rfl | (intro a ha; obtain ⟨x, -, rfl⟩ := List.mem_map.1 ha; first | rfl | simp) | (intro a ha; simp at ha; simp [ha])))); (iterate 2 (focus (first | omega | (simp only [List.length_map, List.length_cons, List.length_nil, List.length_append]; omega)))); intro o' ho') | ((with_reducible apply p2_go); (focus (first | assumption | (intro h; cases h))); (focus (intro o'; repeat (first | exact ra_h | apply ra_t))); (focus (first | assumption | exact len_nil | exact len_one rfl | (intro a ha; obtain ⟨x, -, rfl⟩ := List.mem_map.1 ha; first | rfl | simp) | (intro a ha; simp at ha; simp [ha]))); (iterate 2 (focus (first | omega | (simp only [List.length_map, List.length_cons, List.length_nil, List.length_append]; omega)))); intro o' ho') | ((with_reducible first | refine w_region ?_ ?_ | refine w_dra ?_ ?_); kernel_rfl) | ((with_reducible refine Go3.go ?_ ?_); all_goals (intro hb; (try with_reducible intro hb1); (try (exfalso; first | contradiction | omega)))) | fail)
  refine tr_loop (ι := Nat) (fun i A st' => i ≤ m ∧ Hid (V.cmpB (a.drop i) (b.drop i) = B) ∧ A.df = [] ∧ A.e 0 = .sl o (a.map encB) ∧ A.e 1 = .sl o' (b.map encB) ∧ A.e 2 = .fn (.func 107) [] [] ∧ A.e 13 = .i m ∧ A.e 14 = .i i ∧ st = st') (fun i => m - i) 0 ⟨Nat.zero_le _, HB, ?_, ?_, ?_, ?_, ?_, ?_, rfl⟩ ?_
  iterate 6 (focus (first | rfl | assumption | omega | (simp (disch := omega) only [push_cast, simprocAttr, *]; try omega; done)))
  clear hm
  rintro i A st' ⟨hi, HT, hdf, e0, e1, e2, e13, e14, rfl⟩
  by_cases hlt : i < m
  · obtain ⟨x, hx⟩ : ∃ x, a[i]? = some x := ⟨_, List.getElem?_eq_getElem (by omega)⟩
    obtain ⟨y, hy⟩ : ∃ y, b[i]? = some y := ⟨_, List.getElem?_eq_getElem (by omega)⟩
    have HE := HT.out
    rw [V.drop_cons hx, V.drop_cons hy, V.cmpB] at HE
    have hC := cmpB1F x y
    clear HT HB
    generalize V.sgn x.toNat y.toNat = q at *
    have hC := Lib.hid hC
    by_cases h0 : q = 0
    · rw [if_pos h0] at HE
      have HE := Lib.hid HE
      subst h0
      repeat' (first | with_reducible refine Go1.go ?_ | ((with_reducible apply ev_go); (focus ((try simp (disch := omega) only [push_cast, simprocAttr, *]); (try exact rfl); done))) | ((with_reducible refine w_last ?_ ?_ ?_); kernel_rfl; rfl) | with_reducible refine Go2.go ?_ | ((with_reducible first | apply w_stepG | refine s_bi ?_ ?_ | refine blk_ne ?_ ?_); rfl) | ((with_reducible refine al_go ?_); intro b) | ((with_reducible apply (ck_le Try.call107)); exact LEL.refl _; exact hC.out _) | ((with_reducible apply a2_go); (focus (first | assumption | (intro h; cases h))); (focus (intro o'; repeat (first | exact ra_h | apply ra_t))); (iterate 2 (focus (first | assumption | exact len_nil | exact len_one rfl | (intro a ha; obtain ⟨x, -, rfl⟩ := List.mem_map.1 ha; first | rfl | simp) | (intro a ha; simp at ha; simp [ha])))); (iterate 2 (focus (first | omega | (simp only [List.length_map, List.length_cons, List.length_nil, List.length_append]; omega)))); intro o' ho') | ((with_reducible apply p2_go); (focus (first | assumption | (intro h; cases h))); (focus (intro o'; repeat (first | exact ra_h | apply ra_t))); (focus (first | assumption | exact len_nil | exact len_one rfl | (intro a ha; obtain ⟨x, -, rfl⟩ := List.mem_map.1 ha; first | rfl | simp) | (intro a ha; simp at ha; simp [ha]))); (iterate 2 (focus (first | omega | (simp only [List.length_map, List.length_cons, List.length_nil, List.length_append]; omega)))); intro o' ho') | ((with_reducible first | refine w_region ?_ ?_ | refine w_dra ?_ ?_); kernel_rfl) | ((with_reducible refine Go3.go ?_ ?_); all_goals (intro hb; (try with_reducible intro hb1); (try (exfalso; first | contradiction | omega)))) | fail)
      refine ⟨i + 1, ⟨hlt, HE, ?_, ?_, ?_, ?_, ?_, ?_, rfl⟩, ?_⟩
      all_goals (first | rfl | assumption | omega | (simp (disch := omega) only [push_cast, simprocAttr, *]; try omega; done))
    · rw [if_neg h0] at HE
      rw [← HE]
      clear HE
      repeat' (first | with_reducible refine Go1.go ?_ | ((with_reducible apply ev_go); (focus ((try simp (disch := omega) only [push_cast, simprocAttr, *]); (try exact rfl); done))) | ((with_reducible refine w_last ?_ ?_ ?_); kernel_rfl; rfl) | with_reducible refine Go2.go ?_ | ((with_reducible first | apply w_stepG | refine s_bi ?_ ?_ | refine blk_ne ?_ ?_); rfl) | ((with_reducible refine al_go ?_); intro b) | ((with_reducible apply (ck_le Try.call107)); exact LEL.refl _; exact hC.out _) | ((with_reducible apply a2_go); (focus (first | assumption | (intro h; cases h))); (focus (intro o'; repeat (first | exact ra_h | apply ra_t))); (iterate 2 (focus (first | assumption | exact len_nil | exact len_one rfl | (intro a ha; obtain ⟨x, -, rfl⟩ := List.mem_map.1 ha; first | rfl | simp) | (intro a ha; simp at ha; simp [ha])))); (iterate 2 (focus (first | omega | (simp only [List.length_map, List.length_cons, List.length_nil, List.length_append]; omega)))); intro o' ho') | ((with_reducible apply p2_go); (focus (first | assumption | (intro h; cases h))); (focus (intro o'; repeat (first | exact ra_h | apply ra_t))); (focus (first | assumption | exact len_nil | exact len_one rfl | (intro a ha; obtain ⟨x, -, rfl⟩ := List.mem_map.1 ha; first | rfl | simp) | (intro a ha; simp at ha; simp [ha]))); (iterate 2 (focus (first | omega | (simp only [List.length_map, List.length_cons, List.length_nil, List.length_append]; omega)))); intro o' ho') | ((with_reducible first | refine w_region ?_ ?_ | refine w_dra ?_ ?_); kernel_rfl) | ((with_reducible refine Go3.go ?_ ?_); all_goals (intro hb; (try with_reducible intro hb1); (try (exfalso; first | contradiction | omega)))) | fail)
      all_goals (refine ret_eq (by simp) (by first | rfl | assumption) (by (repeat (first | exact List.Sublist.refl _ | apply List.Sublist.cons))) ?_; (try simp (disch := omega) only [push_cast, simprocAttr, *]); try (first | exact LE.refl _ | exact LE.sl _ _ | ((first | refine LE.tup ?_ | refine LE.agg ?_); (repeat' (first | exact LEL.nil | refine LEL.cons ?_ ?_ | exact LE.refl _ | exact LE.sl _ _ | refine LE.agg ?_)); done) | refine LE.of_eq ?_))
  · have HE := HT.out
    rw [V.cmpB_end a b i (by omega) (by omega) (by omega)] at HE
    rw [← HE]
    clear HE HT HB
    repeat' (first | with_reducible refine Go1.go ?_ | ((with_reducible apply ev_go); (focus ((try simp (disch := omega) only [push_cast, simprocAttr, *]); (try exact rfl); done))) | ((with_reducible refine w_last ?_ ?_ ?_); kernel_rfl; rfl) | with_reducible refine Go2.go ?_ | ((with_reducible first | apply w_stepG | refine s_bi ?_ ?_ | refine blk_ne ?_ ?_); rfl) | ((with_reducible refine al_go ?_); intro b) | ((with_reducible apply (ck_le Try.call110)); exact LEL.refl _; exact cmpIF _ _ _) | ((with_reducible apply a2_go); (focus (first | assumption | (intro h; cases h))); (focus (intro o'; repeat (first | exact ra_h | apply ra_t))); (iterate 2 (focus (first | assumption | exact len_nil | exact len_one rfl | (intro a ha; obtain ⟨x, -, rfl⟩ := List.mem_map.1 ha; first | rfl | simp) | (intro a ha; simp at ha; simp [ha])))); (iterate 2 (focus (first | omega | (simp only [List.length_map, List.length_cons, List.length_nil, List.length_append]; omega)))); intro o' ho') | ((with_reducible apply p2_go); (focus (first | assumption | (intro h; cases h))); (focus (intro o'; repeat (first | exact ra_h | apply ra_t))); (focus (first | assumption | exact len_nil | exact len_one rfl | (intro a ha; obtain ⟨x, -, rfl⟩ := List.mem_map.1 ha; first | rfl | simp) | (intro a ha; simp at ha; simp [ha]))); (iterate 2 (focus (first | omega | (simp only [List.length_map, List.length_cons, List.length_nil, List.length_append]; omega)))); intro o' ho') | ((with_reducible first | refine w_region ?_ ?_ | refine w_dra ?_ ?_); kernel_rfl) | ((with_reducible refine Go3.go ?_ ?_); all_goals (intro hb; (try with_reducible intro hb1); (try (exfalso; first | contradiction | omega)))) | fail)
    all_goals (refine ret_eq (by simp) (by first | rfl | assumption) (by (repeat (first | exact List.Sublist.refl _ | apply List.Sublist.cons))) ?_; (try simp (disch := omega) only [push_cast, simprocAttr, *]); try (first | exact LE.refl _ | exact LE.sl _ _ | ((first | refine LE.tup ?_ | refine LE.agg ?_); (repeat' (first | exact LEL.nil | refine LEL.cons ?_ ?_ | exact LE.refl _ | exact LE.sl _ _ | refine LE.agg ?_)); done) | refine LE.of_eq ?_))
end Go.Proofs.Ytooaagmhgakhgaa
end

section
namespace Go.Proofs.Ytooaagmhgakhgaa
set_option linter.unusedSimpArgs false
attribute [local push_cast] encB encI V.cells_mk V.cells_take V.cells_len isE_eq
open Go.RowKit
set_option maxRecDepth 10000
set_option maxHeartbeats 4000000
namespace V
mutual
def cmp : V → V → Int
  | .mk k n s l, .mk k' n' s' l' => ors [sgn k k', sgn n n', cmpB s.data.toList s'.data.toList, cmpL l l']
def cmpL : List V → List V → Int
  | [], [] => 0
  | [], _ :: _ => -1
  | _ :: _, [] => 1
  | x :: a, y :: b => if x.cmp y = 0 then cmpL a b else x.cmp y
end
theorem cmpL_end (a b : List V) (i : Nat) (ha : i ≤ a.length) (hb : i ≤ b.length) (h : i = a.length ∨ i = b.length) : cmpL (a.drop i) (b.drop i) = sgn a.length b.length := by
  have h1 : (a.drop i).length = a.length - i := List.length_drop
  have h2 : (b.drop i).length = b.length - i := List.length_drop
  cases hx : a.drop i with
  | nil =>
    rw [hx] at h1
    cases hy : b.drop i with
    | nil => rw [hy] at h2; simp at h1 h2; rw [cmpL, sgn, if_neg (by omega), if_neg (by omega)]
    | cons y t => rw [hy] at h2; simp at h1 h2; rw [cmpL, sgn, if_pos (by omega)]
  | cons x s =>
    rw [hx] at h1
    cases hy : b.drop i with
    | nil => rw [hy] at h2; simp at h1 h2; rw [cmpL, sgn, if_neg (by omega), if_pos (by omega)]
    | cons y t => rw [hy] at h2; simp at h1 h2; omega
inductive Sm : V → Prop
  | mk {k n : Int} {s : ByteArray} {l : List V} (hs : s.size ≤ 1000000) (hl : l.length ≤ 1000000) (h : ∀ x ∈ l, Sm x) : Sm (.mk k n s l)
inductive Bg : V → Prop
  | mk {k n : Int} {s : ByteArray} {l : List V} (hs : s.size ≤ maxLen) (hl : l.length ≤ maxLen) (h : ∀ x ∈ l, Bg x) : Bg (.mk k n s l)
theorem Sm.bg {v : V} (h : Sm v) : Bg v := by
  have hML : 1000000 ≤ maxLen := Nat.le_of_ble_eq_true rfl
  induction h with
  | mk hs hl _ ih => exact .mk (Nat.le_trans hs hML) (Nat.le_trans hl hML) ih
theorem Ok.bg {v : V} (h : Ok v) : Bg v := by
  induction h with
  | mk _ _ hs hl _ ih => exact .mk hs hl ih
end V
open V in
theorem listsVF (a b : List V) (ha : a.length ≤ maxLen) (IH : ∀ x ∈ a, ∀ y ∈ b, ∀ st, TrF Try.prog 98 [.agg x.cells, .agg y.cells] st fun r st' => r = .i (x.cmp y) ∧ st' = st) (st : St) : TrF Try.prog 113 [.sl .shared (a.map V.cells), .sl .shared (b.map V.cells), .fn (.func 98) [] []] st fun x st' => x = .i (cmpL a b) ∧ st' = st := by
  unfold maxLen at ha
  obtain ⟨B, hB⟩ : ∃ B, cmpL a b = B := ⟨_, rfl⟩
  have HB : Hid (cmpL (a.drop 0) (b.drop 0) = B) := hB
  rw [hB]
  clear hB
  obtain ⟨m, hm, hm1, hm2, hm3⟩ : ∃ m : Nat, (if b.length < a.length then (b.length : Int) else a.length) = m ∧ m ≤ a.length ∧ m ≤ b.length ∧ (m = a.length ∨ m = b.length) := by
    by_cases h : b.length < a.length
    · exact ⟨b.length, by rw [if_pos h], by omega, by omega, by omega⟩
    · exact ⟨a.length, by rw [if_neg h], by omega, by omega, by omega⟩
  have IH := Lib.hid IH
  refine trF_enter (ts := [6]) Try.func113 rfl (by rw [Try.ntmps113]; exact Nat.le_of_ble_eq_true rfl) (fun tmps w => by simp [results, Try.results113, go_sem, resVal]) ?_
  simp only [Try.ntmps113]
  repeat' (first | with_reducible refine Go1.go ?_ | ((with_reducible apply ev_go); (focus ((try simp (disch := omega) only [push_cast, simprocAttr, *]); (try exact rfl); done))) | ((with_reducible refine w_last ?_ ?_ ?_); kernel_rfl; rfl) | with_reducible refine Go2.go ?_ | ((with_reducible first | apply w_stepG | refine s_bi ?_ ?_ | refine blk_ne ?_ ?_); rfl) | ((with_reducible refine al_go ?_); intro b) | ((with_reducible first | refine w_region ?_ ?_ | refine w_dra ?_ ?_); kernel_rfl) | ((with_reducible refine Go3.go ?_ ?_); all_goals (intro hb; (try with_reducible intro hb1); (try (exfalso; first | contradiction | omega)))) | fail)
  refine tr_loop (ι := Nat) (fun i A st' => i ≤ m ∧ Hid (cmpL (a.drop i) (b.drop i) = B) ∧ A.df = [] ∧ A.e 0 = .sl .shared (a.map V.cells) ∧ A.e 1 = .sl .shared (b.map V.cells) ∧ A.e 2 = .fn (.func 98) [] [] ∧ A.e 13 = .i m ∧ A.e 14 = .i i ∧ st = st') (fun i => m - i) 0 ⟨Nat.zero_le _, HB, ?_, ?_, ?_, ?_, ?_, ?_, rfl⟩ ?_
  iterate 6 (focus (first | rfl | assumption | omega | (simp (disch := omega) only [push_cast, simprocAttr, *]; try omega; done)))
  clear hm
  rintro i A st' ⟨hi, HT, hdf, e0, e1, e2, e13, e14, rfl⟩
  by_cases hlt : i < m
  · obtain ⟨x, hx⟩ : ∃ x, a[i]? = some x := ⟨_, List.getElem?_eq_getElem (by omega)⟩
    obtain ⟨y, hy⟩ : ∃ y, b[i]? = some y := ⟨_, List.getElem?_eq_getElem (by omega)⟩
    have HE := HT.out
    rw [V.drop_cons hx, V.drop_cons hy, cmpL] at HE
    have hC := IH.out x (mem_of hx) y (mem_of hy)
    clear HT HB IH
    cases x with
    | mk k1 n1 s1 l1 =>
    cases y with
    | mk k2 n2 s2 l2 =>
    rw [V.cells_mk, V.cells_mk] at hC
    generalize V.cmp _ _ = q at *
    have hC := Lib.hid hC
    by_cases h0 : q = 0
    · rw [if_pos h0] at HE
      have HE := Lib.hid HE
      subst h0
      repeat' (first | with_reducible refine Go1.go ?_ | ((with_reducible apply ev_go); (focus ((try simp (disch := omega) only [push_cast, simprocAttr, *]); (try exact rfl); done))) | ((with_reducible refine w_last ?_ ?_ ?_); kernel_rfl; rfl) | with_reducible refine Go2.go ?_ | ((with_reducible first | apply w_stepG | refine s_bi ?_ ?_ | refine blk_ne ?_ ?_); rfl) | ((with_reducible refine al_go ?_); intro b) | ((with_reducible apply (ck_le Try.call98)); exact LEL.refl _; exact hC.out _) | ((with_reducible first | refine w_region ?_ ?_ | refine w_dra ?_ ?_); kernel_rfl) | ((with_reducible refine Go3.go ?_ ?_); all_goals (intro hb; (try with_reducible intro hb1); (try (exfalso; first | contradiction | omega)))) | fail)
      refine ⟨i + 1, ⟨hlt, HE, ?_, ?_, ?_, ?_, ?_, ?_, rfl⟩, ?_⟩
      all_goals (first | rfl | assumption | omega | (simp (disch := omega) only [push_cast, simprocAttr, *]; try omega; done))
    · rw [if_neg h0] at HE
      rw [← HE]
      clear HE
      repeat' (first | with_reducible refine Go1.go ?_ | ((with_reducible apply ev_go); (focus ((try simp (disch := omega) only [push_cast, simprocAttr, *]); (try exact rfl); done))) | ((with_reducible refine w_last ?_ ?_ ?_); kernel_rfl; rfl) | with_reducible refine Go2.go ?_ | ((with_reducible first | apply w_stepG | refine s_bi ?_ ?_ | refine blk_ne ?_ ?_); rfl) | ((with_reducible refine al_go ?_); intro b) | ((with_reducible apply (ck_le Try.call98)); exact LEL.refl _; exact hC.out _) | ((with_reducible first | refine w_region ?_ ?_ | refine w_dra ?_ ?_); kernel_rfl) | ((with_reducible refine Go3.go ?_ ?_); all_goals (intro hb; (try with_reducible intro hb1); (try (exfalso; first | contradiction | omega)))) | fail)
      all_goals (refine ret_eq (by simp) (by first | rfl | assumption) (by (repeat (first | exact List.Sublist.refl _ | apply List.Sublist.cons))) ?_; (try simp (disch := omega) only [push_cast, simprocAttr, *]); try (first | exact LE.refl _ | exact LE.sl _ _ | ((first | refine LE.tup ?_ | refine LE.agg ?_); (repeat' (first | exact LEL.nil | refine LEL.cons ?_ ?_ | exact LE.refl _ | exact LE.sl _ _ | refine LE.agg ?_)); done) | refine LE.of_eq ?_))
  · have HE := HT.out
    rw [cmpL_end a b i (by omega) (by omega) (by omega)] at HE
    rw [← HE]
    clear HE HT HB IH
    repeat' (first | with_reducible refine Go1.go ?_ | ((with_reducible apply ev_go); (focus ((try simp (disch := omega) only [push_cast, simprocAttr, *]); (try exact rfl); done))) | ((with_reducible refine w_last ?_ ?_ ?_); kernel_rfl; rfl) | with_reducible refine Go2.go ?_ | ((with_reducible first | apply w_stepG | refine s_bi ?_ ?_ | refine blk_ne ?_ ?_); rfl) | ((with_reducible refine al_go ?_); intro b) | ((with_reducible apply (ck_le Try.call110)); exact LEL.refl _; exact cmpIF _ _ _) | ((with_reducible first | refine w_region ?_ ?_ | refine w_dra ?_ ?_); kernel_rfl) | ((with_reducible refine Go3.go ?_ ?_); all_goals (intro hb; (try with_reducible intro hb1); (try (exfalso; first | contradiction | omega)))) | fail)
    all_goals (refine ret_eq (by simp) (by first | rfl | assumption) (by (repeat (first | exact List.Sublist.refl _ | apply List.Sublist.cons))) ?_; (try simp (disch := omega) only [push_cast, simprocAttr, *]); try (first | exact LE.refl _ | exact LE.sl _ _ | ((first | refine LE.tup ?_ | refine LE.agg ?_); (repeat' (first | exact LEL.nil | refine LEL.cons ?_ ?_ | exact LE.refl _ | exact LE.sl _ _ | refine LE.agg ?_)); done) | refine LE.of_eq ?_))
open V in
theorem valCompareB : ∀ (N : Nat) (a b : V), a.nodes ≤ N → a.Bg → b.Bg → ∀ st, TrF Try.prog 98 [.agg a.cells, .agg b.cells] st fun x st' => x = .i (a.cmp b) ∧ st' = st
  | 0, a, b, h, _, _ => by have := a.nodes_pos; omega
  | N + 1, .mk k n s l, .mk k' n' s' l', hN, hok, hok' => by
    intro st
    obtain ⟨hs, hl, hall⟩ := hok
    obtain ⟨hs', hl', hall'⟩ := hok'
    have IH := fun x (hx : x ∈ l) y (hy : y ∈ l') => valCompareB N x y (by have := nodes_lt (k := k) (n := n) (s := s) hx; omega) (hall x hx) (hall' y hy)
    have hL := Lib.hid (listsVF l l' hl IH)
    have hSL : s.data.toList.length = s.size := by simp
    have hB := Lib.hid fun o o' => listsBF o o' s.data.toList s'.data.toList (by omega)
    rw [V.cells_mk, V.cells_mk, show (V.mk k n s l).cmp (V.mk k' n' s' l') = ors [sgn k k', sgn n n', cmpB s.data.toList s'.data.toList, cmpL l l'] from cmp.eq_1 ..]
    clear IH hall hall' hN
    have hs : s.size ≤ 9223372036854775807 := hs
    have hs' : s'.size ≤ 9223372036854775807 := hs'
    generalize cmpL l l' = c4 at *
    generalize cmpB s.data.toList s'.data.toList = c3 at *
    obtain ⟨bs, hbs⟩ : ∃ bs, s.data.toList = bs := ⟨_, rfl⟩
    obtain ⟨bs', hbs'⟩ : ∃ bs, s'.data.toList = bs := ⟨_, rfl⟩
    rw [hbs] at hSL
    rw [hbs, hbs'] at hB
    refine trF_enter (ts := [4]) Try.func98 rfl (by rw [Try.ntmps98]; exact Nat.le_of_ble_eq_true rfl) (fun tmps w => by simp [results, Try.results98, go_sem, resVal]) ?_
    simp only [Try.ntmps98]
    repeat' (first | with_reducible refine Go1.go ?_ | ((with_reducible apply ev_go); (focus ((try simp (disch := omega) only [push_cast, simprocAttr, *]); (try exact rfl); done))) | ((with_reducible refine w_last ?_ ?_ ?_); kernel_rfl; rfl) | with_reducible refine Go2.go ?_ | ((with_reducible first | apply w_stepG | refine s_bi ?_ ?_ | refine blk_ne ?_ ?_); rfl) | ((with_reducible refine al_go ?_); intro b) | ((with_reducible apply (ck_le Try.call110)); exact LEL.refl _; exact cmpIF _ _ _) | ((with_reducible apply (ck_le Try.call111)); exact LEL.refl _; exact cmpLF _ _ _) | ((with_reducible apply (ck_le Try.call112)); exact LEL.refl _; exact hB.out _ _ _) | ((with_reducible apply (ck_le Try.call113)); exact LEL.refl _; exact hL.out _) | ((with_reducible apply (ck_le Try.call109)); exact LEL.refl _; exact orF _ [sgn k k', sgn n n', c3, c4] (by simp) _) | ((with_reducible first | refine w_region ?_ ?_ | refine w_dra ?_ ?_); kernel_rfl) | ((with_reducible refine Go3.go ?_ ?_); all_goals (intro hb; (try with_reducible intro hb1); (try (exfalso; first | contradiction | omega)))) | fail)
    all_goals (refine ret_eq (by simp) (by first | rfl | assumption) (by (repeat (first | exact List.Sublist.refl _ | apply List.Sublist.cons))) ?_; (try simp (disch := omega) only [push_cast, simprocAttr, *]); try (first | exact LE.refl _ | exact LE.sl _ _ | ((first | refine LE.tup ?_ | refine LE.agg ?_); (repeat' (first | exact LEL.nil | refine LEL.cons ?_ ?_ | exact LE.refl _ | exact LE.sl _ _ | refine LE.agg ?_)); done) | refine LE.of_eq ?_))
open V in
theorem valSameB (a b : V) (ha : a.Bg) (hb : b.Bg) (st : St) : TrF Try.prog 83 [.agg a.cells, .agg b.cells] st fun x st' => x = .b (a.cmp b == 0) ∧ st' = st := by
  have hC := Lib.hid (valCompareB a.nodes a b (Nat.le_refl _) ha hb)
  cases a with
  | mk k n s l =>
  cases b with
  | mk k' n' s' l' =>
  rw [V.cells_mk, V.cells_mk] at *
  generalize V.cmp _ _ = q at *
  refine trF_enter (ts := [4]) Try.func83 rfl (by rw [Try.ntmps83]; exact Nat.le_of_ble_eq_true rfl) (fun tmps w => by simp [results, Try.results83, go_sem, resVal]) ?_
  simp only [Try.ntmps83]
  repeat' (first | with_reducible refine Go1.go ?_ | ((with_reducible apply ev_go); (focus ((try simp (disch := omega) only [push_cast, simprocAttr, *]); (try exact rfl); done))) | ((with_reducible refine w_last ?_ ?_ ?_); kernel_rfl; rfl) | with_reducible refine Go2.go ?_ | ((with_reducible first | apply w_stepG | refine s_bi ?_ ?_ | refine blk_ne ?_ ?_); rfl) | ((with_reducible refine al_go ?_); intro b) | ((with_reducible apply (ck_le Try.call98)); exact LEL.refl _; exact hC.out _) | ((with_reducible first | refine w_region ?_ ?_ | refine w_dra ?_ ?_); kernel_rfl) | ((with_reducible refine Go3.go ?_ ?_); all_goals (intro hb; (try with_reducible intro hb1); (try (exfalso; first | contradiction | omega)))) | fail)
  all_goals (refine ret_eq (by simp) (by first | rfl | assumption) (by (repeat (first | exact List.Sublist.refl _ | apply List.Sublist.cons))) ?_; (try simp (disch := omega) only [push_cast, simprocAttr, *]); try (first | exact LE.refl _ | exact LE.sl _ _ | ((first | refine LE.tup ?_ | refine LE.agg ?_); (repeat' (first | exact LEL.nil | refine LEL.cons ?_ ?_ | exact LE.refl _ | exact LE.sl _ _ | refine LE.agg ?_)); done) | refine LE.of_eq ?_))
theorem valSameF (a b : V) (ha : a.Sm) (hb : b.Sm) (st : St) : TrF Try.prog 83 [.agg a.cells, .agg b.cells] st fun x st' => x = .b (a.cmp b == 0) ∧ st' = st := valSameB a b ha.bg hb.bg st
end Go.Proofs.Ytooaagmhgakhgaa
end
