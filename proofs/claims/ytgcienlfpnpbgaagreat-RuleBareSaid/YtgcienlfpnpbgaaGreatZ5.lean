/- Texts put together: Bin06b, Bin06c, Bin06f, Bin06g, Bin06h, Rul, RulA, AmMap, RulB, RefRight, SchN, AmFrz, RefA, RulC, RulD, RulE, RulF, Bin06i, Bin06j, RegB, RegC, RulG, RegD, RegE, Nodes4, RegF, RegG, BinLaw, BinLaw2, SchO, CastL, RegL, RegM, RefB, RefC, RefD, RefE, ReoL, RefF, RefG, RefH, RefInts, RegP, BinRef, BinRef2, RegS, RegT. No statement is proved here. -/
import Derived.MapKept
import Derived.Test.YtgcienlfpnpbgaaGreatProg
import Derived.Deep.QuietTactic
import Derived.BigQuiet
import Derived.Test.YtgcienlfpnpbgaaGreatZ4
set_option linter.all false
section
namespace Go.Proofs.YtgcienlfpnpbgaaGreat
set_option linter.unusedSimpArgs false
attribute [local push_cast] encB encI V.cells_mk V.cells_take V.cells_len Nat.mul_one
open Go.RowKit B
set_option maxRecDepth 10000
set_option maxHeartbeats 4000000
namespace V
mutual
def put : V → List UInt8
  | .mk k n s l => UInt8.ofNat k.toNat :: (if k = 1 then [UInt8.ofNat n.toNat] else if k = 2 then be 8 (IntKind.u64.wrap n).toNat else if k = 3 ∨ k = 4 then tx s.data.toList else if k = 5 then be 4 l.length ++ putL l else [])
def putL : List V → List UInt8
  | [] => []
  | x :: l => x.put ++ putL l
end
theorem sgl_facts {k n : Int} {s : ByteArray} {len : Nat} (h : sgl k n s len = true) : 0 ≤ k ∧ k ≤ 5 ∧ (k ≠ 2 → 0 ≤ n ∧ n ≤ 1) ∧ s.size ≤ 200 ∧ (k ≠ 3 ∧ k ≠ 4 → s.size = 0) ∧ (k = 5 → len ≤ 20) := by
  unfold sgl at h
  by_cases k0 : k = 0
  · subst k0; simp at h; obtain ⟨h1, h2⟩ := h; subst h2; simp; omega
  by_cases k1 : k = 1
  · subst k1; simp at h; obtain ⟨h1, h2⟩ := h; subst h2; simp; omega
  by_cases k2 : k = 2
  · subst k2; simp at h; subst h; simp
  by_cases k3 : k = 3
  · subst k3
    simp at h
    have := h.2
    unfold isName at this
    simp at this
    simp; omega
  by_cases k4 : k = 4
  · subst k4; simp at h; simp; omega
  by_cases k5 : k = 5
  · subst k5; simp at h; obtain ⟨h1, h2, h3⟩ := h; subst h2; simp; omega
  simp [k0, k1, k2, k3, k4, k5] at h
theorem parts_facts {k n : Int} {s : ByteArray} {l : List V} (h : (V.mk k n s l).parts = true) : sgl k n s l.length = true ∧ (k = 5 ∨ l = []) ∧ ∀ x ∈ l, x.parts = true := by
  rw [parts] at h
  simp only [Bool.and_eq_true, Bool.or_eq_true, decide_eq_true_eq] at h
  obtain ⟨⟨h1, h2⟩, h3⟩ := h
  refine ⟨h1, h2.imp id List.eq_nil_of_length_eq_zero, ?_⟩
  rw [partsL_all] at h3
  exact List.all_eq_true.1 h3
mutual
theorem put_le : ∀ v : V, v.parts = true → v.put.length ≤ 205 * v.nodes
  | .mk k n s l, h => by
    obtain ⟨h1, h2, h3⟩ := parts_facts h
    obtain ⟨f1, f2, f3, f4, f5, f6⟩ := sgl_facts h1
    have h4 := putL_le l h3
    have h5 : (tx s.data.toList).length = 4 + s.size := by unfold tx; rw [List.length_append, be_len]; simp
    rw [put, nodes, List.length_cons]
    split
    · simp; omega
    split
    · rw [be_len]; omega
    split
    · rw [h5]; omega
    split
    · rw [List.length_append, be_len]; omega
    · simp; omega
theorem putL_le : ∀ l : List V, (∀ x ∈ l, x.parts = true) → (putL l).length ≤ 205 * nodesL l
  | [], _ => by simp [putL]
  | x :: l, h => by
    have := put_le x (h x (List.mem_cons_self ..))
    have := putL_le l fun y hy => h y (List.mem_cons_of_mem _ hy)
    rw [putL, nodesL, List.length_append]; omega
end
theorem putL_app (a b : List V) : putL (a ++ b) = putL a ++ putL b := by
  induction a with
  | nil => rw [List.nil_append, putL, List.nil_append]
  | cons x a ih => rw [List.cons_append, putL, putL, ih, List.append_assoc]
theorem right_in {k n : Int} {s : ByteArray} {l : List V} (h : (V.mk k n s l).right = true) {x : V} (hx : x ∈ l) : x.right = true := by
  rw [right_iff] at h ⊢
  obtain ⟨h1, h2, h3⟩ := h
  refine ⟨(parts_facts h1).2.2 x hx, ?_, ?_⟩
  · have : x.deep ≤ deepL l := by
      clear h1 h2 h3
      induction l with
      | nil => cases hx
      | cons y l ih =>
        rw [deepL]
        rcases List.mem_cons.1 hx with rfl | hx
        · omega
        · have := ih hx; omega
    rw [deep] at h2
    split at h2
    · omega
    · rename_i hc
      have : l ≠ [] := List.ne_nil_of_mem hx
      exact absurd (.inr this) hc
  · have := nodes_lt (k := k) (n := n) (s := s) hx
    omega
end V
end Go.Proofs.YtgcienlfpnpbgaaGreat
end

section
namespace Go.Proofs.YtgcienlfpnpbgaaGreat
set_option linter.unusedSimpArgs false
attribute [local push_cast] encB encI V.cells_mk V.cells_take V.cells_len Nat.mul_one
open Go.RowKit B
set_option maxRecDepth 10000
set_option maxHeartbeats 4000000
namespace V
def bin (v : V) : List UInt8 := if v.right = true then v.put else []
end V
open V in
theorem binValueF : ∀ (N : Nat) (v : V), v.nodes ≤ N → v.nodes ≤ 4611686018427387904 → v.Ok → ∀ st, TrF Tryz.prog 138 [.agg v.cells] st fun d st' => ∃ o', o' ≠ .shared ∧ d = .sl o' (v.bin.map encB) ∧ st' = .room o' 5 1 (v.bin.map encB).length :: st
  | 0, v, h, _, _ => by have := v.nodes_pos; omega
  | N + 1, .mk k n s l, hN, hB, hok => by
    intro st
    obtain ⟨-, hkn, -, -, hall⟩ := hok
    have hR := Lib.hid (valRightF (.mk k n s l) hB)
    have IH := Lib.hid fun x (hx : x ∈ l) => binValueF N x (by have := nodes_lt (k := k) (n := n) (s := s) hx; omega) (by have := nodes_lt (k := k) (n := n) (s := s) hx; omega) (hall x hx)
    clear hN hB hall
    unfold V.bin
    by_cases hr : (V.mk k n s l).right = true
    case neg =>
      rw [if_neg hr]
      have hr' : (V.mk k n s l).right = false := by simpa using hr
      rw [V.cells_mk, hr'] at hR
      rw [V.cells_mk]
      clear hr IH
      refine Qin [2] Tryz.func138 Tryz.results138 Tryz.ntmps138 ?_
      refine tr_room 5 1 0 ?_
      repeat' (first | (with_reducible first | refine Q1 ?_ | refine Qe ?_ | refine Ql ?_ | refine Q2 ?_ | refine Qs ?_ | refine Q4 ?_ | (refine al_go ?_; intro b) | fail) | refine Qc Tryz.call168 (hR.out _) ?_ | (with_reducible first | (refine Qa ?_; intro o' ho') | (refine Qp ?_; intro o' ho') | refine Q5 ?_ | (refine Q3a ?_; intro hb; try intro hb1) | (refine Q3b ?_; intro hb; try intro hb1) | (refine Q3 ?_ ?_ <;> intro hb <;> try intro hb1) | fail) | fail)
      all_goals ((apply ret_own (by simp) (by first | rfl | assumption)); (focus ((try simp (disch := omega) only [push_cast, simprocAttr, *]); (try exact rfl); done)); (focus (first | assumption | (intro h; cases h))); (focus ((repeat (first | exact List.Sublist.refl _ | apply List.Sublist.cons)); done)))
      all_goals rfl
    rw [if_pos hr]
    have hrin := Lib.hid fun x (hx : x ∈ l) => right_in hr hx
    obtain ⟨hpa, -, hnn⟩ := right_iff.1 hr
    obtain ⟨h1, h2, h3⟩ := parts_facts hpa
    obtain ⟨f1, f2, f3, f4, f5, f6⟩ := sgl_facts h1
    have hpl := putL_le l h3
    rw [nodes] at hnn
    rw [V.cells_mk, hr] at hR
    rw [V.cells_mk]
    have hput : (V.mk k n s l).put = UInt8.ofNat k.toNat :: (if k = 1 then [UInt8.ofNat n.toNat] else if k = 2 then be 8 (IntKind.u64.wrap n).toNat else if k = 3 ∨ k = 4 then tx s.data.toList else if k = 5 then be 4 l.length ++ putL l else []) := put.eq_1 ..
    rw [hput]
    have hKb := binByteF k
    rw [if_pos (by omega)] at hKb
    replace hKb := Lib.hid hKb
    have hT := Lib.hid (binTextF s (by omega))
    have hT5 : (tx s.data.toList).length = 4 + s.size := by unfold tx; rw [List.length_append, be_len]; simp
    clear hput hr h1 h3 hpa
    refine Qin [2] Tryz.func138 Tryz.results138 Tryz.ntmps138 ?_
    refine tr_room 5 1 1 ?_
    by_cases k1 : k = 1
    · subst k1
      obtain ⟨m, rfl⟩ : ∃ m : Nat, n = m := ⟨n.toNat, by have := f3 (by omega); omega⟩
      have hW := u8_wrap m
      clear f3 f5 f6 hT IH hrin
      rw [if_pos rfl, Int.toNat_natCast]
      repeat' (first | (with_reducible first | refine Q1 ?_ | refine Qe ?_ | refine Ql ?_ | refine Q2 ?_ | refine Qs ?_ | refine Q4 ?_ | (refine al_go ?_; intro b) | fail) | refine Qc Tryz.call168 (hR.out _) ?_ | refine Qc Tryz.call136 (hKb.out _) ?_ | (with_reducible first | (refine Qa ?_; intro o' ho') | (refine Qp ?_; intro o' ho') | refine Q5 ?_ | (refine Q3a ?_; intro hb; try intro hb1) | (refine Q3b ?_; intro hb; try intro hb1) | (refine Q3 ?_ ?_ <;> intro hb <;> try intro hb1) | fail) | fail)
      all_goals ((apply ret_own (by simp) (by first | rfl | assumption)); (focus ((try simp (disch := omega) only [push_cast, simprocAttr, *]); (try exact rfl); done)); (focus (first | assumption | (intro h; cases h))); (focus ((repeat (first | exact List.Sublist.refl _ | apply List.Sublist.cons)); done)))
      all_goals rfl
    rw [if_neg k1]
    have b1 : (k == 1) = false := by simpa using k1
    by_cases k2 : k = 2
    · subst k2
      have hL := Lib.hid (binLongF n hkn)
      have h8 := be_len 8 (IntKind.u64.wrap n).toNat
      clear f3 f5 f6 hT IH hrin
      rw [if_pos rfl]
      generalize be 8 (IntKind.u64.wrap n).toNat = bs at *
      repeat' (first | (with_reducible first | refine Q1 ?_ | refine Qe ?_ | refine Ql ?_ | refine Q2 ?_ | refine Qs ?_ | refine Q4 ?_ | (refine al_go ?_; intro b) | fail) | refine Qc Tryz.call168 (hR.out _) ?_ | refine Qc Tryz.call136 (hKb.out _) ?_ | refine Qc Tryz.call94 (hL.out _) ?_ | (with_reducible first | (refine Qa ?_; intro o' ho') | (refine Qp ?_; intro o' ho') | refine Q5 ?_ | (refine Q3a ?_; intro hb; try intro hb1) | (refine Q3b ?_; intro hb; try intro hb1) | (refine Q3 ?_ ?_ <;> intro hb <;> try intro hb1) | fail) | fail)
      all_goals ((apply ret_own (by simp) (by first | rfl | assumption)); (focus ((try simp (disch := omega) only [push_cast, simprocAttr, *]); (try exact rfl); done)); (focus (first | assumption | (intro h; cases h))); (focus ((repeat (first | exact List.Sublist.refl _ | apply List.Sublist.cons)); done)))
      all_goals rfl
    rw [if_neg k2]
    have b2 : (k == 2) = false := by simpa using k2
    by_cases k3 : k = 3 ∨ k = 4
    · rw [if_pos k3]
      have b34 : k = 3 ∨ k = 4 := k3
      clear f3 f5 f6 IH hrin h2
      generalize tx s.data.toList = bs at *
      rcases k3 with rfl | rfl
      · repeat' (first | (with_reducible first | refine Q1 ?_ | refine Qe ?_ | refine Ql ?_ | refine Q2 ?_ | refine Qs ?_ | refine Q4 ?_ | (refine al_go ?_; intro b) | fail) | refine Qc Tryz.call168 (hR.out _) ?_ | refine Qc Tryz.call136 (hKb.out _) ?_ | refine Qc Tryz.call55 (hT.out _) ?_ | (with_reducible first | (refine Qa ?_; intro o' ho') | (refine Qp ?_; intro o' ho') | refine Q5 ?_ | (refine Q3a ?_; intro hb; try intro hb1) | (refine Q3b ?_; intro hb; try intro hb1) | (refine Q3 ?_ ?_ <;> intro hb <;> try intro hb1) | fail) | fail)
        all_goals ((apply ret_own (by simp) (by first | rfl | assumption)); (focus ((try simp (disch := omega) only [push_cast, simprocAttr, *]); (try exact rfl); done)); (focus (first | assumption | (intro h; cases h))); (focus ((repeat (first | exact List.Sublist.refl _ | apply List.Sublist.cons)); done)))
        all_goals rfl
      · repeat' (first | (with_reducible first | refine Q1 ?_ | refine Qe ?_ | refine Ql ?_ | refine Q2 ?_ | refine Qs ?_ | refine Q4 ?_ | (refine al_go ?_; intro b) | fail) | refine Qc Tryz.call168 (hR.out _) ?_ | refine Qc Tryz.call136 (hKb.out _) ?_ | refine Qc Tryz.call55 (hT.out _) ?_ | (with_reducible first | (refine Qa ?_; intro o' ho') | (refine Qp ?_; intro o' ho') | refine Q5 ?_ | (refine Q3a ?_; intro hb; try intro hb1) | (refine Q3b ?_; intro hb; try intro hb1) | (refine Q3 ?_ ?_ <;> intro hb <;> try intro hb1) | fail) | fail)
        all_goals ((apply ret_own (by simp) (by first | rfl | assumption)); (focus ((try simp (disch := omega) only [push_cast, simprocAttr, *]); (try exact rfl); done)); (focus (first | assumption | (intro h; cases h))); (focus ((repeat (first | exact List.Sublist.refl _ | apply List.Sublist.cons)); done)))
        all_goals rfl
    rw [if_neg k3]
    have b3 : (k == 3) = false := by simp; omega
    have b4 : (k == 4) = false := by simp; omega
    by_cases k5 : k = 5
    case neg =>
      rw [if_neg k5]
      have b5 : (k == 5) = false := by simpa using k5
      clear f3 f5 f6 hT IH hrin
      repeat' (first | (with_reducible first | refine Q1 ?_ | refine Qe ?_ | refine Ql ?_ | refine Q2 ?_ | refine Qs ?_ | refine Q4 ?_ | (refine al_go ?_; intro b) | fail) | refine Qc Tryz.call168 (hR.out _) ?_ | refine Qc Tryz.call136 (hKb.out _) ?_ | (with_reducible first | (refine Qa ?_; intro o' ho') | (refine Qp ?_; intro o' ho') | refine Q5 ?_ | (refine Q3a ?_; intro hb; try intro hb1) | (refine Q3b ?_; intro hb; try intro hb1) | (refine Q3 ?_ ?_ <;> intro hb <;> try intro hb1) | fail) | fail)
      all_goals ((apply ret_own (by simp) (by first | rfl | assumption)); (focus ((try simp (disch := omega) only [push_cast, simprocAttr, *]); (try exact rfl); done)); (focus (first | assumption | (intro h; cases h))); (focus ((repeat (first | exact List.Sublist.refl _ | apply List.Sublist.cons)); done)))
      all_goals rfl
    subst k5
    rw [if_pos rfl]
    have hN := binNumF l.length
    have hl20 := f6 rfl
    rw [if_pos (by omega), Int.toNat_natCast] at hN
    replace hN := Lib.hid hN
    have h4 := be_len 4 l.length
    clear f3 f5 f6 hT h2 k1 k2 k3 b1 b2 b3 b4
    generalize be 4 l.length = hd at *
    repeat' (first | (with_reducible first | refine Q1 ?_ | refine Qe ?_ | refine Ql ?_ | refine Q2 ?_ | refine Qs ?_ | refine Q4 ?_ | (refine al_go ?_; intro b) | fail) | refine Qc Tryz.call168 (hR.out _) ?_ | refine Qc Tryz.call136 (hKb.out _) ?_ | refine Qc Tryz.call134 (hN.out _) ?_ | (with_reducible first | (refine Qa ?_; intro o' ho') | (refine Qp ?_; intro o' ho') | refine Q5 ?_ | (refine Q3a ?_; intro hb; try intro hb1) | (refine Q3b ?_; intro hb; try intro hb1) | (refine Q3 ?_ ?_ <;> intro hb <;> try intro hb1) | fail) | fail)
    clear hN hKb hR hT5
    refine tr_loopd (ι := Nat) (fun i A st' => i ≤ l.length ∧ A.df = [] ∧ A.e 46 = .sl .shared (l.map V.cells) ∧ A.e 47 = .i l.length ∧ A.e 48 = .i i ∧ ∃ o', o' ≠ .shared ∧ ∃ B : List UInt8, Hid (B = UInt8.ofNat (Int.toNat 5) :: (hd ++ putL (l.take i))) ∧ B.length = 5 + (putL (l.take i)).length ∧ A.e 3 = .sl o' (B.map encB) ∧ st' = .room o' 5 1 (B.map encB).length :: st) (fun i => l.length - i) 0 ⟨Nat.zero_le _, Qf, Qf, Qf, Qf, _, by assumption, UInt8.ofNat (Int.toNat 5) :: hd, by show _ = _; simp [putL], by simp [putL]; omega, Qf, rfl⟩ ?_
    clear o' ho' h4
    rintro i A st' ⟨hi, hdf, e46, e47, e48, o', ho', B, HB, hBl, e3, rfl⟩
    by_cases hlt : i < l.length
    · obtain ⟨x, hx⟩ : ∃ x, l[i]? = some x := ⟨_, List.getElem?_eq_getElem hlt⟩
      have ih := IH.out x (mem_of hx)
      have hxr := hrin.out x (mem_of hx)
      unfold V.bin at ih
      rw [if_pos hxr] at ih
      have htk : putL (l.take (i + 1)) = putL (l.take i) ++ x.put := by
        rw [List.take_succ, hx, putL_app]; simp [putL]
      have hln : (putL (l.take i)).length + x.put.length ≤ (putL l).length := by
        have := congrArg List.length (congrArg putL (List.take_append_drop (i + 1) l))
        rw [putL_app, htk, List.length_append, List.length_append] at this
        omega
      have HB2 : Hid (B ++ x.put = UInt8.ofNat (Int.toNat 5) :: (hd ++ putL (l.take (i + 1)))) := by
        show _ = _
        rw [htk, HB.out]; simp
      have hBl2 : (B ++ x.put).length = 5 + (putL (l.take (i + 1))).length := by
        rw [htk, List.length_append, List.length_append]; omega
      clear IH hrin HB htk hxr
      cases x with
      | mk k1 n1 s1 l1 =>
        rw [V.cells_mk] at ih
        replace ih := Lib.hid ih
        generalize (V.mk k1 n1 s1 l1).put = bs at *
        obtain ⟨q1, hq1⟩ : ∃ q, (putL (l.take (i + 1))).length = q := ⟨_, rfl⟩
        rw [hq1] at hBl2
        replace hq1 := Lib.hid hq1
        generalize (putL (l.take i)).length = q0 at *
        repeat' (first | (with_reducible first | refine Q1 ?_ | refine Qe ?_ | refine Ql ?_ | refine Q2 ?_ | refine Qs ?_ | refine Q4 ?_ | (refine al_go ?_; intro b) | fail) | (refine QE Tryz.call138 (ih.out _) ?_; intro o1 ho1) | (with_reducible first | (refine Qa ?_; intro o' ho') | (refine Qp ?_; intro o' ho') | refine Q5 ?_ | (refine Q3a ?_; intro hb; try intro hb1) | (refine Q3b ?_; intro hb; try intro hb1) | (refine Q3 ?_ ?_ <;> intro hb <;> try intro hb1) | fail) | fail)
        refine ⟨i + 1, .room o' 5 1 ((B ++ bs).map encB).length :: st, ?_, ⟨hlt, ?_, ?_, ?_, ?_, o', ho', B ++ bs, HB2, hBl2.trans (by rw [hq1.out]), ?_, rfl⟩, ?_⟩
        · rw [List.map_append]; (repeat (first | exact List.Sublist.refl _ | apply List.Sublist.cons))
        all_goals exact Qf
    · have hBe : B = UInt8.ofNat (Int.toNat 5) :: (hd ++ putL l) := by
        rw [HB.out, List.take_of_length_le (by omega)]
      rw [← hBe]
      clear hBe HB IH hrin
      repeat' (with_reducible first | refine Q1 ?_ | refine Qe ?_ | refine Ql ?_ | refine Q2 ?_ | refine Qs ?_ | refine Q4 ?_ | (refine al_go ?_; intro b) | (refine Qa ?_; intro o' ho') | (refine Qp ?_; intro o' ho') | refine Q5 ?_ | (refine Q3a ?_; intro hb; try intro hb1) | (refine Q3b ?_; intro hb; try intro hb1) | (refine Q3 ?_ ?_ <;> intro hb <;> try intro hb1) | fail)
      all_goals ((apply ret_own (by simp) (by first | rfl | assumption)); (focus ((try simp (disch := omega) only [push_cast, simprocAttr, *]); (try exact rfl); done)); (focus (first | assumption | (intro h; cases h))); (focus ((repeat (first | exact List.Sublist.refl _ | apply List.Sublist.cons)); done)))
      all_goals rfl
end Go.Proofs.YtgcienlfpnpbgaaGreat
end

section
namespace Go.Proofs.YtgcienlfpnpbgaaGreat
set_option linter.unusedSimpArgs false
attribute [local push_cast] encB encI V.cells_mk V.cells_take V.cells_len Nat.mul_one
open Go.RowKit B
set_option maxRecDepth 10000
set_option maxHeartbeats 4000000
theorem rdByteF (b : Nat) (s : RS) (st : St) : TrF Tryz.prog 116 [.ptr b 0] (rdR b s :: st) fun x st' => x = .i s.byte.1 ∧ st' = rdR b s.byte.2 :: st := by
  have hC := Lib.hid (takeByteF b s)
  generalize s.byte = q at *
  refine Qin [2] Tryz.func116 Tryz.results116 Tryz.ntmps116 ?_
  repeat' (first | (with_reducible first | refine Q1 ?_ | refine Qe ?_ | refine Ql ?_ | refine Q2 ?_ | refine Qs ?_ | refine Q4 ?_ | (refine al_go ?_; intro b) | fail) | refine Qc Tryz.call165 (hC.out _) ?_ | (with_reducible first | refine Q5 ?_ | (refine Q3a ?_; intro hb; try intro hb1) | (refine Q3b ?_; intro hb; try intro hb1) | (refine Q3 ?_ ?_ <;> intro hb <;> try intro hb1) | fail) | fail)
  all_goals exact Qret
theorem take_split (l : List UInt8) (n : Nat) (h : n ≤ l.length) : l.take n ++ l.drop n = l ∧ (l.take n).length = n := ⟨List.take_append_drop n l, by rw [List.length_take]; omega⟩
theorem rdNumF (b : Nat) (s : RS) (st : St) : TrF Tryz.prog 142 [.ptr b 0] (rdR b s :: st) fun x st' => x = .i s.rnum.1 ∧ st' = rdR b s.rnum.2 :: st := by
  have hC : ∀ st, TrF Tryz.prog 165 [.ptr b 0, .i 4, .fn (.func 179) [] []] (rdR b s :: st) fun x st' => x = .i s.rnum.1 ∧ st' = rdR b s.rnum.2 :: st := by
    unfold RS.rnum
    by_cases h : s.bad = true ∨ s.l.length < 4
    · rw [if_pos h]
      exact takeNum0F b s (h.imp id fun h => by omega)
    · rw [if_neg h]
      obtain ⟨o, l, bad⟩ := s
      dsimp only at h ⊢
      cases bad with
      | true => exact absurd (.inl rfl) h
      | false =>
        obtain ⟨h1, h2⟩ := take_split l 4 (by omega)
        split
        · rename_i hx; exact takeNumF b o l _ _ h1 h2 hx
        · rename_i hx; exact takeNum1F b o l _ _ h1 h2 hx
  replace hC := Lib.hid hC
  generalize s.rnum = q at *
  refine Qin [2] Tryz.func142 Tryz.results142 Tryz.ntmps142 ?_
  repeat' (first | (with_reducible first | refine Q1 ?_ | refine Qe ?_ | refine Ql ?_ | refine Q2 ?_ | refine Qs ?_ | refine Q4 ?_ | (refine al_go ?_; intro b) | fail) | refine Qc Tryz.call165 (hC.out _) ?_ | (with_reducible first | refine Q5 ?_ | (refine Q3a ?_; intro hb; try intro hb1) | (refine Q3b ?_; intro hb; try intro hb1) | (refine Q3 ?_ ?_ <;> intro hb <;> try intro hb1) | fail) | fail)
  all_goals exact Qret
theorem rdLongF (b : Nat) (s : RS) (st : St) : TrF Tryz.prog 126 [.ptr b 0] (rdR b s :: st) fun x st' => x = .i s.long.1 ∧ st' = rdR b s.long.2 :: st := by
  have hC : ∀ st, TrF Tryz.prog 170 [.ptr b 0, .i 8, .fn (.func 171) [] []] (rdR b s :: st) fun x st' => x = .i s.long.1 ∧ st' = rdR b s.long.2 :: st := by
    unfold RS.long
    by_cases h : s.bad = true ∨ s.l.length < 8
    · rw [if_pos h]
      exact takeLong0F b s (h.imp id fun h => by omega)
    · rw [if_neg h]
      obtain ⟨o, l, bad⟩ := s
      dsimp only at h ⊢
      cases bad with
      | true => exact absurd (.inl rfl) h
      | false =>
        obtain ⟨h1, h2⟩ := take_split l 8 (by omega)
        exact takeLongF b o l _ _ h1 h2
  replace hC := Lib.hid hC
  generalize s.long = q at *
  refine Qin [2] Tryz.func126 Tryz.results126 Tryz.ntmps126 ?_
  repeat' (first | (with_reducible first | refine Q1 ?_ | refine Qe ?_ | refine Ql ?_ | refine Q2 ?_ | refine Qs ?_ | refine Q4 ?_ | (refine al_go ?_; intro b) | fail) | refine Qc Tryz.call170 (hC.out _) ?_ | (with_reducible first | refine Q5 ?_ | (refine Q3a ?_; intro hb; try intro hb1) | (refine Q3b ?_; intro hb; try intro hb1) | (refine Q3 ?_ ?_ <;> intro hb <;> try intro hb1) | fail) | fail)
  all_goals exact Qret
theorem rdTextF (b : Nat) (s : RS) (st : St) : TrF Tryz.prog 75 [.ptr b 0] (rdR b s :: st) fun x st' => x = .str s.text.1 ∧ st' = rdR b s.text.2 :: st := by
  have hN := Lib.hid (rdNumF b s)
  have hC : ∀ st, TrF Tryz.prog 143 [.ptr b 0, .i s.rnum.1, .fn (.func 144) [] []] (rdR b s.rnum.2 :: st) fun x st' => x = .str s.text.1 ∧ st' = rdR b s.text.2 :: st := by
    unfold RS.text RS.textN
    generalize s.rnum = q
    obtain ⟨n, s1⟩ := q
    dsimp only
    by_cases h : s1.bad = true ∨ n < 0 ∨ s1.l.length < n
    · rw [if_pos h]
      exact takeText0F b s1 n h
    · rw [if_neg h]
      obtain ⟨o, l, bad⟩ := s1
      dsimp only at h ⊢
      cases bad with
      | true => exact absurd (.inl rfl) h
      | false =>
        obtain ⟨m, rfl⟩ : ∃ m : Nat, n = m := ⟨n.toNat, by omega⟩
        obtain ⟨h1, h2⟩ := take_split l m (by omega)
        exact takeTextF b o l _ _ m h1 h2
  replace hC := Lib.hid hC
  generalize s.rnum = q at *
  generalize s.text = q' at *
  refine Qin [2] Tryz.func75 Tryz.results75 Tryz.ntmps75 ?_
  repeat' (first | (with_reducible first | refine Q1 ?_ | refine Qe ?_ | refine Ql ?_ | refine Q2 ?_ | refine Qs ?_ | refine Q4 ?_ | (refine al_go ?_; intro b) | fail) | refine Qc Tryz.call142 (hN.out _) ?_ | refine Qc Tryz.call143 (hC.out _) ?_ | (with_reducible first | refine Q5 ?_ | (refine Q3a ?_; intro hb; try intro hb1) | (refine Q3b ?_; intro hb; try intro hb1) | (refine Q3 ?_ ?_ <;> intro hb <;> try intro hb1) | fail) | fail)
  all_goals exact Qret
namespace RS
def vals (f : RS → V × RS) : Nat → RS → List V × RS
  | 0, s => ([], s)
  | n + 1, s => if s.bad = true then ([], s) else ((f s).1 :: (vals f n (f s).2).1, (vals f n (f s).2).2)
def list5 (f : Option (RS → V × RS)) (n : Int) (s : RS) : V × RS :=
  match f with
  | none => (.mk 5 0 ⟨#[]⟩ [], fail)
  | some f => if 20 < n then (.mk 5 0 ⟨#[]⟩ [], fail) else (.mk 5 0 ⟨#[]⟩ (vals f n.toNat s).1, (vals f n.toNat s).2)
def body (f : Option (RS → V × RS)) (s : RS) : V × RS :=
  if s.byte.1 = 1 then (.mk 1 s.byte.2.byte.1 ⟨#[]⟩ [], s.byte.2.byte.2)
  else if s.byte.1 = 2 then (.mk 2 s.byte.2.long.1 ⟨#[]⟩ [], s.byte.2.long.2)
  else if s.byte.1 = 3 ∨ s.byte.1 = 4 then (.mk s.byte.1 0 s.byte.2.text.1 [], s.byte.2.text.2)
  else if s.byte.1 = 5 then list5 f s.byte.2.rnum.1 s.byte.2.rnum.2
  else (.mk s.byte.1 0 ⟨#[]⟩ [], s.byte.2)
def value : Nat → RS → V × RS
  | 0 => body none
  | d + 1 => body (some (value d))
theorem rnum_pos (s : RS) : 0 ≤ s.rnum.1 := by
  unfold rnum; split
  · exact Int.le_refl _
  · split
    · exact Int.natCast_nonneg _
    · exact Int.le_refl _
end RS
end Go.Proofs.YtgcienlfpnpbgaaGreat
end

section
namespace Go.Proofs.YtgcienlfpnpbgaaGreat
set_option linter.unusedSimpArgs false
attribute [local push_cast] encB encI V.cells_mk V.cells_take V.cells_len Nat.mul_one
open Go.RowKit B
set_option maxRecDepth 10000
set_option maxHeartbeats 4000000
theorem tr_once {P : Program} {N : Nat} {r : Option Nat} {A : AA} {st : St} {Q : Exit → AA → St → Prop} {c : Code} (h : Tr P N r c A st (thenA (fun _ _ => False) Q)) : Tr P N r (.loop c) A st Q :=
  tr_loop (fun (_ : Unit) A' st' => A' = A ∧ st' = st) (fun _ => 0) () ⟨rfl, rfl⟩ fun _ A' st' ⟨e1, e2⟩ => by
    subst e1 e2
    exact tr_mono h fun ex A s hq => by cases ex <;> first | exact hq.elim | exact hq
theorem keep_one {b : Nat} {ty : TypeId} {cs : List D} {st : St} (h : Res.box b ty cs ∈ st) : Keep (some [(b, cs)]) st := fun b' cs' hl => by
  rw [List.lookup_cons] at hl
  split at hl
  · rename_i he
    cases hl
    have : b' = b := eq_of_beq he
    subst this
    exact ⟨ty, h⟩
  · cases hl
namespace RS
def sub : Nat → Option (RS → V × RS)
  | 0 => none
  | e + 1 => some (value e)
theorem value_eq (d : Nat) (s : RS) : value d s = body (sub d) s := by cases d <;> rfl
end RS
open RS in
theorem rdValueF : ∀ (d : Nat), d ≤ 4 → ∀ (rb : Nat) (s : RS) (st : St), TrF Tryz.prog 167 [.ptr rb 0, .i d] (rdR rb s :: st) fun x st' => x = .agg (RS.value d s).1.cells ∧ st' = rdR rb (RS.value d s).2 :: st := fun d => by
  induction d using Nat.strongRecOn with
  | _ d IHd =>
  intro hd4 rb s st
  have IH : ∀ f, sub d = some f → ∀ b s st, TrF Tryz.prog 167 [.ptr b 0, .i ((d : Int) - 1)] (rdR b s :: st) fun x st' => x = .agg (f s).1.cells ∧ st' = rdR b (f s).2 :: st := by
    intro f hf
    cases d with
    | zero => cases hf
    | succ e =>
      cases hf
      intro b s st
      have := IHd e (by omega) (by omega) b s st
      rwa [show (((e + 1 : Nat) : Int) - 1) = (e : Int) by omega]
  have hd0 : d = 0 ↔ sub d = none := by cases d <;> simp [sub]
  rw [value_eq]
  clear IHd
  generalize sub d = f? at *
  have hB := Lib.hid (rdByteF rb s)
  unfold body
  generalize s.byte = q at *
  obtain ⟨k, s1⟩ := q
  dsimp only at *
  refine QinC 4 73 Tryz.func167 Tryz.ntmps167 ?_
  refine tr_room 73 4 0 ?_
  by_cases k1 : k = 1
  · subst k1
    rw [if_pos rfl]
    have hB2 := Lib.hid (rdByteF rb s1)
    generalize s1.byte = q2 at *
    clear IH hd0
    repeat' (first | (with_reducible first | refine Q1 ?_ | refine Qe ?_ | refine Ql ?_ | refine Q2 ?_ | refine Qs ?_ | refine Q4 ?_ | (refine al_go ?_; intro b) | fail) | refine QR Tryz.call116 hB.out ?_ | refine QR Tryz.call116 hB2.out ?_ | (with_reducible first | (refine Qa ?_; intro o' ho') | (refine Qp ?_; intro o' ho') | refine Q5 ?_ | (refine Q3a ?_; intro hb; try intro hb1) | (refine Q3b ?_; intro hb; try intro hb1) | (refine Q3 ?_ ?_ <;> intro hb <;> try intro hb1) | fail) | fail)
    all_goals exact QretC
  rw [if_neg k1]
  have b1 : (k == 1) = false := by simpa using k1
  by_cases k2 : k = 2
  · subst k2
    rw [if_pos rfl]
    have hB2 := Lib.hid (rdLongF rb s1)
    generalize s1.long = q2 at *
    clear IH hd0
    repeat' (first | (with_reducible first | refine Q1 ?_ | refine Qe ?_ | refine Ql ?_ | refine Q2 ?_ | refine Qs ?_ | refine Q4 ?_ | (refine al_go ?_; intro b) | fail) | refine QR Tryz.call116 hB.out ?_ | refine QR Tryz.call126 hB2.out ?_ | (with_reducible first | (refine Qa ?_; intro o' ho') | (refine Qp ?_; intro o' ho') | refine Q5 ?_ | (refine Q3a ?_; intro hb; try intro hb1) | (refine Q3b ?_; intro hb; try intro hb1) | (refine Q3 ?_ ?_ <;> intro hb <;> try intro hb1) | fail) | fail)
    all_goals exact QretC
  rw [if_neg k2]
  have b2 : (k == 2) = false := by simpa using k2
  by_cases k3 : k = 3 ∨ k = 4
  · rw [if_pos k3]
    have hB2 := Lib.hid (rdTextF rb s1)
    generalize s1.text = q2 at *
    clear IH hd0 b1 b2 k1 k2
    rcases k3 with rfl | rfl
    · repeat' (first | (with_reducible first | refine Q1 ?_ | refine Qe ?_ | refine Ql ?_ | refine Q2 ?_ | refine Qs ?_ | refine Q4 ?_ | (refine al_go ?_; intro b) | fail) | refine QR Tryz.call116 hB.out ?_ | refine QR Tryz.call75 hB2.out ?_ | (with_reducible first | (refine Qa ?_; intro o' ho') | (refine Qp ?_; intro o' ho') | refine Q5 ?_ | (refine Q3a ?_; intro hb; try intro hb1) | (refine Q3b ?_; intro hb; try intro hb1) | (refine Q3 ?_ ?_ <;> intro hb <;> try intro hb1) | fail) | fail)
      all_goals exact QretC
    · repeat' (first | (with_reducible first | refine Q1 ?_ | refine Qe ?_ | refine Ql ?_ | refine Q2 ?_ | refine Qs ?_ | refine Q4 ?_ | (refine al_go ?_; intro b) | fail) | refine QR Tryz.call116 hB.out ?_ | refine QR Tryz.call75 hB2.out ?_ | (with_reducible first | (refine Qa ?_; intro o' ho') | (refine Qp ?_; intro o' ho') | refine Q5 ?_ | (refine Q3a ?_; intro hb; try intro hb1) | (refine Q3b ?_; intro hb; try intro hb1) | (refine Q3 ?_ ?_ <;> intro hb <;> try intro hb1) | fail) | fail)
      all_goals exact QretC
  rw [if_neg k3]
  have b3 : (k == 3) = false := by simp; omega
  have b4 : (k == 4) = false := by simp; omega
  by_cases k5 : k = 5
  case neg =>
    rw [if_neg k5]
    have b5 : (k == 5) = false := by simpa using k5
    clear IH hd0
    repeat' (first | (with_reducible first | refine Q1 ?_ | refine Qe ?_ | refine Ql ?_ | refine Q2 ?_ | refine Qs ?_ | refine Q4 ?_ | (refine al_go ?_; intro b) | fail) | refine QR Tryz.call116 hB.out ?_ | (with_reducible first | (refine Qa ?_; intro o' ho') | (refine Qp ?_; intro o' ho') | refine Q5 ?_ | (refine Q3a ?_; intro hb; try intro hb1) | (refine Q3b ?_; intro hb; try intro hb1) | (refine Q3 ?_ ?_ <;> intro hb <;> try intro hb1) | fail) | fail)
    all_goals exact QretC
  subst k5
  rw [if_pos rfl]
  have hN := Lib.hid (rdNumF rb s1)
  have hnp := rnum_pos s1
  clear k1 k2 k3 b1 b2 b3 b4
  generalize s1.rnum = q2 at *
  obtain ⟨n, s2⟩ := q2
  dsimp only at *
  have hF := Lib.hid (rdFailF rb s2)
  have hBad := Lib.hid (rdBadF rb)
  by_cases hbad : d = 0 ∨ 20 < n
  · have hres : list5 f? n s2 = (V.mk 5 0 ⟨#[]⟩ [], fail) := by
      unfold list5
      cases f? with
      | none => rfl
      | some f =>
        have : d ≠ 0 := fun h => by have := hd0.1 h; cases this
        exact if_pos (by omega)
    rw [hres]
    clear hres hd0 IH
    have hbad' : (d : Int) = 0 ∨ 20 < n := by omega
    clear hbad
    repeat' (first | (with_reducible first | refine Q1 ?_ | refine Qe ?_ | refine Ql ?_ | refine Q2 ?_ | refine Qs ?_ | refine Q4 ?_ | (refine al_go ?_; intro b) | fail) | refine QR Tryz.call116 hB.out ?_ | refine QR Tryz.call142 hN.out ?_ | refine QR Tryz.call169 hF.out ?_ | (with_reducible first | (refine Qa ?_; intro o' ho') | (refine Qp ?_; intro o' ho') | refine Q5 ?_ | (refine Q3a ?_; intro hb; try intro hb1) | (refine Q3b ?_; intro hb; try intro hb1) | (refine Q3 ?_ ?_ <;> intro hb <;> try intro hb1) | fail) | fail)
    all_goals
      refine tr_once ?_
      by_cases hn0 : 0 < n
      · repeat' (first | (with_reducible first | refine Q1 ?_ | refine Qe ?_ | refine Ql ?_ | refine Q2 ?_ | refine Qs ?_ | refine Q4 ?_ | (refine al_go ?_; intro b) | fail) | refine QR Tryz.call80 (hBad.out fail) ?_ | (with_reducible first | (refine Qa ?_; intro o' ho') | (refine Qp ?_; intro o' ho') | refine Q5 ?_ | (refine Q3a ?_; intro hb; try intro hb1) | (refine Q3b ?_; intro hb; try intro hb1) | (refine Q3 ?_ ?_ <;> intro hb <;> try intro hb1) | fail) | fail)
        all_goals exact QretC
      · repeat' (with_reducible first | refine Q1 ?_ | refine Qe ?_ | refine Ql ?_ | refine Q2 ?_ | refine Qs ?_ | refine Q4 ?_ | (refine al_go ?_; intro b) | (refine Qa ?_; intro o' ho') | (refine Qp ?_; intro o' ho') | refine Q5 ?_ | (refine Q3a ?_; intro hb; try intro hb1) | (refine Q3b ?_; intro hb; try intro hb1) | (refine Q3 ?_ ?_ <;> intro hb <;> try intro hb1) | fail)
        all_goals exact QretC
  obtain ⟨f, rfl⟩ : ∃ f, f? = some f := by
    cases f? with
    | none => exact absurd (.inl (hd0.2 rfl)) hbad
    | some f => exact ⟨f, rfl⟩
  have hI := Lib.hid (IH f rfl rb)
  obtain ⟨m, rfl⟩ : ∃ m : Nat, n = m := ⟨n.toNat, by omega⟩
  rw [show list5 (some f) m s2 = (V.mk 5 0 ⟨#[]⟩ (vals f m s2).1, (vals f m s2).2) from if_neg (by omega)]
  have hd1 : ¬ (d : Int) = 0 := by omega
  have hm20 : m ≤ 20 := by omega
  obtain ⟨res, hres⟩ : ∃ r, vals f m s2 = r := ⟨_, rfl⟩
  have hE : Hid ([] ++ (vals f (m - 0) s2).1 = res.1 ∧ (vals f (m - 0) s2).2 = res.2) := by
    show _ ∧ _
    rw [Nat.sub_zero, hres]
    exact ⟨rfl, rfl⟩
  rw [hres]
  clear hres
  clear IH hd0 hbad hF
  repeat' (first | (with_reducible first | refine Q1 ?_ | refine Qe ?_ | refine Ql ?_ | refine Q2 ?_ | refine Qs ?_ | refine Q4 ?_ | (refine al_go ?_; intro b) | fail) | refine QR Tryz.call116 hB.out ?_ | refine QR Tryz.call142 hN.out ?_ | (with_reducible first | (refine Qa ?_; intro o' ho') | (refine Qp ?_; intro o' ho') | refine Q5 ?_ | (refine Q3a ?_; intro hb; try intro hb1) | (refine Q3b ?_; intro hb; try intro hb1) | (refine Q3 ?_ ?_ <;> intro hb <;> try intro hb1) | fail) | fail)
  rename_i b4 _
  clear hB hN
  refine tr_loopd (ι := Nat) (fun i A st' => i ≤ m ∧ A.df = [] ∧ A.e 0 = .ptr rb 0 ∧ A.e 1 = .i d ∧ A.e 4 = .ptr b4 0 ∧ A.e 5 = .ptr b 0 ∧ A.e 40 = .i m ∧ A.e 41 = .i i ∧ ∃ o' L s' zs, o' ≠ .shared ∧ L.length ≤ i ∧ zs.length = 4 ∧ Hid (L ++ (vals f (m - i) s').1 = res.1 ∧ (vals f (m - i) s').2 = res.2) ∧ st' = .box b 73 [.i 5, .i 0, .str ⟨#[]⟩, .sl o' (L.map V.cells)] :: .box b4 73 zs :: .room o' 73 4 (L.map V.cells).length :: rdR rb s' :: st) (fun i => m - i) 0 ⟨Nat.zero_le _, Qf, Qf, Qf, Qf, Qf, Qf, Qf, .tight, [], s2, _, by simp, Nat.le_refl _, rfl, hE, rfl⟩ ?_
  clear hE hnp
  rintro i A st' ⟨hi, hdf, e0, e1, e4, e5, e40, e41, o', L, s', zs, ho', hLi, hzs, hE, rfl⟩
  have hLc : (L.map V.cells).length = L.length := List.length_map _
  by_cases hlt : i < m
  · have hHE := hE.out
    rw [show m - i = (m - (i + 1)) + 1 by omega, vals] at hHE
    cases hsb : s'.bad with
    | true =>
      rw [hsb, if_pos rfl] at hHE
      obtain ⟨r1, r2⟩ := res
      obtain ⟨hr1, hr2⟩ := hHE
      dsimp only at hr1 hr2
      rw [List.append_nil] at hr1
      subst hr1 hr2
      have hBs := hBad.out s'
      rw [hsb] at hBs
      replace hBs := Lib.hid hBs
      clear hE hI hBad
      repeat' (first | (with_reducible first | refine Q1 ?_ | refine Qe ?_ | refine Ql ?_ | refine Q2 ?_ | refine Qs ?_ | refine Q4 ?_ | (refine al_go ?_; intro b) | fail) | refine QR Tryz.call80 hBs.out ?_ | (with_reducible first | (refine Qa ?_; intro o' ho') | (refine Qp ?_; intro o' ho') | refine Q5 ?_ | (refine Q3a ?_; intro hb; try intro hb1) | (refine Q3b ?_; intro hb; try intro hb1) | (refine Q3 ?_ ?_ <;> intro hb <;> try intro hb1) | fail) | fail)
      all_goals exact QretC
    | false =>
      rw [hsb, if_neg Bool.false_ne_true] at hHE
      have hIs := hI.out s'
      have hBs := hBad.out s'
      rw [hsb] at hBs
      generalize f s' = x3 at *
      obtain ⟨⟨k1, n1, t1, l1⟩, s3⟩ := x3
      dsimp only at hHE hIs
      rw [V.cells_mk] at hIs
      have hE2 : Hid ((L ++ [V.mk k1 n1 t1 l1]) ++ (vals f (m - (i + 1)) s3).1 = res.1 ∧ (vals f (m - (i + 1)) s3).2 = res.2) := by
        show _ ∧ _
        rw [List.append_assoc]
        exact hHE
      replace hBs := Lib.hid hBs
      replace hIs := Lib.hid hIs
      clear hE hI hBad hHE
      have hL4 : ∀ a ∈ L.map V.cells, a.length = 4 := fun a ha => by
        obtain ⟨x, -, rfl⟩ := List.mem_map.1 ha
        exact V.cells_len x
      repeat' (first | (with_reducible first | refine Q1 ?_ | refine Qe ?_ | fail) | ((with_reducible refine w_draw [(b, [.i 5, .i 0, .str ⟨#[]⟩, .sl o' (L.map V.cells)])] ?_ ?_ ?_ ?_ ?_); (focus kernel_rfl); (focus kernel_rfl); (focus kernel_rfl); (focus exact keep_one (List.Mem.head _))) | ((with_reducible refine And.intro ?_ ?_); (focus exact keep_one (by repeat (first | exact mm_h | apply mm_t)))) | ((with_reducible apply (a2_go ho')); (focus (intro o'; repeat (first | exact ra_h | apply ra_t))); (focus exact hL4); (focus exact len_one rfl); (focus (simp only [List.length_map, List.length_cons, List.length_nil]; omega)); (focus (simp only [List.length_map, List.length_cons, List.length_nil]; omega)); intro o' ho') | (with_reducible first | refine Ql ?_ | refine Q2 ?_ | refine Qs ?_ | refine Q4 ?_ | (refine al_go ?_; intro b) | fail) | refine QR Tryz.call80 hBs.out ?_ | refine QR Tryz.call167 hIs.out ?_ | (with_reducible first | (refine Qa ?_; intro o' ho') | (refine Qp ?_; intro o' ho') | refine Q5 ?_ | (refine Q3a ?_; intro hb; try intro hb1) | (refine Q3b ?_; intro hb; try intro hb1) | (refine Q3 ?_ ?_ <;> intro hb <;> try intro hb1) | fail) | fail)
      refine ⟨i + 1, .box b 73 [.i 5, .i 0, .str ⟨#[]⟩, .sl o' ((L ++ [V.mk k1 n1 t1 l1]).map V.cells)] :: .box b4 73 zs :: .room o' 73 4 ((L ++ [V.mk k1 n1 t1 l1]).map V.cells).length :: rdR rb s3 :: st, ?_, ⟨hlt, ?_, ?_, ?_, ?_, ?_, ?_, ?_, o', L ++ [V.mk k1 n1 t1 l1], s3, zs, ho', ?_, hzs, hE2, rfl⟩, ?_⟩
      · simp only [List.map_append, List.map_cons, List.map_nil, V.cells_mk]; (repeat (first | exact List.Sublist.refl _ | apply List.Sublist.cons))
      · exact Qf
      · exact Qf
      · exact Qf
      · exact Qf
      · exact Qf
      · exact Qf
      · exact Qf
      · rw [List.length_append, List.length_singleton]; omega
      · omega
  · have hHE := hE.out
    rw [show m - i = 0 by omega, vals] at hHE
    obtain ⟨r1, r2⟩ := res
    obtain ⟨hr1, hr2⟩ := hHE
    dsimp only at hr1 hr2
    rw [List.append_nil] at hr1
    subst hr1 hr2
    clear hE hI hBad
    repeat' (with_reducible first | refine Q1 ?_ | refine Qe ?_ | refine Ql ?_ | refine Q2 ?_ | refine Qs ?_ | refine Q4 ?_ | (refine al_go ?_; intro b) | (refine Qa ?_; intro o' ho') | (refine Qp ?_; intro o' ho') | refine Q5 ?_ | (refine Q3a ?_; intro hb; try intro hb1) | (refine Q3b ?_; intro hb; try intro hb1) | (refine Q3 ?_ ?_ <;> intro hb <;> try intro hb1) | fail)
    all_goals exact QretC
end Go.Proofs.YtgcienlfpnpbgaaGreat
end

section
namespace Go.Proofs.YtgcienlfpnpbgaaGreat
set_option linter.unusedSimpArgs false
attribute [local push_cast] encB encI V.cells_mk V.cells_take V.cells_len Nat.mul_one
open Go.RowKit B
set_option maxRecDepth 10000
set_option maxHeartbeats 4000000
def V.zero : V := .mk 0 0 ⟨#[]⟩ []
def RS.val (s : RS) : V × RS := if s.bad = true then (V.zero, s) else if (RS.value 4 s).2.bad = true ∨ (RS.value 4 s).1.right = false then (V.zero, RS.fail) else RS.value 4 s
theorem rdValF (b : Nat) (s : RS) (hn : (RS.value 4 s).1.nodes ≤ 4611686018427387904) (st : St) : TrF Tryz.prog 118 [.ptr b 0] (rdR b s :: st) fun x st' => x = .agg s.val.1.cells ∧ st' = rdR b s.val.2 :: st := by
  have hBad := Lib.hid (rdBadF b s)
  have hV := Lib.hid (rdValueF 4 (Nat.le_refl _) b s)
  have hR := Lib.hid (valRightF (RS.value 4 s).1 hn)
  unfold RS.val
  cases hsb : s.bad with
  | true =>
    rw [if_pos rfl]
    rw [hsb] at hBad
    refine QinC 2 73 Tryz.func118 Tryz.ntmps118 ?_
    repeat' (first | (with_reducible first | refine Q1 ?_ | refine Qe ?_ | refine Ql ?_ | refine Q2 ?_ | refine Qs ?_ | refine Q4 ?_ | (refine al_go ?_; intro b) | fail) | refine QR Tryz.call80 hBad.out ?_ | (with_reducible first | refine Q5 ?_ | (refine Q3a ?_; intro hb; try intro hb1) | (refine Q3b ?_; intro hb; try intro hb1) | (refine Q3 ?_ ?_ <;> intro hb <;> try intro hb1) | fail) | fail)
    all_goals exact QretC
  | false =>
    rw [if_neg Bool.false_ne_true]
    rw [hsb] at hBad
    generalize RS.value 4 s = q at *
    obtain ⟨⟨k, n, t, l⟩, s2⟩ := q
    dsimp only at *
    rw [V.cells_mk] at *
    generalize hr : (V.mk k n t l).right = r at *
    have hBad2 := Lib.hid (rdBadF b s2)
    have hF := Lib.hid (rdFailF b s2)
    cases hsb2 : s2.bad with
    | true =>
      rw [if_pos (.inl rfl)]
      rw [hsb2] at hBad2
      refine QinC 2 73 Tryz.func118 Tryz.ntmps118 ?_
      repeat' (first | (with_reducible first | refine Q1 ?_ | refine Qe ?_ | refine Ql ?_ | refine Q2 ?_ | refine Qs ?_ | refine Q4 ?_ | (refine al_go ?_; intro b) | fail) | refine QR Tryz.call80 hBad.out ?_ | refine QR Tryz.call80 hBad2.out ?_ | refine QR Tryz.call167 hV.out ?_ | refine QR Tryz.call169 hF.out ?_ | (with_reducible first | refine Q5 ?_ | (refine Q3a ?_; intro hb; try intro hb1) | (refine Q3b ?_; intro hb; try intro hb1) | (refine Q3 ?_ ?_ <;> intro hb <;> try intro hb1) | fail) | fail)
      all_goals exact QretC
    | false =>
      rw [hsb2] at hBad2
      cases r with
      | false =>
        rw [if_pos (.inr rfl)]
        refine QinC 2 73 Tryz.func118 Tryz.ntmps118 ?_
        repeat' (first | (with_reducible first | refine Q1 ?_ | refine Qe ?_ | refine Ql ?_ | refine Q2 ?_ | refine Qs ?_ | refine Q4 ?_ | (refine al_go ?_; intro b) | fail) | refine QR Tryz.call80 hBad.out ?_ | refine QR Tryz.call80 hBad2.out ?_ | refine QR Tryz.call167 hV.out ?_ | refine QR Tryz.call169 hF.out ?_ | refine Qc Tryz.call168 (hR.out _) ?_ | (with_reducible first | refine Q5 ?_ | (refine Q3a ?_; intro hb; try intro hb1) | (refine Q3b ?_; intro hb; try intro hb1) | (refine Q3 ?_ ?_ <;> intro hb <;> try intro hb1) | fail) | fail)
        all_goals exact QretC
      | true =>
        rw [if_neg (by simp)]
        refine QinC 2 73 Tryz.func118 Tryz.ntmps118 ?_
        repeat' (first | (with_reducible first | refine Q1 ?_ | refine Qe ?_ | refine Ql ?_ | refine Q2 ?_ | refine Qs ?_ | refine Q4 ?_ | (refine al_go ?_; intro b) | fail) | refine QR Tryz.call80 hBad.out ?_ | refine QR Tryz.call80 hBad2.out ?_ | refine QR Tryz.call167 hV.out ?_ | refine QR Tryz.call169 hF.out ?_ | refine Qc Tryz.call168 (hR.out _) ?_ | (with_reducible first | refine Q5 ?_ | (refine Q3a ?_; intro hb; try intro hb1) | (refine Q3b ?_; intro hb; try intro hb1) | (refine Q3 ?_ ?_ <;> intro hb <;> try intro hb1) | fail) | fail)
        all_goals exact QretC
end Go.Proofs.YtgcienlfpnpbgaaGreat
end

section
namespace Go.Proofs.YtgcienlfpnpbgaaGreat
set_option linter.unusedSimpArgs false
open Go.RowKit
structure Ts where
  kind : Int
  slot : Int
  var : Int
  val : V
structure Pt where
  tmpl : Int
  neg : Bool
  tests : List Ts
structure Ex where
  isVar : Bool
  var : Int
  val : V
structure Ac where
  kind : Int
  pat : Int
  tmpl : Int
  slot : Int
  vals : List Ex
structure Rl where
  name : ByteArray
  sal : Int
  pats : List Pt
  acts : List Ac
def Ts.cells (t : Ts) : List D := .i t.kind :: .i t.slot :: .i t.var :: t.val.cells
def Pt.cells (p : Pt) : List D := [.i p.tmpl, .b p.neg, .sl .shared (p.tests.map Ts.cells)]
def Ex.cells (e : Ex) : List D := .b e.isVar :: .i e.var :: e.val.cells
def Ac.cells (a : Ac) : List D := [.i a.kind, .i a.pat, .i a.tmpl, .i a.slot, .sl .shared (a.vals.map Ex.cells)]
def Rl.cells (x : Rl) : List D := [.str x.name, .i x.sal, .sl .shared (x.pats.map Pt.cells), .sl .shared (x.acts.map Ac.cells)]
theorem Ts.cells_mk (kind slot var k n : Int) (s : ByteArray) (l : List V) : (Ts.mk kind slot var (.mk k n s l)).cells = [.i kind, .i slot, .i var, .i k, .i n, .str s, .sl .shared (l.map V.cells)] := by unfold Ts.cells; rw [V.cells_mk]
theorem Ex.cells_mk (iv : Bool) (var k n : Int) (s : ByteArray) (l : List V) : (Ex.mk iv var (.mk k n s l)).cells = [.b iv, .i var, .i k, .i n, .str s, .sl .shared (l.map V.cells)] := by unfold Ex.cells; rw [V.cells_mk]
theorem Ts.cells_len (t : Ts) : t.cells.length = 7 := by unfold Ts.cells; simp [V.cells_len]
theorem Ex.cells_len (e : Ex) : e.cells.length = 6 := by unfold Ex.cells; simp [V.cells_len]
namespace Rul
def slots (L : List Tm) (k : Int) : List Sl := if 0 ≤ k ∧ k < L.length then (match L[k.toNat]? with | some t => (Sch.verX t (Sch.last t)).slots | none => []) else []
def bindT (l : List Ts) : List Int := (l.filter fun t => t.kind == 5).map Ts.var
def bindP (l : List Pt) : List Int := l.flatMap fun p => bindT p.tests
def bound (x : Rl) : List Int := bindP x.pats
def testB (ns : Int) (neg : Bool) (B : List Int) (t : Ts) : Bool :=
  (decide (0 ≤ t.slot) && decide (t.slot < ns)) && (
  if t.kind = 1 ∨ t.kind = 2 ∨ t.kind = 3 ∨ t.kind = 4 then (t.var == 0) && t.val.right
  else if t.kind = 5 then (t.val.cmp V.zero == 0) && ((decide (0 ≤ t.var) && decide (t.var < 8)) && (!neg && decide (t.var ∉ B)))
  else if t.kind = 6 ∨ t.kind = 7 ∨ t.kind = 8 ∨ t.kind = 9 then (t.val.cmp V.zero == 0) && ((decide (0 ≤ t.var) && decide (t.var < 8)) && decide (t.var ∈ B))
  else false)
def testN (B : List Int) (t : Ts) : List Int := if t.kind = 5 then B ++ [t.var] else B
def testsF (ns : Int) (neg : Bool) : List Ts → List Int → Bool × List Int
  | [], B => (true, B)
  | t :: l, B => if testB ns neg B t = true then testsF ns neg l (testN B t) else (false, B)
def patF (L : List Tm) (B : List Int) (p : Pt) : Bool × List Int :=
  if 0 ≤ p.tmpl ∧ p.tmpl < L.length ∧ p.tests.length ≤ 6 then testsF (slots L p.tmpl).length p.neg p.tests B else (false, B)
def patsF (L : List Tm) : List Pt → List Int → Bool × List Int
  | [], B => (true, B)
  | p :: l, B => if (patF L B p).1 = true then patsF L l (patF L B p).2 else (false, (patF L B p).2)
def exprB (B : List Int) (e : Ex) (s : Sl) : Bool := if e.isVar = true then decide (e.var ∈ B) && (e.val.cmp V.zero == 0) else (e.var == 0) && Sch.fits s e.val
def exprsB (B : List Int) : List Ex → List Sl → Bool
  | e :: l, s :: m => exprB B e s && exprsB B l m
  | _, _ => true
def posB (ps : List Pt) (k : Int) : Bool := (decide (0 ≤ k) && decide (k < ps.length)) && !((ps[k.toNat]?).any Pt.neg)
def actB (L : List Tm) (ps : List Pt) (B : List Int) (a : Ac) : Bool :=
  if a.kind = 1 then ((a.pat == 0) && (a.slot == 0)) && ((decide ((slots L a.tmpl).length ≠ 0) && decide (a.vals.length = (slots L a.tmpl).length)) && exprsB B a.vals (slots L a.tmpl))
  else if a.kind = 2 then posB ps a.pat && ((a.tmpl == 0) && ((a.slot == 0) && decide (a.vals.length = 0)))
  else if a.kind = 3 then (posB ps a.pat && ((a.tmpl == 0) && decide (a.vals.length = 1))) && (match ps[a.pat.toNat]?, a.vals with
    | some p, [e] => decide (0 ≤ a.slot) && (decide (a.slot < (slots L p.tmpl).length) && (match (slots L p.tmpl)[a.slot.toNat]? with | some s => exprB B e s | none => false))
    | _, _ => false)
  else (a.kind == 4) && ((a.pat == 0) && ((a.tmpl == 0) && ((a.slot == 0) && decide (a.vals.length = 0))))
def headB (x : Rl) : Bool := V.isName x.name.data.toList && ((decide (-100 ≤ x.sal) && decide (x.sal ≤ 100)) && ((decide (1 ≤ x.pats.length) && decide (x.pats.length ≤ 4)) && (!((x.pats[0]?).any Pt.neg) && decide (x.acts.length ≤ 4))))
def oneB (L : List Tm) (x : Rl) : Bool := headB x && ((patsF L x.pats []).1 && x.acts.all fun a => actB L x.pats (patsF L x.pats []).2 a)
def rightL (L : List Tm) (R : List Rl) : List Rl → Nat → Bool
  | [], _ => true
  | x :: l, i => oneB L x && (!((R.take i).any fun y => y.name.toList == x.name.toList) && rightL L R l (i + 1))
def right (L : List Tm) (R : List Rl) : Bool := Reg.right L && (decide (R.length ≤ 8) && rightL L R R 0)
end Rul
end Go.Proofs.YtgcienlfpnpbgaaGreat
end

section
namespace Go.Proofs.YtgcienlfpnpbgaaGreat
set_option linter.unusedSimpArgs false
attribute [local push_cast] encB encI encC V.cells_mk V.cells_len Nat.mul_one Int.sub_zero List.map_nil beq_self_eq_true bne_self_eq_false List.head?_cons
open Go.RowKit
set_option maxRecDepth 10000
set_option maxHeartbeats 8000000
namespace Rul
theorem slots_in {L : List Tm} {k : Nat} {t : Tm} (h : L[k]? = some t) : slots L (k : Int) = (Sch.verX t (Sch.last t)).slots := by
  have := (List.getElem?_eq_some_iff.1 h).1
  unfold slots
  rw [if_pos ⟨by omega, by omega⟩, Int.toNat_natCast, h]
theorem slots_out {L : List Tm} {k : Int} (h : ¬ (0 ≤ k ∧ k < L.length)) : slots L k = [] := if_neg h
end Rul
theorem ruleBitF (b : Bool) (st : St) : TrF Tryz.prog 98 [.b b] st fun d st' => d = .i (if b then 1 else 0) ∧ st' = st := by
  cases b
  all_goals (
    refine Qin [2] Tryz.func98 Tryz.results98 Tryz.ntmps98 ?_
    repeat' (with_reducible first | refine Q1 ?_ | refine Qe ?_ | refine Ql ?_ | refine Q2 ?_ | refine Qs ?_ | refine Q4 ?_ | (refine al_go ?_; intro b) | refine Q5 ?_ | (refine Q3a ?_; intro hb; try intro hb1) | (refine Q3b ?_; intro hb; try intro hb1) | (refine Q3 ?_ ?_ <;> intro hb <;> try intro hb1) | fail)
    all_goals exact Qret)
theorem ruleSlotsF (L : List Tm) (hL : ∀ t ∈ L, TOk t) (hl : L.length ≤ 1000000) (k : Int) (st : St) : TrF Tryz.prog 42 [.sl .shared (L.map Tm.cells), .i k] st fun d st' => d = .sl .shared ((Rul.slots L k).map Sl.cells) ∧ st' = st := by
  have hm : (L.map Tm.cells).length = L.length := List.length_map ..
  by_cases hk : 0 ≤ k ∧ k < L.length
  · obtain ⟨n, rfl⟩ : ∃ n : Nat, (n : Int) = k := ⟨k.toNat, Int.toNat_of_nonneg hk.1⟩
    obtain ⟨t, ht⟩ : ∃ t, L[n]? = some t := ⟨_, List.getElem?_eq_getElem (by omega)⟩
    have hc : (L.map Tm.cells)[n]? = some t.cells := by rw [List.getElem?_map, ht]; rfl
    have hLa := schLastF t (hL t (List.mem_of_getElem? ht))
    have hAt := schAtF t (hL t (List.mem_of_getElem? ht)) (Sch.last t)
    rw [Rul.slots_in ht]
    clear hL ht
    generalize L.map Tm.cells = LS at *
    generalize Sch.verX t (Sch.last t) = x at *
    generalize Sch.verB t (Sch.last t) = xb at *
    generalize Sch.last t = la at *
    unfold Vr.cells at hAt
    generalize x.slots.map Sl.cells = X1 at *
    generalize x.cols.map encC = X2 at *
    unfold Tm.cells at *
    generalize t.slots.map Sl.cells = SL at *
    generalize t.steps.map Stp.cells = TL at *
    generalize t.name = nm at *
    replace hLa := Lib.hid hLa
    replace hAt := Lib.hid hAt
    obtain ⟨hk1, hk2⟩ := hk
    refine Qin [4] Tryz.func42 Tryz.results42 Tryz.ntmps42 ?_
    repeat' (first | (with_reducible first | refine Q1 ?_ | refine Qe ?_ | fail) | ((with_reducible apply (w_drawT (.node [0, 1, 2, 3, 4, 5, 6, 7] 13 8 (.node [8] 13 9 (.leaf [9, 10, 11, 12, 13, 14, 15]) (.leaf [13, 9, 10, 11, 12, 14, 15])) (.leaf [13, 8, 9, 10, 11, 12, 14, 15])) 16)); rfl; (iterate 3 kernel_rfl); (focus (simp only [Plan.lists, pickL, List.getElem?_cons_zero, List.getElem?_cons_succ]; exact rfl)); intro hne; (try simp only [nes, ne1, and_assoc] at hne); (repeat (have hq := hne.1; replace hne := hne.2)); simp only [wPL]) | with_reducible refine both_go ?_ ?_ | (with_reducible first | refine Ql ?_ | refine Q2 ?_ | refine Qs ?_ | refine Q4 ?_ | (refine al_go ?_; intro b) | fail) | refine Qc Tryz.call113 (hLa.out _) ?_ | refine Qc Tryz.call112 (hAt.out _) ?_ | (with_reducible first | refine Q5 ?_ | (refine Q3a ?_; intro hb; try intro hb1) | (refine Q3b ?_; intro hb; try intro hb1) | (refine Q3 ?_ ?_ <;> intro hb <;> try intro hb1) | fail) | fail)
    all_goals exact Qret
  · rw [Rul.slots_out hk]
    generalize L.map Tm.cells = LS at *
    by_cases h0 : k < 0
    · refine Qin [4] Tryz.func42 Tryz.results42 Tryz.ntmps42 ?_
      repeat' (with_reducible first | refine Q1 ?_ | refine Qe ?_ | refine Ql ?_ | refine Q2 ?_ | refine Qs ?_ | refine Q4 ?_ | (refine al_go ?_; intro b) | refine Q5 ?_ | (refine Q3a ?_; intro hb; try intro hb1) | (refine Q3b ?_; intro hb; try intro hb1) | (refine Q3 ?_ ?_ <;> intro hb <;> try intro hb1) | fail)
      all_goals exact Qret
    · have h1 : (L.length : Int) ≤ k := by omega
      refine Qin [4] Tryz.func42 Tryz.results42 Tryz.ntmps42 ?_
      repeat' (with_reducible first | refine Q1 ?_ | refine Qe ?_ | refine Ql ?_ | refine Q2 ?_ | refine Qs ?_ | refine Q4 ?_ | (refine al_go ?_; intro b) | refine Q5 ?_ | (refine Q3a ?_; intro hb; try intro hb1) | (refine Q3b ?_; intro hb; try intro hb1) | (refine Q3 ?_ ?_ <;> intro hb <;> try intro hb1) | fail)
      all_goals exact Qret
namespace Rul
theorem bindT_take {l : List Ts} {i : Nat} {t : Ts} (h : l[i]? = some t) : bindT (l.take (i + 1)) = bindT (l.take i) ++ if t.kind = 5 then [t.var] else [] := by
  unfold bindT
  rw [List.take_add_one, h, Option.toList_some, List.filter_append, List.map_append]
  congr 1
  by_cases hk : t.kind = 5
  · rw [if_pos hk]; simp [List.filter, hk]
  · have : (t.kind == 5) = false := beq_eq_false_iff_ne.2 hk
    rw [if_neg hk]; simp [List.filter, this]
theorem bindP_take {l : List Pt} {i : Nat} {p : Pt} (h : l[i]? = some p) : bindP (l.take (i + 1)) = bindP (l.take i) ++ bindT p.tests := by
  unfold bindP
  rw [List.take_add_one, h, Option.toList_some, List.flatMap_append]
  simp
theorem bindT_len (l : List Ts) : (bindT l).length ≤ l.length := by
  unfold bindT
  rw [List.length_map]
  exact List.length_filter_le ..
theorem bindP_len (c : Nat) : ∀ (l : List Pt), (∀ p ∈ l, p.tests.length ≤ c) → (bindP l).length ≤ l.length * c
  | [], _ => by simp [bindP]
  | p :: l, h => by
    have h1 := bindP_len c l fun q hq => h q (List.mem_cons_of_mem _ hq)
    have h2 := bindT_len p.tests
    have h3 := h p (List.mem_cons_self ..)
    have : bindP (p :: l) = bindT p.tests ++ bindP l := by unfold bindP; simp
    rw [this, List.length_append, List.length_cons, Nat.add_mul]
    omega
end Rul
theorem ruleBoundF (x : Rl) (hp : x.pats.length ≤ 1000) (ht : ∀ p ∈ x.pats, p.tests.length ≤ 1000) (st : St) : TrF Tryz.prog 37 [.agg x.cells] st fun d st' => d = .sl .shared ((Rul.bound x).map encI) ∧ st' = st := by
  cases x with
  | mk nm sal ps acts =>
  unfold Rul.bound Rl.cells
  dsimp only at *
  generalize acts.map Ac.cells = AS at *
  have hm : (ps.map Pt.cells).length = ps.length := List.length_map ..
  have hc : Hid (∀ (i : Nat) (t : Pt), ps[i]? = some t → (ps.map Pt.cells)[i]? = some t.cells) := fun i t h => by rw [List.getElem?_map, h]; rfl
  obtain ⟨BF, hBF⟩ : ∃ BF : Nat → List Int, (fun i : Nat => Rul.bindP (ps.take i)) = BF := ⟨_, rfl⟩
  have hBi : ∀ i, Rul.bindP (ps.take i) = BF i := fun i => by rw [← hBF]
  have hB0 : Hid (BF 0 = []) := Lib.hid (by rw [← hBi]; rfl)
  have hBn : Hid (Rul.bindP ps = BF ps.length) := Lib.hid (by rw [← hBi, List.take_length])
  have hBs : Hid (∀ (i : Nat) (p : Pt), ps[i]? = some p → BF (i + 1) = BF i ++ Rul.bindT p.tests) := fun i p h => by rw [← hBi, ← hBi]; exact Rul.bindP_take h
  have hBl : Hid (∀ i, i ≤ ps.length → (BF i).length ≤ 1000000) := fun i hi => by
    rw [← hBi]
    have := Rul.bindP_len 1000 (ps.take i) fun p hp => ht p (List.mem_of_mem_take hp)
    rw [List.length_take] at this
    have h3 : min i ps.length * 1000 ≤ 1000 * 1000 := Nat.mul_le_mul_right _ (by omega)
    omega
  rw [hBn.out]
  have ht2 := Lib.hid ht
  clear hBF hBi hBn ht
  generalize ps.map Pt.cells = PS at *
  refine Qin [2] Tryz.func37 Tryz.results37 Tryz.ntmps37 ?_
  refine tr_room 3 1 ([] : List (List D)).length ?_
  repeat' (with_reducible first | refine Q1 ?_ | refine Qe ?_ | refine Ql ?_ | refine Q2 ?_ | refine Qs ?_ | refine Q4 ?_ | (refine al_go ?_; intro b) | (refine Qa ?_; intro o' ho') | (refine Qp ?_; intro o' ho') | refine Q5 ?_ | (refine Q3a ?_; intro hb; try intro hb1) | (refine Q3b ?_; intro hb; try intro hb1) | (refine Q3 ?_ ?_ <;> intro hb <;> try intro hb1) | fail)
  refine tr_loopd (ι := Nat) (fun i A st' => i ≤ ps.length ∧ A.df = [] ∧ A.e 9 = .sl .shared PS ∧ A.e 10 = .i ps.length ∧ A.e 11 = .i i ∧ ∃ o', o' ≠ .shared ∧ A.e 3 = .sl o' ((BF i).map encI) ∧ st' = .room o' 3 1 ((BF i).map encI).length :: st) (fun i => ps.length - i) 0 ⟨Nat.zero_le _, Qf, Qf, Qf, Qf, .tight, by decide, by rw [hB0.out]; exact Qf, by rw [hB0.out]; rfl⟩ ?_
  rintro i A st' ⟨hi, hdf, e9, e10, e11, o', ho', e3, rfl⟩
  by_cases hlt : i < ps.length
  · obtain ⟨p, hp2⟩ : ∃ p, ps[i]? = some p := ⟨_, List.getElem?_eq_getElem hlt⟩
    have h1 := hc.out i p hp2
    have hB := hBs.out i p hp2
    have hBx := hBl.out i (by omega)
    have htl := ht2.out p (List.mem_of_getElem? hp2)
    clear hp2 hBs hBl ht2 hc hB0
    cases p with
    | mk tmpl neg ts =>
    unfold Pt.cells at h1
    dsimp only at *
    have hmt : (ts.map Ts.cells).length = ts.length := List.length_map ..
    have hct : Hid (∀ (i : Nat) (t : Ts), ts[i]? = some t → (ts.map Ts.cells)[i]? = some t.cells) := fun i t h => by rw [List.getElem?_map, h]; rfl
    generalize BF i = X0 at *
    obtain ⟨TF, hTF⟩ : ∃ TF : Nat → List Int, (fun k : Nat => X0 ++ Rul.bindT (ts.take k)) = TF := ⟨_, rfl⟩
    have hTi : ∀ i, X0 ++ Rul.bindT (ts.take i) = TF i := fun i => by rw [← hTF]
    have hT0 : Hid (X0 = TF 0) := Lib.hid (by rw [← hTi]; exact (List.append_nil _).symm)
    have hTn : Hid (BF (i + 1) = TF ts.length) := Lib.hid (by rw [← hTi, List.take_length]; exact hB)
    have hTs : Hid (∀ (k : Nat) (t : Ts), ts[k]? = some t → TF (k + 1) = TF k ++ if t.kind = 5 then [t.var] else []) := fun k t h => by
      rw [← hTi, ← hTi, Rul.bindT_take h, List.append_assoc]
    have hTl : Hid (∀ k, k ≤ ts.length → (TF k).length ≤ 2000000) := fun k hk => by
      rw [← hTi]
      have := Rul.bindT_len (ts.take k)
      rw [List.length_take] at this
      rw [List.length_append]
      omega
    clear hTF hTi hB
    generalize ts.map Ts.cells = TS at *
    repeat' (with_reducible first | refine Q1 ?_ | refine Qe ?_ | refine Ql ?_ | refine Q2 ?_ | refine Qs ?_ | refine Q4 ?_ | (refine al_go ?_; intro b) | (refine Qa ?_; intro o' ho') | (refine Qp ?_; intro o' ho') | refine Q5 ?_ | (refine Q3a ?_; intro hb; try intro hb1) | (refine Q3b ?_; intro hb; try intro hb1) | (refine Q3 ?_ ?_ <;> intro hb <;> try intro hb1) | fail)
    revert b; intro bP
    refine tr_loopd (ι := Nat) (fun k A st' => k ≤ ts.length ∧ A.df = [] ∧ A.e 9 = .sl .shared PS ∧ A.e 10 = .i ps.length ∧ A.e 11 = .i i ∧ A.e 16 = .sl .shared TS ∧ A.e 17 = .i ts.length ∧ A.e 18 = .i k ∧ ∃ o', o' ≠ .shared ∧ A.e 3 = .sl o' ((TF k).map encI) ∧ st' = .box bP 105 [.i tmpl, .b neg, .sl .shared TS] :: .room o' 3 1 ((TF k).map encI).length :: st) (fun k => ts.length - k) 0 ?_ ?_
    · rw [← hT0.out]
      exact ⟨Nat.zero_le _, Qf, Qf, Qf, Qf, Qf, Qf, Qf, o', ho', Qf, rfl⟩
    clear e3 e9 e10 e11 hdf A ho' hT0
    clear o'
    rintro k A st' ⟨hk, hdf, e9, e10, e11, e16, e17, e18, o', ho', e3, rfl⟩
    by_cases hkl : k < ts.length
    · obtain ⟨t, ht⟩ : ∃ t, ts[k]? = some t := ⟨_, List.getElem?_eq_getElem hkl⟩
      have g1 := hct.out k t ht
      have hT := hTs.out k t ht
      have hTx := hTl.out k (by omega)
      clear ht hTs hTl hct hTn
      generalize TF k = Y at *
      cases t with
      | mk kind slot var val =>
      cases val with
      | mk k1 n1 s1 l1 =>
      rw [Ts.cells_mk] at g1
      dsimp only at hT
      by_cases h5 : kind = 5
      · subst h5
        rw [if_pos rfl] at hT
        have hT2 := Lib.hid hT
        clear hT
        have hY : (Y.map encI).length = Y.length := List.length_map ..
        repeat' (with_reducible first | refine Q1 ?_ | refine Qe ?_ | refine Ql ?_ | refine Q2 ?_ | refine Qs ?_ | refine Q4 ?_ | (refine al_go ?_; intro b) | (refine Qa ?_; intro o' ho') | (refine Qp ?_; intro o' ho') | refine Q5 ?_ | (refine Q3a ?_; intro hb; try intro hb1) | (refine Q3b ?_; intro hb; try intro hb1) | (refine Q3 ?_ ?_ <;> intro hb <;> try intro hb1) | fail)
        refine ⟨k + 1, .box bP 105 [.i tmpl, .b neg, .sl .shared TS] :: .room o' 3 1 ((Y ++ [var]).map encI).length :: st, ?_, ⟨hkl, ?_, ?_, ?_, ?_, ?_, ?_, ?_, o', ho', ?_, ?_⟩, ?_⟩
        · rw [List.map_append]; (repeat (first | exact List.Sublist.refl _ | with_reducible apply List.Sublist.cons_cons | apply List.Sublist.cons))
        rotate_right 3
        · rw [hT2.out, List.map_append]; exact Qf
        · rw [hT2.out]
        all_goals exact Qf
      · rw [if_neg h5, List.append_nil] at hT
        have h5b : (kind == 5) = false := beq_eq_false_iff_ne.2 h5
        have hT2 := Lib.hid hT
        clear hT
        repeat' (with_reducible first | refine Q1 ?_ | refine Qe ?_ | refine Ql ?_ | refine Q2 ?_ | refine Qs ?_ | refine Q4 ?_ | (refine al_go ?_; intro b) | (refine Qa ?_; intro o' ho') | (refine Qp ?_; intro o' ho') | refine Q5 ?_ | (refine Q3a ?_; intro hb; try intro hb1) | (refine Q3b ?_; intro hb; try intro hb1) | (refine Q3 ?_ ?_ <;> intro hb <;> try intro hb1) | fail)
        refine ⟨k + 1, .box bP 105 [.i tmpl, .b neg, .sl .shared TS] :: .room o' 3 1 (Y.map encI).length :: st, (by (repeat (first | exact List.Sublist.refl _ | apply List.Sublist.cons))), ⟨hkl, ?_, ?_, ?_, ?_, ?_, ?_, ?_, o', ho', ?_, ?_⟩, ?_⟩
        rotate_right 3
        · rw [hT2.out]; exact Qf
        · rw [hT2.out]
        all_goals exact Qf
    · obtain rfl : k = ts.length := by omega
      have hE := hTn
      clear hTs hTl hct hTn
      repeat' (with_reducible first | refine Q1 ?_ | refine Qe ?_ | refine Ql ?_ | refine Q2 ?_ | refine Qs ?_ | refine Q4 ?_ | (refine al_go ?_; intro b) | (refine Qa ?_; intro o' ho') | (refine Qp ?_; intro o' ho') | refine Q5 ?_ | (refine Q3a ?_; intro hb; try intro hb1) | (refine Q3b ?_; intro hb; try intro hb1) | (refine Q3 ?_ ?_ <;> intro hb <;> try intro hb1) | fail)
      refine ⟨i + 1, .room o' 3 1 ((TF ts.length).map encI).length :: st, (by (repeat (first | exact List.Sublist.refl _ | apply List.Sublist.cons))), ⟨hlt, ?_, ?_, ?_, ?_, o', ho', ?_, ?_⟩, by omega⟩
      rotate_right 2
      · rw [hE.out]; exact Qf
      · rw [hE.out]
      all_goals exact Qf
  · obtain rfl : i = ps.length := by omega
    repeat' (with_reducible first | refine Q1 ?_ | refine Qe ?_ | refine Ql ?_ | refine Q2 ?_ | refine Qs ?_ | refine Q4 ?_ | (refine al_go ?_; intro b) | (refine Qa ?_; intro o' ho') | (refine Qp ?_; intro o' ho') | refine Q5 ?_ | (refine Q3a ?_; intro hb; try intro hb1) | (refine Q3b ?_; intro hb; try intro hb1) | (refine Q3 ?_ ?_ <;> intro hb <;> try intro hb1) | fail)
    all_goals exact Qret
end Go.Proofs.YtgcienlfpnpbgaaGreat
end

section
namespace Go.Proofs.YtgcienlfpnpbgaaGreat
set_option linter.unusedSimpArgs false
open Go.RowKit
def bent : Nat → List Int → List MapEntry
  | _, [] => []
  | i, n :: l => ⟨.int .i64 n, .bool true, i⟩ :: bent (i + 1) l
def bmapO (l : List Int) : Obj := .map (bent 0 l).toArray l.length
def bmap (r : Nat) (l : List Int) : Res := .raw r (bmapO l)
abbrev D.mp (r : Nat) : D := .s (.map (some r))
def insK (l : List Int) (n : Int) : List Int := if n ∈ l then l else l ++ [n]
theorem bent_append (l m : List Int) : ∀ i, bent i (l ++ m) = bent i l ++ bent (i + l.length) m := by
  induction l with
  | nil => intro i; rfl
  | cons n l ih => intro i; simp only [List.cons_append, bent, ih, List.length_cons]; rw [show i + 1 + l.length = i + (l.length + 1) by omega]
theorem bent_len (l : List Int) : ∀ i, (bent i l).length = l.length := by
  induction l with
  | nil => intro i; rfl
  | cons n l ih => intro i; simp only [bent, List.length_cons, ih]
theorem find_bent (n : Int) : ∀ (l : List Int) (i j : Nat), (n ∈ l → ∃ k, k < l.length ∧ Instr.findNow (.int .i64) (.int .i64 n) (bent i l) j = some (some (j + k, .bool true)) ∧ (bent i l)[k]? = some ⟨.int .i64 n, .bool true, i + k⟩) ∧ (n ∉ l → Instr.findNow (.int .i64) (.int .i64 n) (bent i l) j = some none)
  | [], i, j => ⟨fun h => (by cases h), fun _ => rfl⟩
  | m :: l, i, j => by
    have hs : Instr.sameNow (.int .i64) (.int .i64 n) (.int .i64 m) = some (n == m) := by simp [Instr.sameNow]
    have ih := find_bent n l (i + 1) (j + 1)
    by_cases h : n = m
    · subst h
      refine ⟨fun _ => ⟨0, by simp, ?_, rfl⟩, fun hn => absurd (List.mem_cons_self ..) hn⟩
      simp [bent, Instr.findNow, hs]
    · have hf : (n == m) = false := beq_eq_false_iff_ne.2 h
      refine ⟨fun hm => ?_, fun hm => ?_⟩
      · obtain ⟨k, k1, k2, k3⟩ := ih.1 ((List.mem_cons.1 hm).resolve_left h)
        refine ⟨k + 1, by simpa using k1, ?_, ?_⟩
        · simp only [bent, Instr.findNow, hs, hf, k2]
          rw [show j + 1 + k = j + (k + 1) by omega]
        · simp only [bent, List.getElem?_cons_succ, k3]
          rw [show i + 1 + k = i + (k + 1) by omega]
      · simp only [bent, Instr.findNow, hs, hf]
        exact ih.2 fun hk => hm (List.mem_cons_of_mem _ hk)
section
variable {P : Program} {r : Option Nat} {o : Oper} {e : Nat → D} {st : St} {K : D → St → Prop} {t kt et : TypeId} {b : Nat} {n : Int} {l : List Int}
theorem run_checkI (hk : P.underlying kt = some (.int .i64)) (em : Bool) (w : World) : (Instr.checkKey em 10000 kt (.int .i64 n)).run P w = .ok () w := Go.MapKept.run_checkKey (k := .int .i64 n) hk (by simp [Go.MapKept.IsKey]) em 9999
theorem run_findI (hk : P.underlying kt = some (.int .i64)) (w : World) {x : Option (Nat × Value)} (h : Instr.findNow (.int .i64) (.int .i64 n) (bent 0 l) 0 = some x) : (Instr.findKey kt (.int .i64 n) (bent 0 l)).run P w = .ok x w := Go.MapKept.run_findKey hk h
theorem opC_makeMap (ho : o.op = .makeMap t none) (h : ∀ b, K (.mp b) (bmap b [] :: st)) : OpC P r o e st K := by
  refine opC_val (by rw [ho]; intro c hc; cases hc) fun ρ w hr hh => .inl ?_
  obtain ⟨k1, k2⟩ := new_own hh (.raw w.heap.size (.map #[] 0)) (fun b e => by cases e; rfl) (.map #[] 0) fun he => heap_alloc_new w _
  unfold execOp
  rw [ho]
  exact ⟨.map (some w.heap.size), _, rfl, .mp w.heap.size, _, .s _ rfl, k1, k2, h _⟩
theorem opC_lookup {x y : Operand} (ho : o.op = .lookup t x y false) (hx : ev e x = some (.mp b)) (hy : ev e y = some (.i n)) (hm : bmap b l ∈ st) (hu : P.underlying t = some (.map kt et)) (hk : P.underlying kt = some (.int .i64)) (hz : (P.info? et).bind (·.zero) = some (.bool false)) (h : K (.b (decide (n ∈ l))) st) : OpC P r o e st K := by
  refine opC_val (by rw [ho]; intro c hc; cases hc) fun ρ w hr hh => .inl ?_
  have hp := hr _ (by simp [ho, Op.operands]) _ hx
  have hv := hr _ (by simp [ho, Op.operands]) _ hy
  have hb : w.heap[b]? = some (bmapO l) := hh.2 _ hm
  unfold execOp
  rw [ho]
  simp only
  generalize ρ x = p at hp
  generalize ρ y = v at hv
  cases hp
  cases hv
  have hz2 : (zeroValue et).run P w = .ok (.bool false) w := by
    cases hi : P.info? et with
    | none => rw [hi] at hz; cases hz
    | some i =>
      rw [hi] at hz
      simp only [Option.bind_some] at hz
      simp [zeroValue, typeInfo, hi, hz]
  have hget : (getObj b).run P w = .ok (bmapO l) w := Go.MapKept.run_getObj_map hb
  by_cases hn : n ∈ l
  · obtain ⟨k, k1, k2, k3⟩ := (find_bent n l 0 0).1 hn
    refine ⟨.bool true, w, ?_, .b (decide (n ∈ l)), st, ?_, hh, Ext.refl _ _, h⟩
    · simp [Instr.lookup, run_underlying hu, hget, bmapO, run_checkI hk, run_findI hk w k2]
    · rw [decide_eq_true hn]; exact .s _ rfl
  · have k2 := (find_bent n l 0 0).2 hn
    refine ⟨.bool false, w, ?_, .b (decide (n ∈ l)), st, ?_, hh, Ext.refl _ _, h⟩
    · simp [Instr.lookup, run_underlying hu, hget, bmapO, run_checkI hk, run_findI hk w k2, hz2]
    · rw [decide_eq_false hn]; exact .s _ rfl
theorem opC_mapUpdate {x y z : Operand} {s1 : St} (ho : o.op = .mapUpdate t x y z) (hx : ev e x = some (.mp b)) (hy : ev e y = some (.i n)) (hz : ev e z = some (.b true)) (hm : ResAt (bmap b l) (bmap b (insK l n)) st s1) (hu : P.underlying t = some (.map kt et)) (hk : P.underlying kt = some (.int .i64)) (h : K D.un s1) : OpC P r o e st K := by
  refine opC_val (by rw [ho]; intro c hc; cases hc) fun ρ w hr hh => .inr ?_
  have hp := hr _ (by simp [ho, Op.operands]) _ hx
  have hv := hr _ (by simp [ho, Op.operands]) _ hy
  have hzv := hr _ (by simp [ho, Op.operands]) _ hz
  obtain ⟨s0, p1, p2⟩ := hm.perm
  have hh' := hh.perm p1
  have hb : w.heap[b]? = some (bmapO l) := hh'.2 _ (List.mem_cons_self ..)
  unfold execOp
  rw [ho]
  simp only
  generalize ρ x = p at hp
  generalize ρ y = v at hv
  generalize ρ z = u at hzv
  cases hp
  cases hv
  cases hzv
  have hget : (getObj b).run P w = .ok (bmapO l) w := Go.MapKept.run_getObj_map hb
  have hset : ∀ o, (setObj b o).run P w = .ok () (w.putObj b o) := fun o => Go.MapKept.run_setObj_map o hb
  obtain ⟨q1, q2⟩ := raw_set (o' := bmapO (insK l n)) hh' (fun c E fr h => by cases h)
  refine ⟨_, ?_, D.un, s1, .s undef rfl, q1.perm p2.symm, q2.perm p1 p2, h⟩
  by_cases hn : n ∈ l
  · obtain ⟨k, k1, k2, k3⟩ := (find_bent n l 0 0).1 hn
    have hmod : (bent 0 l).toArray.modify k (fun e => { e with key := .int .i64 n, val := .bool true }) = (bent 0 l).toArray := by
      apply Array.ext_getElem?
      intro j
      rw [Array.getElem?_modify]
      split
      · rename_i hj; subst hj
        simp [k3]
      · rfl
    have hl2 : k < (bent 0 l).length := by rw [bent_len]; exact k1
    have hkk : (((bent 0 l).toArray[k]?).map (·.key)).getD (.int .i64 n) = .int .i64 n := by simp [k3]
    simp only [Instr.mapUpdate, Sem.run_bind, run_underlying hu, Result.andThen_ok, hget, bmapO, run_checkI hk, run_findI hk w k2, hset, insK, if_pos hn]
    have hmod2 : (bent 0 l).modify k (fun e => { e with key := .int .i64 n, val := .bool true }) = bent 0 l := by simpa using hmod
    simp [k3, Instr.keyThatStays, Instr.sameBits, hmod2, hset]
  · have k2 := (find_bent n l 0 0).2 hn
    simp only [Instr.mapUpdate, Sem.run_bind, run_underlying hu, Result.andThen_ok, hget, bmapO, run_checkI hk, run_findI hk w k2, insK, if_neg hn]
    simp [hset, bent_append, bent, bmapO]
end
def mapT (P : Program) (t : TypeId) : Bool :=
  match P.underlying t with
  | some (.map kt et) => (match P.underlying kt with | some (.int .i64) => true | _ => false) && (match (P.info? et).bind (·.zero) with | some (.bool false) => true | _ => false)
  | _ => false
theorem mapT_spec {P : Program} {t : TypeId} (h : mapT P t = true) : ∃ kt et, P.underlying t = some (.map kt et) ∧ P.underlying kt = some (.int .i64) ∧ (P.info? et).bind (·.zero) = some (.bool false) := by
  unfold mapT at h
  split at h
  · rename_i kt et hu
    rw [Bool.and_eq_true] at h
    obtain ⟨h1, h2⟩ := h
    refine ⟨kt, et, hu, ?_, ?_⟩
    · split at h1
      · assumption
      · cases h1
    · split at h2
      · assumption
      · cases h2
  · cases h
section
variable {P : Program} {r : Option Nat} {m : Option Ro} {A : AA} {st : St} {k : D → St → Prop} {dst : Option Tmp} {ty : TypeId} {pos : String} {aft : Array Edge} {gd : Option (Nat × Bool)} {t : TypeId} {b : Nat} {n : Int} {l : List Int}
def MkM (m : Option Ro) (st : St) (k : D → St → Prop) : Prop := ∀ b, Keep m (bmap b [] :: st) ∧ k (.mp b) (bmap b [] :: st)
theorem mm_go (h : ∀ b, Keep m (bmap b [] :: st) ∧ k (.mp b) (bmap b [] :: st)) : MkM m st k := h
theorem s_makeMap (h : MkM m st k) : S P r m ⟨dst, .makeMap t none, ty, pos, aft, gd⟩ A st k :=
  s_chain (R := fun d s => ∃ b, d = .mp b ∧ s = bmap b [] :: st) rfl (opC_makeMap rfl fun b => ⟨b, rfl, rfl⟩) ⟨_, _, 0, rfl, rfl⟩ fun d s ⟨b, e1, e2⟩ => by subst e1 e2; exact h b
def LkM (P : Program) (m : Option Ro) (t : TypeId) (d d' : D) (st : St) (k : D → St → Prop) : Prop :=
  ∃ b n l, d = .mp b ∧ d' = .i n ∧ bmap b l ∈ st ∧ mapT P t = true ∧ Keep m st ∧ k (.b (decide (n ∈ l))) st
theorem s_lookup {x y : Operand} (h : Ev (ev A.e x) fun d => Ev (ev A.e y) fun d' => LkM P m t d d' st k) : S P r m ⟨dst, .lookup t x y false, ty, pos, aft, gd⟩ A st k := by
  obtain ⟨d, h1, d', h2, b, n, l, rfl, rfl, hm, ht, h3⟩ := h
  obtain ⟨kt, et, t1, t2, t3⟩ := mapT_spec ht
  exact s_chain (R := fun d s => d = .b (decide (n ∈ l)) ∧ s = st) rfl (opC_lookup rfl h1 h2 hm t1 t2 t3 ⟨rfl, rfl⟩) ⟨_, _, rfl, rfl⟩ fun d s ⟨e1, e2⟩ => by subst e1 e2; exact h3
def UpM (P : Program) (m : Option Ro) (t : TypeId) (d d' d'' : D) (st : St) (k : D → St → Prop) : Prop :=
  ∃ b n l s1, d = .mp b ∧ d' = .i n ∧ d'' = .b true ∧ ResAt (bmap b l) (bmap b (insK l n)) st s1 ∧ mapT P t = true ∧ Keep m s1 ∧ k D.un s1
theorem s_mapUpdate {x y z : Operand} (h : Ev (ev A.e x) fun d => Ev (ev A.e y) fun d' => Ev (ev A.e z) fun d'' => UpM P m t d d' d'' st k) : S P r m ⟨dst, .mapUpdate t x y z, ty, pos, aft, gd⟩ A st k := by
  obtain ⟨d, h1, d', h2, d'', h4, b, n, l, s1, rfl, rfl, rfl, hm, ht, h3⟩ := h
  obtain ⟨kt, et, t1, t2, t3⟩ := mapT_spec ht
  exact s_chain (R := fun d s => d = D.un ∧ s = s1) rfl (opC_mapUpdate rfl h1 h2 h4 hm t1 t2 ⟨rfl, rfl⟩) ⟨_, _, rfl, rfl⟩ fun d s ⟨e1, e2⟩ => by subst e1 e2; exact h3
instance i_s_makeMap : Go1 (S P r m ⟨dst, .makeMap t none, ty, pos, aft, gd⟩ A st k) (MkM m st k) := ⟨s_makeMap⟩
instance i_s_lookup {x y : Operand} : Go1 (S P r m ⟨dst, .lookup t x y false, ty, pos, aft, gd⟩ A st k) (Ev (ev A.e x) fun d => Ev (ev A.e y) fun d' => LkM P m t d d' st k) := ⟨s_lookup⟩
instance i_s_mapUpdate {x y z : Operand} : Go1 (S P r m ⟨dst, .mapUpdate t x y z, ty, pos, aft, gd⟩ A st k) (Ev (ev A.e x) fun d => Ev (ev A.e y) fun d' => Ev (ev A.e z) fun d'' => UpM P m t d d' d'' st k) := ⟨s_mapUpdate⟩
end
class MpI (b : Nat) (st : St) (l : outParam (List Int)) (s1 : outParam (List Int → St)) : Prop where
  mem : bmap b l ∈ st
  go : ∀ l', ResAt (bmap b l) (bmap b l') st (s1 l')
instance mp_here {b : Nat} {l : List Int} {st : St} : MpI b (bmap b l :: st) l (fun l' => bmap b l' :: st) := ⟨List.Mem.head _, fun _ => ResAt.here⟩
instance (priority := low) mp_there {b : Nat} {l : List Int} {x : Res} {st : St} {s1 : List Int → St} [h : MpI b st l s1] : MpI b (x :: st) l (fun l' => x :: s1 l') := ⟨List.Mem.tail _ h.mem, fun l' => ResAt.there (h.go l')⟩
section
variable {P : Program} {m : Option Ro} {st : St} {k : D → St → Prop} {t : TypeId} {b : Nat} {n : Int} {l : List Int} {s1 : List Int → St}
instance i_lkm [h : MpI b st l s1] : Go5 (LkM P m t (.s (.map (some b))) (.s (.int .i64 n)) st k) (mapT P t = true) (Keep m st ∧ k (.b (decide (n ∈ l))) st) := ⟨fun ht hk => ⟨b, n, l, rfl, rfl, h.mem, ht, hk⟩⟩
instance i_upm [h : MpI b st l s1] : Go5 (UpM P m t (.s (.map (some b))) (.s (.int .i64 n)) (.s (.bool true)) st k) (mapT P t = true) (Keep m (s1 (insK l n)) ∧ k D.un (s1 (insK l n))) := ⟨fun ht hk => ⟨b, n, l, _, rfl, rfl, rfl, h.go _, ht, hk⟩⟩
end
end Go.Proofs.YtgcienlfpnpbgaaGreat
end

section
namespace Go.Proofs.YtgcienlfpnpbgaaGreat
set_option linter.unusedSimpArgs false
attribute [local push_cast] encB encI encC V.cells_mk V.cells_len Nat.mul_one Int.sub_zero List.map_nil beq_self_eq_true bne_self_eq_false List.head?_cons
open Go.RowKit
set_option maxRecDepth 10000
set_option maxHeartbeats 8000000
namespace Rul
def idx {α σ : Type} (F : σ → α → Bool × σ) : σ → List α → Nat → Int × σ
  | s, [], _ => (-1, s)
  | s, a :: l, i => if (F s a).1 = true then ((i : Int), (F s a).2) else idx F (F s a).2 l (i + 1)
def anyS {α σ : Type} (F : σ → α → Bool × σ) : σ → List α → Bool × σ
  | s, [] => (false, s)
  | s, a :: l => if (F s a).1 = true then (true, (F s a).2) else anyS F (F s a).2 l
theorem idx_any {α σ : Type} (F : σ → α → Bool × σ) : ∀ (l : List α) (s : σ) (i : Nat), (idx F s l i).2 = (anyS F s l).2 ∧ decide ((idx F s l i).1 ≥ 0) = (anyS F s l).1
  | [], s, i => ⟨rfl, rfl⟩
  | a :: l, s, i => by
    rw [idx, anyS]
    split
    · exact ⟨rfl, decide_eq_true (by show (i : Int) ≥ 0; omega)⟩
    · exact idx_any F l _ _
theorem idx_drop {α σ : Type} (F : σ → α → Bool × σ) {L : List α} {i : Nat} {a : α} (h : L[i]? = some a) (s : σ) : idx F s (L.drop i) i = if (F s a).1 = true then ((i : Int), (F s a).2) else idx F (F s a).2 (L.drop (i + 1)) (i + 1) := by
  obtain ⟨h1, rfl⟩ := List.getElem?_eq_some_iff.1 h
  rw [List.drop_eq_getElem_cons h1, idx]
theorem idx_le {α σ : Type} (F : σ → α → Bool × σ) : ∀ (l : List α) (s : σ) (i : Nat), -1 ≤ (idx F s l i).1 ∧ (idx F s l i).1 ≤ i + l.length
  | [], s, i => ⟨Int.le_refl _, by show (-1 : Int) ≤ _; omega⟩
  | a :: l, s, i => by
    rw [idx]
    split
    · dsimp only; rw [List.length_cons]; omega
    · have := idx_le F l (F s a).2 (i + 1)
      rw [List.length_cons]; omega
end Rul
theorem idxFTest {σ : Type} (fn : FuncId) (caps : List D) (hcall : ∀ args w, (callFunc fn args).run Tryz.prog w = .ok (.enter fn args) w) (L : List Ts) (hl : L.length ≤ 1000000) (F : σ → Ts → Bool × σ) (S : σ → St)
    (hF : ∀ a ∈ L, ∀ s, TrF Tryz.prog fn (.agg a.cells :: caps) (S s) fun d st' => d = .b (F s a).1 ∧ st' = S (F s a).2) (s0 : σ) : TrF Tryz.prog 208 [.sl .shared (L.map Ts.cells), .fn (.func fn) [] caps] (S s0) fun d st' => d = .i (Rul.idx F s0 L 0).1 ∧ st' = S (Rul.idx F s0 L 0).2 := by
  obtain ⟨R, hR⟩ : ∃ R, Rul.idx F s0 L 0 = R := ⟨_, rfl⟩
  rw [hR]
  have HF : Hid (Rul.idx F s0 (L.drop 0) 0 = R) := hR
  have hm : (L.map Ts.cells).length = L.length := List.length_map ..
  have hc : Hid (∀ (i : Nat) (t : Ts), L[i]? = some t → (L.map Ts.cells)[i]? = some t.cells) := fun i t h => by rw [List.getElem?_map, h]; rfl
  have hF2 := Lib.hid hF
  clear hR hF
  generalize L.map Ts.cells = LS at *
  refine Qin [4] Tryz.func208 Tryz.results208 Tryz.ntmps208 ?_
  repeat' (with_reducible first | refine Q1 ?_ | refine Qe ?_ | refine Ql ?_ | refine Q2 ?_ | refine Qs ?_ | refine Q4 ?_ | (refine al_go ?_; intro b) | refine Q5 ?_ | (refine Q3a ?_; intro hb; try intro hb1) | (refine Q3b ?_; intro hb; try intro hb1) | (refine Q3 ?_ ?_ <;> intro hb <;> try intro hb1) | fail)
  refine tr_loopd (ι := Nat) (fun i A st' => i ≤ L.length ∧ A.df = [] ∧ A.e 0 = .sl .shared LS ∧ A.e 1 = .fn (.func fn) [] caps ∧ A.e 7 = .i L.length ∧ A.e 8 = .i i ∧ ∃ s, Hid (Rul.idx F s (L.drop i) i = R) ∧ st' = S s) (fun i => L.length - i) 0 ⟨Nat.zero_le _, Qf, Qf, Qf, Qf, Qf, s0, HF, rfl⟩ ?_
  clear HF
  rintro i A st' ⟨hi, hdf, e0, e1, e7, e8, s, HT, rfl⟩
  by_cases hlt : i < L.length
  · obtain ⟨a, ha⟩ : ∃ a, L[i]? = some a := ⟨_, List.getElem?_eq_getElem hlt⟩
    have h1 := hc.out i a ha
    have hG := hF2.out a (List.mem_of_getElem? ha) s
    have HE := HT.out
    rw [Rul.idx_drop F ha] at HE
    clear HT ha hF2
    generalize F s a = q at *
    obtain ⟨q, s'⟩ := q
    dsimp only at *
    cases a with
    | mk kind slot var val =>
    cases val with
    | mk k1 n1 s1 l1 =>
    rw [Ts.cells_mk] at h1 hG
    replace hG := Lib.hid hG
    cases q with
    | true =>
      rw [if_pos rfl] at HE
      subst HE
      repeat' (first | (with_reducible first | refine Q1 ?_ | refine Qe ?_ | refine Ql ?_ | refine Q2 ?_ | refine Qs ?_ | refine Q4 ?_ | (refine al_go ?_; intro b) | fail) | refine Qc hcall hG.out ?_ | (with_reducible first | refine Q5 ?_ | (refine Q3a ?_; intro hb; try intro hb1) | (refine Q3b ?_; intro hb; try intro hb1) | (refine Q3 ?_ ?_ <;> intro hb <;> try intro hb1) | fail) | fail)
      all_goals exact Qret
    | false =>
      rw [if_neg Bool.false_ne_true] at HE
      replace HE := Lib.hid HE
      repeat' (first | (with_reducible first | refine Q1 ?_ | refine Qe ?_ | refine Ql ?_ | refine Q2 ?_ | refine Qs ?_ | refine Q4 ?_ | (refine al_go ?_; intro b) | fail) | refine Qc hcall hG.out ?_ | (with_reducible first | refine Q5 ?_ | (refine Q3a ?_; intro hb; try intro hb1) | (refine Q3b ?_; intro hb; try intro hb1) | (refine Q3 ?_ ?_ <;> intro hb <;> try intro hb1) | fail) | fail)
      refine ⟨i + 1, S s', (by (repeat (first | exact List.Sublist.refl _ | apply List.Sublist.cons))), ⟨hlt, ?_, ?_, ?_, ?_, ?_, s', HE, rfl⟩, by omega⟩
      all_goals exact Qf
  · have HE := HT.out
    rw [List.drop_of_length_le (by omega), Rul.idx] at HE
    subst HE
    clear HT hF2
    repeat' (with_reducible first | refine Q1 ?_ | refine Qe ?_ | refine Ql ?_ | refine Q2 ?_ | refine Qs ?_ | refine Q4 ?_ | (refine al_go ?_; intro b) | refine Q5 ?_ | (refine Q3a ?_; intro hb; try intro hb1) | (refine Q3b ?_; intro hb; try intro hb1) | (refine Q3 ?_ ?_ <;> intro hb <;> try intro hb1) | fail)
    all_goals exact Qret
theorem conFTest {σ : Type} (fn : FuncId) (caps : List D) (hcall : ∀ args w, (callFunc fn args).run Tryz.prog w = .ok (.enter fn args) w) (L : List Ts) (hl : L.length ≤ 1000000) (F : σ → Ts → Bool × σ) (S : σ → St)
    (hF : ∀ a ∈ L, ∀ s, TrF Tryz.prog fn (.agg a.cells :: caps) (S s) fun d st' => d = .b (F s a).1 ∧ st' = S (F s a).2) (s0 : σ) : TrF Tryz.prog 182 [.sl .shared (L.map Ts.cells), .fn (.func fn) [] caps] (S s0) fun d st' => d = .b (Rul.anyS F s0 L).1 ∧ st' = S (Rul.anyS F s0 L).2 := by
  have hI := idxFTest fn caps hcall L hl F S hF s0
  obtain ⟨e1, e2⟩ := Rul.idx_any F L s0 0
  have hle := Rul.idx_le F L s0 0
  rw [← e1, ← e2]
  clear e1 e2 hF
  generalize Rul.idx F s0 L 0 = R at *
  obtain ⟨R, s'⟩ := R
  generalize L.map Ts.cells = LS at *
  dsimp only at *
  replace hI := Lib.hid hI
  by_cases hR : R ≥ 0
  · rw [decide_eq_true hR]
    refine Qin [4] Tryz.func182 Tryz.results182 Tryz.ntmps182 ?_
    repeat' (first | (with_reducible first | refine Q1 ?_ | refine Qe ?_ | refine Ql ?_ | refine Q2 ?_ | refine Qs ?_ | refine Q4 ?_ | (refine al_go ?_; intro b) | fail) | refine Qc Tryz.call208 hI.out ?_ | (with_reducible first | refine Q5 ?_ | (refine Q3a ?_; intro hb; try intro hb1) | (refine Q3b ?_; intro hb; try intro hb1) | (refine Q3 ?_ ?_ <;> intro hb <;> try intro hb1) | fail) | fail)
    all_goals exact Qret
  · rw [decide_eq_false hR]
    refine Qin [4] Tryz.func182 Tryz.results182 Tryz.ntmps182 ?_
    repeat' (first | (with_reducible first | refine Q1 ?_ | refine Qe ?_ | refine Ql ?_ | refine Q2 ?_ | refine Qs ?_ | refine Q4 ?_ | (refine al_go ?_; intro b) | fail) | refine Qc Tryz.call208 hI.out ?_ | (with_reducible first | refine Q5 ?_ | (refine Q3a ?_; intro hb; try intro hb1) | (refine Q3b ?_; intro hb; try intro hb1) | (refine Q3 ?_ ?_ <;> intro hb <;> try intro hb1) | fail) | fail)
    all_goals exact Qret
theorem idxFPat {σ : Type} (fn : FuncId) (caps : List D) (hcall : ∀ args w, (callFunc fn args).run Tryz.prog w = .ok (.enter fn args) w) (L : List Pt) (hl : L.length ≤ 1000000) (F : σ → Pt → Bool × σ) (S : σ → St)
    (hF : ∀ a ∈ L, ∀ s, TrF Tryz.prog fn (.agg a.cells :: caps) (S s) fun d st' => d = .b (F s a).1 ∧ st' = S (F s a).2) (s0 : σ) : TrF Tryz.prog 181 [.sl .shared (L.map Pt.cells), .fn (.func fn) [] caps] (S s0) fun d st' => d = .i (Rul.idx F s0 L 0).1 ∧ st' = S (Rul.idx F s0 L 0).2 := by
  obtain ⟨R, hR⟩ : ∃ R, Rul.idx F s0 L 0 = R := ⟨_, rfl⟩
  rw [hR]
  have HF : Hid (Rul.idx F s0 (L.drop 0) 0 = R) := hR
  have hm : (L.map Pt.cells).length = L.length := List.length_map ..
  have hc : Hid (∀ (i : Nat) (t : Pt), L[i]? = some t → (L.map Pt.cells)[i]? = some t.cells) := fun i t h => by rw [List.getElem?_map, h]; rfl
  have hF2 := Lib.hid hF
  clear hR hF
  generalize L.map Pt.cells = LS at *
  refine Qin [4] Tryz.func181 Tryz.results181 Tryz.ntmps181 ?_
  repeat' (with_reducible first | refine Q1 ?_ | refine Qe ?_ | refine Ql ?_ | refine Q2 ?_ | refine Qs ?_ | refine Q4 ?_ | (refine al_go ?_; intro b) | refine Q5 ?_ | (refine Q3a ?_; intro hb; try intro hb1) | (refine Q3b ?_; intro hb; try intro hb1) | (refine Q3 ?_ ?_ <;> intro hb <;> try intro hb1) | fail)
  refine tr_loopd (ι := Nat) (fun i A st' => i ≤ L.length ∧ A.df = [] ∧ A.e 0 = .sl .shared LS ∧ A.e 1 = .fn (.func fn) [] caps ∧ A.e 7 = .i L.length ∧ A.e 8 = .i i ∧ ∃ s, Hid (Rul.idx F s (L.drop i) i = R) ∧ st' = S s) (fun i => L.length - i) 0 ⟨Nat.zero_le _, Qf, Qf, Qf, Qf, Qf, s0, HF, rfl⟩ ?_
  clear HF
  rintro i A st' ⟨hi, hdf, e0, e1, e7, e8, s, HT, rfl⟩
  by_cases hlt : i < L.length
  · obtain ⟨a, ha⟩ : ∃ a, L[i]? = some a := ⟨_, List.getElem?_eq_getElem hlt⟩
    have h1 := hc.out i a ha
    have hG := hF2.out a (List.mem_of_getElem? ha) s
    have HE := HT.out
    rw [Rul.idx_drop F ha] at HE
    clear HT ha hF2
    generalize F s a = q at *
    obtain ⟨q, s'⟩ := q
    dsimp only at *
    unfold Pt.cells at h1 hG
    cases a with
    | mk tmpl neg tests =>
    dsimp only at h1 hG
    generalize tests.map Ts.cells = TS at *
    replace hG := Lib.hid hG
    cases q with
    | true =>
      rw [if_pos rfl] at HE
      subst HE
      repeat' (first | (with_reducible first | refine Q1 ?_ | refine Qe ?_ | refine Ql ?_ | refine Q2 ?_ | refine Qs ?_ | refine Q4 ?_ | (refine al_go ?_; intro b) | fail) | refine Qc hcall hG.out ?_ | (with_reducible first | refine Q5 ?_ | (refine Q3a ?_; intro hb; try intro hb1) | (refine Q3b ?_; intro hb; try intro hb1) | (refine Q3 ?_ ?_ <;> intro hb <;> try intro hb1) | fail) | fail)
      all_goals exact Qret
    | false =>
      rw [if_neg Bool.false_ne_true] at HE
      replace HE := Lib.hid HE
      repeat' (first | (with_reducible first | refine Q1 ?_ | refine Qe ?_ | refine Ql ?_ | refine Q2 ?_ | refine Qs ?_ | refine Q4 ?_ | (refine al_go ?_; intro b) | fail) | refine Qc hcall hG.out ?_ | (with_reducible first | refine Q5 ?_ | (refine Q3a ?_; intro hb; try intro hb1) | (refine Q3b ?_; intro hb; try intro hb1) | (refine Q3 ?_ ?_ <;> intro hb <;> try intro hb1) | fail) | fail)
      refine ⟨i + 1, S s', (by (repeat (first | exact List.Sublist.refl _ | apply List.Sublist.cons))), ⟨hlt, ?_, ?_, ?_, ?_, ?_, s', HE, rfl⟩, by omega⟩
      all_goals exact Qf
  · have HE := HT.out
    rw [List.drop_of_length_le (by omega), Rul.idx] at HE
    subst HE
    clear HT hF2
    repeat' (with_reducible first | refine Q1 ?_ | refine Qe ?_ | refine Ql ?_ | refine Q2 ?_ | refine Qs ?_ | refine Q4 ?_ | (refine al_go ?_; intro b) | refine Q5 ?_ | (refine Q3a ?_; intro hb; try intro hb1) | (refine Q3b ?_; intro hb; try intro hb1) | (refine Q3 ?_ ?_ <;> intro hb <;> try intro hb1) | fail)
    all_goals exact Qret
theorem conFPat {σ : Type} (fn : FuncId) (caps : List D) (hcall : ∀ args w, (callFunc fn args).run Tryz.prog w = .ok (.enter fn args) w) (L : List Pt) (hl : L.length ≤ 1000000) (F : σ → Pt → Bool × σ) (S : σ → St)
    (hF : ∀ a ∈ L, ∀ s, TrF Tryz.prog fn (.agg a.cells :: caps) (S s) fun d st' => d = .b (F s a).1 ∧ st' = S (F s a).2) (s0 : σ) : TrF Tryz.prog 149 [.sl .shared (L.map Pt.cells), .fn (.func fn) [] caps] (S s0) fun d st' => d = .b (Rul.anyS F s0 L).1 ∧ st' = S (Rul.anyS F s0 L).2 := by
  have hI := idxFPat fn caps hcall L hl F S hF s0
  obtain ⟨e1, e2⟩ := Rul.idx_any F L s0 0
  have hle := Rul.idx_le F L s0 0
  rw [← e1, ← e2]
  clear e1 e2 hF
  generalize Rul.idx F s0 L 0 = R at *
  obtain ⟨R, s'⟩ := R
  generalize L.map Pt.cells = LS at *
  dsimp only at *
  replace hI := Lib.hid hI
  by_cases hR : R ≥ 0
  · rw [decide_eq_true hR]
    refine Qin [4] Tryz.func149 Tryz.results149 Tryz.ntmps149 ?_
    repeat' (first | (with_reducible first | refine Q1 ?_ | refine Qe ?_ | refine Ql ?_ | refine Q2 ?_ | refine Qs ?_ | refine Q4 ?_ | (refine al_go ?_; intro b) | fail) | refine Qc Tryz.call181 hI.out ?_ | (with_reducible first | refine Q5 ?_ | (refine Q3a ?_; intro hb; try intro hb1) | (refine Q3b ?_; intro hb; try intro hb1) | (refine Q3 ?_ ?_ <;> intro hb <;> try intro hb1) | fail) | fail)
    all_goals exact Qret
  · rw [decide_eq_false hR]
    refine Qin [4] Tryz.func149 Tryz.results149 Tryz.ntmps149 ?_
    repeat' (first | (with_reducible first | refine Q1 ?_ | refine Qe ?_ | refine Ql ?_ | refine Q2 ?_ | refine Qs ?_ | refine Q4 ?_ | (refine al_go ?_; intro b) | fail) | refine Qc Tryz.call181 hI.out ?_ | (with_reducible first | refine Q5 ?_ | (refine Q3a ?_; intro hb; try intro hb1) | (refine Q3b ?_; intro hb; try intro hb1) | (refine Q3 ?_ ?_ <;> intro hb <;> try intro hb1) | fail) | fail)
    all_goals exact Qret
theorem idxFAct {σ : Type} (fn : FuncId) (caps : List D) (hcall : ∀ args w, (callFunc fn args).run Tryz.prog w = .ok (.enter fn args) w) (L : List Ac) (hl : L.length ≤ 1000000) (F : σ → Ac → Bool × σ) (S : σ → St)
    (hF : ∀ a ∈ L, ∀ s, TrF Tryz.prog fn (.agg a.cells :: caps) (S s) fun d st' => d = .b (F s a).1 ∧ st' = S (F s a).2) (s0 : σ) : TrF Tryz.prog 185 [.sl .shared (L.map Ac.cells), .fn (.func fn) [] caps] (S s0) fun d st' => d = .i (Rul.idx F s0 L 0).1 ∧ st' = S (Rul.idx F s0 L 0).2 := by
  obtain ⟨R, hR⟩ : ∃ R, Rul.idx F s0 L 0 = R := ⟨_, rfl⟩
  rw [hR]
  have HF : Hid (Rul.idx F s0 (L.drop 0) 0 = R) := hR
  have hm : (L.map Ac.cells).length = L.length := List.length_map ..
  have hc : Hid (∀ (i : Nat) (t : Ac), L[i]? = some t → (L.map Ac.cells)[i]? = some t.cells) := fun i t h => by rw [List.getElem?_map, h]; rfl
  have hF2 := Lib.hid hF
  clear hR hF
  generalize L.map Ac.cells = LS at *
  refine Qin [4] Tryz.func185 Tryz.results185 Tryz.ntmps185 ?_
  repeat' (with_reducible first | refine Q1 ?_ | refine Qe ?_ | refine Ql ?_ | refine Q2 ?_ | refine Qs ?_ | refine Q4 ?_ | (refine al_go ?_; intro b) | refine Q5 ?_ | (refine Q3a ?_; intro hb; try intro hb1) | (refine Q3b ?_; intro hb; try intro hb1) | (refine Q3 ?_ ?_ <;> intro hb <;> try intro hb1) | fail)
  refine tr_loopd (ι := Nat) (fun i A st' => i ≤ L.length ∧ A.df = [] ∧ A.e 0 = .sl .shared LS ∧ A.e 1 = .fn (.func fn) [] caps ∧ A.e 7 = .i L.length ∧ A.e 8 = .i i ∧ ∃ s, Hid (Rul.idx F s (L.drop i) i = R) ∧ st' = S s) (fun i => L.length - i) 0 ⟨Nat.zero_le _, Qf, Qf, Qf, Qf, Qf, s0, HF, rfl⟩ ?_
  clear HF
  rintro i A st' ⟨hi, hdf, e0, e1, e7, e8, s, HT, rfl⟩
  by_cases hlt : i < L.length
  · obtain ⟨a, ha⟩ : ∃ a, L[i]? = some a := ⟨_, List.getElem?_eq_getElem hlt⟩
    have h1 := hc.out i a ha
    have hG := hF2.out a (List.mem_of_getElem? ha) s
    have HE := HT.out
    rw [Rul.idx_drop F ha] at HE
    clear HT ha hF2
    generalize F s a = q at *
    obtain ⟨q, s'⟩ := q
    dsimp only at *
    unfold Ac.cells at h1 hG
    cases a with
    | mk kind pat tmpl slot vals =>
    dsimp only at h1 hG
    generalize vals.map Ex.cells = ES at *
    replace hG := Lib.hid hG
    cases q with
    | true =>
      rw [if_pos rfl] at HE
      subst HE
      repeat' (first | (with_reducible first | refine Q1 ?_ | refine Qe ?_ | refine Ql ?_ | refine Q2 ?_ | refine Qs ?_ | refine Q4 ?_ | (refine al_go ?_; intro b) | fail) | refine Qc hcall hG.out ?_ | (with_reducible first | refine Q5 ?_ | (refine Q3a ?_; intro hb; try intro hb1) | (refine Q3b ?_; intro hb; try intro hb1) | (refine Q3 ?_ ?_ <;> intro hb <;> try intro hb1) | fail) | fail)
      all_goals exact Qret
    | false =>
      rw [if_neg Bool.false_ne_true] at HE
      replace HE := Lib.hid HE
      repeat' (first | (with_reducible first | refine Q1 ?_ | refine Qe ?_ | refine Ql ?_ | refine Q2 ?_ | refine Qs ?_ | refine Q4 ?_ | (refine al_go ?_; intro b) | fail) | refine Qc hcall hG.out ?_ | (with_reducible first | refine Q5 ?_ | (refine Q3a ?_; intro hb; try intro hb1) | (refine Q3b ?_; intro hb; try intro hb1) | (refine Q3 ?_ ?_ <;> intro hb <;> try intro hb1) | fail) | fail)
      refine ⟨i + 1, S s', (by (repeat (first | exact List.Sublist.refl _ | apply List.Sublist.cons))), ⟨hlt, ?_, ?_, ?_, ?_, ?_, s', HE, rfl⟩, by omega⟩
      all_goals exact Qf
  · have HE := HT.out
    rw [List.drop_of_length_le (by omega), Rul.idx] at HE
    subst HE
    clear HT hF2
    repeat' (with_reducible first | refine Q1 ?_ | refine Qe ?_ | refine Ql ?_ | refine Q2 ?_ | refine Qs ?_ | refine Q4 ?_ | (refine al_go ?_; intro b) | refine Q5 ?_ | (refine Q3a ?_; intro hb; try intro hb1) | (refine Q3b ?_; intro hb; try intro hb1) | (refine Q3 ?_ ?_ <;> intro hb <;> try intro hb1) | fail)
    all_goals exact Qret
theorem conFAct {σ : Type} (fn : FuncId) (caps : List D) (hcall : ∀ args w, (callFunc fn args).run Tryz.prog w = .ok (.enter fn args) w) (L : List Ac) (hl : L.length ≤ 1000000) (F : σ → Ac → Bool × σ) (S : σ → St)
    (hF : ∀ a ∈ L, ∀ s, TrF Tryz.prog fn (.agg a.cells :: caps) (S s) fun d st' => d = .b (F s a).1 ∧ st' = S (F s a).2) (s0 : σ) : TrF Tryz.prog 152 [.sl .shared (L.map Ac.cells), .fn (.func fn) [] caps] (S s0) fun d st' => d = .b (Rul.anyS F s0 L).1 ∧ st' = S (Rul.anyS F s0 L).2 := by
  have hI := idxFAct fn caps hcall L hl F S hF s0
  obtain ⟨e1, e2⟩ := Rul.idx_any F L s0 0
  have hle := Rul.idx_le F L s0 0
  rw [← e1, ← e2]
  clear e1 e2 hF
  generalize Rul.idx F s0 L 0 = R at *
  obtain ⟨R, s'⟩ := R
  generalize L.map Ac.cells = LS at *
  dsimp only at *
  replace hI := Lib.hid hI
  by_cases hR : R ≥ 0
  · rw [decide_eq_true hR]
    refine Qin [4] Tryz.func152 Tryz.results152 Tryz.ntmps152 ?_
    repeat' (first | (with_reducible first | refine Q1 ?_ | refine Qe ?_ | refine Ql ?_ | refine Q2 ?_ | refine Qs ?_ | refine Q4 ?_ | (refine al_go ?_; intro b) | fail) | refine Qc Tryz.call185 hI.out ?_ | (with_reducible first | refine Q5 ?_ | (refine Q3a ?_; intro hb; try intro hb1) | (refine Q3b ?_; intro hb; try intro hb1) | (refine Q3 ?_ ?_ <;> intro hb <;> try intro hb1) | fail) | fail)
    all_goals exact Qret
  · rw [decide_eq_false hR]
    refine Qin [4] Tryz.func152 Tryz.results152 Tryz.ntmps152 ?_
    repeat' (first | (with_reducible first | refine Q1 ?_ | refine Qe ?_ | refine Ql ?_ | refine Q2 ?_ | refine Qs ?_ | refine Q4 ?_ | (refine al_go ?_; intro b) | fail) | refine Qc Tryz.call185 hI.out ?_ | (with_reducible first | refine Q5 ?_ | (refine Q3a ?_; intro hb; try intro hb1) | (refine Q3b ?_; intro hb; try intro hb1) | (refine Q3 ?_ ?_ <;> intro hb <;> try intro hb1) | fail) | fail)
    all_goals exact Qret
theorem idxFRule {σ : Type} (fn : FuncId) (caps : List D) (hcall : ∀ args w, (callFunc fn args).run Tryz.prog w = .ok (.enter fn args) w) (L : List Rl) (hl : L.length ≤ 1000000) (F : σ → Rl → Bool × σ) (S : σ → St)
    (hF : ∀ a ∈ L, ∀ s, TrF Tryz.prog fn (.agg a.cells :: caps) (S s) fun d st' => d = .b (F s a).1 ∧ st' = S (F s a).2) (s0 : σ) : TrF Tryz.prog 155 [.sl .shared (L.map Rl.cells), .fn (.func fn) [] caps] (S s0) fun d st' => d = .i (Rul.idx F s0 L 0).1 ∧ st' = S (Rul.idx F s0 L 0).2 := by
  obtain ⟨R, hR⟩ : ∃ R, Rul.idx F s0 L 0 = R := ⟨_, rfl⟩
  rw [hR]
  have HF : Hid (Rul.idx F s0 (L.drop 0) 0 = R) := hR
  have hm : (L.map Rl.cells).length = L.length := List.length_map ..
  have hc : Hid (∀ (i : Nat) (t : Rl), L[i]? = some t → (L.map Rl.cells)[i]? = some t.cells) := fun i t h => by rw [List.getElem?_map, h]; rfl
  have hF2 := Lib.hid hF
  clear hR hF
  generalize L.map Rl.cells = LS at *
  refine Qin [4] Tryz.func155 Tryz.results155 Tryz.ntmps155 ?_
  repeat' (with_reducible first | refine Q1 ?_ | refine Qe ?_ | refine Ql ?_ | refine Q2 ?_ | refine Qs ?_ | refine Q4 ?_ | (refine al_go ?_; intro b) | refine Q5 ?_ | (refine Q3a ?_; intro hb; try intro hb1) | (refine Q3b ?_; intro hb; try intro hb1) | (refine Q3 ?_ ?_ <;> intro hb <;> try intro hb1) | fail)
  refine tr_loopd (ι := Nat) (fun i A st' => i ≤ L.length ∧ A.df = [] ∧ A.e 0 = .sl .shared LS ∧ A.e 1 = .fn (.func fn) [] caps ∧ A.e 7 = .i L.length ∧ A.e 8 = .i i ∧ ∃ s, Hid (Rul.idx F s (L.drop i) i = R) ∧ st' = S s) (fun i => L.length - i) 0 ⟨Nat.zero_le _, Qf, Qf, Qf, Qf, Qf, s0, HF, rfl⟩ ?_
  clear HF
  rintro i A st' ⟨hi, hdf, e0, e1, e7, e8, s, HT, rfl⟩
  by_cases hlt : i < L.length
  · obtain ⟨a, ha⟩ : ∃ a, L[i]? = some a := ⟨_, List.getElem?_eq_getElem hlt⟩
    have h1 := hc.out i a ha
    have hG := hF2.out a (List.mem_of_getElem? ha) s
    have HE := HT.out
    rw [Rul.idx_drop F ha] at HE
    clear HT ha hF2
    generalize F s a = q at *
    obtain ⟨q, s'⟩ := q
    dsimp only at *
    unfold Rl.cells at h1 hG
    cases a with
    | mk nm sal pats acts =>
    dsimp only at h1 hG
    generalize pats.map Pt.cells = PS at *
    generalize acts.map Ac.cells = AS at *
    replace hG := Lib.hid hG
    cases q with
    | true =>
      rw [if_pos rfl] at HE
      subst HE
      repeat' (first | (with_reducible first | refine Q1 ?_ | refine Qe ?_ | refine Ql ?_ | refine Q2 ?_ | refine Qs ?_ | refine Q4 ?_ | (refine al_go ?_; intro b) | fail) | refine Qc hcall hG.out ?_ | (with_reducible first | refine Q5 ?_ | (refine Q3a ?_; intro hb; try intro hb1) | (refine Q3b ?_; intro hb; try intro hb1) | (refine Q3 ?_ ?_ <;> intro hb <;> try intro hb1) | fail) | fail)
      all_goals exact Qret
    | false =>
      rw [if_neg Bool.false_ne_true] at HE
      replace HE := Lib.hid HE
      repeat' (first | (with_reducible first | refine Q1 ?_ | refine Qe ?_ | refine Ql ?_ | refine Q2 ?_ | refine Qs ?_ | refine Q4 ?_ | (refine al_go ?_; intro b) | fail) | refine Qc hcall hG.out ?_ | (with_reducible first | refine Q5 ?_ | (refine Q3a ?_; intro hb; try intro hb1) | (refine Q3b ?_; intro hb; try intro hb1) | (refine Q3 ?_ ?_ <;> intro hb <;> try intro hb1) | fail) | fail)
      refine ⟨i + 1, S s', (by (repeat (first | exact List.Sublist.refl _ | apply List.Sublist.cons))), ⟨hlt, ?_, ?_, ?_, ?_, ?_, s', HE, rfl⟩, by omega⟩
      all_goals exact Qf
  · have HE := HT.out
    rw [List.drop_of_length_le (by omega), Rul.idx] at HE
    subst HE
    clear HT hF2
    repeat' (with_reducible first | refine Q1 ?_ | refine Qe ?_ | refine Ql ?_ | refine Q2 ?_ | refine Qs ?_ | refine Q4 ?_ | (refine al_go ?_; intro b) | refine Q5 ?_ | (refine Q3a ?_; intro hb; try intro hb1) | (refine Q3b ?_; intro hb; try intro hb1) | (refine Q3 ?_ ?_ <;> intro hb <;> try intro hb1) | fail)
    all_goals exact Qret
theorem conFRule {σ : Type} (fn : FuncId) (caps : List D) (hcall : ∀ args w, (callFunc fn args).run Tryz.prog w = .ok (.enter fn args) w) (L : List Rl) (hl : L.length ≤ 1000000) (F : σ → Rl → Bool × σ) (S : σ → St)
    (hF : ∀ a ∈ L, ∀ s, TrF Tryz.prog fn (.agg a.cells :: caps) (S s) fun d st' => d = .b (F s a).1 ∧ st' = S (F s a).2) (s0 : σ) : TrF Tryz.prog 87 [.sl .shared (L.map Rl.cells), .fn (.func fn) [] caps] (S s0) fun d st' => d = .b (Rul.anyS F s0 L).1 ∧ st' = S (Rul.anyS F s0 L).2 := by
  have hI := idxFRule fn caps hcall L hl F S hF s0
  obtain ⟨e1, e2⟩ := Rul.idx_any F L s0 0
  have hle := Rul.idx_le F L s0 0
  rw [← e1, ← e2]
  clear e1 e2 hF
  generalize Rul.idx F s0 L 0 = R at *
  obtain ⟨R, s'⟩ := R
  generalize L.map Rl.cells = LS at *
  dsimp only at *
  replace hI := Lib.hid hI
  by_cases hR : R ≥ 0
  · rw [decide_eq_true hR]
    refine Qin [4] Tryz.func87 Tryz.results87 Tryz.ntmps87 ?_
    repeat' (first | (with_reducible first | refine Q1 ?_ | refine Qe ?_ | refine Ql ?_ | refine Q2 ?_ | refine Qs ?_ | refine Q4 ?_ | (refine al_go ?_; intro b) | fail) | refine Qc Tryz.call155 hI.out ?_ | (with_reducible first | refine Q5 ?_ | (refine Q3a ?_; intro hb; try intro hb1) | (refine Q3b ?_; intro hb; try intro hb1) | (refine Q3 ?_ ?_ <;> intro hb <;> try intro hb1) | fail) | fail)
    all_goals exact Qret
  · rw [decide_eq_false hR]
    refine Qin [4] Tryz.func87 Tryz.results87 Tryz.ntmps87 ?_
    repeat' (first | (with_reducible first | refine Q1 ?_ | refine Qe ?_ | refine Ql ?_ | refine Q2 ?_ | refine Qs ?_ | refine Q4 ?_ | (refine al_go ?_; intro b) | fail) | refine Qc Tryz.call155 hI.out ?_ | (with_reducible first | refine Q5 ?_ | (refine Q3a ?_; intro hb; try intro hb1) | (refine Q3b ?_; intro hb; try intro hb1) | (refine Q3 ?_ ?_ <;> intro hb <;> try intro hb1) | fail) | fail)
    all_goals exact Qret
end Go.Proofs.YtgcienlfpnpbgaaGreat
end

section
namespace Go.Proofs.YtgcienlfpnpbgaaGreat
set_option linter.unusedSimpArgs false
attribute [local push_cast] encB encI V.cells_mk V.cells_take V.cells_len Nat.mul_one Int.sub_zero
open Go.RowKit
set_option maxRecDepth 10000
set_option maxHeartbeats 4000000
end Go.Proofs.YtgcienlfpnpbgaaGreat
end

section
namespace Go.Proofs.YtgcienlfpnpbgaaGreat
set_option linter.unusedSimpArgs false
attribute [local push_cast] encB encI encC V.cells_mk V.cells_len Nat.mul_one Int.sub_zero List.map_nil beq_self_eq_true List.head?_cons
open Go.RowKit
set_option maxRecDepth 10000
set_option maxHeartbeats 4000000
def Sch.has (t k : Nat) : Bool := t / 2 ^ k % 2 == 1
end Go.Proofs.YtgcienlfpnpbgaaGreat
end

section
namespace Go.Proofs.YtgcienlfpnpbgaaGreat
set_option linter.unusedSimpArgs false
open Go.RowKit
mutual
inductive Frz (g n cap : Nat) (es : List (List D)) : D → D → Prop
  | same (d : D) : Frz g n cap es d d
  | ar : Frz g n cap es (.ar g 0 n cap) (.sl .shared es)
  | agg (cs cs' : List D) (h : FrzL g n cap es cs cs') : Frz g n cap es (.agg cs) (.agg cs')
  | tup (cs cs' : List D) (h : FrzL g n cap es cs cs') : Frz g n cap es (.tup cs) (.tup cs')
inductive FrzL (g n cap : Nat) (es : List (List D)) : List D → List D → Prop
  | nil : FrzL g n cap es [] []
  | cons (d d' : D) (l l' : List D) (h : Frz g n cap es d d') (k : FrzL g n cap es l l') : FrzL g n cap es (d :: l) (d' :: l')
end
section
variable {g n cap : Nat} {es : List (List D)} {O O' : Nat → Nat → Prop} {w : World}
mutual
theorem Frz.rep (he : Ext O w O' w) (hr : ∀ v, Rep O w v (.ar g 0 n cap) → Rep O' w v (.sl .shared es)) : ∀ {d d' : D}, Frz g n cap es d d' → ∀ v, Rep O w v d → Rep O' w v d'
  | _, _, .same d, v, h => h.ext he
  | _, _, .ar, v, h => hr v h
  | _, _, .agg cs cs' k, v, h => by
    cases h with
    | agg us _ h1 h2 =>
      obtain ⟨q1, q2⟩ := FrzL.rep he hr k us ⟨h1, h2⟩
      exact .agg us cs' q1 q2
  | _, _, .tup cs cs' k, v, h => by
    cases h with
    | tup us _ h1 h2 =>
      obtain ⟨q1, q2⟩ := FrzL.rep he hr k us ⟨h1, h2⟩
      exact .tup us cs' q1 q2
theorem FrzL.rep (he : Ext O w O' w) (hr : ∀ v, Rep O w v (.ar g 0 n cap) → Rep O' w v (.sl .shared es)) : ∀ {l l' : List D}, FrzL g n cap es l l' → ∀ us, RepL O w us l → RepL O' w us l'
  | _, _, .nil, us, h => by
    obtain rfl := h.inv_nil
    exact .nil
  | _, _, .cons d d' l l' h k, us, hh => by
    obtain ⟨u, t, rfl, k1, k2⟩ := hh.inv_cons
    exact .cons (Frz.rep he hr h u k1) (FrzL.rep he hr k t k2)
end
theorem row_rest {el : TypeId} {zs : List D} {s0 : St} {sz : Nat} (hh : Holds (.box g el (es.flatten ++ zs) :: s0) w) (hsz : 0 < sz) (hes : ∀ e ∈ es, e.length = sz) (hn : es.length = n) (v : Value) (hv : Rep (OwnS (.box g el (es.flatten ++ zs) :: s0)) w v (.ar g 0 n cap)) : Rep (OwnS s0) w v (.sl .shared es) := by
  have hch : chop sz n ((es.flatten ++ zs).drop 0) = es := by
    rw [List.drop_zero, ← hn]
    exact chop_row zs es hes
  have hr := frozen .shared (.inl rfl) (sz := sz) hh hv hsz (by rw [List.length_append, flat_len hes, hn]; omega) (by intro h; cases h)
  rwa [hch] at hr
end
section
variable {P : Program} {f : FuncId} {args : List D} {st : St}
theorem TrF.rest {ι : Type} {el : TypeId} {sz : Nat} {p : ι → Prop} {es : ι → List (List D)} {g n cap : ι → Nat} {F F' : ι → D} {zs : ι → List D} {S : ι → St} (hsz : 0 < sz) (hes : ∀ i, p i → (∀ e ∈ es i, e.length = sz) ∧ (es i).length = n i) (hF : ∀ i, Frz (g i) (n i) (cap i) (es i) (F i) (F' i))
    (h : TrF P f args st fun d st' => ∃ i, p i ∧ d = F i ∧ st' = .box (g i) el ((es i).flatten ++ zs i) :: S i) : TrF P f args st fun d st' => ∃ i, p i ∧ d = F' i ∧ st' = S i := by
  intro vs w h1 h2
  refine (h vs w h1 h2).mono fun _ w' ⟨v, ev, d, s, k1, k2, k3, i, hi, e1, e2⟩ => ?_
  subst e1 e2
  have he := Ext.drop (st := .box (g i) el ((es i).flatten ++ zs i) :: S i) (st' := S i) (fun _ h => List.mem_cons_of_mem _ h) w'
  exact ⟨v, ev, _, S i, (hF i).rep he (row_rest k2 hsz (hes i hi).1 (hes i hi).2) v k1, k2.sub (List.sublist_cons_self _ _), k3.trans he, i, hi, rfl, rfl⟩
end
section
variable {P : Program} {N : Nat} {r : Option Nat} {A : AA} {st : St} {Q : Exit → AA → St → Prop}
end
end Go.Proofs.YtgcienlfpnpbgaaGreat
end

section
namespace Go.Proofs.YtgcienlfpnpbgaaGreat
set_option linter.unusedSimpArgs false
attribute [local push_cast] encB encI encC V.cells_mk V.cells_len Nat.mul_one Int.sub_zero List.map_nil beq_self_eq_true List.head?_cons
open Go.RowKit
set_option maxRecDepth 10000
set_option maxHeartbeats 4000000
structure VQ (v : V) : Prop where
  ok : v.Ok
  nodes : v.nodes ≤ 1000
  deep : v.deep ≤ 1000
def CopyR (x : Vr) (st : St) (d : D) (st' : St) : Prop := ∃ gs cS zS gc cC zC, VL cS zS cC zC x ∧ d = .agg [.ar gs 0 x.slots.length cS, .ar gc 0 x.cols.length cC] ∧ st' = .box gc 3 (colC x.cols ++ zC) :: .box gs 75 (slotC x.slots ++ zS) :: st
def Sch.restV (s : Stp) : Bool :=
  if s.kind = 1 then decide (s.order.length = 0) && (s.col == 0)
  else if s.kind = 2 then bare s.slot false false && decide (s.order.length = 0)
  else if s.kind = 3 then bare s.slot true false && decide (s.order.length = 0)
  else if s.kind = 4 then bare s.slot false true && decide (s.order.length = 0)
  else bare s.slot false false && (s.col == 0)
end Go.Proofs.YtgcienlfpnpbgaaGreat
end

section
namespace Go.Proofs.YtgcienlfpnpbgaaGreat
set_option linter.unusedSimpArgs false
attribute [local push_cast] encB encI encC V.cells_mk V.cells_len Nat.mul_one Int.sub_zero List.map_nil beq_self_eq_true bne_self_eq_false List.head?_cons
open Go.RowKit
set_option maxRecDepth 10000
set_option maxHeartbeats 16000000
theorem zero_ok : V.zero.Ok := .mk (by omega) (by omega) (Nat.zero_le _) (Nat.zero_le _) fun x h => by cases h
theorem zero_cells : V.zero.cells = [.i 0, .i 0, .str ⟨#[]⟩, .sl .shared []] := by unfold V.zero; rw [V.cells_mk]; rfl
theorem ruleTestF (L : List Tm) (hL : ∀ t ∈ L, TOk t) (hl : L.length ≤ 1000000) (nm : ByteArray) (sal : Int) (PS AS : List (List D)) (r : Nat) (p : Pt) (t : Ts) (ht : VQ t.val) (B : List Int) (st : St) : TrF Tryz.prog 184 [.ip [.sl .shared (L.map Tm.cells), .str nm, .i sal, .sl .shared PS, .sl .shared AS, .mp r], .agg p.cells, .agg t.cells] (bmap r B :: st) fun d st' => d = .b (Rul.testB (Rul.slots L p.tmpl).length p.neg B t) ∧ st' = bmap r (if Rul.testB (Rul.slots L p.tmpl).length p.neg B t = true then Rul.testN B t else B) :: st := by
  have hS := ruleSlotsF L hL hl p.tmpl
  have hm : ((Rul.slots L p.tmpl).map Sl.cells).length = (Rul.slots L p.tmpl).length := List.length_map ..
  have hV := valSameB t.val V.zero ht.ok.bg zero_ok.bg
  have hR := valRightF t.val (by have := ht.nodes; omega)
  rw [zero_cells] at hV
  generalize (Rul.slots L p.tmpl).map Sl.cells = SS at *
  generalize (Rul.slots L p.tmpl).length = ns at *
  generalize L.map Tm.cells = LS at *
  clear hL ht hl
  cases p with
  | mk tmpl neg tests =>
  cases t with
  | mk kind slot var val =>
  unfold Pt.cells
  dsimp only at *
  generalize tests.map Ts.cells = TS at *
  have eT : Rul.testB ns neg B ⟨kind, slot, var, val⟩ = ((decide (0 ≤ slot) && decide (slot < ns)) && (if kind = 1 ∨ kind = 2 ∨ kind = 3 ∨ kind = 4 then (var == 0) && val.right
    else if kind = 5 then (val.cmp V.zero == 0) && ((decide (0 ≤ var) && decide (var < 8)) && (!neg && decide (var ∉ B)))
    else if kind = 6 ∨ kind = 7 ∨ kind = 8 ∨ kind = 9 then (val.cmp V.zero == 0) && ((decide (0 ≤ var) && decide (var < 8)) && decide (var ∈ B)) else false)) := rfl
  have eN : Rul.testN B ⟨kind, slot, var, val⟩ = if kind = 5 then B ++ [var] else B := rfl
  rw [eT, eN]
  clear eT eN
  generalize (val.cmp V.zero == 0) = qv at *
  generalize val.right = qr at *
  have hnot : decide (var ∉ B) = !decide (var ∈ B) := by simp
  have hins : decide (var ∈ B) = false → insK B var = B ++ [var] := fun h => if_neg (of_decide_eq_false h)
  rw [hnot]
  clear hnot
  generalize hqb : decide (var ∈ B) = qb at *
  cases val with
  | mk k1 n1 s1 l1 =>
  rw [Ts.cells_mk]
  rw [V.cells_mk] at hV hR
  generalize l1.map V.cells = VL at *
  replace hS := Lib.hid hS
  replace hV := Lib.hid hV
  replace hR := Lib.hid hR
  replace hins := Lib.hid hins
  by_cases hs0 : slot < 0
  · rw [decide_eq_false (show ¬ 0 ≤ slot by omega), Bool.false_and, Bool.false_and, if_neg Bool.false_ne_true]
    refine Qin [6] Tryz.func184 Tryz.results184 Tryz.ntmps184 ?_
    repeat' (first | (with_reducible first | refine Q1 ?_ | refine Qe ?_ | refine Ql ?_ | refine Q2 ?_ | refine Qs ?_ | refine Q4 ?_ | (refine al_go ?_; intro b) | fail) | refine Qc Tryz.call42 (hS.out _) ?_ | refine QL Tryz.call140 (hV.out _) ?_ | refine Qc Tryz.call168 (hR.out _) ?_ | (with_reducible first | refine Q5 ?_ | (refine Q3a ?_; intro hb; try intro hb1) | (refine Q3b ?_; intro hb; try intro hb1) | (refine Q3 ?_ ?_ <;> intro hb <;> try intro hb1) | fail) | fail)
    all_goals exact Qret
  by_cases hs1 : (ns : Int) ≤ slot
  · rw [decide_eq_false (show ¬ slot < ns by omega), Bool.and_false, Bool.false_and, if_neg Bool.false_ne_true]
    refine Qin [6] Tryz.func184 Tryz.results184 Tryz.ntmps184 ?_
    repeat' (first | (with_reducible first | refine Q1 ?_ | refine Qe ?_ | refine Ql ?_ | refine Q2 ?_ | refine Qs ?_ | refine Q4 ?_ | (refine al_go ?_; intro b) | fail) | refine Qc Tryz.call42 (hS.out _) ?_ | refine QL Tryz.call140 (hV.out _) ?_ | refine Qc Tryz.call168 (hR.out _) ?_ | (with_reducible first | refine Q5 ?_ | (refine Q3a ?_; intro hb; try intro hb1) | (refine Q3b ?_; intro hb; try intro hb1) | (refine Q3 ?_ ?_ <;> intro hb <;> try intro hb1) | fail) | fail)
    all_goals exact Qret
  rw [decide_eq_true (show 0 ≤ slot by omega), decide_eq_true (show slot < ns by omega), Bool.true_and, Bool.true_and]
  by_cases k14 : kind = 1 ∨ kind = 2 ∨ kind = 3 ∨ kind = 4
  · rw [if_pos k14, if_neg (show ¬ kind = 5 by omega), ite_self]
    by_cases hv : var = 0
    · rw [beq_iff_eq.2 hv, Bool.true_and]
      rcases k14 with rfl | rfl | rfl | rfl
      all_goals (
        refine Qin [6] Tryz.func184 Tryz.results184 Tryz.ntmps184 ?_
        repeat' (first | (with_reducible first | refine Q1 ?_ | refine Qe ?_ | refine Ql ?_ | refine Q2 ?_ | refine Qs ?_ | refine Q4 ?_ | (refine al_go ?_; intro b) | fail) | refine Qc Tryz.call42 (hS.out _) ?_ | refine QL Tryz.call140 (hV.out _) ?_ | refine Qc Tryz.call168 (hR.out _) ?_ | (with_reducible first | refine Q5 ?_ | (refine Q3a ?_; intro hb; try intro hb1) | (refine Q3b ?_; intro hb; try intro hb1) | (refine Q3 ?_ ?_ <;> intro hb <;> try intro hb1) | fail) | fail)
        all_goals exact Qret)
    · rw [beq_eq_false_iff_ne.2 hv, Bool.false_and]
      have hv2 : (var == 0) = false := beq_eq_false_iff_ne.2 hv
      rcases k14 with rfl | rfl | rfl | rfl
      all_goals (
        refine Qin [6] Tryz.func184 Tryz.results184 Tryz.ntmps184 ?_
        repeat' (first | (with_reducible first | refine Q1 ?_ | refine Qe ?_ | refine Ql ?_ | refine Q2 ?_ | refine Qs ?_ | refine Q4 ?_ | (refine al_go ?_; intro b) | fail) | refine Qc Tryz.call42 (hS.out _) ?_ | refine QL Tryz.call140 (hV.out _) ?_ | refine Qc Tryz.call168 (hR.out _) ?_ | (with_reducible first | refine Q5 ?_ | (refine Q3a ?_; intro hb; try intro hb1) | (refine Q3b ?_; intro hb; try intro hb1) | (refine Q3 ?_ ?_ <;> intro hb <;> try intro hb1) | fail) | fail)
        all_goals exact Qret)
  rw [if_neg k14]
  by_cases hk0 : kind < 1
  · rw [if_neg (by omega), if_neg (by omega), if_neg Bool.false_ne_true]
    have b1 : (kind == 1) = false := beq_eq_false_iff_ne.2 (by omega)
    have b2 : (kind == 2) = false := beq_eq_false_iff_ne.2 (by omega)
    have b3 : (kind == 3) = false := beq_eq_false_iff_ne.2 (by omega)
    have b4 : (kind == 4) = false := beq_eq_false_iff_ne.2 (by omega)
    have b5 : (kind == 5) = false := beq_eq_false_iff_ne.2 (by omega)
    have b6 : (kind == 6) = false := beq_eq_false_iff_ne.2 (by omega)
    have b7 : (kind == 7) = false := beq_eq_false_iff_ne.2 (by omega)
    have b8 : (kind == 8) = false := beq_eq_false_iff_ne.2 (by omega)
    have b9 : (kind == 9) = false := beq_eq_false_iff_ne.2 (by omega)
    refine Qin [6] Tryz.func184 Tryz.results184 Tryz.ntmps184 ?_
    repeat' (first | (with_reducible first | refine Q1 ?_ | refine Qe ?_ | refine Ql ?_ | refine Q2 ?_ | refine Qs ?_ | refine Q4 ?_ | (refine al_go ?_; intro b) | fail) | refine Qc Tryz.call42 (hS.out _) ?_ | refine QL Tryz.call140 (hV.out _) ?_ | refine Qc Tryz.call168 (hR.out _) ?_ | (with_reducible first | refine Q5 ?_ | (refine Q3a ?_; intro hb; try intro hb1) | (refine Q3b ?_; intro hb; try intro hb1) | (refine Q3 ?_ ?_ <;> intro hb <;> try intro hb1) | fail) | fail)
    all_goals exact Qret
  have hbad : qv = false ∨ var < 0 ∨ 8 ≤ var ∨ (qv = true ∧ 0 ≤ var ∧ var < 8) := by
    cases qv
    · exact .inl rfl
    · rcases Int.lt_or_le var 0 with h | h
      · exact .inr (.inl h)
      · rcases Int.lt_or_le var 8 with h' | h'
        · exact .inr (.inr (.inr ⟨rfl, h, h'⟩))
        · exact .inr (.inr (.inl h'))
  have hno : (qv = false ∨ var < 0 ∨ 8 ≤ var) → ∀ q : Bool, (qv && ((decide (0 ≤ var) && decide (var < 8)) && q)) = false := fun h q => by
    rcases h with h | h | h
    · rw [h]; rfl
    · rw [decide_eq_false (show ¬ 0 ≤ var by omega)]; simp
    · rw [decide_eq_false (show ¬ var < 8 by omega)]; simp
  rcases hbad with hb | hb | hb | ⟨hq, hv0, hv8⟩
  · rw [hno (.inl hb), hno (.inl hb), ite_self, ite_self, if_neg Bool.false_ne_true]
    clear hno
    try subst hb
    have g5 : ¬ kind < 5 := by omega
    refine Qin [6] Tryz.func184 Tryz.results184 Tryz.ntmps184 ?_
    repeat' (first | (with_reducible first | refine Q1 ?_ | refine Qe ?_ | refine Ql ?_ | refine Q2 ?_ | refine Qs ?_ | refine Q4 ?_ | (refine al_go ?_; intro b) | fail) | refine Qc Tryz.call42 (hS.out _) ?_ | refine QL Tryz.call140 (hV.out _) ?_ | refine Qc Tryz.call168 (hR.out _) ?_ | (with_reducible first | refine Q5 ?_ | (refine Q3a ?_; intro hb; try intro hb1) | (refine Q3b ?_; intro hb; try intro hb1) | (refine Q3 ?_ ?_ <;> intro hb <;> try intro hb1) | fail) | fail)
    all_goals exact Qret
  · rw [hno (.inr (.inl hb)), hno (.inr (.inl hb)), ite_self, ite_self, if_neg Bool.false_ne_true]
    clear hno
    try subst hb
    have g5 : ¬ kind < 5 := by omega
    refine Qin [6] Tryz.func184 Tryz.results184 Tryz.ntmps184 ?_
    repeat' (first | (with_reducible first | refine Q1 ?_ | refine Qe ?_ | refine Ql ?_ | refine Q2 ?_ | refine Qs ?_ | refine Q4 ?_ | (refine al_go ?_; intro b) | fail) | refine Qc Tryz.call42 (hS.out _) ?_ | refine QL Tryz.call140 (hV.out _) ?_ | refine Qc Tryz.call168 (hR.out _) ?_ | (with_reducible first | refine Q5 ?_ | (refine Q3a ?_; intro hb; try intro hb1) | (refine Q3b ?_; intro hb; try intro hb1) | (refine Q3 ?_ ?_ <;> intro hb <;> try intro hb1) | fail) | fail)
    all_goals exact Qret
  · rw [hno (.inr (.inr hb)), hno (.inr (.inr hb)), ite_self, ite_self, if_neg Bool.false_ne_true]
    clear hno
    try subst hb
    have g5 : ¬ kind < 5 := by omega
    refine Qin [6] Tryz.func184 Tryz.results184 Tryz.ntmps184 ?_
    repeat' (first | (with_reducible first | refine Q1 ?_ | refine Qe ?_ | refine Ql ?_ | refine Q2 ?_ | refine Qs ?_ | refine Q4 ?_ | (refine al_go ?_; intro b) | fail) | refine Qc Tryz.call42 (hS.out _) ?_ | refine QL Tryz.call140 (hV.out _) ?_ | refine Qc Tryz.call168 (hR.out _) ?_ | (with_reducible first | refine Q5 ?_ | (refine Q3a ?_; intro hb; try intro hb1) | (refine Q3b ?_; intro hb; try intro hb1) | (refine Q3 ?_ ?_ <;> intro hb <;> try intro hb1) | fail) | fail)
    all_goals exact Qret
  clear hno
  subst hq
  rw [decide_eq_true hv0, decide_eq_true hv8, Bool.true_and, Bool.true_and, Bool.true_and, Bool.true_and]
  by_cases k5 : kind = 5
  · subst k5
    rw [if_pos rfl, if_pos rfl]
    cases neg with
    | true =>
      rw [Bool.not_true, Bool.false_and, if_neg Bool.false_ne_true]
      refine Qin [6] Tryz.func184 Tryz.results184 Tryz.ntmps184 ?_
      repeat' (first | (with_reducible first | refine Q1 ?_ | refine Qe ?_ | refine Ql ?_ | refine Q2 ?_ | refine Qs ?_ | refine Q4 ?_ | (refine al_go ?_; intro b) | fail) | refine Qc Tryz.call42 (hS.out _) ?_ | refine QL Tryz.call140 (hV.out _) ?_ | refine Qc Tryz.call168 (hR.out _) ?_ | (with_reducible first | refine Q5 ?_ | (refine Q3a ?_; intro hb; try intro hb1) | (refine Q3b ?_; intro hb; try intro hb1) | (refine Q3 ?_ ?_ <;> intro hb <;> try intro hb1) | fail) | fail)
      all_goals exact Qret
    | false =>
      rw [Bool.not_false, Bool.true_and]
      cases qb with
      | true =>
        rw [Bool.not_true, if_neg Bool.false_ne_true]
        refine Qin [6] Tryz.func184 Tryz.results184 Tryz.ntmps184 ?_
        repeat' (first | (with_reducible first | refine Q1 ?_ | refine Qe ?_ | refine Ql ?_ | refine Q2 ?_ | refine Qs ?_ | refine Q4 ?_ | (refine al_go ?_; intro b) | fail) | refine Qc Tryz.call42 (hS.out _) ?_ | refine QL Tryz.call140 (hV.out _) ?_ | refine Qc Tryz.call168 (hR.out _) ?_ | (with_reducible first | refine Q5 ?_ | (refine Q3a ?_; intro hb; try intro hb1) | (refine Q3b ?_; intro hb; try intro hb1) | (refine Q3 ?_ ?_ <;> intro hb <;> try intro hb1) | fail) | fail)
        all_goals exact Qret
      | false =>
        rw [Bool.not_false, if_pos rfl]
        have hi := hins.out rfl
        have hmem : decide (var ∈ insK B var) = true := by rw [hi]; simp
        rw [← hi]
        clear hi hins
        refine Qin [6] Tryz.func184 Tryz.results184 Tryz.ntmps184 ?_
        repeat' (first | (with_reducible first | refine Q1 ?_ | refine Qe ?_ | refine Ql ?_ | refine Q2 ?_ | refine Qs ?_ | refine Q4 ?_ | (refine al_go ?_; intro b) | fail) | refine Qc Tryz.call42 (hS.out _) ?_ | refine QL Tryz.call140 (hV.out _) ?_ | refine Qc Tryz.call168 (hR.out _) ?_ | (with_reducible first | refine Q5 ?_ | (refine Q3a ?_; intro hb; try intro hb1) | (refine Q3b ?_; intro hb; try intro hb1) | (refine Q3 ?_ ?_ <;> intro hb <;> try intro hb1) | fail) | fail)
        all_goals exact Qret
  rw [if_neg k5, if_neg k5, ite_self]
  by_cases k69 : kind = 6 ∨ kind = 7 ∨ kind = 8 ∨ kind = 9
  · rw [if_pos k69]
    rcases k69 with rfl | rfl | rfl | rfl
    all_goals (
      refine Qin [6] Tryz.func184 Tryz.results184 Tryz.ntmps184 ?_
      repeat' (first | (with_reducible first | refine Q1 ?_ | refine Qe ?_ | refine Ql ?_ | refine Q2 ?_ | refine Qs ?_ | refine Q4 ?_ | (refine al_go ?_; intro b) | fail) | refine Qc Tryz.call42 (hS.out _) ?_ | refine QL Tryz.call140 (hV.out _) ?_ | refine Qc Tryz.call168 (hR.out _) ?_ | (with_reducible first | refine Q5 ?_ | (refine Q3a ?_; intro hb; try intro hb1) | (refine Q3b ?_; intro hb; try intro hb1) | (refine Q3 ?_ ?_ <;> intro hb <;> try intro hb1) | fail) | fail)
      all_goals exact Qret)
  rw [if_neg k69]
  have b5 : (kind == 5) = false := beq_eq_false_iff_ne.2 k5
  have b1 : (kind == 1) = false := beq_eq_false_iff_ne.2 (by omega)
  have b2 : (kind == 2) = false := beq_eq_false_iff_ne.2 (by omega)
  have b3 : (kind == 3) = false := beq_eq_false_iff_ne.2 (by omega)
  have b4 : (kind == 4) = false := beq_eq_false_iff_ne.2 (by omega)
  have b6 : (kind == 6) = false := beq_eq_false_iff_ne.2 (by omega)
  have b7 : (kind == 7) = false := beq_eq_false_iff_ne.2 (by omega)
  have b8 : (kind == 8) = false := beq_eq_false_iff_ne.2 (by omega)
  have b9 : (kind == 9) = false := beq_eq_false_iff_ne.2 (by omega)
  refine Qin [6] Tryz.func184 Tryz.results184 Tryz.ntmps184 ?_
  repeat' (first | (with_reducible first | refine Q1 ?_ | refine Qe ?_ | refine Ql ?_ | refine Q2 ?_ | refine Qs ?_ | refine Q4 ?_ | (refine al_go ?_; intro b) | fail) | refine Qc Tryz.call42 (hS.out _) ?_ | refine QL Tryz.call140 (hV.out _) ?_ | refine Qc Tryz.call168 (hR.out _) ?_ | (with_reducible first | refine Q5 ?_ | (refine Q3a ?_; intro hb; try intro hb1) | (refine Q3b ?_; intro hb; try intro hb1) | (refine Q3 ?_ ?_ <;> intro hb <;> try intro hb1) | fail) | fail)
  all_goals exact Qret
end Go.Proofs.YtgcienlfpnpbgaaGreat
end

section
namespace Go.Proofs.YtgcienlfpnpbgaaGreat
set_option linter.unusedSimpArgs false
attribute [local push_cast] encB encI encC V.cells_mk V.cells_len Nat.mul_one Int.sub_zero List.map_nil beq_self_eq_true bne_self_eq_false List.head?_cons
open Go.RowKit
set_option maxRecDepth 10000
set_option maxHeartbeats 8000000
abbrev lookC (LS : List (List D)) (nm : ByteArray) (sal : Int) (PS AS : List (List D)) (r : Nat) : List D := [.sl .shared LS, .str nm, .i sal, .sl .shared PS, .sl .shared AS, .mp r]
namespace Rul
def testS (ns : Int) (neg : Bool) (B : List Int) (t : Ts) : Bool × List Int := (!testB ns neg B t, if testB ns neg B t = true then testN B t else B)
theorem anyS_tests (ns : Int) (neg : Bool) : ∀ (l : List Ts) (B : List Int), anyS (testS ns neg) B l = (!(testsF ns neg l B).1, (testsF ns neg l B).2)
  | [], B => rfl
  | t :: l, B => by
    rw [anyS, testsF]
    unfold testS
    cases h : testB ns neg B t with
    | true =>
      dsimp only
      rw [if_neg (by decide), if_pos rfl, if_pos rfl]
      exact anyS_tests ns neg l _
    | false => rfl
def patS (L : List Tm) (B : List Int) (p : Pt) : Bool × List Int := (!(patF L B p).1, (patF L B p).2)
theorem anyS_pats (L : List Tm) : ∀ (l : List Pt) (B : List Int), anyS (patS L) B l = (!(patsF L l B).1, (patsF L l B).2)
  | [], B => rfl
  | p :: l, B => by
    rw [anyS, patsF]
    unfold patS
    cases h : (patF L B p).1 with
    | true =>
      dsimp only
      rw [if_neg (by decide), if_pos rfl]
      exact anyS_pats L l _
    | false => rfl
end Rul
theorem rulePat1F (L : List Tm) (hL : ∀ t ∈ L, TOk t) (hl : L.length ≤ 1000000) (nm : ByteArray) (sal : Int) (PS AS : List (List D)) (r : Nat) (p : Pt) (t : Ts) (ht : VQ t.val) (B : List Int) (st : St) : TrF Tryz.prog 183 [.agg t.cells, .ip [.ip (lookC (L.map Tm.cells) nm sal PS AS r)], .ip p.cells] (bmap r B :: st) fun d st' => d = .b (Rul.testS (Rul.slots L p.tmpl).length p.neg B t).1 ∧ st' = bmap r (Rul.testS (Rul.slots L p.tmpl).length p.neg B t).2 :: st := by
  have hT := ruleTestF L hL hl nm sal PS AS r p t ht B st
  unfold Rul.testS
  dsimp only
  generalize (if Rul.testB _ _ _ _ = true then Rul.testN B t else B) = B2 at *
  generalize Rul.testB _ _ _ _ = q at *
  generalize L.map Tm.cells = LS at *
  cases p with
  | mk tmpl neg tests =>
  cases t with
  | mk kind slot var val =>
  cases val with
  | mk k1 n1 s1 l1 =>
  unfold Pt.cells at *
  rw [Ts.cells_mk] at *
  dsimp only at *
  generalize tests.map Ts.cells = TS at *
  replace hT := Lib.hid hT
  refine Qin [4] Tryz.func183 Tryz.results183 Tryz.ntmps183 ?_
  repeat' (first | (with_reducible first | refine Q1 ?_ | refine Qe ?_ | refine Ql ?_ | refine Q2 ?_ | refine Qs ?_ | refine Q4 ?_ | (refine al_go ?_; intro b) | fail) | refine Qc Tryz.call184 hT.out ?_ | (with_reducible first | refine Q5 ?_ | (refine Q3a ?_; intro hb; try intro hb1) | (refine Q3b ?_; intro hb; try intro hb1) | (refine Q3 ?_ ?_ <;> intro hb <;> try intro hb1) | fail) | fail)
  all_goals exact Qret
theorem rulePatF (L : List Tm) (hL : ∀ t ∈ L, TOk t) (hl : L.length ≤ 1000000) (nm : ByteArray) (sal : Int) (PS AS : List (List D)) (r : Nat) (p : Pt) (ht : ∀ t ∈ p.tests, VQ t.val) (htl : p.tests.length ≤ 1000000) (B : List Int) (st : St) : TrF Tryz.prog 151 [.ip (lookC (L.map Tm.cells) nm sal PS AS r), .agg p.cells] (bmap r B :: st) fun d st' => d = .b (Rul.patF L B p).1 ∧ st' = bmap r (Rul.patF L B p).2 :: st := by
  have hC := conFTest 183 [.ip [.ip (lookC (L.map Tm.cells) nm sal PS AS r)], .ip p.cells] Tryz.call183 p.tests htl (Rul.testS (Rul.slots L p.tmpl).length p.neg) (fun B => bmap r B :: st) (fun t h B => rulePat1F L hL hl nm sal PS AS r p t (ht t h) B st) B
  rw [Rul.anyS_tests] at hC
  unfold Rul.patF
  have hm : (L.map Tm.cells).length = L.length := List.length_map ..
  have hm2 : (p.tests.map Ts.cells).length = p.tests.length := List.length_map ..
  dsimp only at hC
  generalize Rul.testsF _ _ _ _ = q at *
  obtain ⟨q, B2⟩ := q
  dsimp only at *
  generalize L.map Tm.cells = LS at *
  clear ht hL
  cases p with
  | mk tmpl neg tests =>
  unfold Pt.cells at *
  dsimp only at *
  generalize tests.map Ts.cells = TS at *
  replace hC := Lib.hid hC
  by_cases h1 : tmpl < 0
  · rw [if_neg (by omega)]
    refine Qin [4] Tryz.func151 Tryz.results151 Tryz.ntmps151 ?_
    repeat' (with_reducible first | refine Q1 ?_ | refine Qe ?_ | refine Ql ?_ | refine Q2 ?_ | refine Qs ?_ | refine Q4 ?_ | (refine al_go ?_; intro b) | refine Q5 ?_ | (refine Q3a ?_; intro hb; try intro hb1) | (refine Q3b ?_; intro hb; try intro hb1) | (refine Q3 ?_ ?_ <;> intro hb <;> try intro hb1) | fail)
    all_goals exact Qret
  by_cases h2 : (L.length : Int) ≤ tmpl
  · rw [if_neg (by omega)]
    refine Qin [4] Tryz.func151 Tryz.results151 Tryz.ntmps151 ?_
    repeat' (with_reducible first | refine Q1 ?_ | refine Qe ?_ | refine Ql ?_ | refine Q2 ?_ | refine Qs ?_ | refine Q4 ?_ | (refine al_go ?_; intro b) | refine Q5 ?_ | (refine Q3a ?_; intro hb; try intro hb1) | (refine Q3b ?_; intro hb; try intro hb1) | (refine Q3 ?_ ?_ <;> intro hb <;> try intro hb1) | fail)
    all_goals exact Qret
  by_cases h3 : 6 < (tests.length : Int)
  · rw [if_neg (by omega)]
    refine Qin [4] Tryz.func151 Tryz.results151 Tryz.ntmps151 ?_
    repeat' (with_reducible first | refine Q1 ?_ | refine Qe ?_ | refine Ql ?_ | refine Q2 ?_ | refine Qs ?_ | refine Q4 ?_ | (refine al_go ?_; intro b) | refine Q5 ?_ | (refine Q3a ?_; intro hb; try intro hb1) | (refine Q3b ?_; intro hb; try intro hb1) | (refine Q3 ?_ ?_ <;> intro hb <;> try intro hb1) | fail)
    all_goals exact Qret
  rw [if_pos (by omega)]
  cases q
  all_goals (
    refine Qin [4] Tryz.func151 Tryz.results151 Tryz.ntmps151 ?_
    repeat' (first | (with_reducible first | refine Q1 ?_ | refine Qe ?_ | refine Ql ?_ | refine Q2 ?_ | refine Qs ?_ | refine Q4 ?_ | (refine al_go ?_; intro b) | fail) | refine Qc Tryz.call182 hC.out ?_ | (with_reducible first | refine Q5 ?_ | (refine Q3a ?_; intro hb; try intro hb1) | (refine Q3b ?_; intro hb; try intro hb1) | (refine Q3 ?_ ?_ <;> intro hb <;> try intro hb1) | fail) | fail)
    all_goals exact Qret)
theorem ruleOne1F (L : List Tm) (hL : ∀ t ∈ L, TOk t) (hl : L.length ≤ 1000000) (nm : ByteArray) (sal : Int) (PS AS : List (List D)) (r b : Nat) (p : Pt) (ht : ∀ t ∈ p.tests, VQ t.val) (htl : p.tests.length ≤ 1000000) (B : List Int) (st : St) : TrF Tryz.prog 150 [.agg p.cells, .ptr b 0] (.box b 172 [.ip (lookC (L.map Tm.cells) nm sal PS AS r)] :: bmap r B :: st) fun d st' => d = .b (Rul.patS L B p).1 ∧ st' = .box b 172 [.ip (lookC (L.map Tm.cells) nm sal PS AS r)] :: bmap r (Rul.patS L B p).2 :: st := by
  have hP := rulePatF L hL hl nm sal PS AS r p ht htl B
  unfold Rul.patS
  generalize Rul.patF L B p = q at *
  obtain ⟨q, B2⟩ := q
  dsimp only at *
  generalize L.map Tm.cells = LS at *
  clear ht hL htl
  cases p with
  | mk tmpl neg tests =>
  unfold Pt.cells at *
  dsimp only at *
  generalize tests.map Ts.cells = TS at *
  replace hP := Lib.hid hP
  cases q
  all_goals (
    refine Qin [3] Tryz.func150 Tryz.results150 Tryz.ntmps150 ?_
    repeat' (first | (with_reducible first | refine Q1 ?_ | refine Qe ?_ | refine Ql ?_ | refine Q2 ?_ | refine Qs ?_ | refine Q4 ?_ | (refine al_go ?_; intro b) | fail) | refine QR Tryz.call151 hP.out ?_ | (with_reducible first | refine Q5 ?_ | (refine Q3a ?_; intro hb; try intro hb1) | (refine Q3b ?_; intro hb; try intro hb1) | (refine Q3 ?_ ?_ <;> intro hb <;> try intro hb1) | fail) | fail)
    all_goals exact Qret)
theorem ruleExprF (LS : List (List D)) (nm : ByteArray) (sal : Int) (PS AS : List (List D)) (r : Nat) (e : Ex) (s : Sl) (he : VQ e.val) (B : List Int) (st : St) : TrF Tryz.prog 186 [.ip (lookC LS nm sal PS AS r), .agg e.cells, .agg s.cells] (bmap r B :: st) fun d st' => d = .b (Rul.exprB B e s) ∧ st' = bmap r B :: st := by
  have hV := valSameB e.val V.zero he.ok.bg zero_ok.bg
  have hF := schFitsF s.name s.types s.req s.dv e.val (by have := he.nodes; omega)
  rw [zero_cells] at hV
  cases e with
  | mk iv var val =>
  cases s with
  | mk sn sty srq sdv =>
  unfold Rul.exprB
  dsimp only at *
  generalize (val.cmp V.zero == 0) = qv at *
  generalize Sch.fits _ val = qf at *
  generalize hqb : decide (var ∈ B) = qb at *
  clear he
  cases val with
  | mk k1 n1 s1 l1 =>
  cases sdv with
  | mk k2 n2 s2 l2 =>
  rw [Ex.cells_mk]
  rw [Sl.cells_mk] at *
  rw [V.cells_mk] at hV hF
  generalize l1.map V.cells = VL at *
  generalize l2.map V.cells = VL2 at *
  replace hV := Lib.hid hV
  replace hF := Lib.hid hF
  cases iv with
  | true =>
    rw [if_pos rfl]
    cases qb
    all_goals (
      refine Qin [6] Tryz.func186 Tryz.results186 Tryz.ntmps186 ?_
      repeat' (first | (with_reducible first | refine Q1 ?_ | refine Qe ?_ | refine Ql ?_ | refine Q2 ?_ | refine Qs ?_ | refine Q4 ?_ | (refine al_go ?_; intro b) | fail) | refine QL Tryz.call140 (hV.out _) ?_ | (with_reducible first | refine Q5 ?_ | (refine Q3a ?_; intro hb; try intro hb1) | (refine Q3b ?_; intro hb; try intro hb1) | (refine Q3 ?_ ?_ <;> intro hb <;> try intro hb1) | fail) | fail)
      all_goals exact Qret)
  | false =>
    rw [if_neg Bool.false_ne_true]
    by_cases hv : var = 0
    · rw [beq_iff_eq.2 hv, Bool.true_and]
      refine Qin [6] Tryz.func186 Tryz.results186 Tryz.ntmps186 ?_
      repeat' (first | (with_reducible first | refine Q1 ?_ | refine Qe ?_ | refine Ql ?_ | refine Q2 ?_ | refine Qs ?_ | refine Q4 ?_ | (refine al_go ?_; intro b) | fail) | refine Qc Tryz.call209 (hF.out _) ?_ | (with_reducible first | refine Q5 ?_ | (refine Q3a ?_; intro hb; try intro hb1) | (refine Q3b ?_; intro hb; try intro hb1) | (refine Q3 ?_ ?_ <;> intro hb <;> try intro hb1) | fail) | fail)
      all_goals exact Qret
    · have hv2 : (var == 0) = false := beq_eq_false_iff_ne.2 hv
      rw [hv2, Bool.false_and]
      refine Qin [6] Tryz.func186 Tryz.results186 Tryz.ntmps186 ?_
      repeat' (first | (with_reducible first | refine Q1 ?_ | refine Qe ?_ | refine Ql ?_ | refine Q2 ?_ | refine Qs ?_ | refine Q4 ?_ | (refine al_go ?_; intro b) | fail) | refine Qc Tryz.call209 (hF.out _) ?_ | (with_reducible first | refine Q5 ?_ | (refine Q3a ?_; intro hb; try intro hb1) | (refine Q3b ?_; intro hb; try intro hb1) | (refine Q3 ?_ ?_ <;> intro hb <;> try intro hb1) | fail) | fail)
      all_goals exact Qret
theorem rulePosF (LS : List (List D)) (nm : ByteArray) (sal : Int) (ps : List Pt) (AS : List (List D)) (r : Nat) (k : Int) (st : St) : TrF Tryz.prog 187 [.ip (lookC LS nm sal (ps.map Pt.cells) AS r), .i k] st fun d st' => d = .b (Rul.posB ps k) ∧ st' = st := by
  have hm : (ps.map Pt.cells).length = ps.length := List.length_map ..
  unfold Rul.posB
  by_cases h0 : k < 0
  · rw [decide_eq_false (show ¬ 0 ≤ k by omega), Bool.false_and, Bool.false_and]
    generalize ps.map Pt.cells = PS at *
    refine Qin [4] Tryz.func187 Tryz.results187 Tryz.ntmps187 ?_
    repeat' (with_reducible first | refine Q1 ?_ | refine Qe ?_ | refine Ql ?_ | refine Q2 ?_ | refine Qs ?_ | refine Q4 ?_ | (refine al_go ?_; intro b) | refine Q5 ?_ | (refine Q3a ?_; intro hb; try intro hb1) | (refine Q3b ?_; intro hb; try intro hb1) | (refine Q3 ?_ ?_ <;> intro hb <;> try intro hb1) | fail)
    all_goals exact Qret
  by_cases h1 : (ps.length : Int) ≤ k
  · rw [decide_eq_false (show ¬ k < ps.length by omega), Bool.and_false, Bool.false_and]
    generalize ps.map Pt.cells = PS at *
    refine Qin [4] Tryz.func187 Tryz.results187 Tryz.ntmps187 ?_
    repeat' (with_reducible first | refine Q1 ?_ | refine Qe ?_ | refine Ql ?_ | refine Q2 ?_ | refine Qs ?_ | refine Q4 ?_ | (refine al_go ?_; intro b) | refine Q5 ?_ | (refine Q3a ?_; intro hb; try intro hb1) | (refine Q3b ?_; intro hb; try intro hb1) | (refine Q3 ?_ ?_ <;> intro hb <;> try intro hb1) | fail)
    all_goals exact Qret
  rw [decide_eq_true (show 0 ≤ k by omega), decide_eq_true (show k < ps.length by omega), Bool.true_and, Bool.true_and]
  obtain ⟨n, rfl⟩ : ∃ n : Nat, (n : Int) = k := ⟨k.toNat, Int.toNat_of_nonneg (by omega)⟩
  obtain ⟨p, hp⟩ : ∃ p, ps[n]? = some p := ⟨_, List.getElem?_eq_getElem (by omega)⟩
  have hc : (ps.map Pt.cells)[n]? = some p.cells := by rw [List.getElem?_map, hp]; rfl
  rw [Int.toNat_natCast, hp, Option.any_some]
  clear hp
  generalize ps.map Pt.cells = PS at *
  cases p with
  | mk tmpl neg tests =>
  unfold Pt.cells at *
  dsimp only at *
  generalize tests.map Ts.cells = TS at *
  refine Qin [4] Tryz.func187 Tryz.results187 Tryz.ntmps187 ?_
  repeat' (with_reducible first | refine Q1 ?_ | refine Qe ?_ | refine Ql ?_ | refine Q2 ?_ | refine Qs ?_ | refine Q4 ?_ | (refine al_go ?_; intro b) | refine Q5 ?_ | (refine Q3a ?_; intro hb; try intro hb1) | (refine Q3b ?_; intro hb; try intro hb1) | (refine Q3 ?_ ?_ <;> intro hb <;> try intro hb1) | fail)
  all_goals exact Qret
end Go.Proofs.YtgcienlfpnpbgaaGreat
end

section
namespace Go.Proofs.YtgcienlfpnpbgaaGreat
set_option linter.unusedSimpArgs false
attribute [local push_cast] encB encI encC V.cells_mk V.cells_len Nat.mul_one Int.sub_zero List.map_nil beq_self_eq_true bne_self_eq_false List.head?_cons
open Go.RowKit
set_option maxRecDepth 10000
set_option maxHeartbeats 16000000
namespace Rul
theorem exprsB_drop {B : List Int} {l : List Ex} {m : List Sl} {i : Nat} {e : Ex} {s : Sl} (h1 : l[i]? = some e) (h2 : m[i]? = some s) : exprsB B (l.drop i) (m.drop i) = (exprB B e s && exprsB B (l.drop (i + 1)) (m.drop (i + 1))) := by
  obtain ⟨k1, rfl⟩ := List.getElem?_eq_some_iff.1 h1
  obtain ⟨k2, rfl⟩ := List.getElem?_eq_some_iff.1 h2
  rw [List.drop_eq_getElem_cons k1, List.drop_eq_getElem_cons k2, exprsB]
end Rul
theorem ruleActMakeF (L : List Tm) (hL : ∀ t ∈ L, TOk t) (hl : L.length ≤ 1000000) (nm : ByteArray) (sal : Int) (ps : List Pt) (AS : List (List D)) (r : Nat) (pat tmpl slot : Int) (vals : List Ex) (ha : ∀ e ∈ vals, VQ e.val) (hvl : vals.length ≤ 1000000) (B : List Int) (st : St) : TrF Tryz.prog 154 [.ip (lookC (L.map Tm.cells) nm sal (ps.map Pt.cells) AS r), .agg (Ac.mk 1 pat tmpl slot vals).cells] (bmap r B :: st) fun d st' => d = .b (Rul.actB L ps B ⟨1, pat, tmpl, slot, vals⟩) ∧ st' = bmap r B :: st := by
  have hS := ruleSlotsF L hL hl tmpl
  have e0 : Rul.actB L ps B ⟨1, pat, tmpl, slot, vals⟩ = (((pat == 0) && (slot == 0)) && ((decide ((Rul.slots L tmpl).length ≠ 0) && decide (vals.length = (Rul.slots L tmpl).length)) && Rul.exprsB B vals (Rul.slots L tmpl))) := rfl
  rw [e0]
  clear e0 hL hl
  generalize Rul.slots L tmpl = SL at *
  generalize L.map Tm.cells = LS at *
  generalize ps.map Pt.cells = PS at *
  unfold Ac.cells
  dsimp only
  have hm1 : (vals.map Ex.cells).length = vals.length := List.length_map ..
  have hm2 : (SL.map Sl.cells).length = SL.length := List.length_map ..
  have hc1 : Hid (∀ (i : Nat) (v : Ex), vals[i]? = some v → (vals.map Ex.cells)[i]? = some v.cells) := fun i v h => by rw [List.getElem?_map, h]; rfl
  have hc2 : Hid (∀ (i : Nat) (v : Sl), SL[i]? = some v → (SL.map Sl.cells)[i]? = some v.cells) := fun i v h => by rw [List.getElem?_map, h]; rfl
  have hE := Lib.hid fun (e : Ex) (he : e ∈ vals) (s : Sl) => ruleExprF LS nm sal PS AS r e s (ha e he) B
  clear ha
  generalize vals.map Ex.cells = ES at *
  generalize SL.map Sl.cells = SS at *
  replace hS := Lib.hid hS
  by_cases h1 : pat = 0
  rotate_left
  · have b1 : (pat == 0) = false := beq_eq_false_iff_ne.2 h1
    rw [b1, Bool.false_and, Bool.false_and]
    refine Qin [4] Tryz.func154 Tryz.results154 Tryz.ntmps154 ?_
    repeat' (first | (with_reducible first | refine Q1 ?_ | refine Qe ?_ | refine Ql ?_ | refine Q2 ?_ | refine Qs ?_ | refine Q4 ?_ | (refine al_go ?_; intro b) | fail) | refine Qc Tryz.call42 (hS.out _) ?_ | (with_reducible first | refine Q5 ?_ | (refine Q3a ?_; intro hb; try intro hb1) | (refine Q3b ?_; intro hb; try intro hb1) | (refine Q3 ?_ ?_ <;> intro hb <;> try intro hb1) | fail) | fail)
    all_goals exact Qret
  subst h1
  by_cases h2 : slot = 0
  rotate_left
  · have b2 : (slot == 0) = false := beq_eq_false_iff_ne.2 h2
    rw [b2, Bool.and_false, Bool.false_and]
    refine Qin [4] Tryz.func154 Tryz.results154 Tryz.ntmps154 ?_
    repeat' (first | (with_reducible first | refine Q1 ?_ | refine Qe ?_ | refine Ql ?_ | refine Q2 ?_ | refine Qs ?_ | refine Q4 ?_ | (refine al_go ?_; intro b) | fail) | refine Qc Tryz.call42 (hS.out _) ?_ | (with_reducible first | refine Q5 ?_ | (refine Q3a ?_; intro hb; try intro hb1) | (refine Q3b ?_; intro hb; try intro hb1) | (refine Q3 ?_ ?_ <;> intro hb <;> try intro hb1) | fail) | fail)
    all_goals exact Qret
  subst h2
  rw [beq_self_eq_true, Bool.true_and, Bool.true_and]
  by_cases h3 : SL.length = 0
  · rw [decide_eq_false (fun h => h h3), Bool.false_and, Bool.false_and]
    refine Qin [4] Tryz.func154 Tryz.results154 Tryz.ntmps154 ?_
    repeat' (first | (with_reducible first | refine Q1 ?_ | refine Qe ?_ | refine Ql ?_ | refine Q2 ?_ | refine Qs ?_ | refine Q4 ?_ | (refine al_go ?_; intro b) | fail) | refine Qc Tryz.call42 (hS.out _) ?_ | (with_reducible first | refine Q5 ?_ | (refine Q3a ?_; intro hb; try intro hb1) | (refine Q3b ?_; intro hb; try intro hb1) | (refine Q3 ?_ ?_ <;> intro hb <;> try intro hb1) | fail) | fail)
    all_goals exact Qret
  by_cases h4 : vals.length = SL.length
  rotate_left
  · rw [decide_eq_false h4, Bool.and_false, Bool.false_and]
    have h5 : ¬ (vals.length : Int) = (SL.length : Int) := by omega
    refine Qin [4] Tryz.func154 Tryz.results154 Tryz.ntmps154 ?_
    repeat' (first | (with_reducible first | refine Q1 ?_ | refine Qe ?_ | refine Ql ?_ | refine Q2 ?_ | refine Qs ?_ | refine Q4 ?_ | (refine al_go ?_; intro b) | fail) | refine Qc Tryz.call42 (hS.out _) ?_ | (with_reducible first | refine Q5 ?_ | (refine Q3a ?_; intro hb; try intro hb1) | (refine Q3b ?_; intro hb; try intro hb1) | (refine Q3 ?_ ?_ <;> intro hb <;> try intro hb1) | fail) | fail)
    all_goals exact Qret
  rw [decide_eq_true h3, decide_eq_true h4, Bool.true_and, Bool.true_and]
  obtain ⟨Q, hQ⟩ : ∃ Q, Rul.exprsB B vals SL = Q := ⟨_, rfl⟩
  rw [hQ]
  have HQ : Hid (Rul.exprsB B (vals.drop 0) (SL.drop 0) = Q) := hQ
  clear hQ
  have h5 : (vals.length : Int) = (SL.length : Int) := by omega
  have h6 : ¬ (SL.length : Int) = 0 := by omega
  refine Qin [4] Tryz.func154 Tryz.results154 Tryz.ntmps154 ?_
  repeat' (first | (with_reducible first | refine Q1 ?_ | refine Qe ?_ | refine Ql ?_ | refine Q2 ?_ | refine Qs ?_ | refine Q4 ?_ | (refine al_go ?_; intro b) | fail) | refine Qc Tryz.call42 (hS.out _) ?_ | (with_reducible first | refine Q5 ?_ | (refine Q3a ?_; intro hb; try intro hb1) | (refine Q3b ?_; intro hb; try intro hb1) | (refine Q3 ?_ ?_ <;> intro hb <;> try intro hb1) | fail) | fail)
  clear hS
  refine tr_loopd (ι := Nat) (fun i A st' => i ≤ vals.length ∧ Hid (Rul.exprsB B (vals.drop i) (SL.drop i) = Q) ∧ A.df = [] ∧ A.e 0 = .ip (lookC LS nm sal PS AS r) ∧ A.e 5 = .sl .shared SS ∧ A.e 42 = .sl .shared ES ∧ A.e 43 = .i vals.length ∧ A.e 44 = .i i ∧ st' = bmap r B :: st) (fun i => vals.length - i) 0 ⟨Nat.zero_le _, HQ, Qf, Qf, Qf, Qf, Qf, Qf, rfl⟩ ?_
  clear HQ
  rintro i A st' ⟨hi, HT, hdf, e0, e5, e42, e43, e44, rfl⟩
  by_cases hlt : i < vals.length
  · obtain ⟨e, he⟩ : ∃ e, vals[i]? = some e := ⟨_, List.getElem?_eq_getElem hlt⟩
    obtain ⟨s, hs⟩ : ∃ s, SL[i]? = some s := ⟨_, List.getElem?_eq_getElem (by omega)⟩
    have g1 := hc1.out i e he
    have g2 := hc2.out i s hs
    have hF := hE.out e (List.mem_of_getElem? he) s
    have HE := HT.out
    rw [Rul.exprsB_drop he hs] at HE
    clear HT he hs hE hc1 hc2
    obtain ⟨G, hGG⟩ : ∃ G, Rul.exprsB B (vals.drop (i + 1)) (SL.drop (i + 1)) = G := ⟨_, rfl⟩
    rw [hGG] at HE
    replace hGG := Lib.hid hGG
    generalize Rul.exprB B e s = q at *
    cases e with
    | mk iv var val =>
    cases s with
    | mk an at_ ar av =>
    cases val with
    | mk k1 n1 s1 l1 =>
    cases av with
    | mk k2 n2 s2 l2 =>
    rw [Ex.cells_mk] at g1 hF
    rw [Sl.cells_mk] at g2 hF
    replace hF := Lib.hid hF
    have hi5 : i < SL.length := by omega
    cases q with
    | true =>
      rw [Bool.true_and] at HE
      replace HE := Lib.hid (hGG.out.trans HE)
      clear hGG
      repeat' (first | (with_reducible first | refine Q1 ?_ | refine Qe ?_ | fail) | ((with_reducible refine w_drawRN ?_ ?_ ?_ ?_); (iterate 3 (focus kernel_rfl)); intro hne; simp only [nes, ne1, and_assoc] at hne; repeat (have hq := hne.1; replace hne := hne.2)) | (with_reducible first | refine Ql ?_ | refine Q2 ?_ | refine Qs ?_ | refine Q4 ?_ | (refine al_go ?_; intro b) | fail) | refine QR Tryz.call186 hF.out ?_ | (with_reducible first | refine Q5 ?_ | (refine Q3a ?_; intro hb; try intro hb1) | (refine Q3b ?_; intro hb; try intro hb1) | (refine Q3 ?_ ?_ <;> intro hb <;> try intro hb1) | fail) | fail)
      refine ⟨i + 1, bmap r B :: st, (by (repeat (first | exact List.Sublist.refl _ | apply List.Sublist.cons))), ⟨hlt, HE, ?_, ?_, ?_, ?_, ?_, ?_, rfl⟩, by omega⟩
      all_goals exact Qf
    | false =>
      rw [Bool.false_and] at HE
      subst HE
      clear hGG
      repeat' (first | (with_reducible first | refine Q1 ?_ | refine Qe ?_ | fail) | ((with_reducible refine w_drawRN ?_ ?_ ?_ ?_); (iterate 3 (focus kernel_rfl)); intro hne; simp only [nes, ne1, and_assoc] at hne; repeat (have hq := hne.1; replace hne := hne.2)) | (with_reducible first | refine Ql ?_ | refine Q2 ?_ | refine Qs ?_ | refine Q4 ?_ | (refine al_go ?_; intro b) | fail) | refine QR Tryz.call186 hF.out ?_ | (with_reducible first | refine Q5 ?_ | (refine Q3a ?_; intro hb; try intro hb1) | (refine Q3b ?_; intro hb; try intro hb1) | (refine Q3 ?_ ?_ <;> intro hb <;> try intro hb1) | fail) | fail)
      all_goals exact Qret
  · have HE := HT.out
    rw [List.drop_of_length_le (by omega), Rul.exprsB] at HE
    · subst HE
      clear HT
      repeat' (with_reducible first | refine Q1 ?_ | refine Qe ?_ | refine Ql ?_ | refine Q2 ?_ | refine Qs ?_ | refine Q4 ?_ | (refine al_go ?_; intro b) | refine Q5 ?_ | (refine Q3a ?_; intro hb; try intro hb1) | (refine Q3b ?_; intro hb; try intro hb1) | (refine Q3 ?_ ?_ <;> intro hb <;> try intro hb1) | fail)
      all_goals exact Qret
    · intro _ _ _ _ h; cases h
theorem ruleActF (L : List Tm) (hL : ∀ t ∈ L, TOk t) (hl : L.length ≤ 1000000) (nm : ByteArray) (sal : Int) (ps : List Pt) (AS : List (List D)) (r : Nat) (a : Ac) (ha : ∀ e ∈ a.vals, VQ e.val) (hvl : a.vals.length ≤ 1000000) (B : List Int) (st : St) : TrF Tryz.prog 154 [.ip (lookC (L.map Tm.cells) nm sal (ps.map Pt.cells) AS r), .agg a.cells] (bmap r B :: st) fun d st' => d = .b (Rul.actB L ps B a) ∧ st' = bmap r B :: st := by
  cases a with
  | mk kind pat tmpl slot vals =>
  by_cases k1 : kind = 1
  · subst k1
    exact ruleActMakeF L hL hl nm sal ps AS r pat tmpl slot vals ha hvl B st
  have hP := rulePosF (L.map Tm.cells) nm sal ps AS r pat
  have hm1 : (vals.map Ex.cells).length = vals.length := List.length_map ..
  have b1 : (kind == 1) = false := beq_eq_false_iff_ne.2 k1
  by_cases k2 : kind = 2
  · subst k2
    have e0 : Rul.actB L ps B ⟨2, pat, tmpl, slot, vals⟩ = (Rul.posB ps pat && ((tmpl == 0) && ((slot == 0) && decide (vals.length = 0)))) := rfl
    rw [e0]
    unfold Ac.cells
    dsimp only
    generalize Rul.posB ps pat = q at *
    generalize L.map Tm.cells = LS at *
    generalize ps.map Pt.cells = PS at *
    generalize vals.map Ex.cells = ES at *
    replace hP := Lib.hid hP
    cases q with
    | false =>
      rw [Bool.false_and]
      refine Qin [4] Tryz.func154 Tryz.results154 Tryz.ntmps154 ?_
      repeat' (first | (with_reducible first | refine Q1 ?_ | refine Qe ?_ | refine Ql ?_ | refine Q2 ?_ | refine Qs ?_ | refine Q4 ?_ | (refine al_go ?_; intro b) | fail) | refine Qc Tryz.call187 (hP.out _) ?_ | (with_reducible first | refine Q5 ?_ | (refine Q3a ?_; intro hb; try intro hb1) | (refine Q3b ?_; intro hb; try intro hb1) | (refine Q3 ?_ ?_ <;> intro hb <;> try intro hb1) | fail) | fail)
      all_goals exact Qret
    | true =>
    rw [Bool.true_and]
    by_cases h1 : tmpl = 0
    rotate_left
    · have b1 : (tmpl == 0) = false := beq_eq_false_iff_ne.2 h1
      rw [b1, Bool.false_and]
      refine Qin [4] Tryz.func154 Tryz.results154 Tryz.ntmps154 ?_
      repeat' (first | (with_reducible first | refine Q1 ?_ | refine Qe ?_ | refine Ql ?_ | refine Q2 ?_ | refine Qs ?_ | refine Q4 ?_ | (refine al_go ?_; intro b) | fail) | refine Qc Tryz.call187 (hP.out _) ?_ | (with_reducible first | refine Q5 ?_ | (refine Q3a ?_; intro hb; try intro hb1) | (refine Q3b ?_; intro hb; try intro hb1) | (refine Q3 ?_ ?_ <;> intro hb <;> try intro hb1) | fail) | fail)
      all_goals exact Qret
    subst h1
    by_cases h2 : slot = 0
    rotate_left
    · have b2 : (slot == 0) = false := beq_eq_false_iff_ne.2 h2
      rw [b2, Bool.false_and, Bool.and_false]
      refine Qin [4] Tryz.func154 Tryz.results154 Tryz.ntmps154 ?_
      repeat' (first | (with_reducible first | refine Q1 ?_ | refine Qe ?_ | refine Ql ?_ | refine Q2 ?_ | refine Qs ?_ | refine Q4 ?_ | (refine al_go ?_; intro b) | fail) | refine Qc Tryz.call187 (hP.out _) ?_ | (with_reducible first | refine Q5 ?_ | (refine Q3a ?_; intro hb; try intro hb1) | (refine Q3b ?_; intro hb; try intro hb1) | (refine Q3 ?_ ?_ <;> intro hb <;> try intro hb1) | fail) | fail)
      all_goals exact Qret
    subst h2
    rw [beq_self_eq_true, Bool.true_and, Bool.true_and]
    by_cases h3 : vals.length = 0
    · rw [decide_eq_true h3]
      have h4 : (vals.length : Int) = 0 := by omega
      refine Qin [4] Tryz.func154 Tryz.results154 Tryz.ntmps154 ?_
      repeat' (first | (with_reducible first | refine Q1 ?_ | refine Qe ?_ | refine Ql ?_ | refine Q2 ?_ | refine Qs ?_ | refine Q4 ?_ | (refine al_go ?_; intro b) | fail) | refine Qc Tryz.call187 (hP.out _) ?_ | (with_reducible first | refine Q5 ?_ | (refine Q3a ?_; intro hb; try intro hb1) | (refine Q3b ?_; intro hb; try intro hb1) | (refine Q3 ?_ ?_ <;> intro hb <;> try intro hb1) | fail) | fail)
      all_goals exact Qret
    · rw [decide_eq_false h3]
      have h4 : ¬ (vals.length : Int) = 0 := by omega
      have h5 : ((vals.length : Int) == 0) = false := beq_eq_false_iff_ne.2 h4
      refine Qin [4] Tryz.func154 Tryz.results154 Tryz.ntmps154 ?_
      repeat' (first | (with_reducible first | refine Q1 ?_ | refine Qe ?_ | refine Ql ?_ | refine Q2 ?_ | refine Qs ?_ | refine Q4 ?_ | (refine al_go ?_; intro b) | fail) | refine Qc Tryz.call187 (hP.out _) ?_ | (with_reducible first | refine Q5 ?_ | (refine Q3a ?_; intro hb; try intro hb1) | (refine Q3b ?_; intro hb; try intro hb1) | (refine Q3 ?_ ?_ <;> intro hb <;> try intro hb1) | fail) | fail)
      all_goals exact Qret
  have b2 : (kind == 2) = false := beq_eq_false_iff_ne.2 k2
  by_cases k3 : kind = 3
  · subst k3
    have e0 : Rul.actB L ps B ⟨3, pat, tmpl, slot, vals⟩ = ((Rul.posB ps pat && ((tmpl == 0) && decide (vals.length = 1))) && (match (generalizing := false) ps[pat.toNat]?, vals with
      | some p, [e] => decide (0 ≤ slot) && (decide (slot < (Rul.slots L p.tmpl).length) && (match (Rul.slots L p.tmpl)[slot.toNat]? with | some s => Rul.exprB B e s | none => false))
      | _, _ => false)) := rfl
    rw [e0]
    clear e0
    cases hq : Rul.posB ps pat with
    | false =>
      rw [hq] at hP
      rw [Bool.false_and, Bool.false_and]
      unfold Ac.cells
      dsimp only
      generalize L.map Tm.cells = LS at *
      generalize ps.map Pt.cells = PS at *
      generalize vals.map Ex.cells = ES at *
      replace hP := Lib.hid hP
      refine Qin [4] Tryz.func154 Tryz.results154 Tryz.ntmps154 ?_
      repeat' (first | (with_reducible first | refine Q1 ?_ | refine Qe ?_ | refine Ql ?_ | refine Q2 ?_ | refine Qs ?_ | refine Q4 ?_ | (refine al_go ?_; intro b) | fail) | refine Qc Tryz.call187 (hP.out _) ?_ | (with_reducible first | refine Q5 ?_ | (refine Q3a ?_; intro hb; try intro hb1) | (refine Q3b ?_; intro hb; try intro hb1) | (refine Q3 ?_ ?_ <;> intro hb <;> try intro hb1) | fail) | fail)
      all_goals exact Qret
    | true =>
    rw [hq] at hP
    rw [Bool.true_and]
    by_cases h1 : tmpl = 0
    rotate_left
    · have b1 : (tmpl == 0) = false := beq_eq_false_iff_ne.2 h1
      rw [b1, Bool.false_and, Bool.false_and]
      unfold Ac.cells
      dsimp only
      generalize L.map Tm.cells = LS at *
      generalize ps.map Pt.cells = PS at *
      generalize vals.map Ex.cells = ES at *
      replace hP := Lib.hid hP
      refine Qin [4] Tryz.func154 Tryz.results154 Tryz.ntmps154 ?_
      repeat' (first | (with_reducible first | refine Q1 ?_ | refine Qe ?_ | refine Ql ?_ | refine Q2 ?_ | refine Qs ?_ | refine Q4 ?_ | (refine al_go ?_; intro b) | fail) | refine Qc Tryz.call187 (hP.out _) ?_ | (with_reducible first | refine Q5 ?_ | (refine Q3a ?_; intro hb; try intro hb1) | (refine Q3b ?_; intro hb; try intro hb1) | (refine Q3 ?_ ?_ <;> intro hb <;> try intro hb1) | fail) | fail)
      all_goals exact Qret
    subst h1
    rw [beq_self_eq_true, Bool.true_and]
    by_cases h2 : vals.length = 1
    rotate_left
    · rw [decide_eq_false h2, Bool.false_and]
      have h3 : ¬ (vals.length : Int) = 1 := by omega
      unfold Ac.cells
      dsimp only
      generalize L.map Tm.cells = LS at *
      generalize ps.map Pt.cells = PS at *
      generalize vals.map Ex.cells = ES at *
      replace hP := Lib.hid hP
      refine Qin [4] Tryz.func154 Tryz.results154 Tryz.ntmps154 ?_
      repeat' (first | (with_reducible first | refine Q1 ?_ | refine Qe ?_ | refine Ql ?_ | refine Q2 ?_ | refine Qs ?_ | refine Q4 ?_ | (refine al_go ?_; intro b) | fail) | refine Qc Tryz.call187 (hP.out _) ?_ | (with_reducible first | refine Q5 ?_ | (refine Q3a ?_; intro hb; try intro hb1) | (refine Q3b ?_; intro hb; try intro hb1) | (refine Q3 ?_ ?_ <;> intro hb <;> try intro hb1) | fail) | fail)
      all_goals exact Qret
    rw [decide_eq_true h2, Bool.true_and]
    obtain ⟨e, rfl⟩ : ∃ e, vals = [e] := List.length_eq_one_iff.1 h2
    unfold Rul.posB at hq
    rw [Bool.and_eq_true, Bool.and_eq_true, decide_eq_true_eq, decide_eq_true_eq] at hq
    obtain ⟨⟨hp0, hp1⟩, -⟩ := hq
    obtain ⟨n, rfl⟩ : ∃ n : Nat, (n : Int) = pat := ⟨pat.toNat, Int.toNat_of_nonneg hp0⟩
    obtain ⟨p, hp⟩ : ∃ p, ps[n]? = some p := ⟨_, List.getElem?_eq_getElem (by omega)⟩
    have hpc : (ps.map Pt.cells)[n]? = some p.cells := by rw [List.getElem?_map, hp]; rfl
    have hpl : (ps.map Pt.cells).length = ps.length := List.length_map ..
    rw [Int.toNat_natCast, hp]
    dsimp only
    have hS := ruleSlotsF L hL hl p.tmpl
    have hE := fun s => ruleExprF (L.map Tm.cells) nm sal (ps.map Pt.cells) AS r e s (ha e (List.mem_singleton.2 rfl)) B
    have hm2 : ((Rul.slots L p.tmpl).map Sl.cells).length = (Rul.slots L p.tmpl).length := List.length_map ..
    have hc2 : ∀ (i : Nat) (v : Sl), (Rul.slots L p.tmpl)[i]? = some v → ((Rul.slots L p.tmpl).map Sl.cells)[i]? = some v.cells := fun i v h => by rw [List.getElem?_map, h]; rfl
    generalize Rul.slots L p.tmpl = SL at *
    clear hp ha hL hl hvl h2 hm1
    generalize L.map Tm.cells = LS at *
    generalize ps.map Pt.cells = PS at *
    generalize SL.map Sl.cells = SS at *
    unfold Ac.cells Pt.cells at *
    dsimp only at *
    rw [List.map_cons, List.map_nil]
    cases p with
    | mk ptm pneg pts =>
    dsimp only at *
    generalize pts.map Ts.cells = TS at *
    replace hP := Lib.hid hP
    replace hS := Lib.hid hS
    cases e with
    | mk iv var val =>
    cases val with
    | mk ek en es el =>
    rw [Ex.cells_mk] at *
    by_cases s0 : slot < 0
    · rw [decide_eq_false (show ¬ 0 ≤ slot by omega), Bool.false_and]
      clear hE hc2
      refine Qin [4] Tryz.func154 Tryz.results154 Tryz.ntmps154 ?_
      repeat' (first | (with_reducible first | refine Q1 ?_ | refine Qe ?_ | fail) | ((with_reducible refine w_drawRN ?_ ?_ ?_ ?_); (iterate 3 (focus kernel_rfl)); intro hne; simp only [nes, ne1, and_assoc] at hne; repeat (have hq := hne.1; replace hne := hne.2)) | (with_reducible first | refine Ql ?_ | refine Q2 ?_ | refine Qs ?_ | refine Q4 ?_ | (refine al_go ?_; intro b) | fail) | refine Qc Tryz.call187 (hP.out _) ?_ | refine Qc Tryz.call42 (hS.out _) ?_ | (with_reducible first | refine Q5 ?_ | (refine Q3a ?_; intro hb; try intro hb1) | (refine Q3b ?_; intro hb; try intro hb1) | (refine Q3 ?_ ?_ <;> intro hb <;> try intro hb1) | fail) | fail)
      all_goals exact Qret
    by_cases s1 : (SL.length : Int) ≤ slot
    · rw [decide_eq_false (show ¬ slot < SL.length by omega), Bool.false_and, Bool.and_false]
      clear hE hc2
      refine Qin [4] Tryz.func154 Tryz.results154 Tryz.ntmps154 ?_
      repeat' (first | (with_reducible first | refine Q1 ?_ | refine Qe ?_ | fail) | ((with_reducible refine w_drawRN ?_ ?_ ?_ ?_); (iterate 3 (focus kernel_rfl)); intro hne; simp only [nes, ne1, and_assoc] at hne; repeat (have hq := hne.1; replace hne := hne.2)) | (with_reducible first | refine Ql ?_ | refine Q2 ?_ | refine Qs ?_ | refine Q4 ?_ | (refine al_go ?_; intro b) | fail) | refine Qc Tryz.call187 (hP.out _) ?_ | refine Qc Tryz.call42 (hS.out _) ?_ | (with_reducible first | refine Q5 ?_ | (refine Q3a ?_; intro hb; try intro hb1) | (refine Q3b ?_; intro hb; try intro hb1) | (refine Q3 ?_ ?_ <;> intro hb <;> try intro hb1) | fail) | fail)
      all_goals exact Qret
    rw [decide_eq_true (show 0 ≤ slot by omega), decide_eq_true (show slot < SL.length by omega), Bool.true_and, Bool.true_and]
    obtain ⟨m, rfl⟩ : ∃ m : Nat, (m : Int) = slot := ⟨slot.toNat, Int.toNat_of_nonneg (by omega)⟩
    obtain ⟨s, hs⟩ : ∃ s, SL[m]? = some s := ⟨_, List.getElem?_eq_getElem (by omega)⟩
    have hsc := hc2 m s hs
    have hF := hE s
    rw [Int.toNat_natCast, hs]
    dsimp only
    clear hE hc2 hs
    generalize Rul.exprB B _ s = q at *
    cases s with
    | mk an at_ ar av =>
    cases av with
    | mk k2 n2 s2 l2 =>
    rw [Sl.cells_mk] at hsc hF
    replace hF := Lib.hid hF
    have hm3 : m < SL.length := by omega
    have hn3 : n < ps.length := by omega
    refine Qin [4] Tryz.func154 Tryz.results154 Tryz.ntmps154 ?_
    repeat' (first | (with_reducible first | refine Q1 ?_ | refine Qe ?_ | fail) | ((with_reducible refine w_drawRN ?_ ?_ ?_ ?_); (iterate 3 (focus kernel_rfl)); intro hne; simp only [nes, ne1, and_assoc] at hne; repeat (have hq := hne.1; replace hne := hne.2)) | (with_reducible first | refine Ql ?_ | refine Q2 ?_ | refine Qs ?_ | refine Q4 ?_ | (refine al_go ?_; intro b) | fail) | refine Qc Tryz.call187 (hP.out _) ?_ | refine Qc Tryz.call42 (hS.out _) ?_ | refine QR Tryz.call186 hF.out ?_ | (with_reducible first | refine Q5 ?_ | (refine Q3a ?_; intro hb; try intro hb1) | (refine Q3b ?_; intro hb; try intro hb1) | (refine Q3 ?_ ?_ <;> intro hb <;> try intro hb1) | fail) | fail)
    all_goals exact Qret
  have b3 : (kind == 3) = false := beq_eq_false_iff_ne.2 k3
  have e0 : Rul.actB L ps B ⟨kind, pat, tmpl, slot, vals⟩ = ((kind == 4) && ((pat == 0) && ((tmpl == 0) && ((slot == 0) && decide (vals.length = 0))))) := by
    unfold Rul.actB
    rw [if_neg k1, if_neg k2, if_neg k3]
  rw [e0]
  unfold Ac.cells
  dsimp only
  clear e0 hP ha
  generalize L.map Tm.cells = LS at *
  generalize ps.map Pt.cells = PS at *
  generalize vals.map Ex.cells = ES at *
  by_cases h0 : kind = 4
  rotate_left
  · have c1 : (kind == 4) = false := beq_eq_false_iff_ne.2 h0
    rw [c1, Bool.false_and]
    refine Qin [4] Tryz.func154 Tryz.results154 Tryz.ntmps154 ?_
    repeat' (with_reducible first | refine Q1 ?_ | refine Qe ?_ | refine Ql ?_ | refine Q2 ?_ | refine Qs ?_ | refine Q4 ?_ | (refine al_go ?_; intro b) | refine Q5 ?_ | (refine Q3a ?_; intro hb; try intro hb1) | (refine Q3b ?_; intro hb; try intro hb1) | (refine Q3 ?_ ?_ <;> intro hb <;> try intro hb1) | fail)
    all_goals exact Qret
  subst h0
  rw [beq_self_eq_true, Bool.true_and]
  by_cases h1 : pat = 0
  rotate_left
  · have c1 : (pat == 0) = false := beq_eq_false_iff_ne.2 h1
    rw [c1, Bool.false_and]
    refine Qin [4] Tryz.func154 Tryz.results154 Tryz.ntmps154 ?_
    repeat' (with_reducible first | refine Q1 ?_ | refine Qe ?_ | refine Ql ?_ | refine Q2 ?_ | refine Qs ?_ | refine Q4 ?_ | (refine al_go ?_; intro b) | refine Q5 ?_ | (refine Q3a ?_; intro hb; try intro hb1) | (refine Q3b ?_; intro hb; try intro hb1) | (refine Q3 ?_ ?_ <;> intro hb <;> try intro hb1) | fail)
    all_goals exact Qret
  subst h1
  rw [beq_self_eq_true, Bool.true_and]
  by_cases h2 : tmpl = 0
  rotate_left
  · have c1 : (tmpl == 0) = false := beq_eq_false_iff_ne.2 h2
    rw [c1, Bool.false_and]
    refine Qin [4] Tryz.func154 Tryz.results154 Tryz.ntmps154 ?_
    repeat' (with_reducible first | refine Q1 ?_ | refine Qe ?_ | refine Ql ?_ | refine Q2 ?_ | refine Qs ?_ | refine Q4 ?_ | (refine al_go ?_; intro b) | refine Q5 ?_ | (refine Q3a ?_; intro hb; try intro hb1) | (refine Q3b ?_; intro hb; try intro hb1) | (refine Q3 ?_ ?_ <;> intro hb <;> try intro hb1) | fail)
    all_goals exact Qret
  subst h2
  rw [beq_self_eq_true, Bool.true_and]
  by_cases h3 : slot = 0
  rotate_left
  · have c1 : (slot == 0) = false := beq_eq_false_iff_ne.2 h3
    rw [c1, Bool.false_and]
    refine Qin [4] Tryz.func154 Tryz.results154 Tryz.ntmps154 ?_
    repeat' (with_reducible first | refine Q1 ?_ | refine Qe ?_ | refine Ql ?_ | refine Q2 ?_ | refine Qs ?_ | refine Q4 ?_ | (refine al_go ?_; intro b) | refine Q5 ?_ | (refine Q3a ?_; intro hb; try intro hb1) | (refine Q3b ?_; intro hb; try intro hb1) | (refine Q3 ?_ ?_ <;> intro hb <;> try intro hb1) | fail)
    all_goals exact Qret
  subst h3
  rw [beq_self_eq_true, Bool.true_and]
  by_cases h3 : vals.length = 0
  · rw [decide_eq_true h3]
    have h4 : (vals.length : Int) = 0 := by omega
    refine Qin [4] Tryz.func154 Tryz.results154 Tryz.ntmps154 ?_
    repeat' (with_reducible first | refine Q1 ?_ | refine Qe ?_ | refine Ql ?_ | refine Q2 ?_ | refine Qs ?_ | refine Q4 ?_ | (refine al_go ?_; intro b) | refine Q5 ?_ | (refine Q3a ?_; intro hb; try intro hb1) | (refine Q3b ?_; intro hb; try intro hb1) | (refine Q3 ?_ ?_ <;> intro hb <;> try intro hb1) | fail)
    all_goals exact Qret
  · rw [decide_eq_false h3]
    have h4 : ¬ (vals.length : Int) = 0 := by omega
    have h5 : ((vals.length : Int) == 0) = false := beq_eq_false_iff_ne.2 h4
    refine Qin [4] Tryz.func154 Tryz.results154 Tryz.ntmps154 ?_
    repeat' (with_reducible first | refine Q1 ?_ | refine Qe ?_ | refine Ql ?_ | refine Q2 ?_ | refine Qs ?_ | refine Q4 ?_ | (refine al_go ?_; intro b) | refine Q5 ?_ | (refine Q3a ?_; intro hb; try intro hb1) | (refine Q3b ?_; intro hb; try intro hb1) | (refine Q3 ?_ ?_ <;> intro hb <;> try intro hb1) | fail)
    all_goals exact Qret
end Go.Proofs.YtgcienlfpnpbgaaGreat
end

section
namespace Go.Proofs.YtgcienlfpnpbgaaGreat
set_option linter.unusedSimpArgs false
attribute [local push_cast] encB encI encC V.cells_mk V.cells_len Nat.mul_one Int.sub_zero List.map_nil beq_self_eq_true bne_self_eq_false List.head?_cons
open Go.RowKit
set_option maxRecDepth 10000
set_option maxHeartbeats 16000000
namespace Rul
def actS (L : List Tm) (ps : List Pt) (B : List Int) (a : Ac) : Bool × List Int := (!actB L ps B a, B)
theorem anyS_acts (L : List Tm) (ps : List Pt) (B : List Int) : ∀ l : List Ac, anyS (actS L ps) B l = (!(l.all fun a => actB L ps B a), B)
  | [] => rfl
  | a :: l => by
    rw [anyS, List.all_cons]
    unfold actS
    cases h : actB L ps B a with
    | true =>
      dsimp only
      rw [if_neg (by decide), Bool.true_and]
      exact anyS_acts L ps B l
    | false => rfl
structure RK (x : Rl) : Prop where
  nm : x.name.size ≤ 900000
  np : x.pats.length ≤ 100
  na : x.acts.length ≤ 100
  nt : ∀ p ∈ x.pats, p.tests.length ≤ 100
  nv : ∀ a ∈ x.acts, a.vals.length ≤ 100
  vt : ∀ p ∈ x.pats, ∀ t ∈ p.tests, VQ t.val
  va : ∀ a ∈ x.acts, ∀ e ∈ a.vals, VQ e.val
end Rul
theorem ruleOne2F (L : List Tm) (hL : ∀ t ∈ L, TOk t) (hl : L.length ≤ 1000000) (nm : ByteArray) (sal : Int) (ps : List Pt) (AS : List (List D)) (r b : Nat) (a : Ac) (ha : ∀ e ∈ a.vals, VQ e.val) (hvl : a.vals.length ≤ 1000000) (B : List Int) (st : St) : TrF Tryz.prog 153 [.agg a.cells, .ptr b 0] (.box b 172 [.ip (lookC (L.map Tm.cells) nm sal (ps.map Pt.cells) AS r)] :: bmap r B :: st) fun d st' => d = .b (Rul.actS L ps B a).1 ∧ st' = .box b 172 [.ip (lookC (L.map Tm.cells) nm sal (ps.map Pt.cells) AS r)] :: bmap r (Rul.actS L ps B a).2 :: st := by
  have hP := ruleActF L hL hl nm sal ps AS r a ha hvl B
  unfold Rul.actS
  dsimp only
  generalize Rul.actB L ps B a = q at *
  generalize L.map Tm.cells = LS at *
  generalize ps.map Pt.cells = PS at *
  clear ha hL hl hvl
  cases a with
  | mk kind pat tmpl slot vals =>
  unfold Ac.cells at *
  dsimp only at *
  generalize vals.map Ex.cells = ES at *
  replace hP := Lib.hid hP
  cases q
  all_goals (
    refine Qin [3] Tryz.func153 Tryz.results153 Tryz.ntmps153 ?_
    repeat' (first | (with_reducible first | refine Q1 ?_ | refine Qe ?_ | refine Ql ?_ | refine Q2 ?_ | refine Qs ?_ | refine Q4 ?_ | (refine al_go ?_; intro b) | fail) | refine QR Tryz.call154 hP.out ?_ | (with_reducible first | refine Q5 ?_ | (refine Q3a ?_; intro hb; try intro hb1) | (refine Q3b ?_; intro hb; try intro hb1) | (refine Q3 ?_ ?_ <;> intro hb <;> try intro hb1) | fail) | fail)
    all_goals exact Qret)
theorem ruleOneF (L : List Tm) (hL : ∀ t ∈ L, TOk t) (hl : L.length ≤ 1000000) (x : Rl) (hx : Rul.RK x) (st : St) : TrF Tryz.prog 86 [.sl .shared (L.map Tm.cells), .agg x.cells] st fun d st' => d = .b (Rul.oneB L x) ∧ st' = st := by
  have hC := fun (r b : Nat) => conFPat 150 [.ptr b 0] Tryz.call150 x.pats (by have := hx.np; omega) (Rul.patS L) (fun B => .box b 172 [.ip (lookC (L.map Tm.cells) x.name x.sal (x.pats.map Pt.cells) (x.acts.map Ac.cells) r)] :: bmap r B :: st) (fun p h B => ruleOne1F L hL hl x.name x.sal _ _ r b p (hx.vt p h) (by have := hx.nt p h; omega) B st) []
  have hA := fun (r b : Nat) => conFAct 153 [.ptr b 0] Tryz.call153 x.acts (by have := hx.na; omega) (Rul.actS L x.pats) (fun B => .box b 172 [.ip (lookC (L.map Tm.cells) x.name x.sal (x.pats.map Pt.cells) (x.acts.map Ac.cells) r)] :: bmap r B :: st) (fun a h B => ruleOne2F L hL hl x.name x.sal x.pats _ r b a (hx.va a h) (by have := hx.nv a h; omega) B st) (Rul.patsF L x.pats []).2
  have hN := valIsNameF x.name
  have hm1 : (x.pats.map Pt.cells).length = x.pats.length := List.length_map ..
  have hm2 : (x.acts.map Ac.cells).length = x.acts.length := List.length_map ..
  have hc0 : ∀ p, x.pats[0]? = some p → (x.pats.map Pt.cells)[0]? = some p.cells := fun p h => by rw [List.getElem?_map, h]; rfl
  rw [Rul.anyS_pats] at hC
  rw [Rul.anyS_acts] at hA
  unfold Rul.oneB Rul.headB
  dsimp only at hC hA
  generalize (x.acts.all fun a => Rul.actB L x.pats (Rul.patsF L x.pats []).2 a) = q2 at *
  generalize Rul.patsF L x.pats [] = qq at *
  obtain ⟨q1, B2⟩ := qq
  dsimp only at *
  cases x with
  | mk nm sal ps acts =>
  unfold Rl.cells
  dsimp only at *
  clear hx hL
  generalize V.isName nm.data.toList = qn at *
  generalize L.map Tm.cells = LS at *
  generalize ps.map Pt.cells = PS at *
  generalize acts.map Ac.cells = AS at *
  replace hN := Lib.hid hN
  replace hC := Lib.hid hC
  replace hA := Lib.hid hA
  cases qn with
  | false =>
    rw [Bool.false_and, Bool.false_and]
    refine Qin [4] Tryz.func86 Tryz.results86 Tryz.ntmps86 ?_
    repeat' (first | (with_reducible first | refine Q1 ?_ | refine Qe ?_ | refine Ql ?_ | refine Q2 ?_ | refine Qs ?_ | refine Q4 ?_ | (refine al_go ?_; intro b) | fail) | refine Qc Tryz.call148 (hN.out _) ?_ | (with_reducible first | refine Q5 ?_ | (refine Q3a ?_; intro hb; try intro hb1) | (refine Q3b ?_; intro hb; try intro hb1) | (refine Q3 ?_ ?_ <;> intro hb <;> try intro hb1) | fail) | fail)
    all_goals exact Qret
  | true =>
  rw [Bool.true_and]
  by_cases s1 : sal < -100
  · rw [decide_eq_false (show ¬ -100 ≤ sal by omega), Bool.false_and, Bool.false_and, Bool.false_and]
    refine Qin [4] Tryz.func86 Tryz.results86 Tryz.ntmps86 ?_
    repeat' (first | (with_reducible first | refine Q1 ?_ | refine Qe ?_ | refine Ql ?_ | refine Q2 ?_ | refine Qs ?_ | refine Q4 ?_ | (refine al_go ?_; intro b) | fail) | refine Qc Tryz.call148 (hN.out _) ?_ | (with_reducible first | refine Q5 ?_ | (refine Q3a ?_; intro hb; try intro hb1) | (refine Q3b ?_; intro hb; try intro hb1) | (refine Q3 ?_ ?_ <;> intro hb <;> try intro hb1) | fail) | fail)
    all_goals exact Qret
  by_cases s2 : 100 < sal
  · rw [decide_eq_false (show ¬ sal ≤ 100 by omega), Bool.and_false, Bool.false_and, Bool.false_and]
    refine Qin [4] Tryz.func86 Tryz.results86 Tryz.ntmps86 ?_
    repeat' (first | (with_reducible first | refine Q1 ?_ | refine Qe ?_ | refine Ql ?_ | refine Q2 ?_ | refine Qs ?_ | refine Q4 ?_ | (refine al_go ?_; intro b) | fail) | refine Qc Tryz.call148 (hN.out _) ?_ | (with_reducible first | refine Q5 ?_ | (refine Q3a ?_; intro hb; try intro hb1) | (refine Q3b ?_; intro hb; try intro hb1) | (refine Q3 ?_ ?_ <;> intro hb <;> try intro hb1) | fail) | fail)
    all_goals exact Qret
  rw [decide_eq_true (show -100 ≤ sal by omega), decide_eq_true (show sal ≤ 100 by omega), Bool.true_and, Bool.true_and]
  by_cases s3 : (ps.length : Int) < 1
  · rw [decide_eq_false (show ¬ 1 ≤ ps.length by omega), Bool.false_and, Bool.false_and, Bool.false_and]
    refine Qin [4] Tryz.func86 Tryz.results86 Tryz.ntmps86 ?_
    repeat' (first | (with_reducible first | refine Q1 ?_ | refine Qe ?_ | refine Ql ?_ | refine Q2 ?_ | refine Qs ?_ | refine Q4 ?_ | (refine al_go ?_; intro b) | fail) | refine Qc Tryz.call148 (hN.out _) ?_ | (with_reducible first | refine Q5 ?_ | (refine Q3a ?_; intro hb; try intro hb1) | (refine Q3b ?_; intro hb; try intro hb1) | (refine Q3 ?_ ?_ <;> intro hb <;> try intro hb1) | fail) | fail)
    all_goals exact Qret
  by_cases s4 : 4 < (ps.length : Int)
  · rw [decide_eq_false (show ¬ ps.length ≤ 4 by omega), Bool.and_false, Bool.false_and, Bool.false_and]
    refine Qin [4] Tryz.func86 Tryz.results86 Tryz.ntmps86 ?_
    repeat' (first | (with_reducible first | refine Q1 ?_ | refine Qe ?_ | refine Ql ?_ | refine Q2 ?_ | refine Qs ?_ | refine Q4 ?_ | (refine al_go ?_; intro b) | fail) | refine Qc Tryz.call148 (hN.out _) ?_ | (with_reducible first | refine Q5 ?_ | (refine Q3a ?_; intro hb; try intro hb1) | (refine Q3b ?_; intro hb; try intro hb1) | (refine Q3 ?_ ?_ <;> intro hb <;> try intro hb1) | fail) | fail)
    all_goals exact Qret
  rw [decide_eq_true (show 1 ≤ ps.length by omega), decide_eq_true (show ps.length ≤ 4 by omega), Bool.true_and, Bool.true_and]
  obtain ⟨p, hp⟩ : ∃ p, ps[0]? = some p := ⟨_, List.getElem?_eq_getElem (by omega)⟩
  have hpc := hc0 p hp
  rw [hp, Option.any_some]
  clear hp hc0
  unfold Pt.cells at hpc
  cases p with
  | mk ptm png pts =>
  dsimp only at *
  generalize pts.map Ts.cells = TS at *
  cases png with
  | true =>
    rw [Bool.not_true, Bool.false_and, Bool.false_and]
    refine Qin [4] Tryz.func86 Tryz.results86 Tryz.ntmps86 ?_
    repeat' (first | (with_reducible first | refine Q1 ?_ | refine Qe ?_ | refine Ql ?_ | refine Q2 ?_ | refine Qs ?_ | refine Q4 ?_ | (refine al_go ?_; intro b) | fail) | refine Qc Tryz.call148 (hN.out _) ?_ | (with_reducible first | refine Q5 ?_ | (refine Q3a ?_; intro hb; try intro hb1) | (refine Q3b ?_; intro hb; try intro hb1) | (refine Q3 ?_ ?_ <;> intro hb <;> try intro hb1) | fail) | fail)
    all_goals exact Qret
  | false =>
  rw [Bool.not_false, Bool.true_and]
  by_cases s5 : 4 < (acts.length : Int)
  · rw [decide_eq_false (show ¬ acts.length ≤ 4 by omega), Bool.false_and]
    refine Qin [4] Tryz.func86 Tryz.results86 Tryz.ntmps86 ?_
    repeat' (first | (with_reducible first | refine Q1 ?_ | refine Qe ?_ | refine Ql ?_ | refine Q2 ?_ | refine Qs ?_ | refine Q4 ?_ | (refine al_go ?_; intro b) | fail) | refine Qc Tryz.call148 (hN.out _) ?_ | (with_reducible first | refine Q5 ?_ | (refine Q3a ?_; intro hb; try intro hb1) | (refine Q3b ?_; intro hb; try intro hb1) | (refine Q3 ?_ ?_ <;> intro hb <;> try intro hb1) | fail) | fail)
    all_goals exact Qret
  rw [decide_eq_true (show acts.length ≤ 4 by omega), Bool.true_and]
  cases q1 with
  | false =>
    rw [Bool.false_and]
    refine Qin [4] Tryz.func86 Tryz.results86 Tryz.ntmps86 ?_
    repeat' (first | (with_reducible first | refine Q1 ?_ | refine Qe ?_ | fail) | ((with_reducible refine mm_go ?_); intro bm) | (with_reducible first | refine Ql ?_ | refine Q2 ?_ | refine Qs ?_ | refine Q4 ?_ | (refine al_go ?_; intro b) | fail) | refine Qc Tryz.call148 (hN.out _) ?_ | refine Qc Tryz.call149 (hC.out _ _) ?_ | (with_reducible first | refine Q5 ?_ | (refine Q3a ?_; intro hb; try intro hb1) | (refine Q3b ?_; intro hb; try intro hb1) | (refine Q3 ?_ ?_ <;> intro hb <;> try intro hb1) | fail) | fail)
    all_goals exact Qret
  | true =>
  rw [Bool.true_and]
  cases q2
  all_goals (
    refine Qin [4] Tryz.func86 Tryz.results86 Tryz.ntmps86 ?_
    repeat' (first | (with_reducible first | refine Q1 ?_ | refine Qe ?_ | fail) | ((with_reducible refine mm_go ?_); intro bm) | (with_reducible first | refine Ql ?_ | refine Q2 ?_ | refine Qs ?_ | refine Q4 ?_ | (refine al_go ?_; intro b) | fail) | refine Qc Tryz.call148 (hN.out _) ?_ | refine Qc Tryz.call149 (hC.out _ _) ?_ | refine Qc Tryz.call152 (hA.out _ _) ?_ | (with_reducible first | refine Q5 ?_ | (refine Q3a ?_; intro hb; try intro hb1) | (refine Q3b ?_; intro hb; try intro hb1) | (refine Q3 ?_ ?_ <;> intro hb <;> try intro hb1) | fail) | fail)
    all_goals exact Qret)
theorem ruleRight1F (x y : Rl) (b : Nat) (st : St) : TrF Tryz.prog 88 [.agg y.cells, .ptr b 0] (.box b 55 x.cells :: st) fun d st' => d = .b (y.name.toList == x.name.toList) ∧ st' = .box b 55 x.cells :: st := by
  unfold Rl.cells
  cases x with
  | mk nm sal ps acts =>
  cases y with
  | mk nm2 sal2 ps2 acts2 =>
  dsimp only
  generalize ps.map Pt.cells = PS at *
  generalize acts.map Ac.cells = AS at *
  generalize ps2.map Pt.cells = PS2 at *
  generalize acts2.map Ac.cells = AS2 at *
  refine Qin [3] Tryz.func88 Tryz.results88 Tryz.ntmps88 ?_
  repeat' (with_reducible first | refine Q1 ?_ | refine Qe ?_ | refine Ql ?_ | refine Q2 ?_ | refine Qs ?_ | refine Q4 ?_ | (refine al_go ?_; intro b) | refine Q5 ?_ | (refine Q3a ?_; intro hb; try intro hb1) | (refine Q3b ?_; intro hb; try intro hb1) | (refine Q3 ?_ ?_ <;> intro hb <;> try intro hb1) | fail)
  all_goals exact Qret
namespace Rul
def nmS (x : Rl) (s : Unit) (y : Rl) : Bool × Unit := (y.name.toList == x.name.toList, s)
theorem anyS_nm (x : Rl) : ∀ l : List Rl, anyS (nmS x) () l = (l.any fun y => y.name.toList == x.name.toList, ())
  | [] => rfl
  | y :: l => by
    rw [anyS, List.any_cons]
    unfold nmS
    cases h : (y.name.toList == x.name.toList) with
    | true => rfl
    | false =>
      dsimp only
      rw [if_neg Bool.false_ne_true, Bool.false_or]
      exact anyS_nm x l
theorem rightL_drop {L : List Tm} {R l : List Rl} {i : Nat} {x : Rl} (h : l[i]? = some x) : rightL L R (l.drop i) i = (oneB L x && (!((R.take i).any fun y => y.name.toList == x.name.toList) && rightL L R (l.drop (i + 1)) (i + 1))) := by
  obtain ⟨h1, rfl⟩ := List.getElem?_eq_some_iff.1 h
  rw [List.drop_eq_getElem_cons h1, rightL]
end Rul
theorem ruleRightF (L : List Tm) (hL : ∀ t ∈ L, TOk t) (hl : L.length ≤ 1000000) (R : List Rl) (hR : ∀ x ∈ R, Rul.RK x) (hRl : R.length ≤ 1000000) (st : St) : TrF Tryz.prog 34 [.sl .shared (L.map Tm.cells), .sl .shared (R.map Rl.cells)] st fun d st' => d = .b (Rul.right L R) ∧ st' = st := by
  have hReg := regRightF L hL hl
  have hO := Lib.hid fun (x : Rl) (h : x ∈ R) => ruleOneF L hL hl x (hR x h)
  have hC := Lib.hid fun (x : Rl) (i b : Nat) => conFRule 88 [.ptr b 0] Tryz.call88 (R.take i) (by rw [List.length_take]; omega) (Rul.nmS x) (fun _ => .box b 55 x.cells :: st) (fun y h s => ruleRight1F x y b st) ()
  have hm : (R.map Rl.cells).length = R.length := List.length_map ..
  have hc : Hid (∀ (i : Nat) (t : Rl), R[i]? = some t → (R.map Rl.cells)[i]? = some t.cells) := fun i t h => by rw [List.getElem?_map, h]; rfl
  have htk : Hid (∀ i : Nat, (R.take i).map Rl.cells = (R.map Rl.cells).take i) := fun i => List.map_take
  unfold Rul.right
  generalize L.map Tm.cells = LS at *
  obtain ⟨RS, hRS⟩ : ∃ RS, R.map Rl.cells = RS := ⟨_, rfl⟩
  rw [hRS] at hm hc htk ⊢
  have hall : (RS.all fun e => e.length == 4) = true := by
    rw [← hRS, List.all_eq_true]
    intro e he
    obtain ⟨x, -, rfl⟩ := List.mem_map.1 he
    rfl
  clear hRS hR
  cases hq : Reg.right L with
  | false =>
    rw [hq] at hReg
    rw [Bool.false_and]
    replace hReg := Lib.hid hReg
    refine Qin [4] Tryz.func34 Tryz.results34 Tryz.ntmps34 ?_
    repeat' (first | (with_reducible first | refine Q1 ?_ | refine Qe ?_ | refine Ql ?_ | refine Q2 ?_ | refine Qs ?_ | refine Q4 ?_ | (refine al_go ?_; intro b) | fail) | refine Qc Tryz.call16 (hReg.out _) ?_ | (with_reducible first | refine Q5 ?_ | (refine Q3a ?_; intro hb; try intro hb1) | (refine Q3b ?_; intro hb; try intro hb1) | (refine Q3 ?_ ?_ <;> intro hb <;> try intro hb1) | fail) | fail)
    all_goals exact Qret
  | true =>
  rw [hq] at hReg
  rw [Bool.true_and]
  replace hReg := Lib.hid hReg
  by_cases h8 : 8 < (R.length : Int)
  · rw [decide_eq_false (show ¬ R.length ≤ 8 by omega), Bool.false_and]
    refine Qin [4] Tryz.func34 Tryz.results34 Tryz.ntmps34 ?_
    repeat' (first | (with_reducible first | refine Q1 ?_ | refine Qe ?_ | refine Ql ?_ | refine Q2 ?_ | refine Qs ?_ | refine Q4 ?_ | (refine al_go ?_; intro b) | fail) | refine Qc Tryz.call16 (hReg.out _) ?_ | (with_reducible first | refine Q5 ?_ | (refine Q3a ?_; intro hb; try intro hb1) | (refine Q3b ?_; intro hb; try intro hb1) | (refine Q3 ?_ ?_ <;> intro hb <;> try intro hb1) | fail) | fail)
    all_goals exact Qret
  rw [decide_eq_true (show R.length ≤ 8 by omega), Bool.true_and]
  obtain ⟨Q, hQ⟩ : ∃ Q, Rul.rightL L R R 0 = Q := ⟨_, rfl⟩
  rw [hQ]
  have HQ : Hid (Rul.rightL L R (R.drop 0) 0 = Q) := hQ
  clear hQ
  refine Qin [4] Tryz.func34 Tryz.results34 Tryz.ntmps34 ?_
  repeat' (first | (with_reducible first | refine Q1 ?_ | refine Qe ?_ | refine Ql ?_ | refine Q2 ?_ | refine Qs ?_ | refine Q4 ?_ | (refine al_go ?_; intro b) | fail) | refine Qc Tryz.call16 (hReg.out _) ?_ | (with_reducible first | refine Q5 ?_ | (refine Q3a ?_; intro hb; try intro hb1) | (refine Q3b ?_; intro hb; try intro hb1) | (refine Q3 ?_ ?_ <;> intro hb <;> try intro hb1) | fail) | fail)
  clear hReg
  refine tr_loopd (ι := Nat) (fun i A st' => i ≤ R.length ∧ Hid (Rul.rightL L R (R.drop i) i = Q) ∧ A.df = [] ∧ A.e 0 = .sl .shared LS ∧ A.e 1 = .sl .shared RS ∧ A.e 15 = .sl .shared RS ∧ A.e 16 = .i R.length ∧ A.e 17 = .i i ∧ st = st') (fun i => R.length - i) 0 ⟨Nat.zero_le _, HQ, Qf, Qf, Qf, Qf, Qf, Qf, rfl⟩ ?_
  rintro i A st' ⟨hi, HT, hdf, e0, e1, e15, e16, e17, rfl⟩
  clear HQ
  by_cases hlt : i < R.length
  · have hle : (i : Int) ≤ R.length := by omega
    have hle2 : i ≤ R.length := by omega
    obtain ⟨x, hx⟩ : ∃ x, R[i]? = some x := ⟨_, List.getElem?_eq_getElem hlt⟩
    have h1 := hc.out i x hx
    have hOx := hO.out x (List.mem_of_getElem? hx)
    have hCx := hC.out x i
    have HE := HT.out
    rw [Rul.rightL_drop hx] at HE
    have htki := htk.out i
    rw [htki, Rul.anyS_nm] at hCx
    dsimp only at hCx
    clear HT hx hO hC hc htk htki
    obtain ⟨G, hGG⟩ : ∃ G, Rul.rightL L R (R.drop (i + 1)) (i + 1) = G := ⟨_, rfl⟩
    rw [hGG] at HE
    replace hGG := Lib.hid hGG
    generalize Rul.oneB L x = q1 at *
    generalize ((R.take i).any fun y => y.name.toList == x.name.toList) = q2 at *
    unfold Rl.cells at h1 hOx hCx
    generalize x.pats.map Pt.cells = PS at *
    generalize x.acts.map Ac.cells = AS at *
    generalize x.name = nm at *
    generalize x.sal = sal at *
    replace hOx := Lib.hid hOx
    replace hCx := Lib.hid hCx
    cases q1 with
    | false =>
      rw [Bool.false_and] at HE
      subst HE
      clear hGG
      repeat' (first | (with_reducible first | refine Q1 ?_ | refine Qe ?_ | refine Ql ?_ | refine Q2 ?_ | refine Qs ?_ | refine Q4 ?_ | (refine al_go ?_; intro b) | fail) | refine Qc Tryz.call86 (hOx.out _) ?_ | (with_reducible first | refine Q5 ?_ | (refine Q3a ?_; intro hb; try intro hb1) | (refine Q3b ?_; intro hb; try intro hb1) | (refine Q3 ?_ ?_ <;> intro hb <;> try intro hb1) | fail) | fail)
      all_goals exact Qret
    | true =>
      rw [Bool.true_and] at HE
      cases q2 with
      | true =>
        rw [Bool.not_true, Bool.false_and] at HE
        subst HE
        clear hGG
        repeat' (first | (with_reducible first | refine Q1 ?_ | refine Qe ?_ | refine Ql ?_ | refine Q2 ?_ | refine Qs ?_ | refine Q4 ?_ | (refine al_go ?_; intro b) | fail) | refine Qc Tryz.call86 (hOx.out _) ?_ | refine Qc Tryz.call87 (hCx.out _) ?_ | (with_reducible first | refine Q5 ?_ | (refine Q3a ?_; intro hb; try intro hb1) | (refine Q3b ?_; intro hb; try intro hb1) | (refine Q3 ?_ ?_ <;> intro hb <;> try intro hb1) | fail) | fail)
        all_goals exact Qret
      | false =>
        rw [Bool.not_false, Bool.true_and] at HE
        replace HE := Lib.hid (hGG.out.trans HE)
        clear hGG
        repeat' (first | (with_reducible first | refine Q1 ?_ | refine Qe ?_ | refine Ql ?_ | refine Q2 ?_ | refine Qs ?_ | refine Q4 ?_ | (refine al_go ?_; intro b) | fail) | refine Qc Tryz.call86 (hOx.out _) ?_ | refine Qc Tryz.call87 (hCx.out _) ?_ | (with_reducible first | refine Q5 ?_ | (refine Q3a ?_; intro hb; try intro hb1) | (refine Q3b ?_; intro hb; try intro hb1) | (refine Q3 ?_ ?_ <;> intro hb <;> try intro hb1) | fail) | fail)
        refine ⟨i + 1, st, (by (repeat (first | exact List.Sublist.refl _ | apply List.Sublist.cons))), ⟨hlt, HE, ?_, ?_, ?_, ?_, ?_, ?_, rfl⟩, by omega⟩
        all_goals exact Qf
  · have HE := HT.out
    rw [List.drop_of_length_le (by omega), Rul.rightL] at HE
    subst HE
    clear HT
    repeat' (with_reducible first | refine Q1 ?_ | refine Qe ?_ | refine Ql ?_ | refine Q2 ?_ | refine Qs ?_ | refine Q4 ?_ | (refine al_go ?_; intro b) | refine Q5 ?_ | (refine Q3a ?_; intro hb; try intro hb1) | (refine Q3b ?_; intro hb; try intro hb1) | (refine Q3 ?_ ?_ <;> intro hb <;> try intro hb1) | fail)
    all_goals exact Qret
end Go.Proofs.YtgcienlfpnpbgaaGreat
end

section
namespace Go.Proofs.YtgcienlfpnpbgaaGreat
set_option linter.unusedSimpArgs false
attribute [local push_cast] encB encI Nat.mul_one Int.sub_zero
open Go.RowKit
set_option maxRecDepth 10000
set_option maxHeartbeats 4000000
def encBs (b : List UInt8) : List D := [.sl .shared (b.map encB)]
attribute [local push_cast] encBs
theorem growBF (n : Nat) (hn : n ≤ 1000000) (st : St) : TrF Tryz.prog 176 [.sl .tight [], .i n] st fun d st' => ∃ o', o' ≠ .shared ∧ d = .sl o' [] ∧ st' = .room o' 5 1 ([] : List (List D)).length :: st := by
  refine Qin [4] Tryz.func176 Tryz.results176 Tryz.ntmps176 ?_
  by_cases h0 : n = 0
  · subst h0
    refine tr_room 5 1 0 ?_
    repeat' (with_reducible first | refine Q1 ?_ | refine Qe ?_ | refine Ql ?_ | refine Q2 ?_ | refine Qs ?_ | refine Q4 ?_ | (refine al_go ?_; intro b) | (refine Qa ?_; intro o' ho') | (refine Qp ?_; intro o' ho') | refine Q5 ?_ | (refine Q3a ?_; intro hb; try intro hb1) | (refine Q3b ?_; intro hb; try intro hb1) | (refine Q3 ?_ ?_ <;> intro hb <;> try intro hb1) | fail)
    all_goals ((apply ret_own (by simp) (by first | rfl | assumption)); (focus ((try simp (disch := omega) only [push_cast, simprocAttr, *]); (try exact rfl); done)); (focus (first | assumption | (intro h; cases h))); (focus ((repeat (first | exact List.Sublist.refl _ | apply List.Sublist.cons)); done)))
    all_goals rfl
  · have h1 : (0 : Int) < n := by omega
    have h2 : 0 < n := by omega
    repeat' (first | (with_reducible first | refine Q1 ?_ | refine Qe ?_ | fail) | (refine tr_cutB 6 (fun A' st' => ∃ (g cap : Nat) (cs : List D), A'.df = [] ∧ A'.e 0 = .ar g 0 0 cap ∧ cs.length = cap * 1 ∧ st' = .box g 5 cs :: st) ?_ ?_) | ((with_reducible apply s_sliceT); (focus ((try simp (disch := omega) only [push_cast, simprocAttr, *]); (try exact rfl); done)); (focus ((try simp (disch := omega) only [push_cast, simprocAttr, *]); (try exact rfl); done)); (focus ((try simp (disch := omega) only [push_cast, simprocAttr, *]); (try exact rfl); done))) | with_reducible refine s_zeros ?_ | with_reducible refine zr_go ?_ | ((with_reducible apply zr2_go); (focus omega); (focus omega); (focus omega); (focus exact rfl); intro g cap hgc) | (with_reducible first | refine Ql ?_ | refine Q2 ?_ | refine Qs ?_ | refine Q4 ?_ | (refine al_go ?_; intro b) | (refine Qa ?_; intro o' ho') | (refine Qp ?_; intro o' ho') | refine Q5 ?_ | (refine Q3a ?_; intro hb; try intro hb1) | (refine Q3b ?_; intro hb; try intro hb1) | (refine Q3 ?_ ?_ <;> intro hb <;> try intro hb1) | fail) | fail)
    · refine ⟨g, cap, _, Qf, Qf, ?_, rfl⟩
      rw [List.length_replicate, Nat.mul_one]
    · rintro A' st' ⟨g, cap, cs, hdf, e0, hcl, rfl⟩
      refine tr_reroomA [0] 1 (.refl _) (by omega) hcl (fun t ht => by rw [List.mem_singleton.1 ht]; exact e0) fun A2 hdf2 q1 q2 => ?_
      have e0' := q1 0 (List.mem_singleton.2 rfl)
      rw [hdf] at hdf2
      clear q1 q2 e0 hdf
      repeat' (with_reducible first | refine Q1 ?_ | refine Qe ?_ | refine Ql ?_ | refine Q2 ?_ | refine Qs ?_ | refine Q4 ?_ | (refine al_go ?_; intro b) | (refine Qa ?_; intro o' ho') | (refine Qp ?_; intro o' ho') | refine Q5 ?_ | (refine Q3a ?_; intro hb; try intro hb1) | (refine Q3b ?_; intro hb; try intro hb1) | (refine Q3 ?_ ?_ <;> intro hb <;> try intro hb1) | fail)
      all_goals ((apply ret_own (by simp) (by first | rfl | assumption)); (focus ((try simp (disch := omega) only [push_cast, simprocAttr, *]); (try exact rfl); done)); (focus (first | assumption | (intro h; cases h))); (focus ((repeat (first | exact List.Sublist.refl _ | apply List.Sublist.cons)); done)))
      all_goals rfl
theorem concatBF (o : Own) (bs : List (List UInt8)) (hl : bs.flatten.length ≤ 1000000) (hb : bs.length ≤ 1000000) (st : St) : TrF Tryz.prog 135 [.sl o (bs.map encBs)] st fun d st' => ∃ o', o' ≠ .shared ∧ d = .sl o' (bs.flatten.map encB) ∧ st' = .room o' 5 1 (bs.flatten.map encB).length :: st := by
  have hF : ∀ i x, bs[i]? = some x → (bs.take (i + 1)).flatten = (bs.take i).flatten ++ x ∧ (bs.take (i + 1)).flatten.length ≤ 1000000 := fun i x hx => by
    have h1 : (bs.take (i + 1)).flatten = (bs.take i).flatten ++ x := by rw [List.take_succ, hx]; simp
    refine ⟨h1, ?_⟩
    have h2 := congrArg List.length (congrArg List.flatten (List.take_append_drop (i + 1) bs))
    rw [List.flatten_append, List.length_append] at h2
    omega
  refine Qin [2] Tryz.func135 Tryz.results135 Tryz.ntmps135 ?_
  repeat' (with_reducible first | refine Q1 ?_ | refine Qe ?_ | refine Ql ?_ | refine Q2 ?_ | refine Qs ?_ | refine Q4 ?_ | (refine al_go ?_; intro b) | (refine Qa ?_; intro o' ho') | (refine Qp ?_; intro o' ho') | refine Q5 ?_ | (refine Q3a ?_; intro hb; try intro hb1) | (refine Q3b ?_; intro hb; try intro hb1) | (refine Q3 ?_ ?_ <;> intro hb <;> try intro hb1) | fail)
  refine tr_loop (ι := Nat) (fun i A st' => i ≤ bs.length ∧ A.df = [] ∧ A.e 0 = .sl o (bs.map encBs) ∧ A.e 9 = .sl o (bs.map encBs) ∧ A.e 10 = .i bs.length ∧ A.e 11 = .i i ∧ A.e 3 = .i (bs.take i).flatten.length ∧ st = st') (fun i => bs.length - i) 0 ⟨Nat.zero_le _, Qf, Qf, Qf, Qf, Qf, Qf, rfl⟩ ?_
  rintro i A st' ⟨hi, hdf, e0, e9, e10, e11, e3, rfl⟩
  by_cases hlt : i < bs.length
  · obtain ⟨x, hx⟩ : ∃ x, bs[i]? = some x := ⟨_, List.getElem?_eq_getElem hlt⟩
    obtain ⟨hf, hfl⟩ := hF i x hx
    have hfl2 : ((bs.take (i + 1)).flatten.length : Int) = (bs.take i).flatten.length + x.length := by rw [hf, List.length_append]; omega
    clear hF hf
    obtain ⟨q1, hq1⟩ : ∃ q, (bs.take (i + 1)).flatten.length = q := ⟨_, rfl⟩
    rw [hq1] at hfl hfl2
    generalize (bs.take i).flatten.length = q0 at *
    repeat' (with_reducible first | refine Q1 ?_ | refine Qe ?_ | refine Ql ?_ | refine Q2 ?_ | refine Qs ?_ | refine Q4 ?_ | (refine al_go ?_; intro b) | (refine Qa ?_; intro o' ho') | (refine Qp ?_; intro o' ho') | refine Q5 ?_ | (refine Q3a ?_; intro hb; try intro hb1) | (refine Q3b ?_; intro hb; try intro hb1) | (refine Q3 ?_ ?_ <;> intro hb <;> try intro hb1) | fail)
    refine ⟨i + 1, ⟨hlt, ?_, ?_, ?_, ?_, ?_, ?_, rfl⟩, ?_⟩
    all_goals exact Qf
  · rw [List.take_of_length_le (by omega)] at e3
    have hG := fun st => growBF bs.flatten.length hl st
    replace hF := Lib.hid hF
    replace hG := Lib.hid hG
    repeat' (first | (with_reducible first | refine Q1 ?_ | refine Qe ?_ | refine Ql ?_ | refine Q2 ?_ | refine Qs ?_ | refine Q4 ?_ | (refine al_go ?_; intro b) | fail) | (refine QE Tryz.call176 (hG.out _) ?_; intro o1 ho1) | (with_reducible first | (refine Qa ?_; intro o' ho') | (refine Qp ?_; intro o' ho') | refine Q5 ?_ | (refine Q3a ?_; intro hb; try intro hb1) | (refine Q3b ?_; intro hb; try intro hb1) | (refine Q3 ?_ ?_ <;> intro hb <;> try intro hb1) | fail) | fail)
    refine tr_loopd (ι := Nat) (fun i A st' => i ≤ bs.length ∧ A.df = [] ∧ A.e 25 = .sl o (bs.map encBs) ∧ A.e 26 = .i bs.length ∧ A.e 27 = .i i ∧ ∃ o' B, o' ≠ .shared ∧ Hid (B = (bs.take i).flatten) ∧ B.length = (bs.take i).flatten.length ∧ A.e 6 = .sl o' (B.map encB) ∧ st' = .room o' 5 1 (B.map encB).length :: st) (fun i => bs.length - i) 0 ⟨Nat.zero_le _, Qf, Qf, Qf, Qf, o1, [], ho1, rfl, rfl, Qf, rfl⟩ ?_
    clear hlt hi e0 e3 e9 e10 e11 hdf A i hG o1 ho1
    rintro i A st' ⟨hi, hdf, e25, e26, e27, o', B, ho', HB, hBl, e6, rfl⟩
    by_cases hlt : i < bs.length
    · obtain ⟨x, hx⟩ : ∃ x, bs[i]? = some x := ⟨_, List.getElem?_eq_getElem hlt⟩
      obtain ⟨hf, hfl⟩ := hF.out i x hx
      have HB2 : Hid (B ++ x = (bs.take (i + 1)).flatten) := by show _ = _; rw [hf, HB.out]
      have hBl2 : (B ++ x).length = (bs.take (i + 1)).flatten.length := by rw [hf, List.length_append, List.length_append, hBl]
      have hBx : B.length + x.length ≤ 1000000 := by
        have := hBl2
        rw [List.length_append] at this; omega
      replace hBl2 := Lib.hid hBl2
      clear hF hf HB hfl hBl
      repeat' (with_reducible first | refine Q1 ?_ | refine Qe ?_ | refine Ql ?_ | refine Q2 ?_ | refine Qs ?_ | refine Q4 ?_ | (refine al_go ?_; intro b) | (refine Qa ?_; intro o' ho') | (refine Qp ?_; intro o' ho') | refine Q5 ?_ | (refine Q3a ?_; intro hb; try intro hb1) | (refine Q3b ?_; intro hb; try intro hb1) | (refine Q3 ?_ ?_ <;> intro hb <;> try intro hb1) | fail)
      refine ⟨i + 1, .room o' 5 1 ((B ++ x).map encB).length :: st, ?_, ⟨hlt, ?_, ?_, ?_, ?_, o', B ++ x, ho', HB2, hBl2.out, ?_, rfl⟩, ?_⟩
      · rw [List.map_append]; (repeat (first | exact List.Sublist.refl _ | apply List.Sublist.cons))
      all_goals exact Qf
    · have hBe := HB.out
      rw [List.take_of_length_le (by omega)] at hBe
      rw [← hBe]
      clear hBe HB hBl hF
      repeat' (with_reducible first | refine Q1 ?_ | refine Qe ?_ | refine Ql ?_ | refine Q2 ?_ | refine Qs ?_ | refine Q4 ?_ | (refine al_go ?_; intro b) | (refine Qa ?_; intro o' ho') | (refine Qp ?_; intro o' ho') | refine Q5 ?_ | (refine Q3a ?_; intro hb; try intro hb1) | (refine Q3b ?_; intro hb; try intro hb1) | (refine Q3 ?_ ?_ <;> intro hb <;> try intro hb1) | fail)
      all_goals ((apply ret_own (by simp) (by first | rfl | assumption)); (focus ((try simp (disch := omega) only [push_cast, simprocAttr, *]); (try exact rfl); done)); (focus (first | assumption | (intro h; cases h))); (focus ((repeat (first | exact List.Sublist.refl _ | apply List.Sublist.cons)); done)))
      all_goals rfl
end Go.Proofs.YtgcienlfpnpbgaaGreat
end

section
namespace Go.Proofs.YtgcienlfpnpbgaaGreat
set_option linter.unusedSimpArgs false
attribute [local push_cast] encB encI encBs V.cells_mk V.cells_take V.cells_len Nat.mul_one Int.sub_zero
open Go.RowKit B
set_option maxRecDepth 10000
set_option maxHeartbeats 4000000
theorem bytesF (o o' : Own) (a b : List UInt8) (st : St) : TrF Tryz.prog 18 [.sl o (a.map encB), .sl o' (b.map encB)] st fun d st' => d = .b (decide (a = b)) ∧ st' = st :=
  trF_pure fun vs w hv => by
    obtain ⟨v, v', rfl, h1, h2⟩ := args2 hv
    exact ⟨_, fun _ _ => .s _ rfl, (bytes_any v v' a b w (sees_bytes h1) (sees_bytes h2)).mono fun _ _ ⟨h, n, e⟩ => ⟨h, by subst e; exact ⟨rfl, rfl, rfl, Nat.le_refl _, fun _ _ => rfl⟩⟩⟩
theorem binAllF (o : Own) (bs : List (List UInt8)) (hl : bs.flatten.length ≤ 1000000) (hb : bs.length ≤ 1000000) (st : St) : TrF Tryz.prog 54 [.sl o (bs.map encBs)] st fun d st' => ∃ o', o' ≠ .shared ∧ d = .sl o' (bs.flatten.map encB) ∧ st' = .room o' 5 1 (bs.flatten.map encB).length :: st := by
  have hC := Lib.hid (concatBF o bs hl hb)
  generalize bs.flatten = l at *
  refine Qin [2] Tryz.func54 Tryz.results54 Tryz.ntmps54 ?_
  repeat' (first | (with_reducible first | refine Q1 ?_ | refine Qe ?_ | refine Ql ?_ | refine Q2 ?_ | refine Qs ?_ | refine Q4 ?_ | (refine al_go ?_; intro b) | fail) | (refine QE Tryz.call135 (hC.out _) ?_; intro o1 ho1) | (with_reducible first | (refine Qa ?_; intro o' ho') | (refine Qp ?_; intro o' ho') | refine Q5 ?_ | (refine Q3a ?_; intro hb; try intro hb1) | (refine Q3b ?_; intro hb; try intro hb1) | (refine Q3 ?_ ?_ <;> intro hb <;> try intro hb1) | fail) | fail)
  all_goals ((apply ret_own (by simp) (by first | rfl | assumption)); (focus ((try simp (disch := omega) only [push_cast, simprocAttr, *]); (try exact rfl); done)); (focus (first | assumption | (intro h; cases h))); (focus ((repeat (first | exact List.Sublist.refl _ | apply List.Sublist.cons)); done)))
  all_goals rfl
end Go.Proofs.YtgcienlfpnpbgaaGreat
end

section
namespace Go.Proofs.YtgcienlfpnpbgaaGreat
set_option linter.unusedSimpArgs false
attribute [local push_cast] encB encI encC encBs V.cells_mk V.cells_len Nat.mul_one Int.sub_zero List.map_nil beq_self_eq_true bne_self_eq_false List.head?_cons
open Go.RowKit B
set_option maxRecDepth 10000
set_option maxHeartbeats 8000000
namespace Reg
def byteB (n : Int) : List UInt8 := if 0 ≤ n ∧ n ≤ 255 then [UInt8.ofNat n.toNat] else []
def slotP (s : Sl) : List (List UInt8) := [tx s.name.data.toList, byteB s.types, byteB (if s.req then 1 else 0), s.dv.bin]
def slotB (s : Sl) : List UInt8 := (slotP s).flatten
theorem bin_len (v : V) : v.bin.length ≤ 20500 := by
  unfold V.bin
  split
  · rename_i h
    obtain ⟨hp, -, hn⟩ := V.right_iff.1 h
    have := V.put_le v hp
    omega
  · exact Nat.zero_le _
end Reg
end Go.Proofs.YtgcienlfpnpbgaaGreat
end

section
namespace Go.Proofs.YtgcienlfpnpbgaaGreat
set_option linter.unusedSimpArgs false
attribute [local push_cast] encB encI encC encBs V.cells_mk V.cells_len Nat.mul_one Int.sub_zero List.map_nil beq_self_eq_true bne_self_eq_false List.head?_cons
open Go.RowKit B
set_option maxRecDepth 10000
set_option maxHeartbeats 8000000
namespace Reg
def b8 (n : Int) : UInt8 := UInt8.ofNat (n % 256).toNat
def stepA (p : Stp) : List UInt8 :=
  if p.kind = 1 then [byteB p.kind, slotB p.slot].flatten
  else if p.kind = 2 ∨ p.kind = 3 ∨ p.kind = 4 then [byteB p.kind, byteB p.col].flatten
  else if p.kind = 5 then [byteB p.kind, be 4 p.order.length].flatten ++ p.order.map b8
  else byteB p.kind
def stepB (p : Stp) : List UInt8 :=
  if p.kind = 3 then [stepA p, tx p.slot.name.data.toList].flatten
  else if p.kind = 4 then [stepA p, byteB p.slot.types].flatten
  else stepA p
end Reg
theorem u8_wrapI (n : Int) : IntKind.u8.wrap n = ((Reg.b8 n).toNat : Int) := by
  have h1 : 0 ≤ n % 256 := Int.emod_nonneg _ (by decide)
  have h2 : n % 256 < 256 := Int.emod_lt_of_pos _ (by decide)
  have h3 : IntKind.u8.wrap n = IntKind.u8.wrap ((n % 256).toNat : Int) := by
    rw [Int.toNat_of_nonneg h1]
    unfold IntKind.wrap
    have e : (2 : Int) ^ IntKind.u8.bits = 256 := by decide
    rw [e, Int.emod_emod_of_dvd n (Int.dvd_refl 256)]
  rw [h3, u8_wrap]; rfl
end Go.Proofs.YtgcienlfpnpbgaaGreat
end

section
namespace Go.Proofs.YtgcienlfpnpbgaaGreat
set_option linter.unusedSimpArgs false
attribute [local push_cast] encB encI encC encBs V.cells_mk V.cells_len Nat.mul_one Int.sub_zero List.map_nil beq_self_eq_true bne_self_eq_false List.head?_cons
open Go.RowKit B
set_option maxRecDepth 10000
set_option maxHeartbeats 16000000
abbrev penR (pb : Nat) (o : Own) (X : List UInt8) (q : Bool) (s : St) : St := .box pb 119 [.sl o (X.map encB), .b q] :: .room o 5 1 (X.map encB).length :: s
def PenC (f : FuncId) (args : List D) (pb : Nat) (X Y : List UInt8) (q q' : Bool) : Prop := ∀ (o : Own), o ≠ .shared → ∀ s, TrF Tryz.prog f args (penR pb o X q s) fun d st' => ∃ o', o' ≠ .shared ∧ d = .tup [] ∧ st' = penR pb o' (X ++ Y) (q || q') s
namespace Rul
def badN (n : Int) : Bool := decide (n < 0) || decide (255 < n)
end Rul
theorem penBytesF (pb : Nat) (l : List Int) (hl : l.length ≤ 100) (X : List UInt8) (q : Bool) (hX : X.length + l.length ≤ 10000000000000) : PenC 97 [.ptr pb 0, .sl .shared (l.map encI)] pb X (l.map Reg.b8) q (l.any Rul.badN) := by
  intro o ho s
  have hm : (l.map encI).length = l.length := List.length_map ..
  have hc : Hid (∀ (i : Nat) (n : Int), l[i]? = some n → (l.map encI)[i]? = some [.i n]) := fun i n h => by rw [List.getElem?_map, h]; rfl
  have hX2 : Hid (X ++ l.map Reg.b8 = X ++ (l.take l.length).map Reg.b8) := Lib.hid (by rw [List.take_length])
  have hq2 : Hid ((q || l.any Rul.badN) = (q || (l.take l.length).any Rul.badN)) := Lib.hid (by rw [List.take_length])
  rw [hX2.out, hq2.out]
  clear hX2 hq2
  generalize l.map encI = LI at *
  refine Qin [] Tryz.func97 Tryz.results97 Tryz.ntmps97 ?_
  repeat' (with_reducible first | refine Q1 ?_ | refine Qe ?_ | refine Ql ?_ | refine Q2 ?_ | refine Qs ?_ | refine Q4 ?_ | (refine al_go ?_; intro b) | (refine Qa ?_; intro o' ho') | (refine Qp ?_; intro o' ho') | refine Q5 ?_ | (refine Q3a ?_; intro hb; try intro hb1) | (refine Q3b ?_; intro hb; try intro hb1) | (refine Q3 ?_ ?_ <;> intro hb <;> try intro hb1) | fail)
  refine tr_loopd (ι := Nat) (fun i A st' => i ≤ l.length ∧ A.df = [] ∧ A.e 0 = .ptr pb 0 ∧ A.e 6 = .sl .shared LI ∧ A.e 7 = .i l.length ∧ A.e 8 = .i i ∧ ∃ (o' : Own) (X2 : List UInt8) (q2 : Bool), o' ≠ .shared ∧ Hid (X2 = X ++ (l.take i).map Reg.b8) ∧ X2.length = X.length + i ∧ Hid (q2 = (q || (l.take i).any Rul.badN)) ∧ st' = penR pb o' X2 q2 s) (fun i => l.length - i) 0 ⟨Nat.zero_le _, Qf, Qf, Qf, Qf, Qf, o, X, q, ho, Lib.hid (by simp), rfl, Lib.hid (by simp), rfl⟩ ?_
  clear ho
  rintro i A st' ⟨hi, hdf, e0, e6, e7, e8, o, X2, q2, ho, hXe, hXl, hqe, rfl⟩
  by_cases hlt : i < l.length
  · obtain ⟨n, hn⟩ : ∃ n, l[i]? = some n := ⟨_, List.getElem?_eq_getElem hlt⟩
    have h1 := hc.out i n hn
    have hX3 : Hid (X2 ++ [Reg.b8 n] = X ++ (l.take (i + 1)).map Reg.b8) := Lib.hid (by rw [List.take_add_one, hn, Option.toList_some, List.map_append, ← List.append_assoc, ← hXe.out]; rfl)
    have hq3 : Hid ((q2 || Rul.badN n) = (q || (l.take (i + 1)).any Rul.badN)) := Lib.hid (by rw [List.take_add_one, hn, Option.toList_some, List.any_append, ← Bool.or_assoc, ← hqe.out]; simp)
    have hw := u8_wrapI n
    have hXm : (X2.map encB).length = X2.length := List.length_map ..
    clear hXe hqe hn hc
    unfold Rul.badN at hq3
    generalize Reg.b8 n = w at *
    have hXb : X2.length ≤ 10000000000000 := by omega
    have hXl3 : (X2 ++ [w]).length = X.length + (i + 1) := by rw [List.length_append]; show _ + 1 = _; omega
    cases q2 with
    | true =>
      rw [Bool.true_or] at hq3
      repeat' (with_reducible first | refine Q1 ?_ | refine Qe ?_ | refine Ql ?_ | refine Q2 ?_ | refine Qs ?_ | refine Q4 ?_ | (refine al_go ?_; intro b) | (refine Qa ?_; intro o' ho') | (refine Qp ?_; intro o' ho') | refine Q5 ?_ | (refine Q3a ?_; intro hb; try intro hb1) | (refine Q3b ?_; intro hb; try intro hb1) | (refine Q3 ?_ ?_ <;> intro hb <;> try intro hb1) | fail)
      refine ⟨i + 1, .box pb 119 [.sl o' (X2.map encB ++ [encB w]), .b true] :: .room o' 5 1 (X2.map encB ++ [encB w]).length :: s, (by (repeat (first | exact List.Sublist.refl _ | with_reducible apply List.Sublist.cons_cons | apply List.Sublist.cons))), ⟨hlt, ?_, ?_, ?_, ?_, ?_, o', X2 ++ [w], true, ho', hX3, hXl3, hq3, ?_⟩, ?_⟩
      rotate_right 2
      · unfold penR; rw [List.map_append]; rfl
      all_goals exact Qf
    | false =>
      rw [Bool.false_or] at hq3
      by_cases n0 : n < 0
      · rw [decide_eq_true n0, Bool.true_or] at hq3
        repeat' (with_reducible first | refine Q1 ?_ | refine Qe ?_ | refine Ql ?_ | refine Q2 ?_ | refine Qs ?_ | refine Q4 ?_ | (refine al_go ?_; intro b) | (refine Qa ?_; intro o' ho') | (refine Qp ?_; intro o' ho') | refine Q5 ?_ | (refine Q3a ?_; intro hb; try intro hb1) | (refine Q3b ?_; intro hb; try intro hb1) | (refine Q3 ?_ ?_ <;> intro hb <;> try intro hb1) | fail)
        refine ⟨i + 1, .box pb 119 [.sl o' (X2.map encB ++ [encB w]), .b true] :: .room o' 5 1 (X2.map encB ++ [encB w]).length :: s, (by (repeat (first | exact List.Sublist.refl _ | with_reducible apply List.Sublist.cons_cons | apply List.Sublist.cons))), ⟨hlt, ?_, ?_, ?_, ?_, ?_, o', X2 ++ [w], true, ho', hX3, hXl3, hq3, ?_⟩, ?_⟩
        rotate_right 2
        · unfold penR; rw [List.map_append]; rfl
        all_goals exact Qf
      · rw [decide_eq_false n0, Bool.false_or] at hq3
        by_cases n2 : 255 < n
        · rw [decide_eq_true n2] at hq3
          repeat' (with_reducible first | refine Q1 ?_ | refine Qe ?_ | refine Ql ?_ | refine Q2 ?_ | refine Qs ?_ | refine Q4 ?_ | (refine al_go ?_; intro b) | (refine Qa ?_; intro o' ho') | (refine Qp ?_; intro o' ho') | refine Q5 ?_ | (refine Q3a ?_; intro hb; try intro hb1) | (refine Q3b ?_; intro hb; try intro hb1) | (refine Q3 ?_ ?_ <;> intro hb <;> try intro hb1) | fail)
          refine ⟨i + 1, .box pb 119 [.sl o' (X2.map encB ++ [encB w]), .b true] :: .room o' 5 1 (X2.map encB ++ [encB w]).length :: s, (by (repeat (first | exact List.Sublist.refl _ | with_reducible apply List.Sublist.cons_cons | apply List.Sublist.cons))), ⟨hlt, ?_, ?_, ?_, ?_, ?_, o', X2 ++ [w], true, ho', hX3, hXl3, hq3, ?_⟩, ?_⟩
          rotate_right 2
          · unfold penR; rw [List.map_append]; rfl
          all_goals exact Qf
        · rw [decide_eq_false n2] at hq3
          repeat' (with_reducible first | refine Q1 ?_ | refine Qe ?_ | refine Ql ?_ | refine Q2 ?_ | refine Qs ?_ | refine Q4 ?_ | (refine al_go ?_; intro b) | (refine Qa ?_; intro o' ho') | (refine Qp ?_; intro o' ho') | refine Q5 ?_ | (refine Q3a ?_; intro hb; try intro hb1) | (refine Q3b ?_; intro hb; try intro hb1) | (refine Q3 ?_ ?_ <;> intro hb <;> try intro hb1) | fail)
          refine ⟨i + 1, .box pb 119 [.sl o' (X2.map encB ++ [encB w]), .b false] :: .room o' 5 1 (X2.map encB ++ [encB w]).length :: s, (by (repeat (first | exact List.Sublist.refl _ | with_reducible apply List.Sublist.cons_cons | apply List.Sublist.cons))), ⟨hlt, ?_, ?_, ?_, ?_, ?_, o', X2 ++ [w], false, ho', hX3, hXl3, hq3, ?_⟩, ?_⟩
          rotate_right 2
          · unfold penR; rw [List.map_append]; rfl
          all_goals exact Qf
  · obtain rfl : i = l.length := by omega
    repeat' (with_reducible first | refine Q1 ?_ | refine Qe ?_ | refine Ql ?_ | refine Q2 ?_ | refine Qs ?_ | refine Q4 ?_ | (refine al_go ?_; intro b) | (refine Qa ?_; intro o' ho') | (refine Qp ?_; intro o' ho') | refine Q5 ?_ | (refine Q3a ?_; intro hb; try intro hb1) | (refine Q3b ?_; intro hb; try intro hb1) | (refine Q3 ?_ ?_ <;> intro hb <;> try intro hb1) | fail)
    all_goals (refine retA_mk (by simp) (by first | rfl | assumption) (List.Sublist.refl _) (LE.of_eq rfl) ⟨o, ho, rfl, ?_⟩; rw [hXe.out, hqe.out])
theorem penValueF (pb : Nat) (v : V) (hv : VQ v) (X : List UInt8) (q : Bool) (hX : X.length ≤ 10000000000000) : PenC 101 [.ptr pb 0, .agg v.cells] pb X v.bin q (decide (v.bin = [])) := by
  intro o ho s
  have hB := binValueF v.nodes v (Nat.le_refl _) (by have := hv.nodes; omega) hv.ok
  have hbl := Reg.bin_len v
  have hm : (v.bin.map encB).length = v.bin.length := List.length_map ..
  have hXm : (X.map encB).length = X.length := List.length_map ..
  have hn : Hid (decide (v.bin = []) = decide ((v.bin.length : Int) = 0)) := Lib.hid (by
    cases v.bin with
    | nil => rfl
    | cons a l => rw [decide_eq_false (by intro h; cases h), decide_eq_false (by rw [List.length_cons]; omega)])
  rw [hn.out]
  clear hn
  generalize v.bin = Y at *
  cases v with
  | mk k n sv lv =>
  rw [V.cells_mk] at *
  generalize lv.map V.cells = VL at *
  clear hv
  replace hB := Lib.hid hB
  have happ : (X ++ Y).map encB = X.map encB ++ Y.map encB := List.map_append ..
  by_cases h0 : (Y.length : Int) = 0
  · rw [decide_eq_true h0, Bool.or_true]
    cases q
    all_goals (
      refine Qin [] Tryz.func101 Tryz.results101 Tryz.ntmps101 ?_
      repeat' (first | (with_reducible first | refine Q1 ?_ | refine Qe ?_ | refine Ql ?_ | refine Q2 ?_ | refine Qs ?_ | refine Q4 ?_ | (refine al_go ?_; intro b) | fail) | (refine QE Tryz.call138 (hB.out _) ?_; intro o1 ho1) | (with_reducible first | (refine Qa ?_; intro o' ho') | (refine Qp ?_; intro o' ho') | refine Q5 ?_ | (refine Q3a ?_; intro hb; try intro hb1) | (refine Q3b ?_; intro hb; try intro hb1) | (refine Q3 ?_ ?_ <;> intro hb <;> try intro hb1) | fail) | fail)
      all_goals (refine retA_mk (by simp) (by first | rfl | assumption) (st' := .box pb 119 [.sl o' (X.map encB ++ Y.map encB), .b true] :: .room o' 5 1 (X.map encB ++ Y.map encB).length :: s) (by (repeat (first | exact List.Sublist.refl _ | with_reducible apply List.Sublist.cons_cons | apply List.Sublist.cons))) (LE.of_eq rfl) ⟨o', ho', rfl, ?_⟩; unfold penR; rw [happ]))
  · rw [decide_eq_false h0, Bool.or_false]
    have h0b : ((Y.length : Int) == 0) = false := beq_eq_false_iff_ne.2 h0
    cases q
    all_goals (
      refine Qin [] Tryz.func101 Tryz.results101 Tryz.ntmps101 ?_
      repeat' (first | (with_reducible first | refine Q1 ?_ | refine Qe ?_ | refine Ql ?_ | refine Q2 ?_ | refine Qs ?_ | refine Q4 ?_ | (refine al_go ?_; intro b) | fail) | (refine QE Tryz.call138 (hB.out _) ?_; intro o1 ho1) | (with_reducible first | (refine Qa ?_; intro o' ho') | (refine Qp ?_; intro o' ho') | refine Q5 ?_ | (refine Q3a ?_; intro hb; try intro hb1) | (refine Q3b ?_; intro hb; try intro hb1) | (refine Q3 ?_ ?_ <;> intro hb <;> try intro hb1) | fail) | fail)
      all_goals (refine retA_mk (by simp) (by first | rfl | assumption) (st' := .box pb 119 [.sl o' (X.map encB ++ Y.map encB), .b _] :: .room o' 5 1 (X.map encB ++ Y.map encB).length :: s) (by (repeat (first | exact List.Sublist.refl _ | with_reducible apply List.Sublist.cons_cons | apply List.Sublist.cons))) (LE.of_eq rfl) ⟨o', ho', rfl, ?_⟩; unfold penR; rw [happ]))
end Go.Proofs.YtgcienlfpnpbgaaGreat
end

section
namespace Go.Proofs.YtgcienlfpnpbgaaGreat
set_option linter.unusedSimpArgs false
attribute [local push_cast] encB encI encC encBs V.cells_mk V.cells_len Nat.mul_one Int.sub_zero List.map_nil beq_self_eq_true bne_self_eq_false List.head?_cons
open Go.RowKit B
set_option maxRecDepth 10000
set_option maxHeartbeats 8000000
namespace Reg
def SlP (s : Sl) : Prop := s.name.size ≤ 300 ∧ s.dv.nodes ≤ 1000 ∧ s.dv.Ok
def StP (p : Stp) : Prop := SlP p.slot ∧ p.order.length ≤ 1000
structure TmP (t : Tm) : Prop where
  nm : t.name.size ≤ 300
  ls : t.slots.length ≤ 8
  lt : t.steps.length ≤ 8
  os : ∀ s ∈ t.slots, SlP s
  ot : ∀ s ∈ t.steps, StP s
def listB {α : Type} (f : α → List UInt8) (l : List α) : List UInt8 := be 4 l.length ++ (l.map f).flatten
theorem listB_len {α : Type} (f : α → List UInt8) (k : Nat) : ∀ (l : List α), (∀ x ∈ l, (f x).length ≤ k) → (listB f l).length ≤ 4 + l.length * k := fun l h => by
  unfold listB
  rw [List.length_append, be_len]
  have : ∀ l : List α, (∀ x ∈ l, (f x).length ≤ k) → (l.map f).flatten.length ≤ l.length * k := fun l => by
    induction l with
    | nil => intro _; simp
    | cons a l ih =>
      intro h
      have h1 := ih fun x hx => h x (List.mem_cons_of_mem _ hx)
      have h2 := h a (List.mem_cons_self ..)
      rw [List.map_cons, List.flatten_cons, List.length_append, List.length_cons, Nat.add_mul]
      omega
  have := this l h
  omega
def tmP (t : Tm) : List (List UInt8) := [tx t.name.data.toList, listB slotB t.slots, listB stepB t.steps]
def tmB (t : Tm) : List UInt8 := (tmP t).flatten
def put (L : List Tm) : List UInt8 := if right L = true then listB tmB L else []
end Reg
end Go.Proofs.YtgcienlfpnpbgaaGreat
end

section
namespace Go.Proofs.YtgcienlfpnpbgaaGreat
set_option linter.unusedSimpArgs false
attribute [local push_cast] encB encI encC V.cells_mk V.cells_len Nat.mul_one Int.sub_zero List.map_nil beq_self_eq_true bne_self_eq_false List.head?_cons
open Go.RowKit
set_option maxRecDepth 10000
set_option maxHeartbeats 8000000
namespace Reg
def all2 {α : Type} (f : α → α → Bool) : List α → List α → Bool
  | [], [] => true
  | a :: l, b :: m => f a b && all2 f l m
  | _, _ => false
def slotS (a b : Sl) : Bool := (a.name.toList == b.name.toList) && ((a.types == b.types) && ((a.req == b.req) && (a.dv.cmp b.dv == 0)))
def stepS (a b : Stp) : Bool := (a.kind == b.kind) && ((a.col == b.col) && (slotS a.slot b.slot && all2 (· == ·) a.order b.order))
def tmS (a b : Tm) : Bool := (a.name.toList == b.name.toList) && (all2 slotS a.slots b.slots && all2 stepS a.steps b.steps)
def same (a b : List Tm) : Bool := all2 tmS a b
structure TmQ (t : Tm) : Prop where
  ls : t.slots.length ≤ 1000000
  lt : t.steps.length ≤ 1000000
  os : ∀ s ∈ t.slots, s.dv.Bg
  ot : ∀ s ∈ t.steps, s.slot.dv.Bg ∧ s.order.length ≤ 1000000
end Reg
end Go.Proofs.YtgcienlfpnpbgaaGreat
end

section
namespace Go.Proofs.YtgcienlfpnpbgaaGreat
set_option linter.unusedSimpArgs false
open Go.RowKit
namespace RS
theorem vals_nodes {f : RS → V × RS} {B : Nat} (hf : ∀ s, (f s).1.nodes ≤ B) : ∀ n s, V.nodesL (vals f n s).1 ≤ n * B
  | 0, s => by rw [vals]; simp [V.nodesL]
  | n + 1, s => by
    rw [vals]
    split
    · simp [V.nodesL]
    · have h1 := vals_nodes hf n (f s).2
      have h2 := hf s
      dsimp only
      rw [V.nodesL, Nat.succ_mul]
      omega
theorem body_nodes {f : Option (RS → V × RS)} {B : Nat} (hf : ∀ g, f = some g → ∀ s, (g s).1.nodes ≤ B) (s : RS) : (body f s).1.nodes ≤ 1 + 20 * B := by
  unfold body
  split
  · simp [V.nodes, V.nodesL]
  split
  · simp [V.nodes, V.nodesL]
  split
  · simp [V.nodes, V.nodesL]
  split
  · unfold list5
    cases f with
    | none => simp [V.nodes, V.nodesL]
    | some g =>
      dsimp only
      split
      · simp [V.nodes, V.nodesL]
      · rename_i hn
        have h1 := vals_nodes (hf g rfl) s.byte.2.rnum.1.toNat s.byte.2.rnum.2
        have h2 : s.byte.2.rnum.1.toNat * B ≤ 20 * B := Nat.mul_le_mul_right _ (by omega)
        dsimp only
        rw [V.nodes]
        omega
  · simp [V.nodes, V.nodesL]
theorem value_nodes4 (s : RS) : (value 4 s).1.nodes ≤ 4611686018427387904 := by
  have h0 := fun s => body_nodes (f := none) (B := 0) (fun g h => by cases h) s
  have h1 := fun s => body_nodes (f := some (value 0)) (B := 1 + 20 * 0) (fun g h => by cases h; exact h0) s
  have h2 := fun s => body_nodes (f := some (value 1)) (B := 1 + 20 * (1 + 20 * 0)) (fun g h => by cases h; exact h1) s
  have h3 := fun s => body_nodes (f := some (value 2)) (B := 1 + 20 * (1 + 20 * (1 + 20 * 0))) (fun g h => by cases h; exact h2) s
  have h4 := body_nodes (f := some (value 3)) (B := 1 + 20 * (1 + 20 * (1 + 20 * (1 + 20 * 0)))) (fun g h => by cases h; exact h3) s
  exact Nat.le_trans h4 (by decide)
end RS
end Go.Proofs.YtgcienlfpnpbgaaGreat
end

section
namespace Go.Proofs.YtgcienlfpnpbgaaGreat
set_option linter.unusedSimpArgs false
attribute [local push_cast] encB encI RS.cells V.cells_mk V.cells_len Nat.mul_one Int.sub_zero List.map_nil beq_self_eq_true bne_self_eq_false List.head?_cons
open Go.RowKit B
set_option maxRecDepth 10000
set_option maxHeartbeats 8000000
namespace Reg
def rdL {α : Type} (f : RS → α × RS) : Nat → RS → List α × RS
  | 0, s => ([], s)
  | n + 1, s => if s.bad = true then ([], s) else ((f s).1 :: (rdL f n (f s).2).1, (rdL f n (f s).2).2)
def rlist {α : Type} (f : RS → α × RS) (k : Int) (s : RS) : List α × RS := rdL f (if k < s.rnum.1 then k else s.rnum.1).toNat s.rnum.2
def slot0 : Sl := ⟨⟨#[]⟩, 0, false, V.zero⟩
def getSlot (s : RS) : Sl × RS :=
  (⟨if 1 < s.text.2.byte.2.byte.1 then ⟨#[]⟩ else s.text.1, s.text.2.byte.1, s.text.2.byte.2.byte.1 == 1, s.text.2.byte.2.byte.2.val.1⟩, s.text.2.byte.2.byte.2.val.2)
def getStep (s : RS) : Stp × RS :=
  if s.byte.1 = 1 then (⟨1, 0, (getSlot s.byte.2).1, []⟩, (getSlot s.byte.2).2)
  else if s.byte.1 = 2 then (⟨2, s.byte.2.byte.1, slot0, []⟩, s.byte.2.byte.2)
  else if s.byte.1 = 3 then (⟨3, s.byte.2.byte.1, { slot0 with name := s.byte.2.byte.2.text.1 }, []⟩, s.byte.2.byte.2.text.2)
  else if s.byte.1 = 4 then (⟨4, s.byte.2.byte.1, { slot0 with types := s.byte.2.byte.2.byte.1 }, []⟩, s.byte.2.byte.2.byte.2)
  else if s.byte.1 = 5 then (⟨5, 0, slot0, (rlist RS.byte 9 s.byte.2).1⟩, (rlist RS.byte 9 s.byte.2).2)
  else (⟨s.byte.1, 0, slot0, []⟩, s.byte.2)
def getTm (s : RS) : Tm × RS :=
  (⟨s.text.1, (rlist getSlot 9 s.text.2).1, (rlist getStep 9 (rlist getSlot 9 s.text.2).2).1⟩, (rlist getStep 9 (rlist getSlot 9 s.text.2).2).2)
def read (s : RS) : Option (List Tm) × RS :=
  if (rlist getTm 7 s).2.bad = true ∨ right (rlist getTm 7 s).1 = false then (none, (rlist getTm 7 s).2) else (some (rlist getTm 7 s).1, (rlist getTm 7 s).2)
end Reg
theorem Stp.cells_mk (kind col : Int) (nm : ByteArray) (ty : Int) (rq : Bool) (k n : Int) (sv : ByteArray) (lv : List V) (order : List Int) : (Stp.mk kind col (Sl.mk nm ty rq (.mk k n sv lv)) order).cells = [.i kind, .i col, .str nm, .i ty, .b rq, .i k, .i n, .str sv, .sl .shared (lv.map V.cells), .sl .shared (order.map encI)] := by
  unfold Stp.cells
  rw [Sl.cells_mk]; rfl
theorem Tm.cells_mk (nm : ByteArray) (ss : List Sl) (tt : List Stp) : (Tm.mk nm ss tt).cells = [.str nm, .sl .shared (ss.map Sl.cells), .sl .shared (tt.map Stp.cells)] := rfl
end Go.Proofs.YtgcienlfpnpbgaaGreat
end

section
namespace Go.Proofs.YtgcienlfpnpbgaaGreat
set_option linter.unusedSimpArgs false
attribute [local push_cast] encB encI RS.cells V.cells_mk V.cells_len Nat.mul_one Int.sub_zero List.map_nil beq_self_eq_true bne_self_eq_false List.head?_cons
open Go.RowKit B
set_option maxRecDepth 10000
set_option maxHeartbeats 8000000
namespace Reg
def get (b : List UInt8) : Option (List Tm) := if (read ⟨.shared, b, false⟩).1.isSome = true ∧ (read ⟨.shared, b, false⟩).2.bad = false ∧ (read ⟨.shared, b, false⟩).2.l.length = 0 then (read ⟨.shared, b, false⟩).1 else none
end Reg
theorem cloneB2F (o : Own) (l : List UInt8) (hl : l.length ≤ 10000000) (st : St) : TrF Tryz.prog 72 [.sl o (l.map encB)] st fun d st' => d = .sl .shared (l.map encB) ∧ st' = st := by
  refine Qin [2] Tryz.func72 Tryz.results72 Tryz.ntmps72 ?_
  refine tr_room 5 1 0 ?_
  repeat' (first | (with_reducible first | refine Q1 ?_ | refine Qe ?_ | fail) | ((with_reducible apply s_isNil); (focus ((try simp (disch := omega) only [push_cast, simprocAttr, *]); (try exact rfl); done)); (focus ((try simp (disch := omega) only [push_cast, simprocAttr, *]); (try exact rfl); done)); intro bn hbn) | (with_reducible first | refine Ql ?_ | refine Q2 ?_ | refine Qs ?_ | refine Q4 ?_ | (refine al_go ?_; intro b) | (refine Qa ?_; intro o' ho') | (refine Qp ?_; intro o' ho') | refine Q5 ?_ | (refine Q3a ?_; intro hb; try intro hb1) | (refine Q3b ?_; intro hb; try intro hb1) | (refine Q3 ?_ ?_ <;> intro hb <;> try intro hb1) | fail) | fail)
  · have h := hbn hb
    rw [h]
    clear hbn hb h
    exact Qret
  · exact Qret
theorem binRead2F (o : Own) (l : List UInt8) (hl : l.length ≤ 10000000) (st : St) : TrF Tryz.prog 27 [.sl o (l.map encB)] st fun d st' => ∃ b, d = .ptr b 0 ∧ st' = rdR b ⟨.shared, l, false⟩ :: st := by
  have hC := Lib.hid (cloneB2F o l hl)
  refine Qin [2] Tryz.func27 Tryz.results27 Tryz.ntmps27 ?_
  repeat' (first | (with_reducible first | refine Q1 ?_ | refine Qe ?_ | refine s_boxP ?_ | refine Ql ?_ | refine Q2 ?_ | refine Qs ?_ | refine Q4 ?_ | (refine al_go ?_; intro b) | fail) | refine Qc Tryz.call72 (hC.out _) ?_ | (with_reducible first | (refine Qa ?_; intro o' ho') | (refine Qp ?_; intro o' ho') | refine Q5 ?_ | (refine Q3a ?_; intro hb; try intro hb1) | (refine Q3b ?_; intro hb; try intro hb1) | (refine Q3 ?_ ?_ <;> intro hb <;> try intro hb1) | fail) | fail)
  refine ret_new (b := b) (B := fun b => rdR b ⟨.shared, l, false⟩) (by first | exact .inl rfl | exact .inr rfl) (Qf) (Qf) (.refl _)
end Go.Proofs.YtgcienlfpnpbgaaGreat
end

section
namespace Go.Proofs.YtgcienlfpnpbgaaGreat
set_option linter.unusedSimpArgs false
open Go.RowKit B
namespace B
theorem fold_num : ∀ (l : List UInt8) (a : Nat), l.foldl (fun n c => n * 256 + c.toNat) a = a * 256 ^ l.length + num l
  | [], a => by simp [num]
  | c :: l, a => by
    have h1 := fold_num l (a * 256 + c.toNat)
    have h2 := fold_num l (0 * 256 + c.toNat)
    unfold num
    rw [List.foldl_cons, List.foldl_cons, h1, h2, List.length_cons, Nat.pow_succ, Nat.zero_mul, Nat.zero_add, Nat.add_mul, Nat.mul_assoc, Nat.mul_comm 256 (256 ^ l.length)]
    omega
theorem num_cons (c : UInt8) (l : List UInt8) : num (c :: l) = c.toNat * 256 ^ l.length + num l := by
  have := fold_num l (0 * 256 + c.toNat)
  rw [Nat.zero_mul, Nat.zero_add] at this
  rw [← this]; unfold num; rw [List.foldl_cons, Nat.zero_mul, Nat.zero_add]
theorem num_be : ∀ m x, num (be m x) = x % 256 ^ m
  | 0, x => by simp [be, num, Nat.mod_one]
  | m + 1, x => by
    rw [be, num_cons, be_len, num_be m x, UInt8.toNat_ofNat', show 256 ^ (m + 1) = 256 ^ m * 256 from Nat.pow_succ .., Nat.mod_mul (x := x) (a := 256 ^ m) (b := 256), Nat.mul_comm, Nat.add_comm]
end B
namespace RS
theorem byte_cons (o : Own) (c : UInt8) (l : List UInt8) : byte ⟨o, c :: l, false⟩ = ((c.toNat : Int), (⟨.shared, l, false⟩ : RS)) := rfl
theorem rnum_be (o : Own) (n : Nat) (hn : n ≤ 2147483647) (l : List UInt8) : rnum ⟨o, be 4 n ++ l, false⟩ = ((n : Int), (⟨.shared, l, false⟩ : RS)) := by
  have h4 := be_len 4 n
  unfold rnum
  dsimp only
  rw [if_neg (by rw [List.length_append, h4]; simp <;> omega), show (be 4 n ++ l).take 4 = be 4 n from List.take_left' h4, num_be]
  have : n % 256 ^ 4 = n := Nat.mod_eq_of_lt (by omega)
  rw [this, if_pos hn]
  unfold cut
  dsimp only
  rw [show (be 4 n ++ l).drop 4 = l from List.drop_left' h4]
theorem wrap_wrap (m : Int) (hm : -9223372036854775808 ≤ m ∧ m ≤ 9223372036854775807) : IntKind.i64.wrap ((IntKind.u64.wrap m).toNat : Int) = m := by
  simp [IntKind.wrap, IntKind.bits, IntKind.signed]; omega
theorem long_be (o : Own) (m : Int) (hm : -9223372036854775808 ≤ m ∧ m ≤ 9223372036854775807) (l : List UInt8) : long ⟨o, be 8 (IntKind.u64.wrap m).toNat ++ l, false⟩ = (m, (⟨.shared, l, false⟩ : RS)) := by
  have h8 := be_len 8 (IntKind.u64.wrap m).toNat
  unfold long
  dsimp only
  rw [if_neg (by rw [List.length_append, h8]; simp <;> omega), show (be 8 (IntKind.u64.wrap m).toNat ++ l).take 8 = be 8 (IntKind.u64.wrap m).toNat from List.take_left' h8, num_be]
  have : (IntKind.u64.wrap m).toNat % 256 ^ 8 = (IntKind.u64.wrap m).toNat := Nat.mod_eq_of_lt (by simp [IntKind.wrap, IntKind.bits, IntKind.signed] <;> omega)
  rw [this, wrap_wrap m hm]
  unfold cut
  dsimp only
  rw [show (be 8 (IntKind.u64.wrap m).toNat ++ l).drop 8 = l from List.drop_left' h8]
theorem text_tx (o : Own) (s : ByteArray) (hs : s.size ≤ 2147483647) (l : List UInt8) : text ⟨o, tx s.data.toList ++ l, false⟩ = (s, (⟨.shared, l, false⟩ : RS)) := by
  have hl : s.data.toList.length = s.size := by simp
  unfold text tx
  rw [List.append_assoc, hl, rnum_be o s.size hs]
  unfold textN
  dsimp only
  rw [if_neg (by rw [List.length_append, hl]; simp <;> omega), Int.toNat_natCast]
  unfold cut
  dsimp only
  rw [show (s.data.toList ++ l).take s.size = s.data.toList from List.take_left' hl, show (s.data.toList ++ l).drop s.size = l from List.drop_left' hl]
theorem vals_put {f : RS → V × RS} (l0 : List UInt8) : ∀ (l : List V), (∀ x ∈ l, ∀ r, f ⟨.shared, x.put ++ r, false⟩ = (x, ⟨.shared, r, false⟩)) → vals f l.length ⟨.shared, V.putL l ++ l0, false⟩ = (l, ⟨.shared, l0, false⟩)
  | [], _ => by simp [vals, V.putL]
  | x :: l, h => by
    rw [List.length_cons, vals, if_neg (by simp), V.putL, List.append_assoc, h x (List.mem_cons_self ..)]
    dsimp only
    rw [vals_put l0 l fun y hy => h y (List.mem_cons_of_mem _ hy)]
theorem empty_of {s : ByteArray} (h : s.size = 0) : s = ⟨#[]⟩ := by
  apply ByteArray.ext
  apply Array.ext'
  have : s.data.toList.length = s.size := by simp
  exact List.eq_nil_of_length_eq_zero (by omega)
theorem deepL_mem {x : V} : ∀ {l : List V}, x ∈ l → x.deep ≤ V.deepL l
  | y :: l, h => by
    rw [V.deepL]
    rcases List.mem_cons.1 h with rfl | h
    · omega
    · have := deepL_mem h; omega
theorem value_put : ∀ (d : Nat) (v : V), v.parts = true → v.deep ≤ d → v.Ok → ∀ (o : Own) (r : List UInt8), value d ⟨o, v.put ++ r, false⟩ = (v, (⟨.shared, r, false⟩ : RS)) := fun d => by
  induction d using Nat.strongRecOn with
  | _ d IH =>
  intro v
  cases v with
  | mk k n s l =>
  intro hp hd hok o r
  obtain ⟨-, hkn, -, -, hall⟩ := hok
  obtain ⟨h1, h2, h3⟩ := V.parts_facts hp
  obtain ⟨f1, f2, f3, f4, f5, f6⟩ := V.sgl_facts h1
  have hsub : value d = body (match d with | 0 => none | e + 1 => some (value e)) := by cases d <;> rfl
  rw [hsub, V.put, List.cons_append]
  have hkb : ((UInt8.ofNat k.toNat).toNat : Int) = k := by rw [UInt8.toNat_ofNat']; omega
  unfold body
  rw [byte_cons, hkb]
  dsimp only
  have hse : k ≠ 3 ∧ k ≠ 4 → s = ⟨#[]⟩ := fun h => empty_of (f5 h)
  have hle : k ≠ 5 → l = [] := fun h => h2.resolve_left h
  have hn0 : k ≠ 1 ∧ k ≠ 2 → n = 0 := fun h => by
    unfold V.sgl at h1
    by_cases k0 : k = 0
    · subst k0; simp at h1; exact h1.1
    rw [if_neg k0, if_neg h.1, if_neg h.2] at h1
    by_cases k3 : k = 3
    · subst k3; simp at h1; exact h1.1
    rw [if_neg k3] at h1
    by_cases k4 : k = 4
    · subst k4; simp at h1; exact h1.1
    rw [if_neg k4] at h1
    by_cases k5 : k = 5
    · subst k5; simp at h1; exact h1.1
    rw [if_neg k5] at h1; cases h1
  by_cases k1 : k = 1
  · subst k1
    have hn := f3 (by omega)
    have hnb : ((UInt8.ofNat n.toNat).toNat : Int) = n := by rw [UInt8.toNat_ofNat']; omega
    rw [if_pos rfl, if_pos rfl, List.singleton_append, byte_cons, hnb, hse (by omega), hle (by omega)]
  rw [if_neg k1, if_neg k1]
  by_cases k2 : k = 2
  · subst k2
    rw [if_pos rfl, if_pos rfl, long_be _ n hkn, hse (by omega), hle (by omega)]
  rw [if_neg k2, if_neg k2]
  by_cases k34 : k = 3 ∨ k = 4
  · rw [if_pos k34, if_pos k34, text_tx _ s (by omega), hn0 (by omega), hle (by omega)]
  rw [if_neg k34, if_neg k34]
  by_cases k5 : k = 5
  · subst k5
    rw [if_pos rfl, if_pos rfl, List.append_assoc, rnum_be _ l.length (by have := f6 rfl; omega)]
    dsimp only
    rw [V.deep, if_pos (.inl rfl)] at hd
    obtain ⟨e, rfl⟩ : ∃ e, d = e + 1 := ⟨d - 1, by omega⟩
    unfold list5
    dsimp only
    rw [if_neg (by have := f6 rfl; omega), Int.toNat_natCast, vals_put r l fun x hx r => IH e (by omega) x (h3 x hx) (by
      have := deepL_mem hx
      omega) (hall x hx) _ r, hn0 (by omega), hse (by omega)]
  · rw [if_neg k5, if_neg k5, List.nil_append, hn0 (by omega), hse (by omega), hle k5]
theorem val_put {v : V} (hr : v.right = true) (hok : v.Ok) (o : Own) (r : List UInt8) : val ⟨o, v.put ++ r, false⟩ = (v, (⟨.shared, r, false⟩ : RS)) := by
  obtain ⟨h1, h2, h3⟩ := V.right_iff.1 hr
  unfold val
  rw [if_neg (by simp), value_put 4 v h1 h2 hok, if_neg (by simp [hr])]
end RS
end Go.Proofs.YtgcienlfpnpbgaaGreat
end

section
namespace Go.Proofs.YtgcienlfpnpbgaaGreat
set_option linter.unusedSimpArgs false
open Go.RowKit B
namespace RS
def Ex {α : Type} (f : RS → α × RS) : Prop := ∀ o l x o' r, f ⟨o, l, false⟩ = (x, ⟨o', r, false⟩) → ∀ q, f ⟨o, l ++ q, false⟩ = (x, ⟨o', r ++ q, false⟩)
def Bd {α : Type} (f : RS → α × RS) : Prop := ∀ s, s.bad = true → (f s).2.bad = true
end RS
end Go.Proofs.YtgcienlfpnpbgaaGreat
end

section
namespace Go.Proofs.YtgcienlfpnpbgaaGreat
set_option linter.unusedSimpArgs false
open Go.RowKit
namespace Sch
def cut (t : Tm) (k : Nat) : Tm := ⟨t.name, t.slots, t.steps.take k⟩
end Sch
end Go.Proofs.YtgcienlfpnpbgaaGreat
end

section
namespace Go.Proofs.YtgcienlfpnpbgaaGreat
set_option linter.unusedSimpArgs false
open Go.RowKit
structure Rc where
  v : Int
  s : List V
def Rc.cells (r : Rc) : List D := [.i r.v, .sl .shared (r.s.map V.cells)]
namespace Sch
structure Grow (a b : List Sl) : Prop where
  len : a.length ≤ b.length
  old : ∀ (i : Nat) (s : Sl), a[i]? = some s → ∃ s', b[i]? = some s' ∧ s'.dv = s.dv ∧ ∀ v, fits s v = true → fits s' v = true
theorem Grow.refl (a : List Sl) : Grow a a := ⟨Nat.le_refl _, fun _ s h => ⟨s, h, rfl, fun _ h => h⟩⟩
theorem Grow.trans {a b c : List Sl} (h : Grow a b) (k : Grow b c) : Grow a c := by
  refine ⟨Nat.le_trans h.len k.len, fun i s hs => ?_⟩
  obtain ⟨s1, h1, h2, h3⟩ := h.old i s hs
  obtain ⟨s2, k1, k2, k3⟩ := k.old i s1 h1
  exact ⟨s2, k1, k2.trans h2, fun v hv => k3 v (h3 v hv)⟩
structure SOk (s : Sl) : Prop where
  name : V.isName s.name.data.toList = true
  types : takes s.types = true
  def_ : fits s s.dv = true
theorem sound_ok {s : Sl} (h : sound s = true) : SOk s := by
  unfold sound at h
  rw [Bool.and_eq_true, Bool.and_eq_true] at h
  exact ⟨h.1.1, h.1.2, h.2⟩
theorem takes_iff {t : Int} : takes t = true ↔ 1 ≤ t ∧ t ≤ 63 := by
  unfold takes
  rw [Bool.and_eq_true, decide_eq_true_eq, decide_eq_true_eq]
end Sch
end Go.Proofs.YtgcienlfpnpbgaaGreat
end

section
namespace Go.Proofs.YtgcienlfpnpbgaaGreat
set_option linter.unusedSimpArgs false
open Go.RowKit B
set_option maxHeartbeats 4000000
namespace Reg
theorem byte_put (o : Own) (n : Int) (h : 0 ≤ n ∧ n ≤ 255) (l : List UInt8) : RS.byte ⟨o, byteB n ++ l, false⟩ = (n, (⟨.shared, l, false⟩ : RS)) := by
  have e : byteB n = [UInt8.ofNat n.toNat] := if_pos h
  rw [e, List.singleton_append, RS.byte_cons]
  have : ((UInt8.ofNat n.toNat).toNat : Int) = n := by
    rw [UInt8.toNat_ofNat']; omega
  rw [this]
theorem b8_put (o : Own) (n : Int) (h : 0 ≤ n ∧ n ≤ 255) (l : List UInt8) : RS.byte ⟨o, [b8 n] ++ l, false⟩ = (n, (⟨.shared, l, false⟩ : RS)) := by
  rw [List.singleton_append, RS.byte_cons]
  have : ((b8 n).toNat : Int) = n := by
    unfold b8
    rw [UInt8.toNat_ofNat']; omega
  rw [this]
theorem rdL_put {α : Type} {f : RS → α × RS} {g : α → List UInt8} (r : List UInt8) : ∀ (l : List α), (∀ x ∈ l, ∀ o r, f ⟨o, g x ++ r, false⟩ = (x, ⟨.shared, r, false⟩)) → rdL f l.length ⟨.shared, (l.map g).flatten ++ r, false⟩ = (l, (⟨.shared, r, false⟩ : RS))
  | [], _ => rfl
  | x :: l, h => by
    rw [List.length_cons, rdL, if_neg Bool.false_ne_true, List.map_cons, List.flatten_cons, List.append_assoc, h x (List.mem_cons_self ..)]
    dsimp only
    rw [rdL_put r l fun y hy => h y (List.mem_cons_of_mem _ hy)]
theorem rlist_put {α : Type} {f : RS → α × RS} {g : α → List UInt8} (k : Int) (l : List α) (hl : (l.length : Int) ≤ k) (hk : k ≤ 1000) (h : ∀ x ∈ l, ∀ o r, f ⟨o, g x ++ r, false⟩ = (x, ⟨.shared, r, false⟩)) (o : Own) (r : List UInt8) : rlist f k ⟨o, listB g l ++ r, false⟩ = (l, (⟨.shared, r, false⟩ : RS)) := by
  unfold rlist listB
  rw [List.append_assoc, RS.rnum_be o l.length (by omega)]
  dsimp only
  rw [if_neg (by omega), Int.toNat_natCast, rdL_put r l h]
structure SlG (s : Sl) : Prop where
  nm : s.name.size ≤ 300
  ty : 0 ≤ s.types ∧ s.types ≤ 255
  dv : s.dv.right = true
  ok : s.dv.Ok
def StG (p : Stp) : Prop :=
  (p.kind = 1 ∧ p.col = 0 ∧ SlG p.slot ∧ p.order = []) ∨ (p.kind = 2 ∧ (0 ≤ p.col ∧ p.col ≤ 255) ∧ p.slot = slot0 ∧ p.order = []) ∨
  (p.kind = 3 ∧ (0 ≤ p.col ∧ p.col ≤ 255) ∧ p.slot = { slot0 with name := p.slot.name } ∧ p.slot.name.size ≤ 300 ∧ p.order = []) ∨
  (p.kind = 4 ∧ (0 ≤ p.col ∧ p.col ≤ 255) ∧ p.slot = { slot0 with types := p.slot.types } ∧ (0 ≤ p.slot.types ∧ p.slot.types ≤ 255) ∧ p.order = []) ∨
  (p.kind = 5 ∧ p.col = 0 ∧ p.slot = slot0 ∧ p.order.length ≤ 8 ∧ ∀ k ∈ p.order, 0 ≤ k ∧ k ≤ 255)
structure TmG (t : Tm) : Prop where
  nm : t.name.size ≤ 300
  ls : t.slots.length ≤ 8
  lt : t.steps.length ≤ 8
  os : ∀ s ∈ t.slots, SlG s
  ot : ∀ s ∈ t.steps, StG s
theorem getSlot_put (s : Sl) (h : SlG s) (o : Own) (r : List UInt8) : getSlot ⟨o, slotB s ++ r, false⟩ = (s, (⟨.shared, r, false⟩ : RS)) := by
  have e : slotB s ++ r = tx s.name.data.toList ++ (byteB s.types ++ (byteB (if s.req then 1 else 0) ++ (s.dv.put ++ r))) := by
    unfold slotB slotP V.bin
    rw [if_pos h.dv]
    simp only [List.flatten_cons, List.flatten_nil, List.append_nil, List.append_assoc]
  have hq : (0 : Int) ≤ (if s.req then 1 else 0) ∧ (if s.req then 1 else 0 : Int) ≤ 255 := by split <;> omega
  unfold getSlot
  rw [e, RS.text_tx _ _ (by have := h.nm; omega)]
  dsimp only
  rw [byte_put _ _ h.ty]
  dsimp only
  rw [byte_put _ _ hq]
  dsimp only
  rw [RS.val_put h.dv h.ok]
  dsimp only
  cases s with
  | mk nm ty rq dv => cases rq <;> rfl
theorem getStep_put (p : Stp) (h : StG p) (o : Own) (r : List UInt8) : getStep ⟨o, stepB p ++ r, false⟩ = (p, (⟨.shared, r, false⟩ : RS)) := by
  cases p with
  | mk kind col slot order =>
  unfold StG at h
  dsimp only at h
  have f2 : ∀ a b : List UInt8, [a, b].flatten = a ++ b := fun a b => by simp
  unfold getStep
  rcases h with ⟨rfl, rfl, hs, rfl⟩ | ⟨rfl, hc, rfl, rfl⟩ | ⟨rfl, hc, hs, hn, rfl⟩ | ⟨rfl, hc, hs, hn, rfl⟩ | ⟨rfl, rfl, rfl, hl, hk⟩
  · rw [show stepB ⟨1, 0, slot, []⟩ = byteB 1 ++ slotB slot from f2 .., List.append_assoc, byte_put _ _ (by decide)]
    dsimp only
    rw [if_pos rfl, getSlot_put slot hs]
  · rw [show stepB ⟨2, col, slot0, []⟩ = byteB 2 ++ byteB col from f2 .., List.append_assoc, byte_put _ _ (by decide)]
    dsimp only
    rw [if_neg (by decide), if_pos rfl, byte_put _ _ hc]
  · rw [show stepB ⟨3, col, slot, []⟩ = (byteB 3 ++ byteB col) ++ tx slot.name.data.toList by unfold stepB; rw [if_pos rfl, f2]; exact congrArg (· ++ _) (f2 ..), List.append_assoc, List.append_assoc, byte_put _ _ (by decide)]
    dsimp only
    rw [if_neg (by decide), if_neg (by decide), if_pos rfl, byte_put _ _ hc]
    dsimp only
    rw [RS.text_tx _ _ (by omega)]
    dsimp only
    rw [← hs]
  · rw [show stepB ⟨4, col, slot, []⟩ = (byteB 4 ++ byteB col) ++ byteB slot.types by unfold stepB; rw [if_neg (by show ¬ (4 : Int) = 3; decide), if_pos rfl, f2]; exact congrArg (· ++ _) (f2 ..), List.append_assoc, List.append_assoc, byte_put _ _ (by decide)]
    dsimp only
    rw [if_neg (by decide), if_neg (by decide), if_neg (by decide), if_pos rfl, byte_put _ _ hc]
    dsimp only
    rw [byte_put _ _ hn]
    dsimp only
    rw [← hs]
  · have hm : order.map b8 = (order.map fun k => [b8 k]).flatten := by
      clear hl hk
      induction order with
      | nil => rfl
      | cons a l ih => rw [List.map_cons, List.map_cons, List.flatten_cons, ← ih]; rfl
    rw [show stepB ⟨5, 0, slot0, order⟩ = byteB 5 ++ listB (fun k => [b8 k]) order by unfold stepB; rw [if_neg (by show ¬ (5 : Int) = 3; decide), if_neg (by show ¬ (5 : Int) = 4; decide)]; unfold listB; rw [← hm, ← List.append_assoc]; exact congrArg (· ++ _) (f2 ..), List.append_assoc, byte_put _ _ (by decide)]
    dsimp only
    rw [if_neg (by decide), if_neg (by decide), if_neg (by decide), if_neg (by decide), if_pos rfl, rlist_put 9 order (by omega) (by decide) fun k hk2 o r => b8_put o k (hk k hk2) r]
theorem getTm_put (t : Tm) (h : TmG t) (o : Own) (r : List UInt8) : getTm ⟨o, tmB t ++ r, false⟩ = (t, (⟨.shared, r, false⟩ : RS)) := by
  have e : tmB t ++ r = tx t.name.data.toList ++ (listB slotB t.slots ++ (listB stepB t.steps ++ r)) := by
    unfold tmB tmP
    simp only [List.flatten_cons, List.flatten_nil, List.append_nil, List.append_assoc]
  unfold getTm
  rw [e, RS.text_tx _ _ (by have := h.nm; omega)]
  dsimp only
  rw [rlist_put 9 t.slots (by have := h.ls; omega) (by decide) fun s hs o r => getSlot_put s (h.os s hs) o r]
  dsimp only
  rw [rlist_put 9 t.steps (by have := h.lt; omega) (by decide) fun s hs o r => getStep_put s (h.ot s hs) o r]
theorem rlist_tms (L : List Tm) (hl : L.length ≤ 6) (h : ∀ t ∈ L, TmG t) (o : Own) (r : List UInt8) : rlist getTm 7 ⟨o, listB tmB L ++ r, false⟩ = (L, (⟨.shared, r, false⟩ : RS)) :=
  rlist_put 7 L (by omega) (by decide) (fun t ht o r => getTm_put t (h t ht) o r) o r
theorem read_put (L : List Tm) (hr : right L = true) (hl : L.length ≤ 6) (h : ∀ t ∈ L, TmG t) (o : Own) (r : List UInt8) : read ⟨o, put L ++ r, false⟩ = (some L, (⟨.shared, r, false⟩ : RS)) := by
  unfold read put
  rw [if_pos hr, rlist_tms L hl h o r]
  dsimp only
  rw [if_neg (by rintro (h | h); cases h; rw [hr] at h; cases h)]
end Reg
namespace Sch
theorem fits_right {s : Sl} {v : V} (h : fits s v = true) : v.right = true := by
  unfold fits at h
  rw [Bool.and_eq_true] at h
  exact h.1
theorem bare_slot {s : Sl} {a b : Bool} (h : bare s a b = true) : (a = true ∨ s.name = ⟨#[]⟩) ∧ (b = true ∨ s.types = 0) ∧ s.req = false ∧ s.dv = V.zero := by
  unfold bare at h
  rw [Bool.and_eq_true, Bool.and_eq_true, Bool.and_eq_true, Bool.or_eq_true, Bool.or_eq_true, decide_eq_true_eq, beq_iff_eq, beq_iff_eq] at h
  obtain ⟨⟨⟨h1, h2⟩, h3⟩, h4⟩ := h
  refine ⟨h1.imp id RS.empty_of, h2, ?_, V.cmp_eq _ _ h4⟩
  cases hr : s.req with
  | false => rfl
  | true => rw [hr] at h3; cases h3
theorem name_le {s : ByteArray} (h : V.isName s.data.toList = true) : s.size ≤ 40 := by
  unfold V.isName at h
  rw [Bool.and_eq_true, Bool.and_eq_true, decide_eq_true_eq, decide_eq_true_eq] at h
  have : s.data.toList.length = s.size := by simp
  omega
theorem sound_good {s : Sl} (h : sound s = true) (ho : s.dv.Ok) : Reg.SlG s := by
  have k := sound_ok h
  have := takes_iff.1 k.types
  exact ⟨by have := name_le k.name; omega, by omega, fits_right k.def_, ho⟩
theorem reo_ge {cols : List Nat} : ∀ (l : List Int) (out r : List Nat), reo cols l out = some r → ∀ k ∈ l, 0 ≤ k ∧ k < cols.length
  | [], _, _, _, _, h => by cases h
  | a :: l, out, r, h, k, hk => by
    rw [reo] at h
    split at h
    · rename_i hc
      rcases List.mem_cons.1 hk with rfl | hk
      · exact ⟨hc.1, hc.2.1⟩
      · exact reo_ge l _ r h k hk
    · cases h
theorem step_good {n : Nat} {x y : Vr} {s : Stp} (hx : VI n x) (h : stepV x s = some y) (ho : s.slot.dv.Ok) : Reg.StG s := by
  have hlc := hx.lc
  unfold stepV at h
  have hcol : column x s = true → (0 ≤ s.col ∧ s.col ≤ 255) ∧ s.order = [] := fun hc => by
    unfold column at hc
    rw [Bool.and_eq_true, Bool.and_eq_true, decide_eq_true_eq, decide_eq_true_eq, decide_eq_true_eq] at hc
    exact ⟨by omega, List.eq_nil_of_length_eq_zero hc.2⟩
  cases s with
  | mk kind col slot order =>
  cases slot with
  | mk nm ty rq dv =>
  dsimp only at h hcol ho
  split at h
  · rename_i hk
    unfold addS at h
    split at h
    · rename_i hc
      exact .inl ⟨hk, hc.1, sound_good hc.2.2.2.1 ho, List.eq_nil_of_length_eq_zero hc.2.1⟩
    · cases h
  split at h
  · rename_i hk
    unfold loseS at h
    split at h
    · rename_i hc
      obtain ⟨c1, c2⟩ := hcol hc.1
      obtain ⟨b1, b2, b3, b4⟩ := bare_slot hc.2.1
      simp only [Bool.false_eq_true, false_or] at b1 b2
      dsimp only at b1 b2 b3 b4
      subst b1 b2 b3 b4
      exact .inr (.inl ⟨hk, c1, rfl, c2⟩)
    · cases h
  split at h
  · rename_i hk
    unfold renameS at h
    split at h
    · rename_i hc
      obtain ⟨c1, c2⟩ := hcol hc.1
      obtain ⟨b1, b2, b3, b4⟩ := bare_slot hc.2.1
      simp only [Bool.false_eq_true, false_or] at b2
      dsimp only at b2 b3 b4
      subst b2 b3 b4
      exact .inr (.inr (.inl ⟨hk, c1, rfl, by have := name_le hc.2.2.1; dsimp only at *; omega, c2⟩))
    · cases h
  split at h
  · rename_i hk
    unfold widenS at h
    split at h
    · rename_i hc
      obtain ⟨c1, c2⟩ := hcol hc.1
      obtain ⟨b1, b2, b3, b4⟩ := bare_slot hc.2.1
      simp only [Bool.false_eq_true, false_or] at b1
      dsimp only at b1 b3 b4
      subst b1 b3 b4
      have := takes_iff.1 hc.2.2.1
      exact .inr (.inr (.inr (.inl ⟨hk, c1, rfl, by dsimp only at *; omega, c2⟩)))
    · cases h
  split at h
  · rename_i hk
    unfold reorderS at h
    split at h
    · rename_i hc
      obtain ⟨b1, b2, b3, b4⟩ := bare_slot hc.2.1
      simp only [Bool.false_eq_true, false_or] at b1 b2
      dsimp only at b1 b2 b3 b4
      subst b1 b2 b3 b4
      cases hr : reo x.cols order [] with
      | none => rw [show (Stp.mk kind col _ order).order = order from rfl, hr] at h; cases h
      | some r => exact .inr (.inr (.inr (.inr ⟨hk, hc.1, rfl, by have := hc.2.2; dsimp only at *; omega, fun k hk => by have := reo_ge _ _ _ hr k hk; omega⟩)))
    · cases h
  · cases h
theorem firstL_good : ∀ (l : List Sl) (x y : Vr), firstL l x = some y → ∀ s ∈ l, sound s = true
  | [], _, _, _, _, h => by cases h
  | a :: l, x, y, h, s, hs => by
    rw [firstL] at h
    split at h
    · rename_i hc
      rcases List.mem_cons.1 hs with rfl | hs
      · exact hc.1
      · exact firstL_good l _ y h s hs
    · cases h
theorem versL_good : ∀ (l : List Stp) (n : Nat) (x : Vr), VI n x → (versL x l).length = l.length → (∀ s ∈ l, s.slot.dv.Ok) → ∀ s ∈ l, Reg.StG s
  | [], _, _, _, _, _, _, h => by cases h
  | a :: l, n, x, hx, hl, ho, s, hs => by
    rw [versL] at hl
    cases hv : stepV x a with
    | none => rw [hv] at hl; cases hl
    | some y =>
      rw [hv] at hl
      rcases List.mem_cons.1 hs with rfl | hs
      · exact step_good hx hv (ho _ (List.mem_cons_self ..))
      · exact versL_good l (n + 1) y (step_vi hx hv) (by simpa using hl) (fun s h => ho s (List.mem_cons_of_mem _ h)) s hs
theorem last_good {t : Tm} (h : 0 < last t) (hs : ∀ s ∈ t.slots, s.dv.Ok) (hp : ∀ s ∈ t.steps, s.slot.dv.Ok) : Reg.TmG t := by
  have h1 : (vers t).length = t.steps.length + 1 := by
    unfold last at h
    split at h
    · assumption
    · omega
  unfold vers at h1
  cases hf : firstV t with
  | none => rw [hf] at h1; cases h1
  | some x =>
    rw [hf] at h1
    obtain ⟨k1, k2, k3⟩ := first_vi hf
    have h2 : (versL x t.steps).length = t.steps.length := by simpa using h1
    have hg := versL_good t.steps 8 x k1 h2 hp
    unfold firstV at hf
    split at hf
    · rename_i hc
      exact ⟨by have := name_le hc.1; omega, hc.2.2.1, hc.2.2.2, fun s hs' => sound_good (firstL_good _ _ _ hf s hs') (hs s hs'), hg⟩
    · cases hf
end Sch
theorem Reg.TmG.put {t : Tm} (h : Reg.TmG t) (hs : ∀ s ∈ t.steps, s.slot.name.size ≤ 300 ∧ s.slot.dv.nodes ≤ 1000 ∧ s.slot.dv.Ok) : Reg.TmP t :=
  ⟨h.nm, h.ls, h.lt, fun s k => ⟨(h.os s k).nm, by have := (V.right_iff.1 (h.os s k).dv).2.2; omega, (h.os s k).ok⟩, fun s k => ⟨hs s k, by
    rcases h.ot s k with h | h | h | h | h
    · rw [h.2.2.2]; exact Nat.zero_le _
    · rw [h.2.2.2]; exact Nat.zero_le _
    · rw [h.2.2.2.2]; exact Nat.zero_le _
    · rw [h.2.2.2.2]; exact Nat.zero_le _
    · have := h.2.2.2.1; omega⟩⟩
end Go.Proofs.YtgcienlfpnpbgaaGreat
end

section
namespace Go.Proofs.YtgcienlfpnpbgaaGreat
set_option linter.unusedSimpArgs false
open Go.RowKit B
set_option maxHeartbeats 4000000
namespace Reg
theorem findL_spec (nm : ByteArray) : ∀ (l : List Tm) (i : Nat), (findL nm l i = -1 ∧ ∀ t ∈ l, ¬ t.name.toList = nm.toList) ∨ ∃ (j : Nat) (t : Tm), l[j]? = some t ∧ t.name.toList = nm.toList ∧ findL nm l i = ((i + j : Nat) : Int) ∧ ∀ (k : Nat) (u : Tm), k < j → l[k]? = some u → ¬ u.name.toList = nm.toList
  | [], i => .inl ⟨rfl, fun t h => by cases h⟩
  | t :: l, i => by
    rw [findL]
    by_cases h : t.name.toList = nm.toList
    · rw [if_pos (beq_iff_eq.2 h)]
      exact .inr ⟨0, t, rfl, h, rfl, fun k u hk => by omega⟩
    · rw [if_neg (fun k => h (beq_iff_eq.1 k))]
      rcases findL_spec nm l (i + 1) with ⟨h1, h2⟩ | ⟨j, u, h1, h2, h3, h4⟩
      · exact .inl ⟨h1, fun u hu => by
          rcases List.mem_cons.1 hu with rfl | hu
          · exact h
          · exact h2 u hu⟩
      · refine .inr ⟨j + 1, u, h1, h2, by rw [h3]; congr 1; omega, fun k v hk hv => ?_⟩
        cases k with
        | zero => cases hv; exact h
        | succ k => exact h4 k v (by omega) hv
theorem find_at {L : List Tm} {nm : ByteArray} {i : Nat} {t : Tm} (ht : L[i]? = some t) (hn : t.name.toList = nm.toList) (h : ∀ (k : Nat) (u : Tm), k < i → L[k]? = some u → ¬ u.name.toList = nm.toList) : find L nm = i := by
  unfold find
  rcases findL_spec nm L 0 with ⟨h1, h2⟩ | ⟨j, u, h1, h2, h3, h4⟩
  · exact absurd hn (h2 t (List.mem_of_getElem? ht))
  · rw [h3, Nat.zero_add]
    rcases Nat.lt_trichotomy i j with hl | he | hl
    · exact absurd hn (h4 i t hl ht)
    · rw [he]
    · exact absurd h2 (h j u hl h1)
def Apart (L : List Tm) : Prop := ∀ (i j : Nat) (t u : Tm), L[i]? = some t → L[j]? = some u → t.name.toList = u.name.toList → i = j
theorem apart_find {L : List Tm} : Apart L ↔ ∀ (i : Nat) (t : Tm), L[i]? = some t → find L t.name = i := by
  constructor
  · intro h i t ht
    exact find_at ht rfl fun k u hk hu he => by have := h k i u t hu ht he; omega
  · intro h i j t u ht hu he
    have h1 := h i t ht
    have h2 := h j u hu
    have e : find L t.name = find L u.name := by
      have : ∀ (l : List Tm) (i : Nat), findL t.name l i = findL u.name l i := fun l => by
        induction l with
        | nil => intro _; rfl
        | cons a l ih => intro i; rw [findL, findL, he, ih]
      exact this L 0
    rw [h1, h2] at e
    exact Int.ofNat.inj e
theorem rightL_iff (L : List Tm) : ∀ (l : List Tm) (i : Nat), rightL L l i = true ↔ ∀ (j : Nat) (t : Tm), l[j]? = some t → i + j < 6 ∧ 0 < Sch.last t ∧ find L t.name = ((i + j : Nat) : Int)
  | [], i => ⟨fun _ j t h => (by cases h), fun _ => rfl⟩
  | t :: l, i => by
    rw [rightL, Bool.and_eq_true, Bool.and_eq_true, Bool.and_eq_true, decide_eq_true_eq, decide_eq_true_eq, beq_iff_eq, rightL_iff L l (i + 1)]
    constructor
    · rintro ⟨h1, h2, h3, h4⟩ j u hu
      cases j with
      | zero => cases hu; exact ⟨h1, h2, h3⟩
      | succ j =>
        have := h4 j u hu
        rw [show i + 1 + j = i + (j + 1) by omega] at this
        exact this
    · intro h
      have h0 := h 0 t rfl
      refine ⟨h0.1, h0.2.1, h0.2.2, fun j u hu => ?_⟩
      have := h (j + 1) u hu
      rw [show i + (j + 1) = i + 1 + j by omega] at this
      exact this
theorem right_iff {L : List Tm} : right L = true ↔ L.length ≤ 6 ∧ (∀ t ∈ L, 0 < Sch.last t) ∧ Apart L := by
  unfold right
  rw [rightL_iff, apart_find]
  constructor
  · intro h
    refine ⟨?_, ?_, ?_⟩
    · rcases Nat.lt_or_ge 6 L.length with hl | hl
      · obtain ⟨t, ht⟩ : ∃ t, L[6]? = some t := ⟨_, List.getElem?_eq_getElem hl⟩
        have := (h 6 t ht).1
        omega
      · exact hl
    · intro t ht
      obtain ⟨i, hi⟩ := List.getElem?_of_mem ht
      exact (h i t hi).2.1
    · intro i t ht
      have := (h i t ht).2.2
      rwa [Nat.zero_add] at this
  · rintro ⟨h1, h2, h3⟩ j t ht
    have hj := (List.getElem?_eq_some_iff.1 ht).1
    exact ⟨by omega, h2 t (List.mem_of_getElem? ht), by rw [Nat.zero_add]; exact h3 j t ht⟩
end Reg
end Go.Proofs.YtgcienlfpnpbgaaGreat
end

section
namespace Go.Proofs.YtgcienlfpnpbgaaGreat
set_option linter.unusedSimpArgs false
attribute [local push_cast] encB encI encC V.cells_mk V.cells_len Nat.mul_one Int.sub_zero List.map_nil beq_self_eq_true List.head?_cons
open Go.RowKit
set_option maxRecDepth 10000
set_option maxHeartbeats 4000000
abbrev RI := Nat × Nat × List D
def RefStepR (x : Vr) (s : Stp) (st : St) (d : D) (st' : St) : Prop :=
  (Sch.stepV x s = none ∧ ∃ X1 X2, d = .tup [.agg [.sl .shared X1, .sl .shared X2], .b false] ∧ st' = st) ∨ ∃ y, Sch.stepV x s = some y ∧ d = .tup [.agg y.cells, .b true] ∧ st' = st
structure RefP (x : Vr) (s : Stp) : Prop where
  vi : Sch.VI 1000 x
  q : VQ s.slot.dv
  ty : -9223372036854775808 ≤ s.slot.types ∧ s.slot.types ≤ 9223372036854775807
  ord : s.order.length ≤ 1000
abbrev retR (o1 o2 : Own) (L1 L2 : List (List D)) (ok : Bool) : LE (.tup [.agg [.sl o1 L1, .sl o2 L2], .b ok]) (.tup [.agg [.sl .shared L1, .sl .shared L2], .b ok]) := LE.tup (l := [.agg [.sl o1 L1, .sl o2 L2], .b ok]) ⟨LE.agg (l := [.sl o1 L1, .sl o2 L2]) ⟨LE.sl _ _, LE.sl _ _, trivial⟩, LE.refl _, trivial⟩
def Raw2 (x : Vr) (s : Stp) (st : St) (d : D) (st' : St) : Prop := ∃ i : (Bool × Vr) × (Nat × Nat × List D) × (Nat × Nat × List D), (Sch.stepV x s = if i.1.1 then some i.1.2 else none) ∧ d = .tup [.agg [.ar i.2.1.1 0 i.1.2.slots.length i.2.1.2.1, .ar i.2.2.1 0 i.1.2.cols.length i.2.2.2.1], .b i.1.1] ∧ st' = .box i.2.1.1 75 ((i.1.2.slots.map Sl.cells).flatten ++ i.2.1.2.2) :: .box i.2.2.1 3 ((i.1.2.cols.map encC).flatten ++ i.2.2.2.2) :: st
end Go.Proofs.YtgcienlfpnpbgaaGreat
end

section
namespace Go.Proofs.YtgcienlfpnpbgaaGreat
set_option linter.unusedSimpArgs false
attribute [local push_cast] encB encI encC V.cells_mk V.cells_len Nat.mul_one Int.sub_zero List.map_nil beq_self_eq_true List.head?_cons
open Go.RowKit
set_option maxRecDepth 10000
set_option maxHeartbeats 4000000
end Go.Proofs.YtgcienlfpnpbgaaGreat
end

section
namespace Go.Proofs.YtgcienlfpnpbgaaGreat
set_option linter.unusedSimpArgs false
attribute [local push_cast] encB encI encC V.cells_mk V.cells_len Nat.mul_one Int.sub_zero List.map_nil beq_self_eq_true List.head?_cons
open Go.RowKit
set_option maxRecDepth 10000
set_option maxHeartbeats 4000000
def CopyS (x : Vr) (st : St) (d : D) (st' : St) : Prop := ∃ gs cS zS, (slotC x.slots ++ zS).length = cS * 7 ∧ d = D.agg [.ar gs 0 x.slots.length cS, .sl .shared (x.cols.map encC)] ∧ st' = Res.box gs 75 (slotC x.slots ++ zS) :: st
def Raw1 (x : Vr) (s : Stp) (st : St) (d : D) (st' : St) : Prop := ∃ i : (Bool × Vr) × RI, (Sch.stepV x s = if i.1.1 then some i.1.2 else none) ∧ d = .tup [.agg [.ar i.2.1 0 i.1.2.slots.length i.2.2.1, .sl .shared (i.1.2.cols.map encC)], .b i.1.1] ∧ st' = .box i.2.1 75 ((i.1.2.slots.map Sl.cells).flatten ++ i.2.2.2) :: st
end Go.Proofs.YtgcienlfpnpbgaaGreat
end

section
namespace Go.Proofs.YtgcienlfpnpbgaaGreat
set_option linter.unusedSimpArgs false
attribute [local push_cast] encB encI encC V.cells_mk V.cells_len Nat.mul_one Int.sub_zero List.map_nil beq_self_eq_true List.head?_cons
open Go.RowKit
set_option maxRecDepth 10000
set_option maxHeartbeats 4000000
def wt (t s : Nat) : Nat → Nat
  | 0 => t
  | k + 1 => if Sch.has s k && !Sch.has (wt t s k) k then wt t s k + 2 ^ k else wt t s k
def wm (t s : Nat) : Nat → Bool
  | 0 => false
  | k + 1 => if Sch.has s k && !Sch.has (wt t s k) k then true else wm t s k
end Go.Proofs.YtgcienlfpnpbgaaGreat
end

section
namespace Go.Proofs.YtgcienlfpnpbgaaGreat
set_option linter.unusedSimpArgs false
open Go.RowKit
namespace Sch
def put (cols : List Nat) (l : List Int) : List Nat := l.map fun o => cols.getD o.toNat 0
end Sch
end Go.Proofs.YtgcienlfpnpbgaaGreat
end

section
namespace Go.Proofs.YtgcienlfpnpbgaaGreat
set_option linter.unusedSimpArgs false
attribute [local push_cast] encB encI encC V.cells_mk V.cells_len Nat.mul_one Int.sub_zero List.map_nil beq_self_eq_true List.head?_cons
open Go.RowKit
set_option maxRecDepth 10000
set_option maxHeartbeats 4000000
def CopyC (x : Vr) (st : St) (d : D) (st' : St) : Prop := ∃ gc cC zC, (colC x.cols ++ zC).length = cC * 1 ∧ d = D.agg [.sl .shared (x.slots.map Sl.cells), .ar gc 0 x.cols.length cC] ∧ st' = Res.box gc 3 (colC x.cols ++ zC) :: st
def RawC (x : Vr) (s : Stp) (st : St) (d : D) (st' : St) : Prop := ∃ i : (Bool × Vr) × RI, (Sch.stepV x s = if i.1.1 then some i.1.2 else none) ∧ d = .tup [.agg [.sl .shared (i.1.2.slots.map Sl.cells), .ar i.2.1 0 i.1.2.cols.length i.2.2.1], .b i.1.1] ∧ st' = .box i.2.1 3 ((i.1.2.cols.map encC).flatten ++ i.2.2.2) :: st
end Go.Proofs.YtgcienlfpnpbgaaGreat
end

section
namespace Go.Proofs.YtgcienlfpnpbgaaGreat
set_option linter.unusedSimpArgs false
attribute [local push_cast] encB encI encC V.cells_mk V.cells_len Nat.mul_one Int.sub_zero List.map_nil beq_self_eq_true List.head?_cons
open Go.RowKit
set_option maxRecDepth 10000
set_option maxHeartbeats 4000000
namespace Sch
structure VZ (n : Nat) (x : Vr) : Prop where
  vi : VI n x
  nd : x.cols.Nodup
  sl : ∀ z ∈ x.slots, SOk z
end Sch
end Go.Proofs.YtgcienlfpnpbgaaGreat
end

section
namespace Go.Proofs.YtgcienlfpnpbgaaGreat
set_option linter.unusedSimpArgs false
attribute [local push_cast] encB encI encC V.cells_mk V.cells_len Nat.mul_one Int.sub_zero List.map_nil beq_self_eq_true List.head?_cons
open Go.RowKit
set_option maxRecDepth 10000
set_option maxHeartbeats 4000000
structure TQ (t : Tm) : Prop where
  ls : t.slots.length ≤ 1000
  lt : t.steps.length ≤ 1000
  os : ∀ s ∈ t.slots, VQ s.dv ∧ (-9223372036854775808 ≤ s.types ∧ s.types ≤ 9223372036854775807)
  ot : ∀ s ∈ t.steps, VQ s.slot.dv ∧ (-9223372036854775808 ≤ s.slot.types ∧ s.slot.types ≤ 9223372036854775807) ∧ s.order.length ≤ 1000
def Sch.refVers (t : Tm) : List Vr := if 0 < Sch.last t then Sch.vers t else []
theorem Vr.cells_leaf (x : Vr) : ∀ d ∈ x.cells, d.leaf = true := by
  intro d hd
  unfold Vr.cells at hd
  simp only [List.mem_cons, List.not_mem_nil, or_false] at hd
  rcases hd with rfl | rfl <;> rfl
end Go.Proofs.YtgcienlfpnpbgaaGreat
end

section
namespace Go.Proofs.YtgcienlfpnpbgaaGreat
open Go.RowKit

theorem take_eq_stepI {α : Type} {xs ys : List α} {k : Nat} (h : xs.take k = ys.take k) (hx : k < xs.length) (hy : k < ys.length) (e : xs[k] = ys[k]) : xs.take (k + 1) = ys.take (k + 1) := by
  rw [take_snoc xs k hx, take_snoc ys k hy, h, e]

set_option maxHeartbeats 400000 in
theorem ints_any (u v : Value) (xs ys : List Int) (w : World) (hu : Sees iv w u xs) (hv : Sees iv w v ys) :
    Calls Tryz.prog 36 #[u, v] w fun e w' => e = .returned (.bool (decide (xs = ys))) ∧ ∃ n, w' = w.drewN n := by
  obtain ⟨a, cap, rfl, h1, h2, h3, h4⟩ := hu
  obtain ⟨a', cap', rfl, h1', h2', h3', h4'⟩ := hv
  unfold maxLen at h2 h2'
  by_cases hl : xs.length = ys.length
  · have hl' : ((xs.length : Int) != (ys.length : Int)) = false := by rw [bne_eq_false_iff_eq]; omega
    have HL := Lib.hid hl
    have i1 : xs.length ≤ ys.length := by omega
    have i2 : ys.length ≤ xs.length := by omega
    clear hl
    obtain ⟨q, hq⟩ : ∃ q, decide (xs = ys) = q := ⟨_, rfl⟩
    rw [hq]
    have HQ := Lib.hid hq; clear hq
    go_enter Tryz.func36, Tryz.ntmps36
    go_wp2
    go_loopw [5] (fun i wr => ∃ k : Nat, k ≤ xs.length ∧ i = .int .i64 k ∧ xs.take k = ys.take k ∧ ∃ n, wr = w.drewN n) (fun i _ => xs.length - (intOf i).toNat)
    case atStart => exact ⟨0, Nat.zero_le _, rfl, rfl, 0, rfl⟩
    case round =>
      obtain ⟨k, hk, rfl, htk, n, rfl⟩ := hrel
      have HT := Lib.hid htk; clear htk
      by_cases hlt : k < xs.length
      · have hlt' : k < ys.length := by omega
        obtain ⟨⟨b, off, s⟩, rfl⟩ : ∃ b, a = some b := by
          cases a with
          | none => have := h3 rfl; omega
          | some b => exact ⟨b, rfl⟩
        obtain ⟨⟨b', off', s'⟩, rfl⟩ : ∃ b, a' = some b := by
          cases a' with
          | none => have := h3' rfl; omega
          | some b => exact ⟨b, rfl⟩
        obtain ⟨e1, e2, e3⟩ := h4 _ rfl (by omega)
        obtain ⟨e1', e2', e3'⟩ := h4' _ rfl (by omega)
        dsimp only at e1 e2 e3 e1' e2' e3'
        subst e1 e1'
        have hc := e3 k hlt
        have hc' := e3' k hlt'
        have HX := Lib.hid (fun e : xs[k] = ys[k] => take_eq_stepI HT.out hlt hlt' e)
        have HN := Lib.hid (fun (h : xs[k] ≠ ys[k]) (e : xs = ys) => h (by simp only [e]))
        clear h4 h4' e3 e3' h3 h3'
        generalize xs[k] = x at *
        generalize ys[k] = y at *
        unfold iv at hc hc'
        by_cases hxy : x = y
        · subst hxy
          go_wp2
          go_quiet (fail)
          go_wp2
          go_roundw
          case rel => exact ⟨k + 1, by omega, by go_num, HX.out trivial, _, rfl⟩
          case measure => simp [intOf]; omega
        · have hn : (x != y) = true := by rw [bne_iff_ne]; exact hxy
          have hne : decide (xs = ys) = false := by rw [decide_eq_false_iff_not]; exact HN.out hxy
          have HE := Lib.hid (HQ.out.symm.trans hne)
          clear hne hxy
          go_wp2
          go_quiet (fail)
          go_wp2
          go_ret
          exact ⟨ret_bool HE.out.symm, _, by first | rfl | exact World.drewN_drewN _ _ _⟩
      · clear h4 h4' h3 h3'
        have HE : Hid (q = true) := by
          have := HT.out
          rw [List.take_of_length_le (by omega), List.take_of_length_le (by omega)] at this
          show q = true
          rw [← HQ.out, this]; simp
        go_wp2
        go_ret
        exact ⟨ret_bool HE.out.symm, _, by first | rfl | exact World.drewN_drewN _ _ _⟩
  · have hl' : ((xs.length : Int) != (ys.length : Int)) = true := by rw [bne_iff_ne]; omega
    have hne : decide (xs = ys) = false := by rw [decide_eq_false_iff_not]; intro e; exact hl (by rw [e])
    rw [hne]
    clear hne hl
    go_enter Tryz.func36, Tryz.ntmps36
    go_wp2
    go_ret
    exact ⟨rfl, 0, rfl⟩
end Go.Proofs.YtgcienlfpnpbgaaGreat
end

section
namespace Go.Proofs.YtgcienlfpnpbgaaGreat
set_option linter.unusedSimpArgs false
attribute [local push_cast] encB encI encC V.cells_mk V.cells_len Nat.mul_one Int.sub_zero List.map_nil beq_self_eq_true bne_self_eq_false List.head?_cons
open Go.RowKit
set_option maxRecDepth 10000
set_option maxHeartbeats 8000000
namespace Reg
def RightTo (L : List Tm) (i : Nat) : Prop := ∀ (j : Nat) (t : Tm), j < i → L[j]? = some t → 0 < Sch.last t ∧ ∀ (k : Nat) (u : Tm), k < j → L[k]? = some u → (t.name.toList == u.name.toList) = false
end Reg
end Go.Proofs.YtgcienlfpnpbgaaGreat
end

section
namespace Go.Proofs.YtgcienlfpnpbgaaGreat
set_option linter.unusedSimpArgs false
attribute [local push_cast] encB encI encBs V.cells_mk V.cells_take V.cells_len Nat.mul_one Int.sub_zero
open Go.RowKit B
set_option maxRecDepth 10000
set_option maxHeartbeats 4000000
end Go.Proofs.YtgcienlfpnpbgaaGreat
end

section
namespace Go.Proofs.YtgcienlfpnpbgaaGreat
set_option linter.unusedSimpArgs false
attribute [local push_cast] encB encI encBs V.cells_mk V.cells_take V.cells_len Nat.mul_one Int.sub_zero
open Go.RowKit B
set_option maxRecDepth 10000
set_option maxHeartbeats 4000000
end Go.Proofs.YtgcienlfpnpbgaaGreat
end

section
namespace Go.Proofs.YtgcienlfpnpbgaaGreat
set_option linter.unusedSimpArgs false
attribute [local push_cast] encB encI encC encBs V.cells_mk V.cells_len Nat.mul_one Int.sub_zero List.map_nil beq_self_eq_true bne_self_eq_false List.head?_cons
open Go.RowKit B
set_option maxRecDepth 10000
set_option maxHeartbeats 8000000
namespace Reg
end Reg
end Go.Proofs.YtgcienlfpnpbgaaGreat
end

section
namespace Go.Proofs.YtgcienlfpnpbgaaGreat
set_option linter.unusedSimpArgs false
attribute [local push_cast] encB encI encC encBs V.cells_mk V.cells_len Nat.mul_one Int.sub_zero List.map_nil beq_self_eq_true bne_self_eq_false List.head?_cons
open Go.RowKit B
set_option maxRecDepth 10000
set_option maxHeartbeats 16000000
namespace Reg
def upTo {α : Type} (f : α → List UInt8) (X : List UInt8) (l : List α) (i : Nat) : List UInt8 := X ++ ((l.take i).map f).flatten
theorem upTo_zero {α : Type} (f : α → List UInt8) (X : List UInt8) (l : List α) : upTo f X l 0 = X := by unfold upTo; simp
theorem upTo_succ {α : Type} (f : α → List UInt8) (X : List UInt8) {l : List α} {i : Nat} {a : α} (h : l[i]? = some a) : upTo f X l (i + 1) = upTo f X l i ++ f a := by
  unfold upTo
  rw [List.take_add_one, h, Option.toList_some, List.map_append, List.flatten_append, List.append_assoc]
  congr 2
  show [f a].flatten = _
  rw [List.flatten_cons, List.flatten_nil, List.append_nil]
theorem upTo_all {α : Type} (f : α → List UInt8) (X : List UInt8) (l : List α) : upTo f (X ++ be 4 l.length) l l.length = X ++ listB f l := by
  unfold upTo listB
  rw [List.take_length, List.append_assoc]
theorem upTo_len {α : Type} (f : α → List UInt8) (X : List UInt8) (c k : Nat) (l : List α) (hf : ∀ a ∈ l, (f a).length ≤ k) (hX : X.length ≤ c) (i : Nat) (hi : i ≤ l.length) : (upTo f X l i).length ≤ c + i * k := by
  induction i with
  | zero => rw [upTo_zero]; omega
  | succ i ih =>
    obtain ⟨a, ha⟩ : ∃ a, l[i]? = some a := ⟨_, List.getElem?_eq_getElem (by omega)⟩
    have h1 := ih (by omega)
    have h2 := hf a (List.mem_of_getElem? ha)
    rw [upTo_succ f X ha, List.length_append, Nat.add_mul]
    omega
end Reg
end Go.Proofs.YtgcienlfpnpbgaaGreat
end
