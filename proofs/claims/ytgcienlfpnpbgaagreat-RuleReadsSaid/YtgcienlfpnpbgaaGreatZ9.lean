/- Texts put together. No statement is proved here. -/
import Derived.Test.YtgcienlfpnpbgaaGreatZ8
set_option linter.all false
set_option maxRecDepth 10000
set_option maxHeartbeats 8000000
namespace Go.Proofs.YtgcienlfpnpbgaaGreat
open Go.RowKit
section
attribute [local push_cast] encB encI encC encBs V.cells_mk V.cells_len Nat.mul_one Int.sub_zero List.map_nil beq_self_eq_true bne_self_eq_false List.head?_cons
open Go.RowKit B
set_option maxHeartbeats 16000000
abbrev penR (pb : Nat) (o : Own) (X : List UInt8) (q : Bool) (s : St) : St := .box pb 119 [.sl o (X.map encB), .b q] :: .room o 5 1 (X.map encB).length :: s
def PenC (f : FuncId) (args : List D) (pb : Nat) (X Y : List UInt8) (q q' : Bool) : Prop := ∀ (o : Own), o ≠ .shared → ∀ s, TrF Tryz.prog f args (penR pb o X q s) fun d st' => ∃ o', o' ≠ .shared ∧ d = .tup [] ∧ st' = penR pb o' (X ++ Y) (q || q') s
namespace Rul
def badN (n : Int) : Bool := decide (n < 0) || decide (255 < n)
end Rul
theorem penBytesF (pb : Nat) (l : List Int) (hl : l.length ≤ 100) (X : List UInt8) (q : Bool) (hX : X.length + l.length ≤ 10000000000000) : PenC 97 [.ptr pb 0, .sl .shared (l.map encI)] pb X (l.map Reg.b8) q (l.any Rul.badN) := by
 intro o ho s
 have hm : (l.map encI).length = l.length := List.length_map ..
 have hc : Hid (∀ (i : Nat) (n : Int), l[i]? = some n → (l.map encI)[i]? = some [.i n]) := fun i n h => by rw [List.getElem?_map, h]; rfl
 have hX2 : Hid (X ++ l.map Reg.b8 = X ++ (l.take l.length).map Reg.b8) := Lib.hid (by rw [List.take_length])
 have hq2 : Hid ((q || l.any Rul.badN) = (q || (l.take l.length).any Rul.badN)) := Lib.hid (by rw [List.take_length])
 rw [hX2.out, hq2.out]
 clear hX2 hq2
 generalize l.map encI = LI at *
 refine Qin [] Tryz.func97 Tryz.results97 Tryz.ntmps97 ?_
 repeat' (first | refine QX ?_ | (refine QB ?_; intro b) | (refine QP ?_; intro o' ho') | (with_reducible refine QZ ?_ <;> (try constructor) <;> intro hb <;> try intro hb1) | fail)
 refine tr_loopd (ι := Nat) (fun i A st' => i ≤ l.length ∧ A.df = [] ∧ A.e 0 = .ptr pb 0 ∧ A.e 6 = .sl .shared LI ∧ A.e 7 = .i l.length ∧ A.e 8 = .i i ∧ ∃ (o' : Own) (X2 : List UInt8) (q2 : Bool), o' ≠ .shared ∧ Hid (X2 = X ++ (l.take i).map Reg.b8) ∧ X2.length = X.length + i ∧ Hid (q2 = (q || (l.take i).any Rul.badN)) ∧ st' = penR pb o' X2 q2 s) (fun i => l.length - i) 0 ⟨Nat.zero_le _, Qf, Qf, Qf, Qf, Qf, o, X, q, ho, Lib.hid (by simp), rfl, Lib.hid (by simp), rfl⟩ ?_
 clear ho
 rintro i A st' ⟨hi, hdf, e0, e6, e7, e8, o, X2, q2, ho, hXe, hXl, hqe, rfl⟩
 by_cases hlt : i < l.length
 · obtain ⟨n, hn⟩ := gEx hlt
   have h1 := hc.out i n hn
   have hX3 : Hid (X2 ++ [Reg.b8 n] = X ++ (l.take (i + 1)).map Reg.b8) := Lib.hid (by rw [List.take_add_one, hn, Option.toList_some, List.map_append, ← List.append_assoc, ← hXe.out]; rfl)
   have hq3 : Hid ((q2 || Rul.badN n) = (q || (l.take (i + 1)).any Rul.badN)) := Lib.hid (by rw [List.take_add_one, hn, Option.toList_some, List.any_append, ← Bool.or_assoc, ← hqe.out]; simp)
   have hw := u8_wrapI n
   have hXm : (X2.map encB).length = X2.length := List.length_map ..
   clear hXe hqe hn hc
   unfold Rul.badN at hq3
   generalize Reg.b8 n = w at *
   have hXb : X2.length ≤ 10000000000000 := by omega
   have hXl3 : (X2 ++ [w]).length = X.length + (i + 1) := by rw [List.length_append]; show _ + 1 = _; omega
   cases q2 with
   | true =>
    rw [Bool.true_or] at hq3
    repeat' (first | refine QX ?_ | (refine QB ?_; intro b) | (refine QP ?_; intro o' ho') | (with_reducible refine QZ ?_ <;> (try constructor) <;> intro hb <;> try intro hb1) | fail)
    refine ⟨i + 1, .box pb 119 [.sl o' (X2.map encB ++ [encB w]), .b true] :: .room o' 5 1 (X2.map encB ++ [encB w]).length :: s, q_t, ⟨hlt, ?_, ?_, ?_, ?_, ?_, o', X2 ++ [w], true, ho', hX3, hXl3, hq3, ?_⟩, ?_⟩
    rotate_right 2
    · unfold penR; rw [List.map_append]; rfl
    all_goals exact Qf
   | false =>
    rw [Bool.false_or] at hq3
    by_cases n0 : n < 0
    · rw [decide_eq_true n0, Bool.true_or] at hq3
      repeat' (first | refine QX ?_ | (refine QB ?_; intro b) | (refine QP ?_; intro o' ho') | (with_reducible refine QZ ?_ <;> (try constructor) <;> intro hb <;> try intro hb1) | fail)
      refine ⟨i + 1, .box pb 119 [.sl o' (X2.map encB ++ [encB w]), .b true] :: .room o' 5 1 (X2.map encB ++ [encB w]).length :: s, q_t, ⟨hlt, ?_, ?_, ?_, ?_, ?_, o', X2 ++ [w], true, ho', hX3, hXl3, hq3, ?_⟩, ?_⟩
      rotate_right 2
      · unfold penR; rw [List.map_append]; rfl
      all_goals exact Qf
    · rw [decide_eq_false n0, Bool.false_or] at hq3
      by_cases n2 : 255 < n
      · rw [decide_eq_true n2] at hq3
        repeat' (first | refine QX ?_ | (refine QB ?_; intro b) | (refine QP ?_; intro o' ho') | (with_reducible refine QZ ?_ <;> (try constructor) <;> intro hb <;> try intro hb1) | fail)
        refine ⟨i + 1, .box pb 119 [.sl o' (X2.map encB ++ [encB w]), .b true] :: .room o' 5 1 (X2.map encB ++ [encB w]).length :: s, q_t, ⟨hlt, ?_, ?_, ?_, ?_, ?_, o', X2 ++ [w], true, ho', hX3, hXl3, hq3, ?_⟩, ?_⟩
        rotate_right 2
        · unfold penR; rw [List.map_append]; rfl
        all_goals exact Qf
      · rw [decide_eq_false n2] at hq3
        repeat' (first | refine QX ?_ | (refine QB ?_; intro b) | (refine QP ?_; intro o' ho') | (with_reducible refine QZ ?_ <;> (try constructor) <;> intro hb <;> try intro hb1) | fail)
        refine ⟨i + 1, .box pb 119 [.sl o' (X2.map encB ++ [encB w]), .b false] :: .room o' 5 1 (X2.map encB ++ [encB w]).length :: s, q_t, ⟨hlt, ?_, ?_, ?_, ?_, ?_, o', X2 ++ [w], false, ho', hX3, hXl3, hq3, ?_⟩, ?_⟩
        rotate_right 2
        · unfold penR; rw [List.map_append]; rfl
        all_goals exact Qf
 · obtain rfl : i = l.length := by omega
   repeat' (first | refine QX ?_ | (refine QB ?_; intro b) | (refine QP ?_; intro o' ho') | (with_reducible refine QZ ?_ <;> (try constructor) <;> intro hb <;> try intro hb1) | fail)
   all_goals (refine retA_mk (by simp) q_y (List.Sublist.refl _) (LE.of_eq rfl) ⟨o, ho, rfl, ?_⟩; rw [hXe.out, hqe.out])
theorem penValueF (pb : Nat) (v : V) (hv : VQ v) (X : List UInt8) (q : Bool) (hX : X.length ≤ 10000000000000) : PenC 101 [.ptr pb 0, .agg v.cells] pb X v.bin q (decide (v.bin = [])) := by
 intro o ho s
 have hB := binValueF v.nodes v (Nat.le_refl _) (by have := hv.nodes; omega) hv.ok
 have hbl := Reg.bin_len v
 have hm : (v.bin.map encB).length = v.bin.length := List.length_map ..
 have hXm : (X.map encB).length = X.length := List.length_map ..
 have hn : Hid (decide (v.bin = []) = decide ((v.bin.length : Int) = 0)) := Lib.hid (by
  cases v.bin with
  | nil => rfl
  | cons a l => rw [decide_eq_false (by intro h; cases h), decide_eq_false (by rw [List.length_cons]; omega)])
 rw [hn.out]
 clear hn
 generalize v.bin = Y at *
 cases v with
 | mk k n sv lv =>
 rw [V.cells_mk] at *
 generalize lv.map V.cells = VL at *
 clear hv
 replace hB := Lib.hid hB
 have happ : (X ++ Y).map encB = X.map encB ++ Y.map encB := List.map_append ..
 by_cases h0 : (Y.length : Int) = 0
 · rw [decide_eq_true h0, Bool.or_true]
   cases q
   all_goals (
    refine Qin [] Tryz.func101 Tryz.results101 Tryz.ntmps101 ?_
    repeat' (first | refine QX ?_ | (refine QB ?_; intro b) | (refine QP ?_; intro o' ho') | (with_reducible refine QZ ?_ <;> (try constructor) <;> intro hb <;> try intro hb1) | (refine QE Tryz.call138 (hB.out _) ?_; intro o1 ho1) | fail)
    all_goals (refine retA_mk (by simp) q_y (st' := .box pb 119 [.sl o' (X.map encB ++ Y.map encB), .b true] :: .room o' 5 1 (X.map encB ++ Y.map encB).length :: s) q_t (LE.of_eq rfl) ⟨o', ho', rfl, ?_⟩; unfold penR; rw [happ]))
 · rw [decide_eq_false h0, Bool.or_false]
   have h0b : ((Y.length : Int) == 0) = false := beq_eq_false_iff_ne.2 h0
   cases q
   all_goals (
    refine Qin [] Tryz.func101 Tryz.results101 Tryz.ntmps101 ?_
    repeat' (first | refine QX ?_ | (refine QB ?_; intro b) | (refine QP ?_; intro o' ho') | (with_reducible refine QZ ?_ <;> (try constructor) <;> intro hb <;> try intro hb1) | (refine QE Tryz.call138 (hB.out _) ?_; intro o1 ho1) | fail)
    all_goals (refine retA_mk (by simp) q_y (st' := .box pb 119 [.sl o' (X.map encB ++ Y.map encB), .b _] :: .room o' 5 1 (X.map encB ++ Y.map encB).length :: s) q_t (LE.of_eq rfl) ⟨o', ho', rfl, ?_⟩; unfold penR; rw [happ]))
end
section
attribute [local push_cast] encB encI encC encBs V.cells_mk V.cells_len Nat.mul_one Int.sub_zero List.map_nil beq_self_eq_true bne_self_eq_false List.head?_cons
open Go.RowKit B
namespace Reg
def SlP (s : Sl) : Prop := s.name.size ≤ 300 ∧ s.dv.nodes ≤ 1000 ∧ s.dv.Ok
def StP (p : Stp) : Prop := SlP p.slot ∧ p.order.length ≤ 1000
structure TmP (t : Tm) : Prop where
 nm : t.name.size ≤ 300
 ls : t.slots.length ≤ 8
 lt : t.steps.length ≤ 8
 os : ∀ s ∈ t.slots, SlP s
 ot : ∀ s ∈ t.steps, StP s
def listB {α : Type} (f : α → List UInt8) (l : List α) : List UInt8 := be 4 l.length ++ (l.map f).flatten
theorem listB_len {α : Type} (f : α → List UInt8) (k : Nat) : ∀ (l : List α), (∀ x ∈ l, (f x).length ≤ k) → (listB f l).length ≤ 4 + l.length * k := fun l h => by
 unfold listB
 rw [List.length_append, be_len]
 have : ∀ l : List α, (∀ x ∈ l, (f x).length ≤ k) → (l.map f).flatten.length ≤ l.length * k := fun l => by
  induction l with
  | nil => intro _; simp
  | cons a l ih =>
   intro h
   have h1 := ih fun x hx => h x (List.mem_cons_of_mem _ hx)
   have h2 := h a (List.mem_cons_self ..)
   rw [List.map_cons, List.flatten_cons, List.length_append, List.length_cons, Nat.add_mul]
   omega
 have := this l h
 omega
def tmP (t : Tm) : List (List UInt8) := [tx t.name.data.toList, listB slotB t.slots, listB stepB t.steps]
def tmB (t : Tm) : List UInt8 := (tmP t).flatten
def put (L : List Tm) : List UInt8 := if right L = true then listB tmB L else []
end Reg
end
section
attribute [local push_cast] encB encI encC V.cells_mk V.cells_len Nat.mul_one Int.sub_zero List.map_nil beq_self_eq_true bne_self_eq_false List.head?_cons
namespace Reg
def all2 {α : Type} (f : α → α → Bool) : List α → List α → Bool
 | [], [] => true
 | a :: l, b :: m => f a b && all2 f l m
 | _, _ => false
def slotS (a b : Sl) : Bool := (a.name.toList == b.name.toList) && ((a.types == b.types) && ((a.req == b.req) && (a.dv.cmp b.dv == 0)))
def stepS (a b : Stp) : Bool := (a.kind == b.kind) && ((a.col == b.col) && (slotS a.slot b.slot && all2 (· == ·) a.order b.order))
def tmS (a b : Tm) : Bool := (a.name.toList == b.name.toList) && (all2 slotS a.slots b.slots && all2 stepS a.steps b.steps)
def same (a b : List Tm) : Bool := all2 tmS a b
structure TmQ (t : Tm) : Prop where
 ls : t.slots.length ≤ 1000000
 lt : t.steps.length ≤ 1000000
 os : ∀ s ∈ t.slots, s.dv.Bg
 ot : ∀ s ∈ t.steps, s.slot.dv.Bg ∧ s.order.length ≤ 1000000
end Reg
end
namespace RS
theorem vals_nodes {f : RS → V × RS} {B : Nat} (hf : ∀ s, (f s).1.nodes ≤ B) : ∀ n s, V.nodesL (vals f n s).1 ≤ n * B
 | 0, s => by rw [vals]; simp [V.nodesL]
 | n + 1, s => by
  rw [vals]
  split
  · simp [V.nodesL]
  · have h1 := vals_nodes hf n (f s).2
    have h2 := hf s
    dsimp only
    rw [V.nodesL, Nat.succ_mul]
    omega
theorem body_nodes {f : Option (RS → V × RS)} {B : Nat} (hf : ∀ g, f = some g → ∀ s, (g s).1.nodes ≤ B) (s : RS) : (body f s).1.nodes ≤ 1 + 20 * B := by
 unfold body
 split
 · simp [V.nodes, V.nodesL]
 split
 · simp [V.nodes, V.nodesL]
 split
 · simp [V.nodes, V.nodesL]
 split
 · unfold list5
   cases f with
   | none => simp [V.nodes, V.nodesL]
   | some g =>
    dsimp only
    split
    · simp [V.nodes, V.nodesL]
    · rename_i hn
      have h1 := vals_nodes (hf g rfl) s.byte.2.rnum.1.toNat s.byte.2.rnum.2
      have h2 : s.byte.2.rnum.1.toNat * B ≤ 20 * B := Nat.mul_le_mul_right _ q_o
      dsimp only
      rw [V.nodes]
      omega
 · simp [V.nodes, V.nodesL]
theorem value_nodes4 (s : RS) : (value 4 s).1.nodes ≤ 4611686018427387904 := by
 have h0 := fun s => body_nodes (f := none) (B := 0) (fun g h => by cases h) s
 have h1 := fun s => body_nodes (f := some (value 0)) (B := 1 + 20 * 0) (fun g h => by cases h; exact h0) s
 have h2 := fun s => body_nodes (f := some (value 1)) (B := 1 + 20 * (1 + 20 * 0)) (fun g h => by cases h; exact h1) s
 have h3 := fun s => body_nodes (f := some (value 2)) (B := 1 + 20 * (1 + 20 * (1 + 20 * 0))) (fun g h => by cases h; exact h2) s
 have h4 := body_nodes (f := some (value 3)) (B := 1 + 20 * (1 + 20 * (1 + 20 * (1 + 20 * 0)))) (fun g h => by cases h; exact h3) s
 exact Nat.le_trans h4 (by decide)
end RS
section
attribute [local push_cast] encB encI RS.cells V.cells_mk V.cells_len Nat.mul_one Int.sub_zero List.map_nil beq_self_eq_true bne_self_eq_false List.head?_cons
open Go.RowKit B
namespace Reg
def rdL {α : Type} (f : RS → α × RS) : Nat → RS → List α × RS
 | 0, s => ([], s)
 | n + 1, s => if s.bad = true then ([], s) else ((f s).1 :: (rdL f n (f s).2).1, (rdL f n (f s).2).2)
def rlist {α : Type} (f : RS → α × RS) (k : Int) (s : RS) : List α × RS := rdL f (if k < s.rnum.1 then k else s.rnum.1).toNat s.rnum.2
def slot0 : Sl := ⟨⟨#[]⟩, 0, false, V.zero⟩
def getSlot (s : RS) : Sl × RS :=
 (⟨if 1 < s.text.2.byte.2.byte.1 then ⟨#[]⟩ else s.text.1, s.text.2.byte.1, s.text.2.byte.2.byte.1 == 1, s.text.2.byte.2.byte.2.val.1⟩, s.text.2.byte.2.byte.2.val.2)
def getStep (s : RS) : Stp × RS :=
 if s.byte.1 = 1 then (⟨1, 0, (getSlot s.byte.2).1, []⟩, (getSlot s.byte.2).2)
 else if s.byte.1 = 2 then (⟨2, s.byte.2.byte.1, slot0, []⟩, s.byte.2.byte.2)
 else if s.byte.1 = 3 then (⟨3, s.byte.2.byte.1, { slot0 with name := s.byte.2.byte.2.text.1 }, []⟩, s.byte.2.byte.2.text.2)
 else if s.byte.1 = 4 then (⟨4, s.byte.2.byte.1, { slot0 with types := s.byte.2.byte.2.byte.1 }, []⟩, s.byte.2.byte.2.byte.2)
 else if s.byte.1 = 5 then (⟨5, 0, slot0, (rlist RS.byte 9 s.byte.2).1⟩, (rlist RS.byte 9 s.byte.2).2)
 else (⟨s.byte.1, 0, slot0, []⟩, s.byte.2)
def getTm (s : RS) : Tm × RS :=
 (⟨s.text.1, (rlist getSlot 9 s.text.2).1, (rlist getStep 9 (rlist getSlot 9 s.text.2).2).1⟩, (rlist getStep 9 (rlist getSlot 9 s.text.2).2).2)
def read (s : RS) : Option (List Tm) × RS :=
 if (rlist getTm 7 s).2.bad = true ∨ right (rlist getTm 7 s).1 = false then (none, (rlist getTm 7 s).2) else (some (rlist getTm 7 s).1, (rlist getTm 7 s).2)
end Reg
theorem Stp.cells_mk (kind col : Int) (nm : ByteArray) (ty : Int) (rq : Bool) (k n : Int) (sv : ByteArray) (lv : List V) (order : List Int) : (Stp.mk kind col (Sl.mk nm ty rq (.mk k n sv lv)) order).cells = [.i kind, .i col, .str nm, .i ty, .b rq, .i k, .i n, .str sv, .sl .shared (lv.map V.cells), .sl .shared (order.map encI)] := by
 unfold Stp.cells
 rw [Sl.cells_mk]; rfl
theorem Tm.cells_mk (nm : ByteArray) (ss : List Sl) (tt : List Stp) : (Tm.mk nm ss tt).cells = [.str nm, .sl .shared (ss.map Sl.cells), .sl .shared (tt.map Stp.cells)] := rfl
namespace Reg
def get (b : List UInt8) : Option (List Tm) := if (read ⟨.shared, b, false⟩).1.isSome = true ∧ (read ⟨.shared, b, false⟩).2.bad = false ∧ (read ⟨.shared, b, false⟩).2.l.length = 0 then (read ⟨.shared, b, false⟩).1 else none
end Reg
theorem cloneB2F (o : Own) (l : List UInt8) (hl : l.length ≤ 10000000) (st : St) : TrF Tryz.prog 72 [.sl o (l.map encB)] st fun d st' => d = .sl .shared (l.map encB) ∧ st' = st := by
 refine Qin [2] Tryz.func72 Tryz.results72 Tryz.ntmps72 ?_
 refine tr_room 5 1 0 ?_
 repeat' (first | refine QV ?_ | ((with_reducible apply s_isNil); (focus exact q_v); (focus exact q_v); intro bn hbn) | refine QY ?_ | (refine QB ?_; intro b) | (refine QP ?_; intro o' ho') | (with_reducible refine QZ ?_ <;> (try constructor) <;> intro hb <;> try intro hb1) | fail)
 · have h := hbn hb
   rw [h]
   clear hbn hb h
   exact Qret
 · exact Qret
theorem binRead2F (o : Own) (l : List UInt8) (hl : l.length ≤ 10000000) (st : St) : TrF Tryz.prog 27 [.sl o (l.map encB)] st fun d st' => ∃ b, d = .ptr b 0 ∧ st' = rdR b ⟨.shared, l, false⟩ :: st := by
 have hC := Lib.hid (cloneB2F o l hl)
 refine Qin [2] Tryz.func27 Tryz.results27 Tryz.ntmps27 ?_
 repeat' (first | with_reducible refine s_boxP ?_ | refine QX ?_ | (refine QB ?_; intro b) | (refine QP ?_; intro o' ho') | (with_reducible refine QZ ?_ <;> (try constructor) <;> intro hb <;> try intro hb1) | fail)
 refine ret_new (b := b) (B := fun b => rdR b ⟨.shared, l, false⟩) q_x (Qf) (Qf) (.refl _)
end
section
open Go.RowKit B
namespace B
theorem fold_num : ∀ (l : List UInt8) (a : Nat), l.foldl (fun n c => n * 256 + c.toNat) a = a * 256 ^ l.length + num l
 | [], a => by simp [num]
 | c :: l, a => by
  have h1 := fold_num l (a * 256 + c.toNat)
  have h2 := fold_num l (0 * 256 + c.toNat)
  unfold num
  rw [List.foldl_cons, List.foldl_cons, h1, h2, List.length_cons, Nat.pow_succ, Nat.zero_mul, Nat.zero_add, Nat.add_mul, Nat.mul_assoc, Nat.mul_comm 256 (256 ^ l.length)]
  omega
theorem num_cons (c : UInt8) (l : List UInt8) : num (c :: l) = c.toNat * 256 ^ l.length + num l := by
 have := fold_num l (0 * 256 + c.toNat)
 rw [Nat.zero_mul, Nat.zero_add] at this
 rw [← this]; unfold num; rw [List.foldl_cons, Nat.zero_mul, Nat.zero_add]
theorem num_be : ∀ m x, num (be m x) = x % 256 ^ m
 | 0, x => by simp [be, num, Nat.mod_one]
 | m + 1, x => by
  rw [be, num_cons, be_len, num_be m x, UInt8.toNat_ofNat', show 256 ^ (m + 1) = 256 ^ m * 256 from Nat.pow_succ .., Nat.mod_mul (x := x) (a := 256 ^ m) (b := 256), Nat.mul_comm, Nat.add_comm]
end B
namespace RS
theorem byte_cons (o : Own) (c : UInt8) (l : List UInt8) : byte ⟨o, c :: l, false⟩ = ((c.toNat : Int), (⟨.shared, l, false⟩ : RS)) := rfl
theorem rnum_be (o : Own) (n : Nat) (hn : n ≤ 2147483647) (l : List UInt8) : rnum ⟨o, be 4 n ++ l, false⟩ = ((n : Int), (⟨.shared, l, false⟩ : RS)) := by
 have h4 := be_len 4 n
 unfold rnum
 dsimp only
 rw [if_neg (by rw [List.length_append, h4]; simp <;> omega), show (be 4 n ++ l).take 4 = be 4 n from List.take_left' h4, num_be]
 have : n % 256 ^ 4 = n := Nat.mod_eq_of_lt q_o
 rw [this, if_pos hn]
 unfold cut
 dsimp only
 rw [show (be 4 n ++ l).drop 4 = l from List.drop_left' h4]
theorem wrap_wrap (m : Int) (hm : -9223372036854775808 ≤ m ∧ m ≤ 9223372036854775807) : IntKind.i64.wrap ((IntKind.u64.wrap m).toNat : Int) = m := by
 simp [IntKind.wrap, IntKind.bits, IntKind.signed]; omega
theorem long_be (o : Own) (m : Int) (hm : -9223372036854775808 ≤ m ∧ m ≤ 9223372036854775807) (l : List UInt8) : long ⟨o, be 8 (IntKind.u64.wrap m).toNat ++ l, false⟩ = (m, (⟨.shared, l, false⟩ : RS)) := by
 have h8 := be_len 8 (IntKind.u64.wrap m).toNat
 unfold long
 dsimp only
 rw [if_neg (by rw [List.length_append, h8]; simp <;> omega), show (be 8 (IntKind.u64.wrap m).toNat ++ l).take 8 = be 8 (IntKind.u64.wrap m).toNat from List.take_left' h8, num_be]
 have : (IntKind.u64.wrap m).toNat % 256 ^ 8 = (IntKind.u64.wrap m).toNat := Nat.mod_eq_of_lt (by simp [IntKind.wrap, IntKind.bits, IntKind.signed] <;> omega)
 rw [this, wrap_wrap m hm]
 unfold cut
 dsimp only
 rw [show (be 8 (IntKind.u64.wrap m).toNat ++ l).drop 8 = l from List.drop_left' h8]
theorem text_tx (o : Own) (s : ByteArray) (hs : s.size ≤ 2147483647) (l : List UInt8) : text ⟨o, tx s.data.toList ++ l, false⟩ = (s, (⟨.shared, l, false⟩ : RS)) := by
 have hl : s.data.toList.length = s.size := by simp
 unfold text tx
 rw [List.append_assoc, hl, rnum_be o s.size hs]
 unfold textN
 dsimp only
 rw [if_neg (by rw [List.length_append, hl]; simp <;> omega), Int.toNat_natCast]
 unfold cut
 dsimp only
 rw [show (s.data.toList ++ l).take s.size = s.data.toList from List.take_left' hl, show (s.data.toList ++ l).drop s.size = l from List.drop_left' hl]
theorem vals_put {f : RS → V × RS} (l0 : List UInt8) : ∀ (l : List V), (∀ x ∈ l, ∀ r, f ⟨.shared, x.put ++ r, false⟩ = (x, ⟨.shared, r, false⟩)) → vals f l.length ⟨.shared, V.putL l ++ l0, false⟩ = (l, ⟨.shared, l0, false⟩)
 | [], _ => by simp [vals, V.putL]
 | x :: l, h => by
  rw [List.length_cons, vals, if_neg (by simp), V.putL, List.append_assoc, h x (List.mem_cons_self ..)]
  dsimp only
  rw [vals_put l0 l fun y hy => h y (List.mem_cons_of_mem _ hy)]
theorem empty_of {s : ByteArray} (h : s.size = 0) : s = ⟨#[]⟩ := by
 apply ByteArray.ext
 apply Array.ext'
 have : s.data.toList.length = s.size := by simp
 exact List.eq_nil_of_length_eq_zero q_o
theorem deepL_mem {x : V} : ∀ {l : List V}, x ∈ l → x.deep ≤ V.deepL l
 | y :: l, h => by
  rw [V.deepL]
  rcases List.mem_cons.1 h with rfl | h
  · omega
  · have := deepL_mem h; omega
theorem value_put : ∀ (d : Nat) (v : V), v.parts = true → v.deep ≤ d → v.Ok → ∀ (o : Own) (r : List UInt8), value d ⟨o, v.put ++ r, false⟩ = (v, (⟨.shared, r, false⟩ : RS)) := fun d => by
 induction d using Nat.strongRecOn with
 | _ d IH =>
 intro v
 cases v with
 | mk k n s l =>
 intro hp hd hok o r
 obtain ⟨-, hkn, -, -, hall⟩ := hok
 obtain ⟨h1, h2, h3⟩ := V.parts_facts hp
 obtain ⟨f1, f2, f3, f4, f5, f6⟩ := V.sgl_facts h1
 have hsub : value d = body (match d with | 0 => none | e + 1 => some (value e)) := by cases d <;> rfl
 rw [hsub, V.put, List.cons_append]
 have hkb : ((UInt8.ofNat k.toNat).toNat : Int) = k := by rw [UInt8.toNat_ofNat']; omega
 unfold body
 rw [byte_cons, hkb]
 dsimp only
 have hse : k ≠ 3 ∧ k ≠ 4 → s = ⟨#[]⟩ := fun h => empty_of (f5 h)
 have hle : k ≠ 5 → l = [] := fun h => h2.resolve_left h
 have hn0 : k ≠ 1 ∧ k ≠ 2 → n = 0 := fun h => by
  unfold V.sgl at h1
  by_cases k0 : k = 0
  · subst k0; simp at h1; exact h1.1
  rw [if_neg k0, if_neg h.1, if_neg h.2] at h1
  by_cases k3 : k = 3
  · subst k3; simp at h1; exact h1.1
  rw [if_neg k3] at h1
  by_cases k4 : k = 4
  · subst k4; simp at h1; exact h1.1
  rw [if_neg k4] at h1
  by_cases k5 : k = 5
  · subst k5; simp at h1; exact h1.1
  rw [if_neg k5] at h1; cases h1
 by_cases k1 : k = 1
 · subst k1
   have hn := f3 q_o
   have hnb : ((UInt8.ofNat n.toNat).toNat : Int) = n := by rw [UInt8.toNat_ofNat']; omega
   rw [if_pos rfl, if_pos rfl, List.singleton_append, byte_cons, hnb, hse q_o, hle q_o]
 rw [if_neg k1, if_neg k1]
 by_cases k2 : k = 2
 · subst k2
   rw [if_pos rfl, if_pos rfl, long_be _ n hkn, hse q_o, hle q_o]
 rw [if_neg k2, if_neg k2]
 by_cases k34 : k = 3 ∨ k = 4
 · rw [if_pos k34, if_pos k34, text_tx _ s q_o, hn0 q_o, hle q_o]
 rw [if_neg k34, if_neg k34]
 by_cases k5 : k = 5
 · subst k5
   rw [if_pos rfl, if_pos rfl, List.append_assoc, rnum_be _ l.length (by have := f6 rfl; omega)]
   dsimp only
   rw [V.deep, if_pos (.inl rfl)] at hd
   obtain ⟨e, rfl⟩ : ∃ e, d = e + 1 := ⟨d - 1, by omega⟩
   unfold list5
   dsimp only
   rw [if_neg (by have := f6 rfl; omega), Int.toNat_natCast, vals_put r l fun x hx r => IH e q_o x (h3 x hx) (by
    have := deepL_mem hx
    omega) (hall x hx) _ r, hn0 q_o, hse q_o]
 · rw [if_neg k5, if_neg k5, List.nil_append, hn0 q_o, hse q_o, hle k5]
theorem val_put {v : V} (hr : v.right = true) (hok : v.Ok) (o : Own) (r : List UInt8) : val ⟨o, v.put ++ r, false⟩ = (v, (⟨.shared, r, false⟩ : RS)) := by
 obtain ⟨h1, h2, h3⟩ := V.right_iff.1 hr
 unfold val
 rw [if_neg (by simp), value_put 4 v h1 h2 hok, if_neg (by simp [hr])]
end RS
namespace RS
def Ex {α : Type} (f : RS → α × RS) : Prop := ∀ o l x o' r, f ⟨o, l, false⟩ = (x, ⟨o', r, false⟩) → ∀ q, f ⟨o, l ++ q, false⟩ = (x, ⟨o', r ++ q, false⟩)
def Bd {α : Type} (f : RS → α × RS) : Prop := ∀ s, s.bad = true → (f s).2.bad = true
end RS
end
namespace Sch
def cut (t : Tm) (k : Nat) : Tm := ⟨t.name, t.slots, t.steps.take k⟩
theorem last_len {t : Tm} (h : 0 < last t) : (vers t).length = t.steps.length + 1 ∧ last t = t.steps.length + 1 := by
 unfold last at h ⊢
 split at h
 · rename_i hl
   rw [if_pos hl]; exact ⟨hl, rfl⟩
 · omega
theorem modify_get {α : Type} {l : List α} {f : α → α} {i j : Nat} {y : α} (h : l[j]? = some y) : (l.modify i f)[j]? = some (if i = j then f y else y) := by
 rw [List.getElem?_modify, h]
 split <;> rfl
end Sch
structure Rc where
 v : Int
 s : List V
def Rc.cells (r : Rc) : List D := [.i r.v, .sl .shared (r.s.map V.cells)]
namespace Sch
structure Grow (a b : List Sl) : Prop where
 len : a.length ≤ b.length
 old : ∀ (i : Nat) (s : Sl), a[i]? = some s → ∃ s', b[i]? = some s' ∧ s'.dv = s.dv ∧ ∀ v, fits s v = true → fits s' v = true
theorem Grow.refl (a : List Sl) : Grow a a := ⟨Nat.le_refl _, fun _ s h => ⟨s, h, rfl, fun _ h => h⟩⟩
theorem Grow.trans {a b c : List Sl} (h : Grow a b) (k : Grow b c) : Grow a c := by
 refine ⟨Nat.le_trans h.len k.len, fun i s hs => ?_⟩
 obtain ⟨s1, h1, h2, h3⟩ := h.old i s hs
 obtain ⟨s2, k1, k2, k3⟩ := k.old i s1 h1
 exact ⟨s2, k1, k2.trans h2, fun v hv => k3 v (h3 v hv)⟩
structure SOk (s : Sl) : Prop where
 name : V.isName s.name.data.toList = true
 types : takes s.types = true
 def_ : fits s s.dv = true
theorem sound_ok {s : Sl} (h : sound s = true) : SOk s := by
 unfold sound at h
 rw [Bool.and_eq_true, Bool.and_eq_true] at h
 exact ⟨h.1.1, h.1.2, h.2⟩
theorem takes_iff {t : Int} : takes t = true ↔ 1 ≤ t ∧ t ≤ 63 := by
 unfold takes
 rw [Bool.and_eq_true, decide_eq_true_eq, decide_eq_true_eq]
theorem or_has (a b k : Nat) : has (a ||| b) k = (has a k || has b k) := by
 unfold has
 have h := Nat.testBit_or a b k
 simp only [Nat.testBit, Nat.shiftRight_eq_div_pow, Nat.one_and_eq_mod_two] at h
 rw [Bool.eq_iff_iff] at h ⊢
 simp only [bne_iff_ne, ne_eq, Bool.or_eq_true, beq_iff_eq] at h ⊢
 omega
theorem widen_nat {a b : Int} (ha : takes a = true) (hb : takes b = true) : ∃ (m n : Nat), a = m ∧ b = n ∧ m < 64 ∧ n < 64 ∧ bits .or .i64 a b = ((m ||| n : Nat) : Int) ∧ m ||| n < 64 := by
 rw [takes_iff] at ha hb
 obtain ⟨m, rfl⟩ := Int.eq_ofNat_of_zero_le (show 0 ≤ a by omega)
 obtain ⟨n, rfl⟩ := Int.eq_ofNat_of_zero_le (show 0 ≤ b by omega)
 have h := Nat.or_lt_two_pow (x := m) (y := n) (n := 6) q_o q_o
 exact ⟨m, n, rfl, rfl, by omega, by omega, i64_or_nat m n q_o q_o, by omega⟩
theorem fits_types {s s' : Sl} {v : V} (h : ∀ k n sv l, v = .mk k n sv l → bit s.types k = true → bit s'.types k = true) (hv : fits s v = true) : fits s' v = true := by
 unfold fits at hv ⊢
 rw [Bool.and_eq_true] at hv ⊢
 cases v with
 | mk k n sv l => exact ⟨hv.1, h k n sv l rfl hv.2⟩
theorem step_grow {x y : Vr} {s : Stp} (hx : ∀ z ∈ x.slots, SOk z) (h : stepV x s = some y) : Grow x.slots y.slots ∧ ∀ z ∈ y.slots, SOk z := by
 unfold stepV at h
 split at h
 · unfold addS at h
   split at h
   · rename_i hc
     cases h
     refine ⟨⟨by simp, fun i z hz => ⟨z, ?_, rfl, fun _ h => h⟩⟩, fun z hz => ?_⟩
     · have := (List.getElem?_eq_some_iff.1 hz).1
       show (x.slots ++ [s.slot])[i]? = _
       rw [List.getElem?_append_left this]; exact hz
     · rcases List.mem_append.1 hz with h | h
       · exact hx z h
       · rw [List.mem_singleton] at h
         subst h; exact sound_ok hc.2.2.2.1
   · cases h
 · split at h
   · unfold loseS at h
     split at h
     · cases h; exact ⟨Grow.refl _, hx⟩
     · cases h
   · split at h
     · unfold renameS at h
       split at h
       · rename_i hc
         cases h
         refine ⟨⟨by simp, fun i z hz => ⟨_, modify_get hz, ?_, fun v hv => ?_⟩⟩, fun z hz => ?_⟩
         · split <;> rfl
         · split
           · exact hv
           · exact hv
         · obtain ⟨j, hj⟩ := List.getElem?_of_mem hz
           cases hlj : x.slots[j]? with
           | none => rw [List.getElem?_modify, hlj] at hj; simp at hj
           | some w =>
            rw [modify_get hlj] at hj
            have hw := hx w (List.mem_of_getElem? hlj)
            cases hj
            split
            · exact ⟨hc.2.2.1, hw.types, hw.def_⟩
            · exact hw
       · cases h
     · split at h
       · unfold widenS at h
         split at h
         · rename_i hc
           cases h
           have hbit : ∀ w : Sl, SOk w → ∀ v, fits w v = true → fits { w with types := bits .or .i64 w.types s.slot.types } v = true := fun w hw v hv => by
            obtain ⟨m, n, e1, e2, l1, l2, e3, l3⟩ := widen_nat hw.types hc.2.2.1
            refine fits_types (fun k nn sv l hve hb => ?_) hv
            subst hve
            have hr : (V.mk k nn sv l).right = true := by
             unfold fits at hv
             rw [Bool.and_eq_true] at hv
             exact hv.1
            obtain ⟨k1, k2⟩ := V.right_kind hr
            obtain ⟨kn, rfl⟩ := Int.eq_ofNat_of_zero_le k1
            show bit (bits .or .i64 w.types s.slot.types) kn = true
            rw [e3, bit_has _ _ q_o, or_has]
            rw [e1, bit_has _ _ q_o] at hb
            rw [hb, Bool.true_or]
           refine ⟨⟨by simp, fun i z hz => ⟨_, modify_get hz, ?_, fun v hv => ?_⟩⟩, fun z hz => ?_⟩
           · split <;> rfl
           · split
             · exact hbit z (hx z (List.mem_of_getElem? hz)) v hv
             · exact hv
           · obtain ⟨j, hj⟩ := List.getElem?_of_mem hz
             cases hlj : x.slots[j]? with
             | none => rw [List.getElem?_modify, hlj] at hj; simp at hj
             | some w =>
              rw [modify_get hlj] at hj
              have hw := hx w (List.mem_of_getElem? hlj)
              cases hj
              split
              · refine ⟨hw.name, ?_, hbit w hw _ hw.def_⟩
                obtain ⟨m, n, e1, e2, l1, l2, e3, l3⟩ := widen_nat hw.types hc.2.2.1
                show takes (bits .or .i64 w.types s.slot.types) = true
                rw [e3, takes_iff]
                have hm : 1 ≤ m := by have := (takes_iff.1 hw.types).1; omega
                have : m ≤ m ||| n := Nat.left_le_or
                omega
              · exact hw
         · cases h
       · split at h
         · unfold reorderS at h
           split at h
           · cases hr : reo x.cols s.order [] with
             | none => rw [hr] at h; cases h
             | some r => rw [hr] at h; cases h; exact ⟨Grow.refl _, hx⟩
           · cases h
         · cases h
end Sch
section
open Go.RowKit B
namespace Reg
theorem byte_put (o : Own) (n : Int) (h : 0 ≤ n ∧ n ≤ 255) (l : List UInt8) : RS.byte ⟨o, byteB n ++ l, false⟩ = (n, (⟨.shared, l, false⟩ : RS)) := by
 have e : byteB n = [UInt8.ofNat n.toNat] := if_pos h
 rw [e, List.singleton_append, RS.byte_cons]
 have : ((UInt8.ofNat n.toNat).toNat : Int) = n := by
  rw [UInt8.toNat_ofNat']; omega
 rw [this]
theorem b8_put (o : Own) (n : Int) (h : 0 ≤ n ∧ n ≤ 255) (l : List UInt8) : RS.byte ⟨o, [b8 n] ++ l, false⟩ = (n, (⟨.shared, l, false⟩ : RS)) := by
 rw [List.singleton_append, RS.byte_cons]
 have : ((b8 n).toNat : Int) = n := by
  unfold b8
  rw [UInt8.toNat_ofNat']; omega
 rw [this]
theorem rdL_put {α : Type} {f : RS → α × RS} {g : α → List UInt8} (r : List UInt8) : ∀ (l : List α), (∀ x ∈ l, ∀ o r, f ⟨o, g x ++ r, false⟩ = (x, ⟨.shared, r, false⟩)) → rdL f l.length ⟨.shared, (l.map g).flatten ++ r, false⟩ = (l, (⟨.shared, r, false⟩ : RS))
 | [], _ => rfl
 | x :: l, h => by
  rw [List.length_cons, rdL, if_neg Bool.false_ne_true, List.map_cons, List.flatten_cons, List.append_assoc, h x (List.mem_cons_self ..)]
  dsimp only
  rw [rdL_put r l fun y hy => h y (List.mem_cons_of_mem _ hy)]
theorem rlist_put {α : Type} {f : RS → α × RS} {g : α → List UInt8} (k : Int) (l : List α) (hl : (l.length : Int) ≤ k) (hk : k ≤ 1000) (h : ∀ x ∈ l, ∀ o r, f ⟨o, g x ++ r, false⟩ = (x, ⟨.shared, r, false⟩)) (o : Own) (r : List UInt8) : rlist f k ⟨o, listB g l ++ r, false⟩ = (l, (⟨.shared, r, false⟩ : RS)) := by
 unfold rlist listB
 rw [List.append_assoc, RS.rnum_be o l.length q_o]
 dsimp only
 rw [if_neg q_o, Int.toNat_natCast, rdL_put r l h]
structure SlG (s : Sl) : Prop where
 nm : s.name.size ≤ 300
 ty : 0 ≤ s.types ∧ s.types ≤ 255
 dv : s.dv.right = true
 ok : s.dv.Ok
def StG (p : Stp) : Prop :=
 (p.kind = 1 ∧ p.col = 0 ∧ SlG p.slot ∧ p.order = []) ∨ (p.kind = 2 ∧ (0 ≤ p.col ∧ p.col ≤ 255) ∧ p.slot = slot0 ∧ p.order = []) ∨
 (p.kind = 3 ∧ (0 ≤ p.col ∧ p.col ≤ 255) ∧ p.slot = { slot0 with name := p.slot.name } ∧ p.slot.name.size ≤ 300 ∧ p.order = []) ∨
 (p.kind = 4 ∧ (0 ≤ p.col ∧ p.col ≤ 255) ∧ p.slot = { slot0 with types := p.slot.types } ∧ (0 ≤ p.slot.types ∧ p.slot.types ≤ 255) ∧ p.order = []) ∨
 (p.kind = 5 ∧ p.col = 0 ∧ p.slot = slot0 ∧ p.order.length ≤ 8 ∧ ∀ k ∈ p.order, 0 ≤ k ∧ k ≤ 255)
structure TmG (t : Tm) : Prop where
 nm : t.name.size ≤ 300
 ls : t.slots.length ≤ 8
 lt : t.steps.length ≤ 8
 os : ∀ s ∈ t.slots, SlG s
 ot : ∀ s ∈ t.steps, StG s
theorem getSlot_put (s : Sl) (h : SlG s) (o : Own) (r : List UInt8) : getSlot ⟨o, slotB s ++ r, false⟩ = (s, (⟨.shared, r, false⟩ : RS)) := by
 have e : slotB s ++ r = tx s.name.data.toList ++ (byteB s.types ++ (byteB (if s.req then 1 else 0) ++ (s.dv.put ++ r))) := by
  unfold slotB slotP V.bin
  rw [if_pos h.dv]
  simp only [List.flatten_cons, List.flatten_nil, List.append_nil, List.append_assoc]
 have hq : (0 : Int) ≤ (if s.req then 1 else 0) ∧ (if s.req then 1 else 0 : Int) ≤ 255 := by split <;> omega
 unfold getSlot
 rw [e, RS.text_tx _ _ (by have := h.nm; omega)]
 dsimp only
 rw [byte_put _ _ h.ty]
 dsimp only
 rw [byte_put _ _ hq]
 dsimp only
 rw [RS.val_put h.dv h.ok]
 dsimp only
 cases s with
 | mk nm ty rq dv => cases rq <;> rfl
theorem getStep_put (p : Stp) (h : StG p) (o : Own) (r : List UInt8) : getStep ⟨o, stepB p ++ r, false⟩ = (p, (⟨.shared, r, false⟩ : RS)) := by
 cases p with
 | mk kind col slot order =>
 unfold StG at h
 dsimp only at h
 have f2 : ∀ a b : List UInt8, [a, b].flatten = a ++ b := fun a b => by simp
 unfold getStep
 rcases h with ⟨rfl, rfl, hs, rfl⟩ | ⟨rfl, hc, rfl, rfl⟩ | ⟨rfl, hc, hs, hn, rfl⟩ | ⟨rfl, hc, hs, hn, rfl⟩ | ⟨rfl, rfl, rfl, hl, hk⟩
 · rw [show stepB ⟨1, 0, slot, []⟩ = byteB 1 ++ slotB slot from f2 .., List.append_assoc, byte_put _ _ (by decide)]
   dsimp only
   rw [if_pos rfl, getSlot_put slot hs]
 · rw [show stepB ⟨2, col, slot0, []⟩ = byteB 2 ++ byteB col from f2 .., List.append_assoc, byte_put _ _ (by decide)]
   dsimp only
   rw [if_neg (by decide), if_pos rfl, byte_put _ _ hc]
 · rw [show stepB ⟨3, col, slot, []⟩ = (byteB 3 ++ byteB col) ++ tx slot.name.data.toList by unfold stepB; rw [if_pos rfl, f2]; exact congrArg (· ++ _) (f2 ..), List.append_assoc, List.append_assoc, byte_put _ _ (by decide)]
   dsimp only
   rw [if_neg (by decide), if_neg (by decide), if_pos rfl, byte_put _ _ hc]
   dsimp only
   rw [RS.text_tx _ _ q_o]
   dsimp only
   rw [← hs]
 · rw [show stepB ⟨4, col, slot, []⟩ = (byteB 4 ++ byteB col) ++ byteB slot.types by unfold stepB; rw [if_neg (by show ¬ (4 : Int) = 3; decide), if_pos rfl, f2]; exact congrArg (· ++ _) (f2 ..), List.append_assoc, List.append_assoc, byte_put _ _ (by decide)]
   dsimp only
   rw [if_neg (by decide), if_neg (by decide), if_neg (by decide), if_pos rfl, byte_put _ _ hc]
   dsimp only
   rw [byte_put _ _ hn]
   dsimp only
   rw [← hs]
 · have hm : order.map b8 = (order.map fun k => [b8 k]).flatten := by
    clear hl hk
    induction order with
    | nil => rfl
    | cons a l ih => rw [List.map_cons, List.map_cons, List.flatten_cons, ← ih]; rfl
   rw [show stepB ⟨5, 0, slot0, order⟩ = byteB 5 ++ listB (fun k => [b8 k]) order by unfold stepB; rw [if_neg (by show ¬ (5 : Int) = 3; decide), if_neg (by show ¬ (5 : Int) = 4; decide)]; unfold listB; rw [← hm, ← List.append_assoc]; exact congrArg (· ++ _) (f2 ..), List.append_assoc, byte_put _ _ (by decide)]
   dsimp only
   rw [if_neg (by decide), if_neg (by decide), if_neg (by decide), if_neg (by decide), if_pos rfl, rlist_put 9 order q_o (by decide) fun k hk2 o r => b8_put o k (hk k hk2) r]
theorem getTm_put (t : Tm) (h : TmG t) (o : Own) (r : List UInt8) : getTm ⟨o, tmB t ++ r, false⟩ = (t, (⟨.shared, r, false⟩ : RS)) := by
 have e : tmB t ++ r = tx t.name.data.toList ++ (listB slotB t.slots ++ (listB stepB t.steps ++ r)) := by
  unfold tmB tmP
  simp only [List.flatten_cons, List.flatten_nil, List.append_nil, List.append_assoc]
 unfold getTm
 rw [e, RS.text_tx _ _ (by have := h.nm; omega)]
 dsimp only
 rw [rlist_put 9 t.slots (by have := h.ls; omega) (by decide) fun s hs o r => getSlot_put s (h.os s hs) o r]
 dsimp only
 rw [rlist_put 9 t.steps (by have := h.lt; omega) (by decide) fun s hs o r => getStep_put s (h.ot s hs) o r]
theorem rlist_tms (L : List Tm) (hl : L.length ≤ 6) (h : ∀ t ∈ L, TmG t) (o : Own) (r : List UInt8) : rlist getTm 7 ⟨o, listB tmB L ++ r, false⟩ = (L, (⟨.shared, r, false⟩ : RS)) :=
 rlist_put 7 L q_o (by decide) (fun t ht o r => getTm_put t (h t ht) o r) o r
theorem read_put (L : List Tm) (hr : right L = true) (hl : L.length ≤ 6) (h : ∀ t ∈ L, TmG t) (o : Own) (r : List UInt8) : read ⟨o, put L ++ r, false⟩ = (some L, (⟨.shared, r, false⟩ : RS)) := by
 unfold read put
 rw [if_pos hr, rlist_tms L hl h o r]
 dsimp only
 rw [if_neg (by rintro (h | h); cases h; rw [hr] at h; cases h)]
end Reg
namespace Sch
theorem fits_right {s : Sl} {v : V} (h : fits s v = true) : v.right = true := by
 unfold fits at h
 rw [Bool.and_eq_true] at h
 exact h.1
theorem bare_slot {s : Sl} {a b : Bool} (h : bare s a b = true) : (a = true ∨ s.name = ⟨#[]⟩) ∧ (b = true ∨ s.types = 0) ∧ s.req = false ∧ s.dv = V.zero := by
 unfold bare at h
 rw [Bool.and_eq_true, Bool.and_eq_true, Bool.and_eq_true, Bool.or_eq_true, Bool.or_eq_true, decide_eq_true_eq, beq_iff_eq, beq_iff_eq] at h
 obtain ⟨⟨⟨h1, h2⟩, h3⟩, h4⟩ := h
 refine ⟨h1.imp id RS.empty_of, h2, ?_, V.cmp_eq _ _ h4⟩
 cases hr : s.req with
 | false => rfl
 | true => rw [hr] at h3; cases h3
theorem name_le {s : ByteArray} (h : V.isName s.data.toList = true) : s.size ≤ 40 := by
 unfold V.isName at h
 rw [Bool.and_eq_true, Bool.and_eq_true, decide_eq_true_eq, decide_eq_true_eq] at h
 have : s.data.toList.length = s.size := by simp
 omega
theorem sound_good {s : Sl} (h : sound s = true) (ho : s.dv.Ok) : Reg.SlG s := by
 have k := sound_ok h
 have := takes_iff.1 k.types
 exact ⟨by have := name_le k.name; omega, by omega, fits_right k.def_, ho⟩
theorem reo_ge {cols : List Nat} : ∀ (l : List Int) (out r : List Nat), reo cols l out = some r → ∀ k ∈ l, 0 ≤ k ∧ k < cols.length
 | [], _, _, _, _, h => by cases h
 | a :: l, out, r, h, k, hk => by
  rw [reo] at h
  split at h
  · rename_i hc
    rcases List.mem_cons.1 hk with rfl | hk
    · exact ⟨hc.1, hc.2.1⟩
    · exact reo_ge l _ r h k hk
  · cases h
theorem step_good {n : Nat} {x y : Vr} {s : Stp} (hx : VI n x) (h : stepV x s = some y) (ho : s.slot.dv.Ok) : Reg.StG s := by
 have hlc := hx.lc
 unfold stepV at h
 have hcol : column x s = true → (0 ≤ s.col ∧ s.col ≤ 255) ∧ s.order = [] := fun hc => by
  unfold column at hc
  rw [Bool.and_eq_true, Bool.and_eq_true, decide_eq_true_eq, decide_eq_true_eq, decide_eq_true_eq] at hc
  exact ⟨by omega, List.eq_nil_of_length_eq_zero hc.2⟩
 cases s with
 | mk kind col slot order =>
 cases slot with
 | mk nm ty rq dv =>
 dsimp only at h hcol ho
 split at h
 · rename_i hk
   unfold addS at h
   split at h
   · rename_i hc
     exact .inl ⟨hk, hc.1, sound_good hc.2.2.2.1 ho, List.eq_nil_of_length_eq_zero hc.2.1⟩
   · cases h
 split at h
 · rename_i hk
   unfold loseS at h
   split at h
   · rename_i hc
     obtain ⟨c1, c2⟩ := hcol hc.1
     obtain ⟨b1, b2, b3, b4⟩ := bare_slot hc.2.1
     simp only [Bool.false_eq_true, false_or] at b1 b2
     dsimp only at b1 b2 b3 b4
     subst b1 b2 b3 b4
     exact .inr (.inl ⟨hk, c1, rfl, c2⟩)
   · cases h
 split at h
 · rename_i hk
   unfold renameS at h
   split at h
   · rename_i hc
     obtain ⟨c1, c2⟩ := hcol hc.1
     obtain ⟨b1, b2, b3, b4⟩ := bare_slot hc.2.1
     simp only [Bool.false_eq_true, false_or] at b2
     dsimp only at b2 b3 b4
     subst b2 b3 b4
     exact .inr (.inr (.inl ⟨hk, c1, rfl, by have := name_le hc.2.2.1; dsimp only at *; omega, c2⟩))
   · cases h
 split at h
 · rename_i hk
   unfold widenS at h
   split at h
   · rename_i hc
     obtain ⟨c1, c2⟩ := hcol hc.1
     obtain ⟨b1, b2, b3, b4⟩ := bare_slot hc.2.1
     simp only [Bool.false_eq_true, false_or] at b1
     dsimp only at b1 b3 b4
     subst b1 b3 b4
     have := takes_iff.1 hc.2.2.1
     exact .inr (.inr (.inr (.inl ⟨hk, c1, rfl, by dsimp only at *; omega, c2⟩)))
   · cases h
 split at h
 · rename_i hk
   unfold reorderS at h
   split at h
   · rename_i hc
     obtain ⟨b1, b2, b3, b4⟩ := bare_slot hc.2.1
     simp only [Bool.false_eq_true, false_or] at b1 b2
     dsimp only at b1 b2 b3 b4
     subst b1 b2 b3 b4
     cases hr : reo x.cols order [] with
     | none => rw [show (Stp.mk kind col _ order).order = order from rfl, hr] at h; cases h
     | some r => exact .inr (.inr (.inr (.inr ⟨hk, hc.1, rfl, by have := hc.2.2; dsimp only at *; omega, fun k hk => by have := reo_ge _ _ _ hr k hk; omega⟩)))
   · cases h
 · cases h
theorem firstL_good : ∀ (l : List Sl) (x y : Vr), firstL l x = some y → ∀ s ∈ l, sound s = true
 | [], _, _, _, _, h => by cases h
 | a :: l, x, y, h, s, hs => by
  rw [firstL] at h
  split at h
  · rename_i hc
    rcases List.mem_cons.1 hs with rfl | hs
    · exact hc.1
    · exact firstL_good l _ y h s hs
  · cases h
theorem versL_good : ∀ (l : List Stp) (n : Nat) (x : Vr), VI n x → (versL x l).length = l.length → (∀ s ∈ l, s.slot.dv.Ok) → ∀ s ∈ l, Reg.StG s
 | [], _, _, _, _, _, _, h => by cases h
 | a :: l, n, x, hx, hl, ho, s, hs => by
  rw [versL] at hl
  cases hv : stepV x a with
  | none => rw [hv] at hl; cases hl
  | some y =>
   rw [hv] at hl
   rcases List.mem_cons.1 hs with rfl | hs
   · exact step_good hx hv (ho _ (List.mem_cons_self ..))
   · exact versL_good l (n + 1) y (step_vi hx hv) (by simpa using hl) (fun s h => ho s (List.mem_cons_of_mem _ h)) s hs
theorem last_good {t : Tm} (h : 0 < last t) (hs : ∀ s ∈ t.slots, s.dv.Ok) (hp : ∀ s ∈ t.steps, s.slot.dv.Ok) : Reg.TmG t := by
 have h1 : (vers t).length = t.steps.length + 1 := by
  unfold last at h
  split at h
  · assumption
  · omega
 unfold vers at h1
 cases hf : firstV t with
 | none => rw [hf] at h1; cases h1
 | some x =>
  rw [hf] at h1
  obtain ⟨k1, k2, k3⟩ := first_vi hf
  have h2 : (versL x t.steps).length = t.steps.length := by simpa using h1
  have hg := versL_good t.steps 8 x k1 h2 hp
  unfold firstV at hf
  split at hf
  · rename_i hc
    exact ⟨by have := name_le hc.1; omega, hc.2.2.1, hc.2.2.2, fun s hs' => sound_good (firstL_good _ _ _ hf s hs') (hs s hs'), hg⟩
  · cases hf
end Sch
theorem Reg.TmG.put {t : Tm} (h : Reg.TmG t) (hs : ∀ s ∈ t.steps, s.slot.name.size ≤ 300 ∧ s.slot.dv.nodes ≤ 1000 ∧ s.slot.dv.Ok) : Reg.TmP t :=
 ⟨h.nm, h.ls, h.lt, fun s k => ⟨(h.os s k).nm, by have := (V.right_iff.1 (h.os s k).dv).2.2; omega, (h.os s k).ok⟩, fun s k => ⟨hs s k, by
  rcases h.ot s k with h | h | h | h | h
  · rw [h.2.2.2]; exact Nat.zero_le _
  · rw [h.2.2.2]; exact Nat.zero_le _
  · rw [h.2.2.2.2]; exact Nat.zero_le _
  · rw [h.2.2.2.2]; exact Nat.zero_le _
  · have := h.2.2.2.1; omega⟩⟩
namespace Reg
theorem findL_spec (nm : ByteArray) : ∀ (l : List Tm) (i : Nat), (findL nm l i = -1 ∧ ∀ t ∈ l, ¬ t.name.toList = nm.toList) ∨ ∃ (j : Nat) (t : Tm), l[j]? = some t ∧ t.name.toList = nm.toList ∧ findL nm l i = ((i + j : Nat) : Int) ∧ ∀ (k : Nat) (u : Tm), k < j → l[k]? = some u → ¬ u.name.toList = nm.toList
 | [], i => .inl ⟨rfl, fun t h => by cases h⟩
 | t :: l, i => by
  rw [findL]
  by_cases h : t.name.toList = nm.toList
  · rw [if_pos (beq_iff_eq.2 h)]
    exact .inr ⟨0, t, rfl, h, rfl, fun k u hk => by omega⟩
  · rw [if_neg (fun k => h (beq_iff_eq.1 k))]
    rcases findL_spec nm l (i + 1) with ⟨h1, h2⟩ | ⟨j, u, h1, h2, h3, h4⟩
    · exact .inl ⟨h1, fun u hu => by
       rcases List.mem_cons.1 hu with rfl | hu
       · exact h
       · exact h2 u hu⟩
    · refine .inr ⟨j + 1, u, h1, h2, by rw [h3]; congr 1; omega, fun k v hk hv => ?_⟩
      cases k with
      | zero => cases hv; exact h
      | succ k => exact h4 k v q_o hv
theorem find_at {L : List Tm} {nm : ByteArray} {i : Nat} {t : Tm} (ht : L[i]? = some t) (hn : t.name.toList = nm.toList) (h : ∀ (k : Nat) (u : Tm), k < i → L[k]? = some u → ¬ u.name.toList = nm.toList) : find L nm = i := by
 unfold find
 rcases findL_spec nm L 0 with ⟨h1, h2⟩ | ⟨j, u, h1, h2, h3, h4⟩
 · exact absurd hn (h2 t (List.mem_of_getElem? ht))
 · rw [h3, Nat.zero_add]
   rcases Nat.lt_trichotomy i j with hl | he | hl
   · exact absurd hn (h4 i t hl ht)
   · rw [he]
   · exact absurd h2 (h j u hl h1)
def Apart (L : List Tm) : Prop := ∀ (i j : Nat) (t u : Tm), L[i]? = some t → L[j]? = some u → t.name.toList = u.name.toList → i = j
theorem apart_find {L : List Tm} : Apart L ↔ ∀ (i : Nat) (t : Tm), L[i]? = some t → find L t.name = i := by
 constructor
 · intro h i t ht
   exact find_at ht rfl fun k u hk hu he => by have := h k i u t hu ht he; omega
 · intro h i j t u ht hu he
   have h1 := h i t ht
   have h2 := h j u hu
   have e : find L t.name = find L u.name := by
    have : ∀ (l : List Tm) (i : Nat), findL t.name l i = findL u.name l i := fun l => by
     induction l with
     | nil => intro _; rfl
     | cons a l ih => intro i; rw [findL, findL, he, ih]
    exact this L 0
   rw [h1, h2] at e
   exact Int.ofNat.inj e
theorem rightL_iff (L : List Tm) : ∀ (l : List Tm) (i : Nat), rightL L l i = true ↔ ∀ (j : Nat) (t : Tm), l[j]? = some t → i + j < 6 ∧ 0 < Sch.last t ∧ find L t.name = ((i + j : Nat) : Int)
 | [], i => ⟨fun _ j t h => (by cases h), fun _ => rfl⟩
 | t :: l, i => by
  rw [rightL, Bool.and_eq_true, Bool.and_eq_true, Bool.and_eq_true, decide_eq_true_eq, decide_eq_true_eq, beq_iff_eq, rightL_iff L l (i + 1)]
  constructor
  · rintro ⟨h1, h2, h3, h4⟩ j u hu
    cases j with
    | zero => cases hu; exact ⟨h1, h2, h3⟩
    | succ j =>
     have := h4 j u hu
     rw [show i + 1 + j = i + (j + 1) by omega] at this
     exact this
  · intro h
    have h0 := h 0 t rfl
    refine ⟨h0.1, h0.2.1, h0.2.2, fun j u hu => ?_⟩
    have := h (j + 1) u hu
    rw [show i + (j + 1) = i + 1 + j by omega] at this
    exact this
theorem right_iff {L : List Tm} : right L = true ↔ L.length ≤ 6 ∧ (∀ t ∈ L, 0 < Sch.last t) ∧ Apart L := by
 unfold right
 rw [rightL_iff, apart_find]
 constructor
 · intro h
   refine ⟨?_, ?_, ?_⟩
   · rcases Nat.lt_or_ge 6 L.length with hl | hl
     · obtain ⟨t, ht⟩ := gEx hl
       have := (h 6 t ht).1
       omega
     · exact hl
   · intro t ht
     obtain ⟨i, hi⟩ := List.getElem?_of_mem ht
     exact (h i t hi).2.1
   · intro i t ht
     have := (h i t ht).2.2
     rwa [Nat.zero_add] at this
 · rintro ⟨h1, h2, h3⟩ j t ht
   have hj := (List.getElem?_eq_some_iff.1 ht).1
   exact ⟨by omega, h2 t (List.mem_of_getElem? ht), by rw [Nat.zero_add]; exact h3 j t ht⟩
end Reg
end
section
attribute [local push_cast] encB encI encC V.cells_mk V.cells_len Nat.mul_one Int.sub_zero List.map_nil beq_self_eq_true List.head?_cons
abbrev RI := Nat × Nat × List D
theorem refCopySF (x : Vr) (h1 : 1 ≤ x.slots.length) (h2 : 1 ≤ x.cols.length) (hl : x.slots.length ≤ 1000) (hc : x.cols.length ≤ 1000) (st : St) : TrF Tryz.prog 195 [.agg x.cells] st fun d st' => ∃ i : Nat × Nat × List D, (slotC x.slots ++ i.2.2).length = i.2.1 * 7 ∧ d = .agg [.ar i.1 0 x.slots.length i.2.1, .sl .shared (x.cols.map encC)] ∧ st' = .box i.1 75 (slotC x.slots ++ i.2.2) :: st := by
 have h := (refCopyF x h1 h2 hl hc st).mono (R' := fun d st' => ∃ i : (Nat × Nat × List D) × (Nat × Nat × List D), VL i.1.2.1 i.1.2.2 i.2.2.1 i.2.2.2 x ∧ d = .agg [.ar i.1.1 0 x.slots.length i.1.2.1, .ar i.2.1 0 x.cols.length i.2.2.1] ∧ st' = .box i.2.1 3 ((x.cols.map encC).flatten ++ i.2.2.2) :: .box i.1.1 75 (slotC x.slots ++ i.1.2.2) :: st) (fun d st' ⟨gs, cS, zS, gc, cC, zC, k1, k2, k3⟩ => ⟨((gs, cS, zS), (gc, cC, zC)), k1, k2, k3⟩)
 have h' := TrF.rest (ι := RI × RI) (g := fun i => i.2.1) (n := fun _ => x.cols.length) (cap := fun i => i.2.2.1) (es := fun _ => x.cols.map encC) (F' := fun i => .agg [.ar i.1.1 0 x.slots.length i.1.2.1, .sl .shared (x.cols.map encC)]) (sz := 1) (by decide) (fun i _ => ⟨cols_each x.cols, List.length_map ..⟩) (fun i => .agg _ _ (.cons _ _ _ _ (.same _) (.cons _ _ _ _ .ar .nil))) h
 exact h'.mono fun d st' ⟨i, k1, k2, k3⟩ => ⟨i.1, k1.1, k2, k3⟩
theorem refCopyAF (x : Vr) (h1 : 1 ≤ x.slots.length) (h2 : 1 ≤ x.cols.length) (hl : x.slots.length ≤ 1000) (hc : x.cols.length ≤ 1000) (st : St) : TrF Tryz.prog 195 [.agg x.cells] st fun d st' => d = .agg x.cells ∧ st' = st := by
 have h' := TrF.rest (ι := RI) (el := 75) (p := fun i : Nat × Nat × List D => (slotC x.slots ++ i.2.2).length = i.2.1 * 7) (g := fun i => i.1) (n := fun _ => x.slots.length) (cap := fun i => i.2.1) (es := fun _ => x.slots.map Sl.cells) (F := fun i => .agg [.ar i.1 0 x.slots.length i.2.1, .sl .shared (x.cols.map encC)]) (zs := fun i => i.2.2) (S := fun _ => st) (F' := fun _ => .agg x.cells) (sz := 7) (by decide) (fun i _ => ⟨slots_each x.slots, List.length_map ..⟩) (fun i => .agg _ _ (.cons _ _ _ _ .ar (.cons _ _ _ _ (.same _) .nil))) (refCopySF x h1 h2 hl hc st)
 exact h'.mono fun d st' ⟨i, k1, k2, k3⟩ => ⟨k2, k3⟩
theorem refCopyCF (x : Vr) (h1 : 1 ≤ x.slots.length) (h2 : 1 ≤ x.cols.length) (hl : x.slots.length ≤ 1000) (hc : x.cols.length ≤ 1000) (st : St) : TrF Tryz.prog 195 [.agg x.cells] st fun d st' => ∃ i : Nat × Nat × List D, (colC x.cols ++ i.2.2).length = i.2.1 * 1 ∧ d = .agg [.sl .shared (x.slots.map Sl.cells), .ar i.1 0 x.cols.length i.2.1] ∧ st' = .box i.1 3 (colC x.cols ++ i.2.2) :: st := by
 intro vs w q1 q2
 refine (refCopyF x h1 h2 hl hc st vs w q1 q2).mono fun _ w' ⟨v, ev, d, s, k1, k2, k3, gs, cS, zS, gc, cC, zC, k4, e1, e2⟩ => ?_
 subst e1 e2
 have hp : (Res.box gc 3 (colC x.cols ++ zC) :: .box gs 75 (slotC x.slots ++ zS) :: st).Perm (.box gs 75 (slotC x.slots ++ zS) :: .box gc 3 (colC x.cols ++ zC) :: st) := .swap _ _ _
 have e := OwnS.perm hp
 have k2' := k2.perm hp
 have he := Ext.drop (st := .box gs 75 (slotC x.slots ++ zS) :: .box gc 3 (colC x.cols ++ zC) :: st) (st' := .box gc 3 (colC x.cols ++ zC) :: st) (fun _ h => List.mem_cons_of_mem _ h) w'
 rw [e] at k1 k3
 refine ⟨v, ev, .agg [.sl .shared (x.slots.map Sl.cells), .ar gc 0 x.cols.length cC], _, ?_, k2'.sub (List.sublist_cons_self _ _), k3.trans he, (gc, cC, zC), k4.2, rfl, rfl⟩
 exact (Frz.agg (g := gs) (n := x.slots.length) (cap := cS) (es := x.slots.map Sl.cells) _ _ (.cons _ _ _ _ .ar (.cons _ _ _ _ (.same _) .nil))).rep he (row_rest k2' (by decide) (slots_each x.slots) (List.length_map ..)) v k1
def RefStepR (x : Vr) (s : Stp) (st : St) (d : D) (st' : St) : Prop :=
 (Sch.stepV x s = none ∧ ∃ X1 X2, d = .tup [.agg [.sl .shared X1, .sl .shared X2], .b false] ∧ st' = st) ∨ ∃ y, Sch.stepV x s = some y ∧ d = .tup [.agg y.cells, .b true] ∧ st' = st
structure RefP (x : Vr) (s : Stp) : Prop where
 vi : Sch.VI 1000 x
 q : VQ s.slot.dv
 ty : -9223372036854775808 ≤ s.slot.types ∧ s.slot.types ≤ 9223372036854775807
 ord : s.order.length ≤ 1000
abbrev retR (o1 o2 : Own) (L1 L2 : List (List D)) (ok : Bool) : LE (.tup [.agg [.sl o1 L1, .sl o2 L2], .b ok]) (.tup [.agg [.sl .shared L1, .sl .shared L2], .b ok]) := LE.tup (l := [.agg [.sl o1 L1, .sl o2 L2], .b ok]) ⟨LE.agg (l := [.sl o1 L1, .sl o2 L2]) ⟨LE.sl _ _, LE.sl _ _, trivial⟩, LE.refl _, trivial⟩
theorem copyR_ex (x : Vr) (st : St) : ∃ d st', CopyR x st d st' := ⟨_, _, 0, x.slots.length, [], 0, x.cols.length, [], ⟨by rw [List.append_nil, slotC_len], by rw [List.append_nil, colC_len]⟩, rfl, rfl⟩
def Raw2 (x : Vr) (s : Stp) (st : St) (d : D) (st' : St) : Prop := ∃ i : (Bool × Vr) × (Nat × Nat × List D) × (Nat × Nat × List D), (Sch.stepV x s = if i.1.1 then some i.1.2 else none) ∧ d = .tup [.agg [.ar i.2.1.1 0 i.1.2.slots.length i.2.1.2.1, .ar i.2.2.1 0 i.1.2.cols.length i.2.2.2.1], .b i.1.1] ∧ st' = .box i.2.1.1 75 ((i.1.2.slots.map Sl.cells).flatten ++ i.2.1.2.2) :: .box i.2.2.1 3 ((i.1.2.cols.map encC).flatten ++ i.2.2.2.2) :: st
theorem raw2_rest {x : Vr} {s : Stp} {st : St} {f : FuncId} {args : List D} (h : TrF Tryz.prog f args st (Raw2 x s st)) : TrF Tryz.prog f args st (RefStepR x s st) := by
 have h1 := TrF.rest (ι := (Bool × Vr) × RI × RI) (g := fun i => i.2.1.1) (n := fun i => i.1.2.slots.length) (cap := fun i => i.2.1.2.1) (es := fun i => i.1.2.slots.map Sl.cells) (F' := fun i => .tup [.agg [.sl .shared (i.1.2.slots.map Sl.cells), .ar i.2.2.1 0 i.1.2.cols.length i.2.2.2.1], .b i.1.1]) (sz := 7) (by decide) (fun i _ => ⟨slots_each i.1.2.slots, List.length_map ..⟩) (fun i => .tup _ _ (.cons _ _ _ _ (.agg _ _ (.cons _ _ _ _ .ar (.cons _ _ _ _ (.same _) .nil))) (.cons _ _ _ _ (.same _) .nil))) h
 have h2 := TrF.rest (ι := (Bool × Vr) × RI × RI) (g := fun i => i.2.2.1) (n := fun i => i.1.2.cols.length) (cap := fun i => i.2.2.2.1) (es := fun i => i.1.2.cols.map encC) (F' := fun i => .tup [.agg i.1.2.cells, .b i.1.1]) (sz := 1) (by decide) (fun i _ => ⟨cols_each i.1.2.cols, List.length_map ..⟩) (fun i => .tup _ _ (.cons _ _ _ _ (.agg _ _ (.cons _ _ _ _ (.same _) (.cons _ _ _ _ .ar .nil))) (.cons _ _ _ _ (.same _) .nil))) h1
 refine h2.mono fun d st' ⟨i, k1, k2, k3⟩ => ?_
 obtain ⟨⟨ok, y⟩, i2⟩ := i
 cases ok with
 | true => exact .inr ⟨y, k1, k2, k3⟩
 | false => exact .inl ⟨k1, _, _, k2, k3⟩
theorem perm_321 (a b c : Res) (l : St) : (a :: b :: c :: l).Perm (c :: b :: a :: l) := (List.Perm.cons a (.swap c b l)).trans ((List.Perm.swap c a (b :: l)).trans (.cons c (.swap b a l)))
theorem refAddF (x : Vr) (s : Stp) (h : RefP x s) (hk : s.kind = 1) (st : St) : TrF Tryz.prog 164 [.agg x.cells, .agg s.cells] st (RefStepR x s st) := by
 refine raw2_rest ?_
 obtain ⟨⟨hl, hp, hcp, hcl, hcs⟩, hq, hty, ho⟩ := h
 have hC := refCopyF x hp hcp hl q_o
 have hE := copyR_ex x
 have hR := refRestF s hq.ok q_o ho
 have hS := refSoundF s.slot hq hty
 have hL := refColF x.slots x.cols s.slot.name q_o q_o hcs []
 have hF : Hid (Sch.stepV x s = if s.col = 0 ∧ s.order.length = 0 ∧ x.cols.length < 8 ∧ Sch.sound s.slot = true ∧ s.slot.req = false ∧ Sch.colL x.slots s.slot.name x.cols < 0 then some ⟨x.slots ++ [s.slot], x.cols ++ [x.slots.length]⟩ else none) := Lib.hid (by unfold Sch.stepV; rw [if_pos hk]; rfl)
 have hrv : Sch.restV s = (decide (s.order.length = 0) && (s.col == 0)) := by unfold Sch.restV; rw [if_pos hk]
 rw [hrv] at hR
 clear hrv
 unfold Raw2
 unfold CopyR VL at hC hE
 have hr1 := slotC_len x.slots
 have hr2 := colC_len x.cols
 have e1 := Lib.hid (slots_each x.slots)
 have e2 := Lib.hid (cols_each x.cols)
 have f1 : Hid ((x.slots.map Sl.cells).flatten = slotC x.slots) := rfl
 have f2 : Hid ((x.cols.map encC).flatten = colC x.cols) := rfl
 have l1 : Hid ((x.slots.map Sl.cells).length = x.slots.length) := List.length_map ..
 have l2 : Hid ((x.cols.map encC).length = x.cols.length) := List.length_map ..
 obtain ⟨y, hy⟩ : ∃ y : Vr, y = ⟨x.slots ++ [s.slot], x.cols ++ [x.slots.length]⟩ := ⟨_, rfl⟩
 have g1 : Hid ((y.slots.map Sl.cells).flatten = slotC x.slots ++ [s.slot.cells].flatten) := Lib.hid (by rw [hy, ← slotC_add]; rfl)
 have g2 : Hid ((y.cols.map encC).flatten = colC x.cols ++ [[.i x.slots.length]].flatten) := Lib.hid (by rw [hy, ← colC_add]; rfl)
 have g3 : Hid (y.slots.length = x.slots.length + 1) := Lib.hid (by rw [hy]; simp)
 have g4 : Hid (y.cols.length = x.cols.length + 1) := Lib.hid (by rw [hy]; simp)
 rw [← hy] at hF
 unfold Vr.cells Stp.cells at *
 clear hy hcs hq hty
 generalize Sch.stepV x s = F at *
 cases s with
 | mk kd col slot order =>
 cases slot with
 | mk nm ty rq dv =>
 cases dv with
 | mk k n sv lv =>
 dsimp only at hC hE hR hS hL hF hk ho g1 ⊢
 subst hk
 generalize Sch.sound _ = q at *
 generalize Sch.colL _ _ _ = cv at *
 rw [Sl.cells_mk] at *
 dsimp only [List.cons_append, List.nil_append] at *
 obtain ⟨R1, r1e⟩ : ∃ R1, slotC x.slots = R1 := ⟨_, rfl⟩
 obtain ⟨R2, r2e⟩ : ∃ R2, colC x.cols = R2 := ⟨_, rfl⟩
 obtain ⟨m1, m1e⟩ : ∃ m1, x.slots.length = m1 := ⟨_, rfl⟩
 obtain ⟨m2, m2e⟩ : ∃ m2, x.cols.length = m2 := ⟨_, rfl⟩
 generalize hL1 : x.slots.map Sl.cells = L1 at *
 generalize hL2 : x.cols.map encC = L2 at *
 simp only [r1e, r2e, m1e, m2e] at hC hE hr1 hr2 f1 f2 l1 l2 g1 g2 g3 g4 hF hp hl hcp hcl
 replace r1e : Hid ((x.slots.map Sl.cells).flatten = R1) := r1e
 replace r2e : Hid ((x.cols.map encC).flatten = R2) := r2e
 replace m1e := Lib.hid m1e
 replace m2e := Lib.hid m2e
 replace hL1 := Lib.hid hL1
 replace hL2 := Lib.hid hL2
 replace hC := Lib.hid hC
 replace hE := Lib.hid hE
 replace hS := Lib.hid hS
 replace hL := Lib.hid hL
 have hol : (decide (order.length = 0) && (col == 0)) = true ∨ (decide (order.length = 0) && (col == 0)) = false := by
  cases (decide (order.length = 0) && (col == 0)) <;> simp
 rcases hol with hrr | hrr
 · rw [hrr] at hR
   replace hR := Lib.hid hR
   rw [Bool.and_eq_true, decide_eq_true_eq, beq_iff_eq] at hrr
   obtain ⟨h01, rfl⟩ := hrr
   refine trF_enterG (G := twoA Tryz.prog (.cell 4 147) (.tmp 5)) Tryz.func164 rfl (by rw [Tryz.ntmps164]; exact Nat.le_of_ble_eq_true rfl) (fun h1 h2 h3 => res_two rfl h1 h2 h3) ?_
   simp only [Tryz.ntmps164]
   repeat' (first | refine QV ?_ | with_reducible refine s_appR ?_ | with_reducible refine rk_go ?_ | ((with_reducible apply (r2_go hr1 hz1)); (focus (intro g' cs'; repeat (first | exact ra_h | apply ra_t))); (focus exact len_one rfl); (focus exact q_n); (focus exact q_n); intro gs' cS' zS' hcs hls) | ((with_reducible apply (r2_go hr2 hz2)); (focus (intro g' cs'; repeat (first | exact ra_h | apply ra_t))); (focus exact len_one rfl); (focus exact q_n); (focus exact q_n); intro gc' cC' zC' hcc hlc) | refine QY ?_ | (refine QB ?_; intro b) | (with_reducible refine QZ ?_ <;> (try constructor) <;> intro hb <;> try intro hb1) | ((with_reducible apply (ck_gen Tryz.call195)); (focus exact List.Perm.refl _); (focus exact hC.out _); (focus exact LEL.refl _); (focus exact hE.out _); (rintro d st' ⟨gs, cS, zS, gc, cC, zC, ⟨hz1, hz2⟩, rfl, rfl⟩)) | ((with_reducible apply (ck_lend Tryz.call163)); (focus exact hL.out); (focus exact ⟨Lend.agg ⟨Lend.rowE q_m f1.out (by decide) e1.out l1.out, Lend.rowE q_m f2.out (by decide) e2.out l2.out, trivial⟩, Lend.refl _, trivial⟩)) | fail)
   all_goals first
    | ((refine retG_mk (rs := []) q_x q_y (perm_321 _ _ _ _) ⟨_, _, rfl, cell_mk q_s q_m q_s q_v, q_w⟩ (((List.Sublist.refl _).cons _).cons _ |>.cons_cons _ |>.cons_cons _) (LE.refl _) ⟨((false, x), (gs, cS, zS), (gc, cC, zC)), ?_, by simp only [m1e.out, m2e.out], by simp only [r1e.out, r2e.out]⟩); (focus (rw [hF.out]; refine if_neg ?_; rintro ⟨h1, h2, h3, h4, h5, h6⟩; (first | omega | exact Bool.noConfusion (h4.symm.trans (by assumption) : true = false) | exact Bool.noConfusion (h5.symm.trans (by assumption) : false = true)))))
    | ((refine retG_mk (rs := []) q_x q_y (perm_321 _ _ _ _) ⟨_, _, rfl, cell_mk q_s q_m q_s q_v, q_w⟩ (((List.Sublist.refl _).cons _).cons _ |>.cons_cons _ |>.cons_cons _) (LE.refl _) ⟨((true, y), (gs', cS', zS'), (gc', cC', zC')), ?_, by simp only [g3.out, g4.out], by simp only [g1.out, g2.out, (by assumption : rq = false)]⟩); (focus (rw [hF.out]; exact if_pos (by (try rw [h01]); refine ⟨rfl, rfl, ?_, ?_, ?_, ?_⟩ <;> first | assumption | omega))))
 · rw [hrr] at hR
   replace hR := Lib.hid hR
   have hFn : Hid (F = none) := Lib.hid (by
    rw [hF.out, if_neg]
    rintro ⟨h1, h2, -⟩
    rw [h1, h2] at hrr
    exact Bool.noConfusion hrr)
   clear hF hrr
   refine trF_enterG (G := twoA Tryz.prog (.cell 4 147) (.tmp 5)) Tryz.func164 rfl (by rw [Tryz.ntmps164]; exact Nat.le_of_ble_eq_true rfl) (fun h1 h2 h3 => res_two rfl h1 h2 h3) ?_
   simp only [Tryz.ntmps164]
   repeat' (first | refine QX ?_ | (refine QB ?_; intro b) | (with_reducible refine QZ ?_ <;> (try constructor) <;> intro hb <;> try intro hb1) | ((with_reducible apply (ck_gen Tryz.call195)); (focus exact List.Perm.refl _); (focus exact hC.out _); (focus exact LEL.refl _); (focus exact hE.out _); (rintro d st' ⟨gs, cS, zS, gc, cC, zC, ⟨hz1, hz2⟩, rfl, rfl⟩)) | fail)
   all_goals ((refine retG_mk (rs := []) q_x q_y (perm_321 _ _ _ _) ⟨_, _, rfl, cell_mk q_s q_m q_s q_v, q_w⟩ (((List.Sublist.refl _).cons _).cons _ |>.cons_cons _ |>.cons_cons _) (LE.refl _) ⟨((false, x), (gs, cS, zS), (gc, cC, zC)), ?_, by simp only [m1e.out, m2e.out], by simp only [r1e.out, r2e.out]⟩); (focus (exact hFn.out)))
theorem refLoseF (x : Vr) (s : Stp) (h : RefP x s) (hk : s.kind = 2) (st : St) : TrF Tryz.prog 164 [.agg x.cells, .agg s.cells] st (RefStepR x s st) := by
 obtain ⟨⟨hl, hp, hcp, hcl, hcs⟩, hq, hty, ho⟩ := h
 have hC := refCopyAF x hp hcp hl q_o
 have hR := refRestF s hq.ok q_o ho
 have hF : Hid (Sch.stepV x s = if Sch.column x s = true ∧ Sch.bare s.slot false false = true ∧ x.cols.length ≠ 1 then some ⟨x.slots, x.cols.eraseIdx s.col.toNat⟩ else none) := Lib.hid (by unfold Sch.stepV; rw [if_neg (show ¬ s.kind = 1 by omega), if_pos hk]; rfl)
 have hrv : Sch.restV s = (Sch.bare s.slot false false && decide (s.order.length = 0)) := by unfold Sch.restV; rw [if_neg (show ¬ s.kind = 1 by omega), if_pos hk]
 rw [hrv] at hR
 clear hrv
 unfold RefStepR
 have l2 : (x.cols.map encC).length = x.cols.length := List.length_map ..
 have hEr : Hid (∀ c : Nat, c < x.cols.length → List.take c (x.cols.map encC) ++ List.take (x.cols.length - (c + 1)) (List.drop (c + 1) (x.cols.map encC)) = (x.cols.eraseIdx c).map encC) := fun c hc => by
  rw [List.eraseIdx_eq_take_drop_succ, List.map_append, List.map_take, List.map_drop, List.take_of_length_le (l := List.drop _ _) (by rw [List.length_drop, l2]; omega)]
 have hall : (x.cols.map encC).all (fun e => e.length == 1) = true := by
  rw [List.all_eq_true]
  intro e he
  obtain ⟨n, -, rfl⟩ := List.mem_map.1 he
  rfl
 have e2 := cols_each x.cols
 have ht1 : ∀ c : Nat, ∀ e ∈ List.take c (x.cols.map encC), e.length = 1 := fun c e he => e2 e (List.mem_of_mem_take he)
 have ht2 : ∀ a b : Nat, ∀ e ∈ List.take a (List.drop b (x.cols.map encC)), e.length = 1 := fun a b e he => e2 e (List.mem_of_mem_drop (List.mem_of_mem_take he))
 unfold Sch.column at hF
 by_cases hb : Sch.bare s.slot false false = true ∧ s.order.length = 0
 · obtain ⟨hb1, hb2⟩ := hb
   rw [hb1, hb2] at hR hF
   by_cases hcr : 0 ≤ s.col ∧ s.col < x.cols.length
   · obtain ⟨hc1, hc2⟩ := hcr
     obtain ⟨c, hcE⟩ := Int.eq_ofNat_of_zero_le hc1
     have hclt : c < x.cols.length := by omega
     by_cases hm : x.cols.length = 1
     · have hFn : Hid (Sch.stepV x s = none) := Lib.hid (by rw [hF.out, if_neg]; rintro ⟨-, -, h⟩; exact h hm)
       clear hF hEr hcs ht1 ht2
       unfold Vr.cells Stp.cells at *
       generalize Sch.stepV x s = F at *
       cases s with
       | mk kd col slot order =>
       cases slot with
       | mk nm ty rq dv =>
       cases dv with
       | mk k n sv lv =>
       dsimp only at hC hR hk ho hcE hb2 hc1 hc2 ⊢
       subst hk hcE
       rw [Sl.cells_mk] at *
       dsimp only [List.cons_append, List.nil_append] at *
       generalize x.slots.map Sl.cells = L1 at *
       generalize x.cols.map encC = L2 at *
       generalize x.cols.length = m2 at *
       replace hC := Lib.hid hC
       replace hR := Lib.hid hR
       replace hb1 := Lib.hid hb1
       replace hb2 := Lib.hid hb2
       refine trF_enterG (G := twoA Tryz.prog (.cell 4 147) (.tmp 5)) Tryz.func164 rfl (by rw [Tryz.ntmps164]; exact Nat.le_of_ble_eq_true rfl) (fun h1 h2 h3 => res_two rfl h1 h2 h3) ?_
       simp only [Tryz.ntmps164]
       repeat' (first | refine QX ?_ | (refine QB ?_; intro b) | (refine QP ?_; intro o' ho') | (with_reducible refine QZ ?_ <;> (try constructor) <;> intro hb <;> try intro hb1) | fail)
       all_goals (refine retG_mk (rs := []) q_x q_y (List.Perm.refl _) ⟨_, _, rfl, cell_mk q_s q_m q_s q_v, q_w⟩ q_t (LE.refl _) (.inl ⟨hFn.out, _, _, rfl, rfl⟩))
     · have hFs : Hid (Sch.stepV x s = some ⟨x.slots, x.cols.eraseIdx c⟩) := Lib.hid (by
        rw [hF.out, if_pos ⟨by simp [hc1, hc2], rfl, hm⟩, hcE, Int.toNat_natCast])
       have hEr2 := Lib.hid (hEr.out c hclt)
       clear hF hEr hcs
       obtain ⟨y, hy⟩ : ∃ y : Vr, y = ⟨x.slots, x.cols.eraseIdx c⟩ := ⟨_, rfl⟩
       have hyc : Hid (y.cells = [.sl .shared (x.slots.map Sl.cells), .sl .shared ((x.cols.eraseIdx c).map encC)]) := Lib.hid (by rw [hy]; rfl)
       rw [← hy] at hFs
       rw [← hEr2.out] at hyc
       clear hy hEr2
       unfold Vr.cells Stp.cells at *
       generalize Sch.stepV x s = F at *
       cases s with
       | mk kd col slot order =>
       cases slot with
       | mk nm ty rq dv =>
       cases dv with
       | mk k n sv lv =>
       dsimp only at hC hR hk ho hcE hb2 hc1 hc2 ⊢
       subst hk hcE
       rw [Sl.cells_mk] at *
       dsimp only [List.cons_append, List.nil_append] at *
       generalize x.slots.map Sl.cells = L1 at *
       generalize x.cols.map encC = L2 at *
       generalize x.cols.length = m2 at *
       replace hC := Lib.hid hC
       replace hR := Lib.hid hR
       replace hb1 := Lib.hid hb1
       replace hb2 := Lib.hid hb2
       have t1 := ht1 c
       have t2 := ht2 (m2 - (c + 1)) (c + 1)
       have t3 : (List.take c L2).length ≤ 1000 ∧ (List.take (m2 - (c + 1)) (List.drop (c + 1) L2)).length ≤ 1000 := by
        rw [List.length_take, List.length_take]; omega
       obtain ⟨t3, t4⟩ := t3
       obtain ⟨c1, hcc⟩ : ∃ c1, c + 1 = c1 := ⟨_, rfl⟩
       have hcI : (c : Int) + 1 = (c1 : Int) := by omega
       have hc1l : c1 ≤ m2 := by omega
       rw [hcc] at t2 t4 hyc
       replace hcc := Lib.hid hcc
       clear ht1 ht2 e2
       refine trF_enterG (G := twoA Tryz.prog (.cell 4 147) (.tmp 5)) Tryz.func164 rfl (by rw [Tryz.ntmps164]; exact Nat.le_of_ble_eq_true rfl) (fun h1 h2 h3 => res_two rfl h1 h2 h3) ?_
       simp only [Tryz.ntmps164]
       refine tr_room 3 1 ([] : List (List D)).length ?_
       repeat' (first | refine QV ?_ | ((with_reducible apply (w_drawN [(b, [.sl .shared L1, .sl .shared L2])])); (iterate 3 (focus kernel_rfl)); (focus exact q_k); intro hne; simp only [nes, ne1, and_assoc] at hne; repeat (have hq := hne.1; replace hne := hne.2)) | ((with_reducible refine And.intro ?_ ?_); (focus exact q_k)) | refine QY ?_ | (refine QB ?_; intro b) | (refine QP ?_; intro o' ho') | (with_reducible refine QZ ?_ <;> (try constructor) <;> intro hb <;> try intro hb1) | fail)
       all_goals (refine retG_mk (rs := []) q_x q_y (List.Perm.refl _) ⟨_, _, rfl, cell_mk q_s q_m q_s q_v, q_w⟩ q_t (retR _ _ _ _ _) (.inr ⟨y, hFs.out, by rw [hyc.out], rfl⟩))
   · have hFn : Hid (Sch.stepV x s = none) := Lib.hid (by
      rw [hF.out, if_neg]
      rintro ⟨h1, -⟩
      simp at h1
      omega)
     clear hF hEr hcs ht1 ht2
     unfold Vr.cells Stp.cells at *
     generalize Sch.stepV x s = F at *
     cases s with
     | mk kd col slot order =>
     cases slot with
     | mk nm ty rq dv =>
     cases dv with
     | mk k n sv lv =>
     dsimp only at hC hR hk ho hb2 hcr ⊢
     subst hk
     rw [Sl.cells_mk] at *
     dsimp only [List.cons_append, List.nil_append] at *
     generalize x.slots.map Sl.cells = L1 at *
     generalize x.cols.map encC = L2 at *
     generalize x.cols.length = m2 at *
     replace hC := Lib.hid hC
     replace hR := Lib.hid hR
     replace hb1 := Lib.hid hb1
     replace hb2 := Lib.hid hb2
     have hcr' : col < 0 ∨ (0 ≤ col ∧ (m2 : Int) ≤ col) := by omega
     clear hcr
     rcases hcr' with h1 | ⟨h1, h2⟩
     all_goals skip
     all_goals (
      refine trF_enterG (G := twoA Tryz.prog (.cell 4 147) (.tmp 5)) Tryz.func164 rfl (by rw [Tryz.ntmps164]; exact Nat.le_of_ble_eq_true rfl) (fun h1 h2 h3 => res_two rfl h1 h2 h3) ?_
      simp only [Tryz.ntmps164]
      repeat' (first | refine QX ?_ | (refine QB ?_; intro b) | (refine QP ?_; intro o' ho') | (with_reducible refine QZ ?_ <;> (try constructor) <;> intro hb <;> try intro hb1) | fail)
      all_goals (refine retG_mk (rs := []) q_x q_y (List.Perm.refl _) ⟨_, _, rfl, cell_mk q_s q_m q_s q_v, q_w⟩ q_t (LE.refl _) (.inl ⟨hFn.out, _, _, rfl, rfl⟩)))
 · have hrr : (Sch.bare s.slot false false && decide (s.order.length = 0)) = false := by
    cases h1 : Sch.bare s.slot false false with
    | false => rfl
    | true => rw [Bool.true_and, decide_eq_false fun h2 => hb ⟨h1, h2⟩]
   rw [hrr] at hR
   have hFn : Hid (Sch.stepV x s = none) := Lib.hid (by
    rw [hF.out, if_neg]
    rintro ⟨h1, h2, -⟩
    simp at h1
    exact hb ⟨h2, by rw [h1.2]; rfl⟩)
   clear hF hEr hcs ht1 ht2 hb hrr
   unfold Vr.cells Stp.cells at *
   generalize Sch.stepV x s = F at *
   cases s with
   | mk kd col slot order =>
   cases slot with
   | mk nm ty rq dv =>
   cases dv with
   | mk k n sv lv =>
   dsimp only at hC hR hk ho ⊢
   subst hk
   rw [Sl.cells_mk] at *
   dsimp only [List.cons_append, List.nil_append] at *
   generalize x.slots.map Sl.cells = L1 at *
   generalize x.cols.map encC = L2 at *
   generalize x.cols.length = m2 at *
   replace hC := Lib.hid hC
   replace hR := Lib.hid hR
   refine trF_enterG (G := twoA Tryz.prog (.cell 4 147) (.tmp 5)) Tryz.func164 rfl (by rw [Tryz.ntmps164]; exact Nat.le_of_ble_eq_true rfl) (fun h1 h2 h3 => res_two rfl h1 h2 h3) ?_
   simp only [Tryz.ntmps164]
   repeat' (first | refine QX ?_ | (refine QB ?_; intro b) | (refine QP ?_; intro o' ho') | (with_reducible refine QZ ?_ <;> (try constructor) <;> intro hb <;> try intro hb1) | fail)
   all_goals (refine retG_mk (rs := []) q_x q_y (List.Perm.refl _) ⟨_, _, rfl, cell_mk q_s q_m q_s q_v, q_w⟩ q_t (LE.refl _) (.inl ⟨hFn.out, _, _, rfl, rfl⟩))
def CopyS (x : Vr) (st : St) (d : D) (st' : St) : Prop := ∃ gs cS zS, (slotC x.slots ++ zS).length = cS * 7 ∧ d = D.agg [.ar gs 0 x.slots.length cS, .sl .shared (x.cols.map encC)] ∧ st' = Res.box gs 75 (slotC x.slots ++ zS) :: st
theorem copyS_ex (x : Vr) (st : St) : ∃ d st', CopyS x st d st' := ⟨_, _, 0, x.slots.length, [], by rw [List.append_nil, slotC_len], rfl, rfl⟩
theorem refCopySF' (x : Vr) (h1 : 1 ≤ x.slots.length) (h2 : 1 ≤ x.cols.length) (hl : x.slots.length ≤ 1000) (hc : x.cols.length ≤ 1000) (st : St) : TrF Tryz.prog 195 [.agg x.cells] st (CopyS x st) :=
 (refCopySF x h1 h2 hl hc st).mono fun d st' ⟨⟨gs, cS, zS⟩, k1, k2, k3⟩ => ⟨gs, cS, zS, k1, k2, k3⟩
def Raw1 (x : Vr) (s : Stp) (st : St) (d : D) (st' : St) : Prop := ∃ i : (Bool × Vr) × RI, (Sch.stepV x s = if i.1.1 then some i.1.2 else none) ∧ d = .tup [.agg [.ar i.2.1 0 i.1.2.slots.length i.2.2.1, .sl .shared (i.1.2.cols.map encC)], .b i.1.1] ∧ st' = .box i.2.1 75 ((i.1.2.slots.map Sl.cells).flatten ++ i.2.2.2) :: st
theorem raw1_rest {x : Vr} {s : Stp} {st : St} {f : FuncId} {args : List D} (h : TrF Tryz.prog f args st (Raw1 x s st)) : TrF Tryz.prog f args st (RefStepR x s st) := by
 have h1 := TrF.rest (ι := (Bool × Vr) × RI) (g := fun i => i.2.1) (n := fun i => i.1.2.slots.length) (cap := fun i => i.2.2.1) (es := fun i => i.1.2.slots.map Sl.cells) (F' := fun i => .tup [.agg i.1.2.cells, .b i.1.1]) (sz := 7) (by decide) (fun i _ => ⟨slots_each i.1.2.slots, List.length_map ..⟩) (fun i => .tup _ _ (.cons _ _ _ _ (.agg _ _ (.cons _ _ _ _ .ar (.cons _ _ _ _ (.same _) .nil))) (.cons _ _ _ _ (.same _) .nil))) h
 refine h1.mono fun d st' ⟨i, k1, k2, k3⟩ => ?_
 obtain ⟨⟨ok, y⟩, i2⟩ := i
 cases ok with
 | true => exact .inr ⟨y, k1, k2, k3⟩
 | false => exact .inl ⟨k1, _, _, k2, k3⟩
theorem refRenameF (x : Vr) (s : Stp) (h : RefP x s) (hk : s.kind = 3) (st : St) : TrF Tryz.prog 164 [.agg x.cells, .agg s.cells] st (RefStepR x s st) := by
 refine raw1_rest ?_
 obtain ⟨⟨hl, hp, hcp, hcl, hcs⟩, hq, hty, ho⟩ := h
 have hC := refCopySF' x hp hcp hl q_o
 have hE := copyS_ex x
 have hR := refRestF s hq.ok q_o ho
 have hF : Hid (Sch.stepV x s = Sch.renameS x s) := Lib.hid (by unfold Sch.stepV; rw [if_neg (show ¬ s.kind = 1 by omega), if_neg (show ¬ s.kind = 2 by omega), if_pos hk])
 have hrv : Sch.restV s = (Sch.bare s.slot true false && decide (s.order.length = 0)) := by unfold Sch.restV; rw [if_neg (show ¬ s.kind = 1 by omega), if_neg (show ¬ s.kind = 2 by omega), if_pos hk]
 rw [hrv] at hR
 clear hrv
 unfold Raw1
 have hC := fun st => hC st
 unfold CopyS at hC hE
 have l2 : (x.cols.map encC).length = x.cols.length := List.length_map ..
 have hN := Lib.hid (refIsNameF s.slot.name)
 have hL := Lib.hid (refColF x.slots x.cols s.slot.name q_o q_o hcs [])
 have e1 := Lib.hid (slots_each x.slots)
 have f1 : Hid ((x.slots.map Sl.cells).flatten = slotC x.slots) := rfl
 have l1 : Hid ((x.slots.map Sl.cells).length = x.slots.length) := List.length_map ..
 unfold Sch.renameS Sch.col at hF
 by_cases hb : Sch.bare s.slot true false = true ∧ s.order.length = 0
 · obtain ⟨hb1, hb2⟩ := hb
   rw [hb1, hb2] at hR
   rw [hb1] at hF
   by_cases hcr : 0 ≤ s.col ∧ s.col < x.cols.length
   · obtain ⟨hc1, hc2⟩ := hcr
     have hcol : Sch.column x s = true := by unfold Sch.column; simp [hc1, hc2, hb2]
     rw [hcol] at hF
     obtain ⟨i, hi⟩ := Int.eq_ofNat_of_zero_le hc1
     have hilt : i < x.cols.length := by omega
     obtain ⟨c, hc⟩ := gEx hilt
     have hcm : c < x.slots.length := hcs c (List.mem_of_getElem? hc)
     obtain ⟨z, hz⟩ := gEx hcm
     have hat : Sch.at_ x s = c := by
      unfold Sch.at_
      rw [hi, Int.toNat_natCast, List.getD_eq_getElem?_getD, hc]; rfl
     rw [hat, modify_set hz] at hF
     have hL2i : (x.cols.map encC)[i]? = some [D.i c] := by rw [List.getElem?_map, hc]; rfl
     have hL1c : (x.slots.map Sl.cells)[c]? = some z.cells := by rw [List.getElem?_map, hz]; rfl
     obtain ⟨y, hy⟩ : ∃ y : Vr, y = ⟨x.slots.set c { z with name := s.slot.name }, x.cols⟩ := ⟨_, rfl⟩
     rw [← hy] at hF
     have hsp : Hid (∀ zS, List.take (c * 7) (slotC x.slots ++ zS) ++ [D.str s.slot.name] ++ List.drop (c * 7 + 1) (slotC x.slots ++ zS) = (y.slots.map Sl.cells).flatten ++ zS) := fun zS => by
      have h := row_splice (o := 0) (ds := [D.str s.slot.name]) zS _ c (slots_each x.slots) hL1c (by simp)
      rw [show splice z.cells 0 [D.str s.slot.name] = Sl.cells { z with name := s.slot.name } from rfl, show (x.slots.map Sl.cells).set c (Sl.cells { z with name := s.slot.name }) = (x.slots.set c { z with name := s.slot.name }).map Sl.cells from (List.map_set ..).symm] at h
      rw [hy]
      exact h
     have hys : Hid (y.slots.length = x.slots.length) := Lib.hid (by rw [hy]; simp)
     have hyc : Hid (y.cols.map encC = x.cols.map encC) := Lib.hid (by rw [hy])
     have hrl := slotC_len x.slots
     have hle : Hid (∀ (zS : List D) (cS : Nat), (slotC x.slots ++ zS).length = cS * 7 → c * 7 + 1 ≤ cS * 7) := fun zS cS h => by
      rw [List.length_append] at h
      omega
     clear hy hcs hq hty hat hc hz hL1c hcol
     unfold Vr.cells Stp.cells at *
     generalize Sch.stepV x s = F at *
     cases s with
     | mk kd col slot order =>
     cases slot with
     | mk nm ty rq dv =>
     cases dv with
     | mk k n sv lv =>
     dsimp only at hC hE hR hF hk ho hi hb2 hc1 hc2 hsp hN hL ⊢
     subst hk
     rw [Sl.cells_mk] at *
     dsimp only [List.cons_append, List.nil_append] at *
     generalize r1e : slotC x.slots = R1 at *
     generalize m1e : x.slots.length = m1 at *
     generalize m2e : x.cols.length = m2 at *
     generalize hL1 : x.slots.map Sl.cells = L1 at *
     generalize hL2 : x.cols.map encC = L2 at *
     have r1e : Hid ((x.slots.map Sl.cells).flatten = R1) := r1e
     replace m1e := Lib.hid m1e
     replace m2e := Lib.hid m2e
     replace hL1 := Lib.hid hL1
     replace hL2 := Lib.hid hL2
     replace hC := Lib.hid hC
     replace hE := Lib.hid hE
     replace hR := Lib.hid hR
     subst hi
     replace hb1 := Lib.hid hb1
     replace hb2 := Lib.hid hb2
     generalize V.isName nm.data.toList = qn at *
     generalize Sch.colL x.slots nm x.cols = cv at *
     refine trF_enterG (G := twoA Tryz.prog (.cell 4 147) (.tmp 5)) Tryz.func164 rfl (by rw [Tryz.ntmps164]; exact Nat.le_of_ble_eq_true rfl) (fun h1 h2 h3 => res_two rfl h1 h2 h3) ?_
     simp only [Tryz.ntmps164]
     repeat' (first | refine QV ?_ | ((with_reducible apply (w_drawN [(b, [.ar gs 0 m1 cS, .sl .shared L2])])); (iterate 3 (focus kernel_rfl)); (focus exact q_k); intro hne; simp only [nes, ne1, and_assoc] at hne; repeat (have hq := hne.1; replace hne := hne.2)) | ((with_reducible refine And.intro ?_ ?_); (focus exact q_k)) | refine QY ?_ | (refine QB ?_; intro b) | (with_reducible refine QZ ?_ <;> (try constructor) <;> intro hb <;> try intro hb1) | ((with_reducible apply (ck_gen Tryz.call195)); (focus exact List.Perm.refl _); (focus exact hC.out _); (focus exact LEL.refl _); (focus exact hE.out _); (rintro d st' ⟨gs, cS, zS, hz1, rfl, rfl⟩); (have hle2 := hle.out zS cS hz1; have hsp2 := hsp.out zS)) | ((with_reducible apply (ck_lend Tryz.call163)); (focus exact hL.out); (focus exact ⟨Lend.agg ⟨Lend.rowE q_m f1.out (by decide) e1.out l1.out, Lend.refl _, trivial⟩, Lend.refl _, trivial⟩)) | fail)
     all_goals first
      | ((refine retG_mk (rs := []) q_x q_y (.swap _ _ _) ⟨_, _, rfl, cell_mk q_s q_m q_s q_v, q_w⟩ (((List.Sublist.refl _).cons _).cons _ |>.cons_cons _) (LE.refl _) ⟨((false, x), (gs, cS, zS)), ?_, by simp only [m1e.out, hL2.out], by simp only [r1e.out]⟩); (rw [hF.out]; refine if_neg ?_; rintro ⟨h1, h2, h3, h4⟩; first | omega | exact Bool.noConfusion (h3.symm.trans (by assumption) : true = false)))
      | ((refine retG_mk (rs := []) q_x q_y (.swap _ _ _) ⟨_, _, rfl, cell_mk q_s q_m q_s q_v, q_w⟩ (((List.Sublist.refl _).cons _).cons _ |>.cons_cons _) (LE.refl _) ⟨((true, y), (gs, cS, zS)), ?_, by simp only [hys.out, hyc.out], rfl⟩); (rw [hF.out]; exact if_pos (by refine ⟨rfl, rfl, ?_, ?_⟩ <;> first | assumption | omega)))
   · have hFn : Hid (Sch.stepV x s = none) := Lib.hid (by
      rw [hF.out, if_neg]
      rintro ⟨h1, -⟩
      unfold Sch.column at h1
      simp at h1
      omega)
     clear hF hcs hN hL hq hty
     unfold Vr.cells Stp.cells at *
     generalize Sch.stepV x s = F at *
     cases s with
     | mk kd col slot order =>
     cases slot with
     | mk nm ty rq dv =>
     cases dv with
     | mk k n sv lv =>
     dsimp only at hC hE hR hk ho hb2 hcr ⊢
     subst hk
     rw [Sl.cells_mk] at *
     dsimp only [List.cons_append, List.nil_append] at *
     generalize r1e : slotC x.slots = R1 at *
     generalize m1e : x.slots.length = m1 at *
     generalize m2e : x.cols.length = m2 at *
     generalize hL1 : x.slots.map Sl.cells = L1 at *
     generalize hL2 : x.cols.map encC = L2 at *
     have r1e : Hid ((x.slots.map Sl.cells).flatten = R1) := r1e
     replace m1e := Lib.hid m1e
     replace m2e := Lib.hid m2e
     replace hL1 := Lib.hid hL1
     replace hL2 := Lib.hid hL2
     replace hC := Lib.hid hC
     replace hE := Lib.hid hE
     replace hR := Lib.hid hR
     replace hb1 := Lib.hid hb1
     replace hb2 := Lib.hid hb2
     have hcr' : col < 0 ∨ (0 ≤ col ∧ (m2 : Int) ≤ col) := by omega
     clear hcr
     rcases hcr' with h1 | ⟨h1, h2⟩
     all_goals skip
     all_goals (
      refine trF_enterG (G := twoA Tryz.prog (.cell 4 147) (.tmp 5)) Tryz.func164 rfl (by rw [Tryz.ntmps164]; exact Nat.le_of_ble_eq_true rfl) (fun h1 h2 h3 => res_two rfl h1 h2 h3) ?_
      simp only [Tryz.ntmps164]
      repeat' (first | refine QX ?_ | (refine QB ?_; intro b) | (with_reducible refine QZ ?_ <;> (try constructor) <;> intro hb <;> try intro hb1) | ((with_reducible apply (ck_gen Tryz.call195)); (focus exact List.Perm.refl _); (focus exact hC.out _); (focus exact LEL.refl _); (focus exact hE.out _); (rintro d st' ⟨gs, cS, zS, hz1, rfl, rfl⟩)) | fail)
      all_goals (refine retG_mk (rs := []) q_x q_y (.swap _ _ _) ⟨_, _, rfl, cell_mk q_s q_m q_s q_v, q_w⟩ (((List.Sublist.refl _).cons _).cons _ |>.cons_cons _) (LE.refl _) ⟨((false, x), (gs, cS, zS)), hFn.out, by simp only [m1e.out, hL2.out], by simp only [r1e.out]⟩))
 · have hrr : (Sch.bare s.slot true false && decide (s.order.length = 0)) = false := by
    cases h1 : Sch.bare s.slot true false with
    | false => rfl
    | true => rw [Bool.true_and, decide_eq_false fun h2 => hb ⟨h1, h2⟩]
   rw [hrr] at hR
   have hFn : Hid (Sch.stepV x s = none) := Lib.hid (by
    rw [hF.out, if_neg]
    rintro ⟨h1, h2, -⟩
    unfold Sch.column at h1
    simp at h1
    exact hb ⟨h2, by rw [h1.2]; rfl⟩)
   clear hF hcs hN hL hb hrr hq hty
   unfold Vr.cells Stp.cells at *
   generalize Sch.stepV x s = F at *
   cases s with
   | mk kd col slot order =>
   cases slot with
   | mk nm ty rq dv =>
   cases dv with
   | mk k n sv lv =>
   dsimp only at hC hE hR hk ho ⊢
   subst hk
   rw [Sl.cells_mk] at *
   dsimp only [List.cons_append, List.nil_append] at *
   generalize r1e : slotC x.slots = R1 at *
   generalize m1e : x.slots.length = m1 at *
   generalize m2e : x.cols.length = m2 at *
   generalize hL1 : x.slots.map Sl.cells = L1 at *
   generalize hL2 : x.cols.map encC = L2 at *
   have r1e : Hid ((x.slots.map Sl.cells).flatten = R1) := r1e
   replace m1e := Lib.hid m1e
   replace m2e := Lib.hid m2e
   replace hL1 := Lib.hid hL1
   replace hL2 := Lib.hid hL2
   replace hC := Lib.hid hC
   replace hE := Lib.hid hE
   replace hR := Lib.hid hR
   refine trF_enterG (G := twoA Tryz.prog (.cell 4 147) (.tmp 5)) Tryz.func164 rfl (by rw [Tryz.ntmps164]; exact Nat.le_of_ble_eq_true rfl) (fun h1 h2 h3 => res_two rfl h1 h2 h3) ?_
   simp only [Tryz.ntmps164]
   repeat' (first | refine QX ?_ | (refine QB ?_; intro b) | (with_reducible refine QZ ?_ <;> (try constructor) <;> intro hb <;> try intro hb1) | ((with_reducible apply (ck_gen Tryz.call195)); (focus exact List.Perm.refl _); (focus exact hC.out _); (focus exact LEL.refl _); (focus exact hE.out _); (rintro d st' ⟨gs, cS, zS, hz1, rfl, rfl⟩)) | fail)
   all_goals (refine retG_mk (rs := []) q_x q_y (.swap _ _ _) ⟨_, _, rfl, cell_mk q_s q_m q_s q_v, q_w⟩ (((List.Sublist.refl _).cons _).cons _ |>.cons_cons _) (LE.refl _) ⟨((false, x), (gs, cS, zS)), hFn.out, by simp only [m1e.out, hL2.out], by simp only [r1e.out]⟩)
def wt (t s : Nat) : Nat → Nat
 | 0 => t
 | k + 1 => if Sch.has s k && !Sch.has (wt t s k) k then wt t s k + 2 ^ k else wt t s k
def wm (t s : Nat) : Nat → Bool
 | 0 => false
 | k + 1 => if Sch.has s k && !Sch.has (wt t s k) k then true else wm t s k
theorem wt_all : ∀ t s : Fin 64, wt t s 6 = t.val ||| s.val ∧ wm t s 6 = (t.val ||| s.val != t.val) := by decide +kernel
theorem wt_le (t s : Nat) : ∀ k, wt t s k + 1 ≤ t + 2 ^ k
 | 0 => by rw [wt]; omega
 | k + 1 => by
  have := wt_le t s k
  rw [wt, Nat.pow_succ]
  split <;> omega
theorem refWidenF (x : Vr) (s : Stp) (h : RefP x s) (hxt : ∀ z ∈ x.slots, Sch.takes z.types = true) (hk : s.kind = 4) (st : St) : TrF Tryz.prog 164 [.agg x.cells, .agg s.cells] st (RefStepR x s st) := by
 refine raw1_rest ?_
 obtain ⟨⟨hl, hp, hcp, hcl, hcs⟩, hq, hty, ho⟩ := h
 have hC := refCopySF' x hp hcp hl q_o
 have hE := copyS_ex x
 have hR := refRestF s hq.ok q_o ho
 have hF : Hid (Sch.stepV x s = Sch.widenS x s) := Lib.hid (by unfold Sch.stepV; rw [if_neg (show ¬ s.kind = 1 by omega), if_neg (show ¬ s.kind = 2 by omega), if_neg (show ¬ s.kind = 3 by omega), if_pos hk])
 have hrv : Sch.restV s = (Sch.bare s.slot false true && decide (s.order.length = 0)) := by unfold Sch.restV; rw [if_neg (show ¬ s.kind = 1 by omega), if_neg (show ¬ s.kind = 2 by omega), if_neg (show ¬ s.kind = 3 by omega), if_pos hk]
 rw [hrv] at hR
 clear hrv
 unfold Raw1
 have hC := fun st => hC st
 unfold CopyS at hC hE
 have l2 : (x.cols.map encC).length = x.cols.length := List.length_map ..
 unfold Sch.widenS at hF
 by_cases hb : Sch.bare s.slot false true = true ∧ s.order.length = 0
 · obtain ⟨hb1, hb2⟩ := hb
   rw [hb1, hb2] at hR
   rw [hb1] at hF
   by_cases hcr : 0 ≤ s.col ∧ s.col < x.cols.length
   · obtain ⟨hc1, hc2⟩ := hcr
     have hcol : Sch.column x s = true := by unfold Sch.column; simp [hc1, hc2, hb2]
     rw [hcol] at hF
     obtain ⟨i, hi⟩ := Int.eq_ofNat_of_zero_le hc1
     have hilt : i < x.cols.length := by omega
     obtain ⟨c, hc⟩ := gEx hilt
     have hcm : c < x.slots.length := hcs c (List.mem_of_getElem? hc)
     obtain ⟨z, hz⟩ := gEx hcm
     have hat : Sch.at_ x s = c := by
      unfold Sch.at_
      rw [hi, Int.toNat_natCast, List.getD_eq_getElem?_getD, hc]; rfl
     have hzt := hxt z (List.mem_of_getElem? hz)
     by_cases htk : Sch.takes s.slot.types = true
     · obtain ⟨tn, sn, ht1, hs1, htl, hsl, hor, hol⟩ := Sch.widen_nat hzt htk
       have hall := wt_all ⟨tn, htl⟩ ⟨sn, hsl⟩
       dsimp only at hall
       obtain ⟨hw1, hw2⟩ := hall
       rw [hat, modify_set hz, hz, Option.any_some, htk, hor] at hF
       have hL2i : (x.cols.map encC)[i]? = some [D.i c] := by rw [List.getElem?_map, hc]; rfl
       have hL1c : (x.slots.map Sl.cells)[c]? = some z.cells := by rw [List.getElem?_map, hz]; rfl
       obtain ⟨w, hw⟩ : ∃ w, tn ||| sn = w := ⟨_, rfl⟩
       rw [hw] at hF hw1 hw2 hol
       obtain ⟨y, hy⟩ : ∃ y : Vr, y = ⟨x.slots.set c { z with types := (w : Int) }, x.cols⟩ := ⟨_, rfl⟩
       rw [← hy] at hF
       have hFw : Hid (Sch.stepV x s = if (w != tn) = true then some y else none) := Lib.hid (by
        rw [hF.out]
        by_cases hwt : w = tn
        · rw [if_neg (by rw [ht1]; simp [hwt]), if_neg (by simp [hwt])]
        · rw [if_pos (by refine ⟨rfl, rfl, rfl, ?_⟩; rw [ht1, bne_iff_ne]; omega), if_pos (by simp [hwt])])
       have hsp : Hid (∀ zS, List.take (c * 7 + 1) (slotC x.slots ++ zS) ++ [D.i w] ++ List.drop (c * 7 + 1 + 1) (slotC x.slots ++ zS) = (y.slots.map Sl.cells).flatten ++ zS) := fun zS => by
        have h := row_splice (o := 1) (ds := [D.i w]) zS _ c (slots_each x.slots) hL1c (by simp)
        rw [show splice z.cells 1 [D.i w] = Sl.cells { z with types := (w : Int) } from rfl, show (x.slots.map Sl.cells).set c (Sl.cells { z with types := (w : Int) }) = (x.slots.set c { z with types := (w : Int) }).map Sl.cells from (List.map_set ..).symm] at h
        rw [hy]
        exact h
       have hld : Hid (∀ zS, ∃ tl, List.drop (c * 7 + 1) (slotC x.slots ++ zS) = D.i tn :: tl) := fun zS => by
        obtain ⟨tl, h⟩ := row_drop (sz := 7) (o := 1) zS _ c (slots_each x.slots) hL1c q_o
        rw [show z.cells.drop 1 = D.i z.types :: z.cells.drop 2 from rfl, ht1] at h
        exact ⟨_, h⟩
       have hys : Hid (y.slots.length = x.slots.length) := Lib.hid (by rw [hy]; simp)
       have hyc : Hid (y.cols.map encC = x.cols.map encC) := Lib.hid (by rw [hy])
       have hrl := slotC_len x.slots
       have hle : Hid (∀ (zS : List D) (cS : Nat), (slotC x.slots ++ zS).length = cS * 7 → c * 7 + 1 + 1 ≤ cS * 7) := fun zS cS h => by
        rw [List.length_append] at h
        omega
       have hHs := Lib.hid fun k (h : k ≤ 6) => refHasF sn k q_o q_o
       have hHt := Lib.hid fun k (h : k ≤ 6) => refHasF (wt tn sn k) k q_o (by have := wt_le tn sn k; have : 2 ^ k ≤ 2 ^ 6 := Nat.pow_le_pow_right (by decide) h; omega)
       have hwb : Hid (∀ k, k ≤ 6 → wt tn sn k ≤ 200 ∧ 2 ^ k ≤ 64) := fun k h => by
        have := wt_le tn sn k
        have : 2 ^ k ≤ 2 ^ 6 := Nat.pow_le_pow_right (by decide) h
        omega
       replace htk := Sch.takes_iff.1 htk
       clear hy hcs hq hty hat hc hz hL1c hcol hF hor hzt hxt ht1
       replace hw1 := Lib.hid hw1
       replace hw2 := Lib.hid hw2
       replace hw := Lib.hid hw
       unfold Vr.cells Stp.cells at *
       generalize Sch.stepV x s = F at *
       cases s with
       | mk kd col slot order =>
       cases slot with
       | mk nm ty rq dv =>
       cases dv with
       | mk k n sv lv =>
       dsimp only at hC hE hR hFw hk ho hi hb2 hc1 hc2 hsp hs1 htk ⊢
       subst hk
       rw [Sl.cells_mk] at *
       dsimp only [List.cons_append, List.nil_append] at *
       generalize r1e : slotC x.slots = R1 at *
       generalize m1e : x.slots.length = m1 at *
       generalize m2e : x.cols.length = m2 at *
       generalize hL1 : x.slots.map Sl.cells = L1 at *
       generalize hL2 : x.cols.map encC = L2 at *
       have r1e : Hid ((x.slots.map Sl.cells).flatten = R1) := r1e
       replace m1e := Lib.hid m1e
       replace m2e := Lib.hid m2e
       replace hL1 := Lib.hid hL1
       replace hL2 := Lib.hid hL2
       replace hC := Lib.hid hC
       replace hE := Lib.hid hE
       replace hR := Lib.hid hR
       subst hi hs1
       replace hb1 := Lib.hid hb1
       replace hb2 := Lib.hid hb2
       refine trF_enterG (G := twoA Tryz.prog (.cell 4 147) (.tmp 5)) Tryz.func164 rfl (by rw [Tryz.ntmps164]; exact Nat.le_of_ble_eq_true rfl) (fun h1 h2 h3 => res_two rfl h1 h2 h3) ?_
       simp only [Tryz.ntmps164]
       repeat' (first | refine QV ?_ | ((with_reducible apply (w_drawN [(b, [.ar gs 0 m1 cS, .sl .shared L2]), (gs, R1 ++ zS)])); (iterate 3 (focus kernel_rfl)); (focus exact q_k); intro hne; simp only [nes, ne1, and_assoc] at hne; repeat (have hq := hne.1; replace hne := hne.2)) | ((with_reducible refine And.intro ?_ ?_); (focus exact q_k)) | refine QY ?_ | (refine QB ?_; intro b) | (with_reducible refine QZ ?_ <;> (try constructor) <;> intro hb <;> try intro hb1) | ((with_reducible apply (ck_gen Tryz.call195)); (focus exact List.Perm.refl _); (focus exact hC.out _); (focus exact LEL.refl _); (focus exact hE.out _); (rintro d st' ⟨gs, cS, zS, hz1, rfl, rfl⟩); (have hle2 := hle.out zS cS hz1; have hsp2 := hsp.out zS; obtain ⟨t2, hld2⟩ := hld.out zS; obtain ⟨b4, rfl⟩ : ∃ q, q = b := ⟨_, rfl⟩)) | fail)
       obtain ⟨b6, rfl⟩ : ∃ q, q = b := ⟨_, rfl⟩
       have hL2i' := hL2i
       refine tr_loopd (ι := Nat) (fun k' A st' => k' ≤ 6 ∧ A.df = [] ∧ A.e 3 = .ip [.i 4, .i i, .str nm, .i sn, .b rq, .i k, .i n, .str sv, .sl .shared (lv.map V.cells), .sl .shared (order.map encI)] ∧ A.e 4 = .ptr b4 0 ∧ A.e 6 = .ptr b6 0 ∧ A.e 10 = .i k' ∧ (∃ tk bk : Nat, Hid (wt tn sn k' = tk) ∧ Hid (2 ^ k' = bk) ∧ A.e 7 = .i tk ∧ A.e 8 = .i bk) ∧ (∃ mk : Bool, Hid (wm tn sn k' = mk) ∧ A.e 9 = .b mk) ∧
        st' = .box b6 147 [.ar gs 0 m1 cS, .sl .shared L2] :: .box gs 75 (R1 ++ zS) :: .box b4 147 [.sl .tight [], .sl .tight []] :: st) (fun k' => 6 - k') 0 ⟨Nat.zero_le _, Qf, Qf, Qf, Qf, Qf, ⟨tn, 1, rfl, rfl, Qf, Qf⟩, ⟨false, rfl, Qf⟩, rfl⟩ ?_
       rintro k' A st' ⟨hk', hdf, e3, e4, e6, e10, ⟨tk, bk, ht, hbk, e7, e8⟩, ⟨mk, hm, e9⟩, rfl⟩
       by_cases hlt : k' < 6
       · have hH1 := hHs.out k' hk'
         have hH2 := hHt.out k' hk'
         have hb := hwb.out k' hk'
         have hb' := hwb.out (k' + 1) hlt
         have hs1 : wt tn sn (k' + 1) = if Sch.has sn k' && !Sch.has (wt tn sn k') k' then wt tn sn k' + 2 ^ k' else wt tn sn k' := rfl
         have hs2 : wm tn sn (k' + 1) = if Sch.has sn k' && !Sch.has (wt tn sn k') k' then true else wm tn sn k' := rfl
         rw [Nat.pow_succ] at hb'
         have hp2 : 2 ^ (k' + 1) = bk * 2 := by rw [Nat.pow_succ, hbk.out]
         rw [hbk.out] at hb hb' hs1
         rw [ht.out] at hH2 hb hs1 hs2
         rw [hm.out] at hs2
         obtain ⟨hb7, hb8⟩ := hb
         clear hb'
         generalize Sch.has sn k' = q1 at *
         generalize Sch.has tk k' = q2 at *
         replace hH1 := Lib.hid hH1
         replace hH2 := Lib.hid hH2
         replace hp2 := Lib.hid hp2
         replace hs1 := Lib.hid hs1
         replace hs2 := Lib.hid hs2
         cases q1 <;> cases q2
         all_goals skip
         all_goals (
          repeat' (first | refine QX ?_ | (refine QB ?_; intro b) | (with_reducible refine QZ ?_ <;> (try constructor) <;> intro hb <;> try intro hb1) | fail)
          refine ⟨k' + 1, _, List.Sublist.refl _, ⟨hlt, ?_, ?_, ?_, ?_, ?_, ⟨_, _, hs1.out, hp2.out, ?_, ?_⟩, ⟨_, hs2.out, ?_⟩, rfl⟩, by omega⟩
          all_goals exact Qf)
       · have hk6 : k' = 6 := by omega
         subst hk6
         have ht2 : tk = w := ht.out.symm.trans hw1.out
         have hm2 : mk = (w != tn) := hm.out.symm.trans hw2.out
         subst ht2
         subst hm2
         have hFw2 := hFw.out
         cases hwq : (tk != tn) with
         | true =>
          rw [hwq, if_pos rfl] at hFw2
          rw [hwq] at e9
          replace hFw2 := Lib.hid hFw2
          replace hwq := Lib.hid hwq
          repeat' (first | refine QV ?_ | ((with_reducible apply (w_drawN [(b6, [.ar gs 0 m1 cS, .sl .shared L2])])); (iterate 3 (focus kernel_rfl)); (focus exact q_k); intro hne; simp only [nes, ne1, and_assoc] at hne; repeat (have hq := hne.1; replace hne := hne.2)) | ((with_reducible refine And.intro ?_ ?_); (focus exact q_k)) | refine QY ?_ | (refine QB ?_; intro b) | (with_reducible refine QZ ?_ <;> (try constructor) <;> intro hb <;> try intro hb1) | fail)
          all_goals (refine retG_mk (rs := []) q_x q_y (.swap _ _ _) ⟨_, _, rfl, cell_mk q_s q_m q_s q_v, q_w⟩ (((List.Sublist.refl _).cons _).cons _ |>.cons_cons _) (LE.refl _) ⟨((true, y), (gs, cS, zS)), hFw2.out, by simp only [hys.out, hyc.out], rfl⟩)
         | false =>
          rw [hwq, if_neg Bool.false_ne_true] at hFw2
          rw [hwq] at e9
          have hFn := Lib.hid hFw2
          replace hFw2 := Lib.hid hFw2
          replace hwq := Lib.hid hwq
          repeat' (first | refine QX ?_ | (refine QB ?_; intro b) | (with_reducible refine QZ ?_ <;> (try constructor) <;> intro hb <;> try intro hb1) | fail)
          all_goals (refine retG_mk (rs := []) q_x q_y (.swap _ _ _) ⟨_, _, rfl, cell_mk q_s q_m q_s q_v, q_w⟩ (((List.Sublist.refl _).cons _).cons _ |>.cons_cons _) (LE.refl _) ⟨((false, x), (gs, cS, zS)), hFn.out, by simp only [m1e.out, hL2.out], by simp only [r1e.out]⟩)
     · have hFn : Hid (Sch.stepV x s = none) := Lib.hid (by
        rw [hF.out, if_neg]
        rintro ⟨-, -, h3, -⟩
        exact htk h3)
       have htk' : s.slot.types < 1 ∨ (1 ≤ s.slot.types ∧ 63 < s.slot.types) := by
        have : ¬ (1 ≤ s.slot.types ∧ s.slot.types ≤ 63) := fun h => htk (Sch.takes_iff.2 h)
        omega
       clear hF hcs hq hty hat hc hz hcol hzt hxt htk
       unfold Vr.cells Stp.cells at *
       generalize Sch.stepV x s = F at *
       cases s with
       | mk kd col slot order =>
       cases slot with
       | mk nm ty rq dv =>
       cases dv with
       | mk k n sv lv =>
       dsimp only at hC hE hR hk ho hi hb2 hc1 hc2 htk' ⊢
       subst hk
       rw [Sl.cells_mk] at *
       dsimp only [List.cons_append, List.nil_append] at *
       generalize r1e : slotC x.slots = R1 at *
       generalize m1e : x.slots.length = m1 at *
       generalize m2e : x.cols.length = m2 at *
       generalize hL1 : x.slots.map Sl.cells = L1 at *
       generalize hL2 : x.cols.map encC = L2 at *
       have r1e : Hid ((x.slots.map Sl.cells).flatten = R1) := r1e
       replace m1e := Lib.hid m1e
       replace m2e := Lib.hid m2e
       replace hL1 := Lib.hid hL1
       replace hL2 := Lib.hid hL2
       replace hC := Lib.hid hC
       replace hE := Lib.hid hE
       replace hR := Lib.hid hR
       subst hi
       replace hb1 := Lib.hid hb1
       replace hb2 := Lib.hid hb2
       rcases htk' with h1 | ⟨h1, h2⟩
       all_goals skip
       all_goals (
        refine trF_enterG (G := twoA Tryz.prog (.cell 4 147) (.tmp 5)) Tryz.func164 rfl (by rw [Tryz.ntmps164]; exact Nat.le_of_ble_eq_true rfl) (fun h1 h2 h3 => res_two rfl h1 h2 h3) ?_
        simp only [Tryz.ntmps164]
        repeat' (first | refine QX ?_ | (refine QB ?_; intro b) | (with_reducible refine QZ ?_ <;> (try constructor) <;> intro hb <;> try intro hb1) | ((with_reducible apply (ck_gen Tryz.call195)); (focus exact List.Perm.refl _); (focus exact hC.out _); (focus exact LEL.refl _); (focus exact hE.out _); (rintro d st' ⟨gs, cS, zS, hz1, rfl, rfl⟩)) | fail)
        all_goals (refine retG_mk (rs := []) q_x q_y (.swap _ _ _) ⟨_, _, rfl, cell_mk q_s q_m q_s q_v, q_w⟩ (((List.Sublist.refl _).cons _).cons _ |>.cons_cons _) (LE.refl _) ⟨((false, x), (gs, cS, zS)), hFn.out, by simp only [m1e.out, hL2.out], by simp only [r1e.out]⟩))
   · have hFn : Hid (Sch.stepV x s = none) := Lib.hid (by
      rw [hF.out, if_neg]
      rintro ⟨h1, -⟩
      unfold Sch.column at h1
      simp at h1
      omega)
     clear hF hcs hq hty hxt
     unfold Vr.cells Stp.cells at *
     generalize Sch.stepV x s = F at *
     cases s with
     | mk kd col slot order =>
     cases slot with
     | mk nm ty rq dv =>
     cases dv with
     | mk k n sv lv =>
     dsimp only at hC hE hR hk ho hb2 hcr ⊢
     subst hk
     rw [Sl.cells_mk] at *
     dsimp only [List.cons_append, List.nil_append] at *
     generalize r1e : slotC x.slots = R1 at *
     generalize m1e : x.slots.length = m1 at *
     generalize m2e : x.cols.length = m2 at *
     generalize hL1 : x.slots.map Sl.cells = L1 at *
     generalize hL2 : x.cols.map encC = L2 at *
     have r1e : Hid ((x.slots.map Sl.cells).flatten = R1) := r1e
     replace m1e := Lib.hid m1e
     replace m2e := Lib.hid m2e
     replace hL1 := Lib.hid hL1
     replace hL2 := Lib.hid hL2
     replace hC := Lib.hid hC
     replace hE := Lib.hid hE
     replace hR := Lib.hid hR
     replace hb1 := Lib.hid hb1
     replace hb2 := Lib.hid hb2
     have hcr' : col < 0 ∨ (0 ≤ col ∧ (m2 : Int) ≤ col) := by omega
     clear hcr
     rcases hcr' with h1 | ⟨h1, h2⟩
     all_goals skip
     all_goals (
      refine trF_enterG (G := twoA Tryz.prog (.cell 4 147) (.tmp 5)) Tryz.func164 rfl (by rw [Tryz.ntmps164]; exact Nat.le_of_ble_eq_true rfl) (fun h1 h2 h3 => res_two rfl h1 h2 h3) ?_
      simp only [Tryz.ntmps164]
      repeat' (first | refine QX ?_ | (refine QB ?_; intro b) | (with_reducible refine QZ ?_ <;> (try constructor) <;> intro hb <;> try intro hb1) | ((with_reducible apply (ck_gen Tryz.call195)); (focus exact List.Perm.refl _); (focus exact hC.out _); (focus exact LEL.refl _); (focus exact hE.out _); (rintro d st' ⟨gs, cS, zS, hz1, rfl, rfl⟩)) | fail)
      all_goals (refine retG_mk (rs := []) q_x q_y (.swap _ _ _) ⟨_, _, rfl, cell_mk q_s q_m q_s q_v, q_w⟩ (((List.Sublist.refl _).cons _).cons _ |>.cons_cons _) (LE.refl _) ⟨((false, x), (gs, cS, zS)), hFn.out, by simp only [m1e.out, hL2.out], by simp only [r1e.out]⟩))
 · have hrr : (Sch.bare s.slot false true && decide (s.order.length = 0)) = false := by
    cases h1 : Sch.bare s.slot false true with
    | false => rfl
    | true => rw [Bool.true_and, decide_eq_false fun h2 => hb ⟨h1, h2⟩]
   rw [hrr] at hR
   have hFn : Hid (Sch.stepV x s = none) := Lib.hid (by
    rw [hF.out, if_neg]
    rintro ⟨h1, h2, -⟩
    unfold Sch.column at h1
    simp at h1
    exact hb ⟨h2, by rw [h1.2]; rfl⟩)
   clear hF hcs hb hrr hq hty hxt
   unfold Vr.cells Stp.cells at *
   generalize Sch.stepV x s = F at *
   cases s with
   | mk kd col slot order =>
   cases slot with
   | mk nm ty rq dv =>
   cases dv with
   | mk k n sv lv =>
   dsimp only at hC hE hR hk ho ⊢
   subst hk
   rw [Sl.cells_mk] at *
   dsimp only [List.cons_append, List.nil_append] at *
   generalize r1e : slotC x.slots = R1 at *
   generalize m1e : x.slots.length = m1 at *
   generalize m2e : x.cols.length = m2 at *
   generalize hL1 : x.slots.map Sl.cells = L1 at *
   generalize hL2 : x.cols.map encC = L2 at *
   have r1e : Hid ((x.slots.map Sl.cells).flatten = R1) := r1e
   replace m1e := Lib.hid m1e
   replace m2e := Lib.hid m2e
   replace hL1 := Lib.hid hL1
   replace hL2 := Lib.hid hL2
   replace hC := Lib.hid hC
   replace hE := Lib.hid hE
   replace hR := Lib.hid hR
   refine trF_enterG (G := twoA Tryz.prog (.cell 4 147) (.tmp 5)) Tryz.func164 rfl (by rw [Tryz.ntmps164]; exact Nat.le_of_ble_eq_true rfl) (fun h1 h2 h3 => res_two rfl h1 h2 h3) ?_
   simp only [Tryz.ntmps164]
   repeat' (first | refine QX ?_ | (refine QB ?_; intro b) | (with_reducible refine QZ ?_ <;> (try constructor) <;> intro hb <;> try intro hb1) | ((with_reducible apply (ck_gen Tryz.call195)); (focus exact List.Perm.refl _); (focus exact hC.out _); (focus exact LEL.refl _); (focus exact hE.out _); (rintro d st' ⟨gs, cS, zS, hz1, rfl, rfl⟩)) | fail)
   all_goals (refine retG_mk (rs := []) q_x q_y (.swap _ _ _) ⟨_, _, rfl, cell_mk q_s q_m q_s q_v, q_w⟩ (((List.Sublist.refl _).cons _).cons _ |>.cons_cons _) (LE.refl _) ⟨((false, x), (gs, cS, zS)), hFn.out, by simp only [m1e.out, hL2.out], by simp only [r1e.out]⟩)
end
namespace Sch
theorem all_len : ∀ (m : Nat) (l : List Int), l.length = m → (∀ k : Nat, k < m → (k : Int) ∈ l) → l.Nodup ∧ ∀ a ∈ l, 0 ≤ a ∧ a < m
 | 0, l, h, _ => by
  obtain rfl := List.eq_nil_of_length_eq_zero h
  exact ⟨List.nodup_nil, fun a h => by cases h⟩
 | m + 1, l, h, hk => by
  have hm := hk m (Nat.lt_succ_self m)
  have hp := List.perm_cons_erase hm
  have hl : (l.erase (m : Int)).length = m := by rw [List.length_erase_of_mem hm]; omega
  obtain ⟨h1, h2⟩ := all_len m _ hl fun k hk' => (List.mem_erase_of_ne q_o).2 (hk k q_o)
  have hn : (m : Int) ∉ l.erase (m : Int) := fun h => by have := (h2 _ h).2; omega
  refine ⟨hp.nodup_iff.2 (List.nodup_cons.2 ⟨hn, h1⟩), fun a ha => ?_⟩
  rcases List.mem_cons.1 (hp.mem_iff.1 ha) with rfl | h
  · omega
  · have := h2 a h; omega
theorem nodup_len : ∀ (m : Nat) (l : List Int), l.Nodup → (∀ a ∈ l, 0 ≤ a ∧ a < m) → l.length ≤ m
 | 0, l, _, h => by
  cases l with
  | nil => exact Nat.le_refl _
  | cons a l => have := h a (List.mem_cons_self ..); omega
 | m + 1, l, hn, h => by
  by_cases hm : (m : Int) ∈ l
  · have hp := List.perm_cons_erase hm
    have hn' := List.nodup_cons.1 (hp.nodup_iff.1 hn)
    have hl : (l.erase (m : Int)).length = l.length - 1 := List.length_erase_of_mem hm
    have := nodup_len m _ hn'.2 fun a ha => by
     have h1 := h a (List.mem_of_mem_erase ha)
     have : a ≠ m := fun e => hn'.1 (e ▸ ha)
     omega
    omega
  · have := nodup_len m l hn fun a ha => by
     have h1 := h a ha
     have : a ≠ m := fun e => hm (e ▸ ha)
     omega
    omega
def put (cols : List Nat) (l : List Int) : List Nat := l.map fun o => cols.getD o.toNat 0
theorem getD_inj {cols : List Nat} (hn : cols.Nodup) {a b : Int} (ha : 0 ≤ a ∧ a < cols.length) (hb : 0 ≤ b ∧ b < cols.length) (h : cols.getD a.toNat 0 = cols.getD b.toNat 0) : a = b := by
 have h1 : a.toNat < cols.length := by omega
 have h2 : b.toNat < cols.length := by omega
 rw [List.getD_eq_getElem?_getD, List.getD_eq_getElem?_getD, List.getElem?_eq_getElem h1, List.getElem?_eq_getElem h2, Option.getD_some, Option.getD_some] at h
 have h3 : a.toNat = b.toNat := (List.getElem?_inj h1 hn).1 (by rw [List.getElem?_eq_getElem h1, List.getElem?_eq_getElem h2, h])
 omega
theorem reo_yes {cols : List Nat} (hn : cols.Nodup) : ∀ (l p : List Int), (p ++ l).Nodup → (∀ a ∈ p ++ l, 0 ≤ a ∧ a < cols.length) → reo cols l (put cols p) = some (put cols (p ++ l))
 | [], p, _, _ => by rw [reo, List.append_nil]
 | k :: l, p, h, hr => by
  have hk := hr k (by simp)
  rw [reo, if_pos]
  · have := reo_yes hn l (p ++ [k]) (by simpa using h) (by simpa using hr)
    rw [show put cols p ++ [cols.getD k.toNat 0] = put cols (p ++ [k]) by unfold put; simp]
    simpa using this
  · refine ⟨hk.1, hk.2, fun hm => ?_⟩
    obtain ⟨a, ha, he⟩ := List.mem_map.1 hm
    have := getD_inj hn (hr a (by simp [ha])) hk he
    subst this
    rw [List.nodup_append] at h
    exact h.2.2 a ha a (by simp) rfl
theorem reo_no {cols : List Nat} : ∀ (l p : List Int) (r : List Nat), reo cols l (put cols p) = some r → p.Nodup → (∀ a ∈ p, 0 ≤ a ∧ a < cols.length) → (p ++ l).Nodup ∧ ∀ a ∈ p ++ l, 0 ≤ a ∧ a < cols.length
 | [], p, _, _, hn, hr => by rw [List.append_nil]; exact ⟨hn, hr⟩
 | k :: l, p, r, h, hn, hr => by
  rw [reo] at h
  split at h
  · rename_i hc
    rw [show put cols p ++ [cols.getD k.toNat 0] = put cols (p ++ [k]) by unfold put; simp] at h
    have := reo_no l (p ++ [k]) r h (by
     rw [List.nodup_append]
     refine ⟨hn, by simp, fun a ha b hb e => ?_⟩
     rw [List.mem_singleton] at hb
     subst hb e
     exact hc.2.2 (List.mem_map.2 ⟨a, ha, rfl⟩)) (fun a ha => by
     rcases List.mem_append.1 ha with h | h
     · exact hr a h
     · rw [List.mem_singleton] at h
       subst h; omega)
    simpa using this
  · cases h
theorem reo_count {cols : List Nat} (hn : cols.Nodup) {l : List Int} (hl : l.length = cols.length) : reo cols l [] = if ∀ k : Nat, k < cols.length → l.count (k : Int) = 1 then some (put cols l) else none := by
 split
 · rename_i h
   obtain ⟨h1, h2⟩ := all_len cols.length l hl fun k hk => List.count_pos_iff.1 (by rw [h k hk]; omega)
   exact reo_yes hn l [] (by simpa using h1) (by simpa using h2)
 · rename_i h
   cases hr : reo cols l [] with
   | none => rfl
   | some r =>
    exfalso
    obtain ⟨h1, h2⟩ := reo_no l [] r hr List.nodup_nil (fun a h => by cases h)
    rw [List.nil_append] at h1 h2
    refine h fun k hk => ?_
    have hm : (k : Int) ∈ l := by
     refine Decidable.by_contra fun hm => ?_
     have := nodup_len cols.length ((k : Int) :: l) (List.nodup_cons.2 ⟨hm, h1⟩) fun a ha => by
      rcases List.mem_cons.1 ha with rfl | h
      · omega
      · exact h2 a h
     rw [List.length_cons] at this
     omega
    rw [h1.count, if_pos hm]
end Sch
section
attribute [local push_cast] encB encI encC V.cells_mk V.cells_len Nat.mul_one Int.sub_zero List.map_nil beq_self_eq_true List.head?_cons
def CopyC (x : Vr) (st : St) (d : D) (st' : St) : Prop := ∃ gc cC zC, (colC x.cols ++ zC).length = cC * 1 ∧ d = D.agg [.sl .shared (x.slots.map Sl.cells), .ar gc 0 x.cols.length cC] ∧ st' = Res.box gc 3 (colC x.cols ++ zC) :: st
theorem copyC_ex (x : Vr) (st : St) : ∃ d st', CopyC x st d st' := ⟨_, _, 0, x.cols.length, [], by rw [List.append_nil, colC_len], rfl, rfl⟩
theorem refCopyCF' (x : Vr) (h1 : 1 ≤ x.slots.length) (h2 : 1 ≤ x.cols.length) (hl : x.slots.length ≤ 1000) (hc : x.cols.length ≤ 1000) (st : St) : TrF Tryz.prog 195 [.agg x.cells] st (CopyC x st) :=
 (refCopyCF x h1 h2 hl hc st).mono fun d st' ⟨⟨gc, cC, zC⟩, k1, k2, k3⟩ => ⟨gc, cC, zC, k1, k2, k3⟩
def RawC (x : Vr) (s : Stp) (st : St) (d : D) (st' : St) : Prop := ∃ i : (Bool × Vr) × RI, (Sch.stepV x s = if i.1.1 then some i.1.2 else none) ∧ d = .tup [.agg [.sl .shared (i.1.2.slots.map Sl.cells), .ar i.2.1 0 i.1.2.cols.length i.2.2.1], .b i.1.1] ∧ st' = .box i.2.1 3 ((i.1.2.cols.map encC).flatten ++ i.2.2.2) :: st
theorem rawC_rest {x : Vr} {s : Stp} {st : St} {f : FuncId} {args : List D} (h : TrF Tryz.prog f args st (RawC x s st)) : TrF Tryz.prog f args st (RefStepR x s st) := by
 have h1 := TrF.rest (ι := (Bool × Vr) × RI) (g := fun i => i.2.1) (n := fun i => i.1.2.cols.length) (cap := fun i => i.2.2.1) (es := fun i => i.1.2.cols.map encC) (F' := fun i => .tup [.agg i.1.2.cells, .b i.1.1]) (sz := 1) (by decide) (fun i _ => ⟨cols_each i.1.2.cols, List.length_map ..⟩) (fun i => .tup _ _ (.cons _ _ _ _ (.agg _ _ (.cons _ _ _ _ (.same _) (.cons _ _ _ _ .ar .nil))) (.cons _ _ _ _ (.same _) .nil))) h
 refine h1.mono fun d st' ⟨i, k1, k2, k3⟩ => ?_
 obtain ⟨⟨ok, y⟩, i2⟩ := i
 cases ok with
 | true => exact .inr ⟨y, k1, k2, k3⟩
 | false => exact .inl ⟨k1, _, _, k2, k3⟩
theorem count_take {l : List Int} {i : Nat} {a k : Int} (h : l[i]? = some a) : (l.take (i + 1)).count k = (l.take i).count k + if a = k then 1 else 0 := by
 rw [List.take_add_one, h, Option.toList_some, List.count_append, List.count_singleton]
 congr 1
 by_cases e : a = k
 · rw [if_pos e, if_pos (by simp [e])]
 · rw [if_neg e, if_neg (by simp [e])]
theorem refReorderF (x : Vr) (s : Stp) (h : RefP x s) (hnd : x.cols.Nodup) (hk : s.kind = 5) (st : St) : TrF Tryz.prog 164 [.agg x.cells, .agg s.cells] st (RefStepR x s st) := by
 refine rawC_rest ?_
 obtain ⟨⟨hl, hp, hcp, hcl, hcs⟩, hq, hty, ho⟩ := h
 have hC := refCopyCF' x hp hcp hl q_o
 have hE := copyC_ex x
 have hR := refRestF s hq.ok q_o ho
 have hF : Hid (Sch.stepV x s = Sch.reorderS x s) := Lib.hid (by unfold Sch.stepV; rw [if_neg (show ¬ s.kind = 1 by omega), if_neg (show ¬ s.kind = 2 by omega), if_neg (show ¬ s.kind = 3 by omega), if_neg (show ¬ s.kind = 4 by omega), if_pos hk])
 have hrv : Sch.restV s = (Sch.bare s.slot false false && (s.col == 0)) := by unfold Sch.restV; rw [if_neg (show ¬ s.kind = 1 by omega), if_neg (show ¬ s.kind = 2 by omega), if_neg (show ¬ s.kind = 3 by omega), if_neg (show ¬ s.kind = 4 by omega)]
 rw [hrv] at hR
 clear hrv
 unfold RawC
 have hC := fun st => hC st
 unfold CopyC at hC hE
 have l2 : (x.cols.map encC).length = x.cols.length := List.length_map ..
 unfold Sch.reorderS at hF
 by_cases hb : Sch.bare s.slot false false = true ∧ s.col = 0
 · obtain ⟨hb1, hb2⟩ := hb
   rw [hb1, hb2] at hR hF
   by_cases hol : s.order.length = x.cols.length
   · have hF2 : Hid (Sch.stepV x s = if ∀ k : Nat, k < x.cols.length → s.order.count (k : Int) = 1 then some ⟨x.slots, Sch.put x.cols s.order⟩ else none) := Lib.hid (by
      rw [hF.out, if_pos ⟨rfl, rfl, hol⟩, Sch.reo_count hnd hol]
      split <;> rfl)
     obtain ⟨y, hy⟩ : ∃ y : Vr, y = ⟨x.slots, Sch.put x.cols s.order⟩ := ⟨_, rfl⟩
     rw [← hy] at hF2
     have hys : Hid (y.slots = x.slots) := Lib.hid (by rw [hy])
     have hyc : Hid (y.cols = Sch.put x.cols s.order) := Lib.hid (by rw [hy])
     have hget := Lib.hid fun (i : Nat) (a : Int) (h : s.order[i]? = some a) => h
     have hrl := colC_len x.cols
     have hdup := Lib.hid hnd
     clear hF hy hcs hq hty hnd
     unfold Vr.cells Stp.cells at *
     generalize Sch.stepV x s = F at *
     cases s with
     | mk kd col slot order =>
     cases slot with
     | mk nm ty rq dv =>
     cases dv with
     | mk k n sv lv =>
     dsimp only at hC hE hR hF2 hk ho hb2 hol hyc hget ⊢
     subst hk
     rw [Sl.cells_mk] at *
     dsimp only [List.cons_append, List.nil_append] at *
     generalize r2e : colC x.cols = R2 at *
     generalize m1e : x.slots.length = m1 at *
     generalize m2e : x.cols.length = m2 at *
     generalize hL1 : x.slots.map Sl.cells = L1 at *
     generalize hL2 : x.cols.map encC = L2 at *
     have r2e : Hid ((x.cols.map encC).flatten = R2) := r2e
     replace m1e := Lib.hid m1e
     replace m2e := Lib.hid m2e
     replace hL1 := Lib.hid hL1
     replace hL2 := Lib.hid hL2
     replace hC := Lib.hid hC
     replace hE := Lib.hid hE
     replace hR := Lib.hid hR
     subst hb2
     replace hb1 := Lib.hid hb1
     refine trF_enterG (G := twoA Tryz.prog (.cell 4 147) (.tmp 5)) Tryz.func164 rfl (by rw [Tryz.ntmps164]; exact Nat.le_of_ble_eq_true rfl) (fun h1 h2 h3 => res_two rfl h1 h2 h3) ?_
     simp only [Tryz.ntmps164]
     repeat' (first | refine QX ?_ | (refine QB ?_; intro b) | (with_reducible refine QZ ?_ <;> (try constructor) <;> intro hb <;> try intro hb1) | ((with_reducible apply (ck_gen Tryz.call195)); (focus exact List.Perm.refl _); (focus exact hC.out _); (focus exact LEL.refl _); (focus exact hE.out _); (rintro d st' ⟨gc, cC, zC, hz2, rfl, rfl⟩; (obtain ⟨b4, rfl⟩ : ∃ q, q = b := ⟨_, rfl⟩))) | fail)
     obtain ⟨b6, rfl⟩ : ∃ q, q = b := ⟨_, rfl⟩
     refine tr_loopd (ι := Nat) (fun j A st' => j ≤ m2 ∧ Hid (∀ j' : Nat, j' < j → order.count (j' : Int) = 1) ∧ A.df = [] ∧ A.e 2 = .ip [.sl .shared L1, .sl .shared L2] ∧ A.e 3 = .ip [.i 5, .i 0, .str nm, .i ty, .b rq, .i k, .i n, .str sv, .sl .shared (lv.map V.cells), .sl .shared (order.map encI)] ∧ A.e 4 = .ptr b4 0 ∧ A.e 6 = .ptr b6 0 ∧ A.e 11 = .i j ∧ st' = .box b6 147 [.sl .shared L1, .ar gc 0 m2 cC] :: .box gc 3 (R2 ++ zC) :: .box b4 147 [.sl .tight [], .sl .tight []] :: st) (fun j => m2 - j) 0 ⟨Nat.zero_le _, fun j h => absurd h (Nat.not_lt_zero _), Qf, Qf, Qf, Qf, Qf, Qf, rfl⟩ ?_
     rintro j A st' ⟨hj, hcn, hdf, e2, e3, e4, e6, e11, rfl⟩
     by_cases hjl : j < m2
     · repeat' (first | refine QX ?_ | (refine QB ?_; intro b) | (with_reducible refine QZ ?_ <;> (try constructor) <;> intro hb <;> try intro hb1) | fail)
       refine tr_loopd (ι := Nat) (fun i A st' => i ≤ m2 ∧ A.df = [] ∧ A.e 2 = .ip [.sl .shared L1, .sl .shared L2] ∧ A.e 3 = .ip [.i 5, .i 0, .str nm, .i ty, .b rq, .i k, .i n, .str sv, .sl .shared (lv.map V.cells), .sl .shared (order.map encI)] ∧ A.e 4 = .ptr b4 0 ∧ A.e 6 = .ptr b6 0 ∧ A.e 11 = .i j ∧ A.e 13 = .i i ∧ (∃ q : Nat, q ≤ i ∧ Hid ((order.take i).count (j : Int) = q) ∧ A.e 12 = .i q) ∧ st' = .box b6 147 [.sl .shared L1, .ar gc 0 m2 cC] :: .box gc 3 (R2 ++ zC) :: .box b4 147 [.sl .tight [], .sl .tight []] :: st) (fun i => m2 - i) 0 ⟨Nat.zero_le _, Qf, Qf, Qf, Qf, Qf, Qf, Qf, ⟨0, Nat.le_refl _, rfl, Qf⟩, rfl⟩ ?_
       clear hdf e2 e3 e4 e6 e11
       rintro i A st' ⟨hi, hdf, e2, e3, e4, e6, e11, e13, ⟨q, hqi, hqc, e12⟩, rfl⟩
       by_cases hil : i < m2
       · obtain ⟨a, ha⟩ := gEx (l := order) (i := i) q_o
         have hct := count_take (k := (j : Int)) ha
         have hac : (order.map encI)[i]? = some [D.i a] := by rw [List.getElem?_map, ha]; rfl
         have hml : (order.map encI).length = order.length := List.length_map ..
         rw [hqc.out] at hct
         by_cases haj : a = (j : Int)
         · rw [if_pos haj] at hct
           replace hct := Lib.hid hct
           clear ha
           generalize order.map encI = OL at *
           repeat' (first | refine QX ?_ | (refine QB ?_; intro b) | (with_reducible refine QZ ?_ <;> (try constructor) <;> intro hb <;> try intro hb1) | fail)
           refine ⟨i + 1, _, List.Sublist.refl _, ⟨hil, ?_, ?_, ?_, ?_, ?_, ?_, ?_, ⟨q + 1, by omega, hct, ?_⟩, rfl⟩, by omega⟩
           all_goals exact Qf
         · rw [if_neg haj, Nat.add_zero] at hct
           replace hct := Lib.hid hct
           clear ha
           generalize order.map encI = OL at *
           repeat' (first | refine QX ?_ | (refine QB ?_; intro b) | (with_reducible refine QZ ?_ <;> (try constructor) <;> intro hb <;> try intro hb1) | fail)
           refine ⟨i + 1, _, List.Sublist.refl _, ⟨hil, ?_, ?_, ?_, ?_, ?_, ?_, ?_, ⟨q, by omega, hct, ?_⟩, rfl⟩, by omega⟩
           all_goals exact Qf
       · have him : i = m2 := by omega
         have hq := hqc.out
         rw [List.take_of_length_le q_o] at hq
         replace hol := Lib.hid hol
         replace him := Lib.hid him
         have hil' : ¬ (i : Int) < order.length := by have := hol.out; have := him.out; omega
         by_cases hq1 : q = 1
         · have hcn2 : Hid (∀ j' : Nat, j' < j + 1 → order.count (j' : Int) = 1) := fun j' h => by
            by_cases e : j' = j
            · subst e; rw [hq, hq1]
            · exact hcn.out j' q_o
           subst hq1
           replace hq := Lib.hid hq
           repeat' (first | refine QX ?_ | (refine QB ?_; intro b) | (with_reducible refine QZ ?_ <;> (try constructor) <;> intro hb <;> try intro hb1) | fail)
           refine ⟨j + 1, _, List.Sublist.refl _, ⟨hjl, hcn2, ?_, ?_, ?_, ?_, ?_, ?_, rfl⟩, by omega⟩
           all_goals exact Qf
         · have hFn : Hid (F = none) := Lib.hid (by rw [hF2.out, if_neg fun h => hq1 (hq.symm.trans (h j hjl))])
           replace hq := Lib.hid hq
           repeat' (first | refine QX ?_ | (refine QB ?_; intro b) | (with_reducible refine QZ ?_ <;> (try constructor) <;> intro hb <;> try intro hb1) | fail)
           all_goals (refine retG_mk (rs := []) q_x q_y (.swap _ _ _) ⟨_, _, rfl, cell_mk q_s q_m q_s q_v, q_w⟩ (((List.Sublist.refl _).cons _).cons _ |>.cons_cons _) (LE.refl _) ⟨((false, x), (gc, cC, zC)), hFn.out, by simp only [m2e.out, hL1.out], by simp only [r2e.out]⟩)
     · have hjm : j = m2 := by omega
       have hFy : Hid (F = some y) := Lib.hid (by rw [hF2.out, if_pos (fun k h => hcn.out k q_o)])
       have hrng : Hid (∀ a ∈ order, 0 ≤ a ∧ a < (m2 : Int)) := Lib.hid (Sch.all_len m2 order hol fun k h => List.count_pos_iff.1 (by rw [hcn.out k q_o]; omega)).2
       obtain ⟨CL, hCL⟩ : ∃ CL : Nat → List Nat, CL = fun i => Sch.put x.cols (order.take i) ++ x.cols.drop i := ⟨_, rfl⟩
       have hc0 : Hid (colC (CL 0) = R2) := Lib.hid (by rw [← r2e.out, hCL]; rfl)
       have hce : Hid (CL m2 = y.cols) := Lib.hid (by
        rw [hCL, hyc.out]
        show Sch.put x.cols (order.take m2) ++ x.cols.drop m2 = _
        rw [List.take_of_length_le q_o, List.drop_of_length_le (by rw [m2e.out]; omega), List.append_nil])
       have hcl1 : Hid (∀ i, i ≤ m2 → (CL i).length = m2) := fun i h => by
        rw [hCL]
        show (Sch.put x.cols (order.take i) ++ x.cols.drop i).length = m2
        rw [List.length_append, List.length_drop, m2e.out, Sch.put, List.length_map, List.length_take]; omega
       have hnx : Hid (∀ (i an : Nat), order[i]? = some (an : Int) → an < m2 → ∃ c, x.cols[an]? = some c ∧ (CL i).set i c = CL (i + 1)) := fun i an h hlt => by
        have hi := (List.getElem?_eq_some_iff.1 h).1
        obtain ⟨c, hc⟩ : ∃ c, x.cols[an]? = some c := ⟨_, List.getElem?_eq_getElem (by rw [m2e.out]; exact hlt)⟩
        refine ⟨c, hc, ?_⟩
        have him : i < x.cols.length := by rw [m2e.out]; omega
        have hpl : (Sch.put x.cols (order.take i)).length = i := by rw [Sch.put, List.length_map, List.length_take]; omega
        rw [hCL]
        show (Sch.put x.cols (order.take i) ++ x.cols.drop i).set i c = Sch.put x.cols (order.take (i + 1)) ++ x.cols.drop (i + 1)
        rw [List.set_append_right i c q_o, hpl, Nat.sub_self, List.drop_eq_getElem_cons him, List.set_cons_zero]
        rw [show Sch.put x.cols (order.take (i + 1)) = Sch.put x.cols (order.take i) ++ [c] by
         rw [List.take_add_one, h, Option.toList_some, Sch.put, List.map_append]
         show _ ++ [x.cols.getD ((an : Int)).toNat 0] = _
         rw [Int.toNat_natCast, List.getD_eq_getElem?_getD, hc]; rfl]
        rw [List.append_assoc]; rfl
       have hL2g : Hid (∀ (an c : Nat), x.cols[an]? = some c → L2[an]? = some [D.i c]) := fun an c h => by rw [← hL2.out, List.getElem?_map, h]; rfl
       have hrow : Hid (∀ (i c : Nat), i < m2 → List.take i (colC (CL i) ++ zC) ++ [D.i c] ++ List.drop (i + 1) (colC (CL i) ++ zC) = colC ((CL i).set i c) ++ zC) := fun i c h => by
        obtain ⟨w, hw⟩ : ∃ w, (CL i)[i]? = some w := ⟨_, List.getElem?_eq_getElem (by rw [hcl1.out i q_o]; exact h)⟩
        have h2 := row_splice (sz := 1) (o := 0) (e := [D.i w]) (ds := [D.i c]) zC ((CL i).map encC) i (cols_each _) (by rw [List.getElem?_map, hw]; rfl) (by simp)
        rw [Nat.mul_one, Nat.add_zero] at h2
        have h3 : ((CL i).map encC).set i (splice [D.i w] 0 [D.i c]) = ((CL i).set i c).map encC := by rw [List.map_set]; rfl
        rw [h3] at h2
        exact h2
       have hrl2 : Hid (∀ i, i ≤ m2 → (colC (CL i) ++ zC).length = cC * 1) := fun i h => by
        have h2 := hz2
        rw [List.length_append] at h2
        rw [List.length_append, colC_len, hcl1.out i h]
        omega
       have hcCm : m2 ≤ cC := by
        have h2 := hz2
        rw [List.length_append] at h2
        omega
       replace hjm := Lib.hid hjm
       clear hcn hF2 hCL
       repeat' (first | refine QX ?_ | (refine QB ?_; intro b) | (with_reducible refine QZ ?_ <;> (try constructor) <;> intro hb <;> try intro hb1) | fail)
       refine tr_loopd (ι := Nat) (fun i A st' => i ≤ m2 ∧ A.df = [] ∧ A.e 2 = .ip [.sl .shared L1, .sl .shared L2] ∧ A.e 3 = .ip [.i 5, .i 0, .str nm, .i ty, .b rq, .i k, .i n, .str sv, .sl .shared (lv.map V.cells), .sl .shared (order.map encI)] ∧ A.e 4 = .ptr b4 0 ∧ A.e 6 = .ptr b6 0 ∧ A.e 14 = .i i ∧ st' = .box b6 147 [.sl .shared L1, .ar gc 0 m2 cC] :: .box gc 3 (colC (CL i) ++ zC) :: .box b4 147 [.sl .tight [], .sl .tight []] :: st) (fun i => m2 - i) 0 ⟨Nat.zero_le _, Qf, Qf, Qf, Qf, Qf, Qf, by rw [hc0.out]⟩ ?_
       clear hdf e2 e3 e4 e6 e11
       rintro i A st' ⟨hi, hdf, e2, e3, e4, e6, e14, rfl⟩
       have hzl := hrl2.out i hi
       by_cases hil : i < m2
       · obtain ⟨a, ha⟩ := gEx (l := order) (i := i) q_o
         obtain ⟨ha1, ha2⟩ := hrng.out a (List.mem_of_getElem? ha)
         obtain ⟨an, rfl⟩ := Int.eq_ofNat_of_zero_le ha1
         obtain ⟨c, hc1, hc2⟩ := hnx.out i an ha q_o
         have hg := hL2g.out an c hc1
         have hac : (order.map encI)[i]? = some [D.i an] := by rw [List.getElem?_map, ha]; rfl
         have hml : (order.map encI).length = order.length := List.length_map ..
         have hsp := hrow.out i c hil
         rw [hc2] at hsp
         have hanl : an < m2 := by omega
         clear hc1 hc2 ha
         generalize hQ1 : colC (CL i) = QA1 at *
         generalize hQ2 : colC (CL (i + 1)) = QA2 at *
         generalize order.map encI = OL at *
         replace hQ1 := Lib.hid hQ1
         have hQ2 := Lib.hid hQ2
         repeat' (first | refine QV ?_ | ((with_reducible apply (w_drawN [(b6, [.sl .shared L1, .ar gc 0 m2 cC])])); (iterate 3 (focus kernel_rfl)); (focus exact q_k); intro hne; simp only [nes, ne1, and_assoc] at hne; repeat (have hq := hne.1; replace hne := hne.2)) | ((with_reducible refine And.intro ?_ ?_); (focus exact q_k)) | refine QY ?_ | (refine QB ?_; intro b) | (with_reducible refine QZ ?_ <;> (try constructor) <;> intro hb <;> try intro hb1) | fail)
         refine ⟨i + 1, .box b6 147 [.sl .shared L1, .ar gc 0 m2 cC] :: .box gc 3 (QA2 ++ zC) :: .box b4 147 [.sl .tight [], .sl .tight []] :: st, List.Sublist.refl _, ⟨hil, ?_, ?_, ?_, ?_, ?_, ?_, by rw [hQ2.out]⟩, by omega⟩
         all_goals exact Qf
       · have him : i = m2 := by omega
         subst him
         generalize hQ1 : colC (CL i) = QA1 at *
         have hQ1 := Lib.hid hQ1
         repeat' (first | refine QX ?_ | (refine QB ?_; intro b) | (with_reducible refine QZ ?_ <;> (try constructor) <;> intro hb <;> try intro hb1) | fail)
         all_goals (refine retG_mk (rs := []) q_x q_y (.swap _ _ _) ⟨_, _, rfl, cell_mk q_s q_m q_s q_v, q_w⟩ (((List.Sublist.refl _).cons _).cons _ |>.cons_cons _) (LE.refl _) ⟨((true, y), (gc, cC, zC)), hFy.out, by simp only [hys.out, hL1.out, ← hce.out, hcl1.out _ (Nat.le_refl _)], by rw [← hce.out, ← hQ1.out]; rfl⟩)
   · have hFn : Hid (Sch.stepV x s = none) := Lib.hid (by
      rw [hF.out, if_neg]
      rintro ⟨-, -, h⟩
      exact hol h)
     clear hF hcs hq hty hnd
     unfold Vr.cells Stp.cells at *
     generalize Sch.stepV x s = F at *
     cases s with
     | mk kd col slot order =>
     cases slot with
     | mk nm ty rq dv =>
     cases dv with
     | mk k n sv lv =>
     dsimp only at hC hE hR hk ho hb2 hol ⊢
     subst hk
     rw [Sl.cells_mk] at *
     dsimp only [List.cons_append, List.nil_append] at *
     generalize r2e : colC x.cols = R2 at *
     generalize m1e : x.slots.length = m1 at *
     generalize m2e : x.cols.length = m2 at *
     generalize hL1 : x.slots.map Sl.cells = L1 at *
     generalize hL2 : x.cols.map encC = L2 at *
     have r2e : Hid ((x.cols.map encC).flatten = R2) := r2e
     replace m1e := Lib.hid m1e
     replace m2e := Lib.hid m2e
     replace hL1 := Lib.hid hL1
     replace hL2 := Lib.hid hL2
     replace hC := Lib.hid hC
     replace hE := Lib.hid hE
     replace hR := Lib.hid hR
     subst hb2
     replace hb1 := Lib.hid hb1
     have hol' : ¬ (order.length : Int) = (m2 : Int) := by omega
     clear hol
     refine trF_enterG (G := twoA Tryz.prog (.cell 4 147) (.tmp 5)) Tryz.func164 rfl (by rw [Tryz.ntmps164]; exact Nat.le_of_ble_eq_true rfl) (fun h1 h2 h3 => res_two rfl h1 h2 h3) ?_
     simp only [Tryz.ntmps164]
     repeat' (first | refine QX ?_ | (refine QB ?_; intro b) | (with_reducible refine QZ ?_ <;> (try constructor) <;> intro hb <;> try intro hb1) | ((with_reducible apply (ck_gen Tryz.call195)); (focus exact List.Perm.refl _); (focus exact hC.out _); (focus exact LEL.refl _); (focus exact hE.out _); (rintro d st' ⟨gc, cC, zC, hz2, rfl, rfl⟩; (obtain ⟨b4, rfl⟩ : ∃ q, q = b := ⟨_, rfl⟩))) | fail)
     all_goals (refine retG_mk (rs := []) q_x q_y (.swap _ _ _) ⟨_, _, rfl, cell_mk q_s q_m q_s q_v, q_w⟩ (((List.Sublist.refl _).cons _).cons _ |>.cons_cons _) (LE.refl _) ⟨((false, x), (gc, cC, zC)), hFn.out, by simp only [m2e.out, hL1.out], by simp only [r2e.out]⟩)
 · have hrr : (Sch.bare s.slot false false && (s.col == 0)) = false := by
    cases h1 : Sch.bare s.slot false false with
    | false => rfl
    | true => rw [Bool.true_and, beq_eq_false_iff_ne]; exact fun h2 => hb ⟨h1, h2⟩
   rw [hrr] at hR
   have hFn : Hid (Sch.stepV x s = none) := Lib.hid (by
    rw [hF.out, if_neg]
    rintro ⟨h1, h2, -⟩
    exact hb ⟨h2, h1⟩)
   clear hF hcs hb hrr hq hty hnd
   unfold Vr.cells Stp.cells at *
   generalize Sch.stepV x s = F at *
   cases s with
   | mk kd col slot order =>
   cases slot with
   | mk nm ty rq dv =>
   cases dv with
   | mk k n sv lv =>
   dsimp only at hC hE hR hk ho ⊢
   subst hk
   rw [Sl.cells_mk] at *
   dsimp only [List.cons_append, List.nil_append] at *
   generalize r2e : colC x.cols = R2 at *
   generalize m1e : x.slots.length = m1 at *
   generalize m2e : x.cols.length = m2 at *
   generalize hL1 : x.slots.map Sl.cells = L1 at *
   generalize hL2 : x.cols.map encC = L2 at *
   have r2e : Hid ((x.cols.map encC).flatten = R2) := r2e
   replace m1e := Lib.hid m1e
   replace m2e := Lib.hid m2e
   replace hL1 := Lib.hid hL1
   replace hL2 := Lib.hid hL2
   replace hC := Lib.hid hC
   replace hE := Lib.hid hE
   replace hR := Lib.hid hR
   refine trF_enterG (G := twoA Tryz.prog (.cell 4 147) (.tmp 5)) Tryz.func164 rfl (by rw [Tryz.ntmps164]; exact Nat.le_of_ble_eq_true rfl) (fun h1 h2 h3 => res_two rfl h1 h2 h3) ?_
   simp only [Tryz.ntmps164]
   repeat' (first | refine QX ?_ | (refine QB ?_; intro b) | (with_reducible refine QZ ?_ <;> (try constructor) <;> intro hb <;> try intro hb1) | ((with_reducible apply (ck_gen Tryz.call195)); (focus exact List.Perm.refl _); (focus exact hC.out _); (focus exact LEL.refl _); (focus exact hE.out _); (rintro d st' ⟨gc, cC, zC, hz2, rfl, rfl⟩; (obtain ⟨b4, rfl⟩ : ∃ q, q = b := ⟨_, rfl⟩))) | fail)
   all_goals (refine retG_mk (rs := []) q_x q_y (.swap _ _ _) ⟨_, _, rfl, cell_mk q_s q_m q_s q_v, q_w⟩ (((List.Sublist.refl _).cons _).cons _ |>.cons_cons _) (LE.refl _) ⟨((false, x), (gc, cC, zC)), hFn.out, by simp only [m2e.out, hL1.out], by simp only [r2e.out]⟩)
theorem refOutF (x : Vr) (s : Stp) (h : RefP x s) (hk : s.kind < 1 ∨ 5 < s.kind) (st : St) : TrF Tryz.prog 164 [.agg x.cells, .agg s.cells] st (RefStepR x s st) := by
 obtain ⟨⟨hl, hp, hcp, hcl, hcs⟩, hq, hty, ho⟩ := h
 have hC := refCopyAF x hp hcp hl q_o
 have hFn : Hid (Sch.stepV x s = none) := Lib.hid (by unfold Sch.stepV; rw [if_neg (show ¬ s.kind = 1 by omega), if_neg (show ¬ s.kind = 2 by omega), if_neg (show ¬ s.kind = 3 by omega), if_neg (show ¬ s.kind = 4 by omega), if_neg (show ¬ s.kind = 5 by omega)])
 unfold RefStepR
 unfold Vr.cells Stp.cells at *
 generalize Sch.stepV x s = F at *
 have hk' : s.kind < 1 ∨ (1 ≤ s.kind ∧ 5 < s.kind) := by omega
 clear hk hq hty hcs
 cases s with
 | mk kd col slot order =>
 cases slot with
 | mk nm ty rq dv =>
 cases dv with
 | mk k n sv lv =>
 dsimp only at hC hk' ho ⊢
 rw [Sl.cells_mk] at *
 dsimp only [List.cons_append, List.nil_append] at *
 generalize x.slots.map Sl.cells = L1 at *
 generalize x.cols.map encC = L2 at *
 replace hC := Lib.hid hC
 rcases hk' with h1 | ⟨h1, h2⟩
 all_goals skip
 all_goals (
  refine trF_enterG (G := twoA Tryz.prog (.cell 4 147) (.tmp 5)) Tryz.func164 rfl (by rw [Tryz.ntmps164]; exact Nat.le_of_ble_eq_true rfl) (fun h1 h2 h3 => res_two rfl h1 h2 h3) ?_
  simp only [Tryz.ntmps164]
  repeat' (first | refine QX ?_ | (refine QB ?_; intro b) | (with_reducible refine QZ ?_ <;> (try constructor) <;> intro hb <;> try intro hb1) | fail)
  all_goals (refine retG_mk (rs := []) q_x q_y (List.Perm.refl _) ⟨_, _, rfl, cell_mk q_s q_m q_s q_v, q_w⟩ q_t (LE.refl _) (.inl ⟨hFn.out, _, _, rfl, rfl⟩)))
theorem refStepF (x : Vr) (s : Stp) (h : RefP x s) (hnd : x.cols.Nodup) (hxt : ∀ z ∈ x.slots, Sch.takes z.types = true) (st : St) : TrF Tryz.prog 164 [.agg x.cells, .agg s.cells] st (RefStepR x s st) := by
 by_cases h1 : s.kind = 1
 · exact refAddF x s h h1 st
 by_cases h2 : s.kind = 2
 · exact refLoseF x s h h2 st
 by_cases h3 : s.kind = 3
 · exact refRenameF x s h h3 st
 by_cases h4 : s.kind = 4
 · exact refWidenF x s h hxt h4 st
 by_cases h5 : s.kind = 5
 · exact refReorderF x s h hnd h5 st
 exact refOutF x s h q_o st
namespace Sch
theorem step_nd {x y : Vr} {s : Stp} (hb : ∀ c ∈ x.cols, c < x.slots.length) (hx : x.cols.Nodup) (h : stepV x s = some y) : y.cols.Nodup := by
 unfold stepV at h
 split at h
 · unfold addS at h
   split at h
   · cases h
     show (x.cols ++ [x.slots.length]).Nodup
     rw [List.nodup_append]
     refine ⟨hx, by simp, fun a ha b hb' e => ?_⟩
     rw [List.mem_singleton] at hb'
     subst hb' e
     have := hb _ ha
     omega
   · cases h
 · split at h
   · unfold loseS at h
     split at h
     · cases h; exact hx.eraseIdx _
     · cases h
   · split at h
     · unfold renameS at h
       split at h
       · cases h; exact hx
       · cases h
     · split at h
       · unfold widenS at h
         split at h
         · cases h; exact hx
         · cases h
       · split at h
         · unfold reorderS at h
           split at h
           · rename_i hc
             have hl : s.order.length = x.cols.length := hc.2.2
             rw [reo_count hx hl] at h
             split at h
             · rename_i hq
               cases h
               obtain ⟨h1, h2⟩ := all_len x.cols.length s.order hl fun k hk => List.count_pos_iff.1 (by rw [hq k hk]; omega)
               show (put x.cols s.order).Nodup
               unfold put
               rw [List.nodup_iff_pairwise_ne, List.pairwise_map]
               refine List.Pairwise.imp_of_mem (fun {a b} ha hb hab e => ?_) h1
               exact hab (getD_inj hx (h2 a ha) (h2 b hb) e)
             · cases h
           · cases h
         · cases h
structure VZ (n : Nat) (x : Vr) : Prop where
 vi : VI n x
 nd : x.cols.Nodup
 sl : ∀ z ∈ x.slots, SOk z
theorem firstL_nd : ∀ (l : List Sl) (x y : Vr), (∀ c ∈ x.cols, c < x.slots.length) → x.cols.Nodup → (∀ z ∈ x.slots, SOk z) → firstL l x = some y → y.cols.Nodup ∧ ∀ z ∈ y.slots, SOk z
 | [], x, y, _, h2, h3, h => by cases h; exact ⟨h2, h3⟩
 | s :: l, x, y, h1, h2, h3, h => by
  rw [firstL] at h
  split at h
  · rename_i hc
    refine firstL_nd l _ y (fun c hc => ?_) ?_ (fun z hz => ?_) h
    · rcases List.mem_append.1 hc with h | h
      · have := h1 c h; simp; omega
      · rw [List.mem_singleton] at h
        subst h; simp
    · show (x.cols ++ [x.slots.length]).Nodup
      rw [List.nodup_append]
      refine ⟨h2, by simp, fun a ha b hb' e => ?_⟩
      rw [List.mem_singleton] at hb'
      subst hb' e
      have := h1 _ ha
      omega
    · rcases List.mem_append.1 hz with h | h
      · exact h3 z h
      · rw [List.mem_singleton] at h
        subst h; exact sound_ok hc.1
  · cases h
theorem first_vz {t : Tm} {x : Vr} (h : firstV t = some x) : VZ 8 x := by
 have hv := (first_vi h).1
 unfold firstV at h
 split at h
 · obtain ⟨h1, h2⟩ := firstL_nd _ _ _ (fun c h => by cases h) List.nodup_nil (fun z h => by cases h) h
   exact ⟨hv, h1, h2⟩
 · cases h
theorem step_vz {n : Nat} {x y : Vr} {s : Stp} (hx : VZ n x) (h : stepV x s = some y) : VZ (n + 1) y :=
 ⟨step_vi hx.vi h, step_nd hx.vi.cs hx.nd h, (step_grow hx.sl h).2⟩
end Sch
end
end Go.Proofs.YtgcienlfpnpbgaaGreat
