/- Texts put together: SchN, CastL, RegL, RegM, SchP, SchGr, RegN, AmFrz, RefA, RefB, RefC, RefD, RefE, ReoL, RefF, RefG, RefH, RefInts, RegP, BinRef, BinRef2, RegS. No statement is proved here. -/
import Derived.Test.YtgcienlfpnpbgaaGreatProg
import Derived.Deep.QuietTactic
import Derived.BigQuiet
import Derived.Test.YtgcienlfpnpbgaaGreatZ5
set_option linter.all false
section
namespace Go.Proofs.YtgcienlfpnpbgaaGreat
set_option linter.unusedSimpArgs false
attribute [local push_cast] encB encI encC V.cells_mk V.cells_len Nat.mul_one Int.sub_zero List.map_nil beq_self_eq_true List.head?_cons
open Go.RowKit
set_option maxRecDepth 10000
set_option maxHeartbeats 4000000
def Sch.has (t k : Nat) : Bool := t / 2 ^ k % 2 == 1
theorem refHasF (tn k : Nat) (hk : k ≤ 1000) (ht : tn ≤ 9223372036854775807) (st : St) : TrF Tryz.prog 197 [.i tn, .i k] st fun d st' => d = .b (Sch.has tn k) ∧ st' = st := by
  unfold Sch.has
  refine Qin [4] Tryz.func197 Tryz.results197 Tryz.ntmps197 ?_
  repeat' (with_reducible first | refine Q1 ?_ | refine Qe ?_ | refine Ql ?_ | refine Q2 ?_ | refine Qs ?_ | refine Q4 ?_ | (refine al_go ?_; intro b) | refine Q5 ?_ | (refine Q3a ?_; intro hb; try intro hb1) | (refine Q3b ?_; intro hb; try intro hb1) | (refine Q3 ?_ ?_ <;> intro hb <;> try intro hb1) | fail)
  refine tr_loop (ι := Nat) (fun i A st' => i ≤ k ∧ A.df = [] ∧ A.e 1 = .i k ∧ A.e 5 = .i i ∧ st = st' ∧ ∃ m : Nat, m ≤ tn ∧ Hid (tn / 2 ^ i = m) ∧ A.e 0 = .i m) (fun i => k - i) 0 ⟨Nat.zero_le _, Qf, Qf, Qf, rfl, tn, Nat.le_refl _, Nat.div_one _, Qf⟩ ?_
  rintro i A st' ⟨hi, hdf, e1, e5, rfl, m, hm, HT, e0⟩
  by_cases hlt : i < k
  · obtain ⟨m2, hm2⟩ : ∃ m2, m / 2 = m2 := ⟨_, rfl⟩
    have hq : (m : Int).tdiv 2 = (m2 : Int) := by rw [← hm2]; rfl
    have hml : m2 ≤ tn := by omega
    have HN : Hid (tn / 2 ^ (i + 1) = m2) := Lib.hid (by rw [Nat.pow_succ, ← Nat.div_div_eq_div_mul, HT.out, hm2])
    clear HT hm2
    repeat' (with_reducible first | refine Q1 ?_ | refine Qe ?_ | refine Ql ?_ | refine Q2 ?_ | refine Qs ?_ | refine Q4 ?_ | (refine al_go ?_; intro b) | refine Q5 ?_ | (refine Q3a ?_; intro hb; try intro hb1) | (refine Q3b ?_; intro hb; try intro hb1) | (refine Q3 ?_ ?_ <;> intro hb <;> try intro hb1) | fail)
    refine ⟨i + 1, ⟨hlt, ?_, ?_, ?_, rfl, m2, hml, HN, ?_⟩, ?_⟩
    all_goals exact Qf
  · have hik : i = k := by omega
    subst hik
    have hr : (m : Int).tmod 2 = ((m % 2 : Nat) : Int) := rfl
    rw [HT.out]
    obtain ⟨m2, hm2⟩ : ∃ m2, m % 2 = m2 := ⟨_, rfl⟩
    rw [hm2] at hr ⊢
    clear HT
    replace hm2 := Lib.hid hm2
    repeat' (with_reducible first | refine Q1 ?_ | refine Qe ?_ | refine Ql ?_ | refine Q2 ?_ | refine Qs ?_ | refine Q4 ?_ | (refine al_go ?_; intro b) | refine Q5 ?_ | (refine Q3a ?_; intro hb; try intro hb1) | (refine Q3b ?_; intro hb; try intro hb1) | (refine Q3 ?_ ?_ <;> intro hb <;> try intro hb1) | fail)
    all_goals (refine Qret (hd := ?_); (try simp (disch := omega) only [push_cast, simprocAttr, *]); try (first | exact LE.refl _ | exact LE.sl _ _ | ((first | refine LE.tup ?_ | refine LE.agg ?_); (repeat' (first | exact LEL.nil | refine LEL.cons ?_ ?_ | exact LE.refl _ | exact LE.sl _ _ | refine LE.agg ?_)); done) | refine LE.of_eq ?_))
    all_goals (refine congrArg D.b ?_; rw [Bool.eq_iff_iff, beq_iff_eq, beq_iff_eq]; omega)
theorem i64_and1 (a : Nat) (ha : a ≤ 9223372036854775807) : bits .and .i64 (a : Int) 1 = ((a % 2 : Nat) : Int) := by
  have h1 : a &&& 1 = a % 2 := Nat.and_one_is_mod a
  show IntKind.i64.wrap ((BitVec.ofInt 64 (a : Int) &&& BitVec.ofInt 64 ((1 : Nat) : Int)).toNat : Int) = _
  rw [BitVec.toNat_and, ofInt_i64 a (by omega), ofInt_i64 1 (by omega), h1]
  exact IntWalk.i64_in _ (by omega)
theorem Sch.bit_has (t k : Nat) (ht : t ≤ 9223372036854775807) : Sch.bit t k = Sch.has t k := by
  unfold Sch.bit Sch.has
  have : ((t : Int) / 2 ^ ((k : Int).toNat)) = ((t / 2 ^ k : Nat) : Int) := by
    rw [Int.toNat_natCast]; simp
  rw [this, i64_and1 _ (Nat.le_trans (Nat.div_le_self _ _) ht)]
  rw [Bool.eq_iff_iff, beq_iff_eq, beq_iff_eq]; omega
theorem V.right_kind {k n : Int} {s : ByteArray} {l : List V} (h : (V.mk k n s l).right = true) : 0 ≤ k ∧ k ≤ 5 := by
  have := (V.right_iff.1 h).1
  rw [V.parts, Bool.and_eq_true, Bool.and_eq_true] at this
  have := this.1.1
  unfold V.sgl at this
  repeat' split at this
  all_goals (first | omega | exact absurd this (by decide))
theorem refFits10F (s : Sl) (v : V) (hok : v.Ok) (hn : v.nodes ≤ 1000) (hd : v.deep ≤ 1000) (ht : 0 ≤ s.types ∧ s.types ≤ 9223372036854775807) (st : St) : TrF Tryz.prog 190 [.agg s.cells, .agg v.cells] st fun x st' => x = .b (Sch.fits s v) ∧ st' = st := by
  have hR := refRightF v hok hn hd
  unfold Sch.fits
  obtain ⟨tn, htn⟩ := Int.eq_ofNat_of_zero_le ht.1
  rw [htn] at ht ⊢
  cases s with
  | mk nm ty rq dv =>
  dsimp only at htn
  subst htn
  cases hr : v.right with
  | false =>
    rw [hr] at hR
    cases v with
    | mk k n s l =>
    cases dv with
    | mk dk dn ds dl =>
    rw [V.cells_mk] at hR
    rw [Sl.cells_mk, V.cells_mk]
    replace hR := Lib.hid hR
    refine Qin [4] Tryz.func190 Tryz.results190 Tryz.ntmps190 ?_
    repeat' (first | (with_reducible first | refine Q1 ?_ | refine Qe ?_ | refine Ql ?_ | refine Q2 ?_ | refine Qs ?_ | refine Q4 ?_ | (refine al_go ?_; intro b) | fail) | refine Qc Tryz.call156 (hR.out _) ?_ | (with_reducible first | refine Q5 ?_ | (refine Q3a ?_; intro hb; try intro hb1) | (refine Q3b ?_; intro hb; try intro hb1) | (refine Q3 ?_ ?_ <;> intro hb <;> try intro hb1) | fail) | fail)
    all_goals exact Qret
  | true =>
    rw [hr] at hR
    cases v with
    | mk k n s l =>
    cases dv with
    | mk dk dn ds dl =>
    obtain ⟨hk1, hk2⟩ := V.right_kind hr
    obtain ⟨kn, rfl⟩ := Int.eq_ofNat_of_zero_le hk1
    have hH := refHasF tn kn (by omega) (by omega)
    dsimp only
    rw [Sch.bit_has tn kn (by omega)]
    rw [V.cells_mk] at hR
    rw [Sl.cells_mk, V.cells_mk]
    generalize Sch.has tn kn = q at *
    replace hR := Lib.hid hR
    replace hH := Lib.hid hH
    clear hr
    refine Qin [4] Tryz.func190 Tryz.results190 Tryz.ntmps190 ?_
    repeat' (first | (with_reducible first | refine Q1 ?_ | refine Qe ?_ | refine Ql ?_ | refine Q2 ?_ | refine Qs ?_ | refine Q4 ?_ | (refine al_go ?_; intro b) | fail) | refine Qc Tryz.call156 (hR.out _) ?_ | refine Qc Tryz.call197 (hH.out _) ?_ | (with_reducible first | refine Q5 ?_ | (refine Q3a ?_; intro hb; try intro hb1) | (refine Q3b ?_; intro hb; try intro hb1) | (refine Q3 ?_ ?_ <;> intro hb <;> try intro hb1) | fail) | fail)
    all_goals exact Qret
end Go.Proofs.YtgcienlfpnpbgaaGreat
end

section
namespace Go.Proofs.YtgcienlfpnpbgaaGreat
set_option linter.unusedSimpArgs false
open Go.RowKit
structure Rc where
  v : Int
  s : List V
def Rc.cells (r : Rc) : List D := [.i r.v, .sl .shared (r.s.map V.cells)]
namespace Sch
structure Grow (a b : List Sl) : Prop where
  len : a.length ≤ b.length
  old : ∀ (i : Nat) (s : Sl), a[i]? = some s → ∃ s', b[i]? = some s' ∧ s'.dv = s.dv ∧ ∀ v, fits s v = true → fits s' v = true
theorem Grow.refl (a : List Sl) : Grow a a := ⟨Nat.le_refl _, fun _ s h => ⟨s, h, rfl, fun _ h => h⟩⟩
theorem Grow.trans {a b c : List Sl} (h : Grow a b) (k : Grow b c) : Grow a c := by
  refine ⟨Nat.le_trans h.len k.len, fun i s hs => ?_⟩
  obtain ⟨s1, h1, h2, h3⟩ := h.old i s hs
  obtain ⟨s2, k1, k2, k3⟩ := k.old i s1 h1
  exact ⟨s2, k1, k2.trans h2, fun v hv => k3 v (h3 v hv)⟩
structure SOk (s : Sl) : Prop where
  name : V.isName s.name.data.toList = true
  types : takes s.types = true
  def_ : fits s s.dv = true
theorem sound_ok {s : Sl} (h : sound s = true) : SOk s := by
  unfold sound at h
  rw [Bool.and_eq_true, Bool.and_eq_true] at h
  exact ⟨h.1.1, h.1.2, h.2⟩
theorem takes_iff {t : Int} : takes t = true ↔ 1 ≤ t ∧ t ≤ 63 := by
  unfold takes
  rw [Bool.and_eq_true, decide_eq_true_eq, decide_eq_true_eq]
theorem or_has (a b k : Nat) : has (a ||| b) k = (has a k || has b k) := by
  unfold has
  have h := Nat.testBit_or a b k
  simp only [Nat.testBit, Nat.shiftRight_eq_div_pow, Nat.one_and_eq_mod_two] at h
  rw [Bool.eq_iff_iff] at h ⊢
  simp only [bne_iff_ne, ne_eq, Bool.or_eq_true, beq_iff_eq] at h ⊢
  omega
theorem widen_nat {a b : Int} (ha : takes a = true) (hb : takes b = true) : ∃ (m n : Nat), a = m ∧ b = n ∧ m < 64 ∧ n < 64 ∧ bits .or .i64 a b = ((m ||| n : Nat) : Int) ∧ m ||| n < 64 := by
  rw [takes_iff] at ha hb
  obtain ⟨m, rfl⟩ := Int.eq_ofNat_of_zero_le (show 0 ≤ a by omega)
  obtain ⟨n, rfl⟩ := Int.eq_ofNat_of_zero_le (show 0 ≤ b by omega)
  have h := Nat.or_lt_two_pow (x := m) (y := n) (n := 6) (by omega) (by omega)
  exact ⟨m, n, rfl, rfl, by omega, by omega, i64_or_nat m n (by omega) (by omega), by omega⟩
theorem fits_types {s s' : Sl} {v : V} (h : ∀ k n sv l, v = .mk k n sv l → bit s.types k = true → bit s'.types k = true) (hv : fits s v = true) : fits s' v = true := by
  unfold fits at hv ⊢
  rw [Bool.and_eq_true] at hv ⊢
  cases v with
  | mk k n sv l => exact ⟨hv.1, h k n sv l rfl hv.2⟩
theorem step_grow {x y : Vr} {s : Stp} (hx : ∀ z ∈ x.slots, SOk z) (h : stepV x s = some y) : Grow x.slots y.slots ∧ ∀ z ∈ y.slots, SOk z := by
  unfold stepV at h
  split at h
  · unfold addS at h
    split at h
    · rename_i hc
      cases h
      refine ⟨⟨by simp, fun i z hz => ⟨z, ?_, rfl, fun _ h => h⟩⟩, fun z hz => ?_⟩
      · have := (List.getElem?_eq_some_iff.1 hz).1
        show (x.slots ++ [s.slot])[i]? = _
        rw [List.getElem?_append_left this]; exact hz
      · rcases List.mem_append.1 hz with h | h
        · exact hx z h
        · rw [List.mem_singleton] at h
          subst h; exact sound_ok hc.2.2.2.1
    · cases h
  · split at h
    · unfold loseS at h
      split at h
      · cases h; exact ⟨Grow.refl _, hx⟩
      · cases h
    · split at h
      · unfold renameS at h
        split at h
        · rename_i hc
          cases h
          refine ⟨⟨by simp, fun i z hz => ⟨_, modify_get hz, ?_, fun v hv => ?_⟩⟩, fun z hz => ?_⟩
          · split <;> rfl
          · split
            · exact hv
            · exact hv
          · obtain ⟨j, hj⟩ := List.getElem?_of_mem hz
            cases hlj : x.slots[j]? with
            | none => rw [List.getElem?_modify, hlj] at hj; simp at hj
            | some w =>
              rw [modify_get hlj] at hj
              have hw := hx w (List.mem_of_getElem? hlj)
              cases hj
              split
              · exact ⟨hc.2.2.1, hw.types, hw.def_⟩
              · exact hw
        · cases h
      · split at h
        · unfold widenS at h
          split at h
          · rename_i hc
            cases h
            have hbit : ∀ w : Sl, SOk w → ∀ v, fits w v = true → fits { w with types := bits .or .i64 w.types s.slot.types } v = true := fun w hw v hv => by
              obtain ⟨m, n, e1, e2, l1, l2, e3, l3⟩ := widen_nat hw.types hc.2.2.1
              refine fits_types (fun k nn sv l hve hb => ?_) hv
              subst hve
              have hr : (V.mk k nn sv l).right = true := by
                unfold fits at hv
                rw [Bool.and_eq_true] at hv
                exact hv.1
              obtain ⟨k1, k2⟩ := V.right_kind hr
              obtain ⟨kn, rfl⟩ := Int.eq_ofNat_of_zero_le k1
              show bit (bits .or .i64 w.types s.slot.types) kn = true
              rw [e3, bit_has _ _ (by omega), or_has]
              rw [e1, bit_has _ _ (by omega)] at hb
              rw [hb, Bool.true_or]
            refine ⟨⟨by simp, fun i z hz => ⟨_, modify_get hz, ?_, fun v hv => ?_⟩⟩, fun z hz => ?_⟩
            · split <;> rfl
            · split
              · exact hbit z (hx z (List.mem_of_getElem? hz)) v hv
              · exact hv
            · obtain ⟨j, hj⟩ := List.getElem?_of_mem hz
              cases hlj : x.slots[j]? with
              | none => rw [List.getElem?_modify, hlj] at hj; simp at hj
              | some w =>
                rw [modify_get hlj] at hj
                have hw := hx w (List.mem_of_getElem? hlj)
                cases hj
                split
                · refine ⟨hw.name, ?_, hbit w hw _ hw.def_⟩
                  obtain ⟨m, n, e1, e2, l1, l2, e3, l3⟩ := widen_nat hw.types hc.2.2.1
                  show takes (bits .or .i64 w.types s.slot.types) = true
                  rw [e3, takes_iff]
                  have hm : 1 ≤ m := by have := (takes_iff.1 hw.types).1; omega
                  have : m ≤ m ||| n := Nat.left_le_or
                  omega
                · exact hw
          · cases h
        · split at h
          · unfold reorderS at h
            split at h
            · cases hr : reo x.cols s.order [] with
              | none => rw [hr] at h; cases h
              | some r => rw [hr] at h; cases h; exact ⟨Grow.refl _, hx⟩
            · cases h
          · cases h
end Sch
end Go.Proofs.YtgcienlfpnpbgaaGreat
end

section
namespace Go.Proofs.YtgcienlfpnpbgaaGreat
set_option linter.unusedSimpArgs false
open Go.RowKit B
set_option maxHeartbeats 4000000
namespace Reg
theorem byte_put (o : Own) (n : Int) (h : 0 ≤ n ∧ n ≤ 255) (l : List UInt8) : RS.byte ⟨o, byteB n ++ l, false⟩ = (n, (⟨.shared, l, false⟩ : RS)) := by
  have e : byteB n = [UInt8.ofNat n.toNat] := if_pos h
  rw [e, List.singleton_append, RS.byte_cons]
  have : ((UInt8.ofNat n.toNat).toNat : Int) = n := by
    rw [UInt8.toNat_ofNat']; omega
  rw [this]
theorem b8_put (o : Own) (n : Int) (h : 0 ≤ n ∧ n ≤ 255) (l : List UInt8) : RS.byte ⟨o, [b8 n] ++ l, false⟩ = (n, (⟨.shared, l, false⟩ : RS)) := by
  rw [List.singleton_append, RS.byte_cons]
  have : ((b8 n).toNat : Int) = n := by
    unfold b8
    rw [UInt8.toNat_ofNat']; omega
  rw [this]
theorem rdL_put {α : Type} {f : RS → α × RS} {g : α → List UInt8} (r : List UInt8) : ∀ (l : List α), (∀ x ∈ l, ∀ o r, f ⟨o, g x ++ r, false⟩ = (x, ⟨.shared, r, false⟩)) → rdL f l.length ⟨.shared, (l.map g).flatten ++ r, false⟩ = (l, (⟨.shared, r, false⟩ : RS))
  | [], _ => rfl
  | x :: l, h => by
    rw [List.length_cons, rdL, if_neg Bool.false_ne_true, List.map_cons, List.flatten_cons, List.append_assoc, h x (List.mem_cons_self ..)]
    dsimp only
    rw [rdL_put r l fun y hy => h y (List.mem_cons_of_mem _ hy)]
theorem rlist_put {α : Type} {f : RS → α × RS} {g : α → List UInt8} (k : Int) (l : List α) (hl : (l.length : Int) ≤ k) (hk : k ≤ 1000) (h : ∀ x ∈ l, ∀ o r, f ⟨o, g x ++ r, false⟩ = (x, ⟨.shared, r, false⟩)) (o : Own) (r : List UInt8) : rlist f k ⟨o, listB g l ++ r, false⟩ = (l, (⟨.shared, r, false⟩ : RS)) := by
  unfold rlist listB
  rw [List.append_assoc, RS.rnum_be o l.length (by omega)]
  dsimp only
  rw [if_neg (by omega), Int.toNat_natCast, rdL_put r l h]
structure SlG (s : Sl) : Prop where
  nm : s.name.size ≤ 300
  ty : 0 ≤ s.types ∧ s.types ≤ 255
  dv : s.dv.right = true
  ok : s.dv.Ok
def StG (p : Stp) : Prop :=
  (p.kind = 1 ∧ p.col = 0 ∧ SlG p.slot ∧ p.order = []) ∨ (p.kind = 2 ∧ (0 ≤ p.col ∧ p.col ≤ 255) ∧ p.slot = slot0 ∧ p.order = []) ∨
  (p.kind = 3 ∧ (0 ≤ p.col ∧ p.col ≤ 255) ∧ p.slot = { slot0 with name := p.slot.name } ∧ p.slot.name.size ≤ 300 ∧ p.order = []) ∨
  (p.kind = 4 ∧ (0 ≤ p.col ∧ p.col ≤ 255) ∧ p.slot = { slot0 with types := p.slot.types } ∧ (0 ≤ p.slot.types ∧ p.slot.types ≤ 255) ∧ p.order = []) ∨
  (p.kind = 5 ∧ p.col = 0 ∧ p.slot = slot0 ∧ p.order.length ≤ 8 ∧ ∀ k ∈ p.order, 0 ≤ k ∧ k ≤ 255)
structure TmG (t : Tm) : Prop where
  nm : t.name.size ≤ 300
  ls : t.slots.length ≤ 8
  lt : t.steps.length ≤ 8
  os : ∀ s ∈ t.slots, SlG s
  ot : ∀ s ∈ t.steps, StG s
theorem getSlot_put (s : Sl) (h : SlG s) (o : Own) (r : List UInt8) : getSlot ⟨o, slotB s ++ r, false⟩ = (s, (⟨.shared, r, false⟩ : RS)) := by
  have e : slotB s ++ r = tx s.name.data.toList ++ (byteB s.types ++ (byteB (if s.req then 1 else 0) ++ (s.dv.put ++ r))) := by
    unfold slotB slotP V.bin
    rw [if_pos h.dv]
    simp only [List.flatten_cons, List.flatten_nil, List.append_nil, List.append_assoc]
  have hq : (0 : Int) ≤ (if s.req then 1 else 0) ∧ (if s.req then 1 else 0 : Int) ≤ 255 := by split <;> omega
  unfold getSlot
  rw [e, RS.text_tx _ _ (by have := h.nm; omega)]
  dsimp only
  rw [byte_put _ _ h.ty]
  dsimp only
  rw [byte_put _ _ hq]
  dsimp only
  rw [RS.val_put h.dv h.ok]
  dsimp only
  cases s with
  | mk nm ty rq dv => cases rq <;> rfl
theorem getStep_put (p : Stp) (h : StG p) (o : Own) (r : List UInt8) : getStep ⟨o, stepB p ++ r, false⟩ = (p, (⟨.shared, r, false⟩ : RS)) := by
  cases p with
  | mk kind col slot order =>
  unfold StG at h
  dsimp only at h
  have f2 : ∀ a b : List UInt8, [a, b].flatten = a ++ b := fun a b => by simp
  unfold getStep
  rcases h with ⟨rfl, rfl, hs, rfl⟩ | ⟨rfl, hc, rfl, rfl⟩ | ⟨rfl, hc, hs, hn, rfl⟩ | ⟨rfl, hc, hs, hn, rfl⟩ | ⟨rfl, rfl, rfl, hl, hk⟩
  · rw [show stepB ⟨1, 0, slot, []⟩ = byteB 1 ++ slotB slot from f2 .., List.append_assoc, byte_put _ _ (by decide)]
    dsimp only
    rw [if_pos rfl, getSlot_put slot hs]
  · rw [show stepB ⟨2, col, slot0, []⟩ = byteB 2 ++ byteB col from f2 .., List.append_assoc, byte_put _ _ (by decide)]
    dsimp only
    rw [if_neg (by decide), if_pos rfl, byte_put _ _ hc]
  · rw [show stepB ⟨3, col, slot, []⟩ = (byteB 3 ++ byteB col) ++ tx slot.name.data.toList by unfold stepB; rw [if_pos rfl, f2]; exact congrArg (· ++ _) (f2 ..), List.append_assoc, List.append_assoc, byte_put _ _ (by decide)]
    dsimp only
    rw [if_neg (by decide), if_neg (by decide), if_pos rfl, byte_put _ _ hc]
    dsimp only
    rw [RS.text_tx _ _ (by omega)]
    dsimp only
    rw [← hs]
  · rw [show stepB ⟨4, col, slot, []⟩ = (byteB 4 ++ byteB col) ++ byteB slot.types by unfold stepB; rw [if_neg (by show ¬ (4 : Int) = 3; decide), if_pos rfl, f2]; exact congrArg (· ++ _) (f2 ..), List.append_assoc, List.append_assoc, byte_put _ _ (by decide)]
    dsimp only
    rw [if_neg (by decide), if_neg (by decide), if_neg (by decide), if_pos rfl, byte_put _ _ hc]
    dsimp only
    rw [byte_put _ _ hn]
    dsimp only
    rw [← hs]
  · have hm : order.map b8 = (order.map fun k => [b8 k]).flatten := by
      clear hl hk
      induction order with
      | nil => rfl
      | cons a l ih => rw [List.map_cons, List.map_cons, List.flatten_cons, ← ih]; rfl
    rw [show stepB ⟨5, 0, slot0, order⟩ = byteB 5 ++ listB (fun k => [b8 k]) order by unfold stepB; rw [if_neg (by show ¬ (5 : Int) = 3; decide), if_neg (by show ¬ (5 : Int) = 4; decide)]; unfold listB; rw [← hm, ← List.append_assoc]; exact congrArg (· ++ _) (f2 ..), List.append_assoc, byte_put _ _ (by decide)]
    dsimp only
    rw [if_neg (by decide), if_neg (by decide), if_neg (by decide), if_neg (by decide), if_pos rfl, rlist_put 9 order (by omega) (by decide) fun k hk2 o r => b8_put o k (hk k hk2) r]
theorem getTm_put (t : Tm) (h : TmG t) (o : Own) (r : List UInt8) : getTm ⟨o, tmB t ++ r, false⟩ = (t, (⟨.shared, r, false⟩ : RS)) := by
  have e : tmB t ++ r = tx t.name.data.toList ++ (listB slotB t.slots ++ (listB stepB t.steps ++ r)) := by
    unfold tmB tmP
    simp only [List.flatten_cons, List.flatten_nil, List.append_nil, List.append_assoc]
  unfold getTm
  rw [e, RS.text_tx _ _ (by have := h.nm; omega)]
  dsimp only
  rw [rlist_put 9 t.slots (by have := h.ls; omega) (by decide) fun s hs o r => getSlot_put s (h.os s hs) o r]
  dsimp only
  rw [rlist_put 9 t.steps (by have := h.lt; omega) (by decide) fun s hs o r => getStep_put s (h.ot s hs) o r]
theorem rlist_tms (L : List Tm) (hl : L.length ≤ 6) (h : ∀ t ∈ L, TmG t) (o : Own) (r : List UInt8) : rlist getTm 7 ⟨o, listB tmB L ++ r, false⟩ = (L, (⟨.shared, r, false⟩ : RS)) :=
  rlist_put 7 L (by omega) (by decide) (fun t ht o r => getTm_put t (h t ht) o r) o r
theorem read_put (L : List Tm) (hr : right L = true) (hl : L.length ≤ 6) (h : ∀ t ∈ L, TmG t) (o : Own) (r : List UInt8) : read ⟨o, put L ++ r, false⟩ = (some L, (⟨.shared, r, false⟩ : RS)) := by
  unfold read put
  rw [if_pos hr, rlist_tms L hl h o r]
  dsimp only
  rw [if_neg (by rintro (h | h); cases h; rw [hr] at h; cases h)]
theorem get_put (L : List Tm) (hr : right L = true) (hl : L.length ≤ 6) (h : ∀ t ∈ L, TmG t) : get (put L) = some L := by
  have := read_put L hr hl h .shared []
  rw [List.append_nil] at this
  unfold get
  rw [this]
  exact if_pos ⟨rfl, rfl, rfl⟩
end Reg
namespace Sch
theorem fits_right {s : Sl} {v : V} (h : fits s v = true) : v.right = true := by
  unfold fits at h
  rw [Bool.and_eq_true] at h
  exact h.1
theorem bare_slot {s : Sl} {a b : Bool} (h : bare s a b = true) : (a = true ∨ s.name = ⟨#[]⟩) ∧ (b = true ∨ s.types = 0) ∧ s.req = false ∧ s.dv = V.zero := by
  unfold bare at h
  rw [Bool.and_eq_true, Bool.and_eq_true, Bool.and_eq_true, Bool.or_eq_true, Bool.or_eq_true, decide_eq_true_eq, beq_iff_eq, beq_iff_eq] at h
  obtain ⟨⟨⟨h1, h2⟩, h3⟩, h4⟩ := h
  refine ⟨h1.imp id RS.empty_of, h2, ?_, V.cmp_eq _ _ h4⟩
  cases hr : s.req with
  | false => rfl
  | true => rw [hr] at h3; cases h3
theorem name_le {s : ByteArray} (h : V.isName s.data.toList = true) : s.size ≤ 40 := by
  unfold V.isName at h
  rw [Bool.and_eq_true, Bool.and_eq_true, decide_eq_true_eq, decide_eq_true_eq] at h
  have : s.data.toList.length = s.size := by simp
  omega
theorem sound_good {s : Sl} (h : sound s = true) (ho : s.dv.Ok) : Reg.SlG s := by
  have k := sound_ok h
  have := takes_iff.1 k.types
  exact ⟨by have := name_le k.name; omega, by omega, fits_right k.def_, ho⟩
theorem reo_ge {cols : List Nat} : ∀ (l : List Int) (out r : List Nat), reo cols l out = some r → ∀ k ∈ l, 0 ≤ k ∧ k < cols.length
  | [], _, _, _, _, h => by cases h
  | a :: l, out, r, h, k, hk => by
    rw [reo] at h
    split at h
    · rename_i hc
      rcases List.mem_cons.1 hk with rfl | hk
      · exact ⟨hc.1, hc.2.1⟩
      · exact reo_ge l _ r h k hk
    · cases h
theorem step_good {n : Nat} {x y : Vr} {s : Stp} (hx : VI n x) (h : stepV x s = some y) (ho : s.slot.dv.Ok) : Reg.StG s := by
  have hlc := hx.lc
  unfold stepV at h
  have hcol : column x s = true → (0 ≤ s.col ∧ s.col ≤ 255) ∧ s.order = [] := fun hc => by
    unfold column at hc
    rw [Bool.and_eq_true, Bool.and_eq_true, decide_eq_true_eq, decide_eq_true_eq, decide_eq_true_eq] at hc
    exact ⟨by omega, List.eq_nil_of_length_eq_zero hc.2⟩
  cases s with
  | mk kind col slot order =>
  cases slot with
  | mk nm ty rq dv =>
  dsimp only at h hcol ho
  split at h
  · rename_i hk
    unfold addS at h
    split at h
    · rename_i hc
      exact .inl ⟨hk, hc.1, sound_good hc.2.2.2.1 ho, List.eq_nil_of_length_eq_zero hc.2.1⟩
    · cases h
  split at h
  · rename_i hk
    unfold loseS at h
    split at h
    · rename_i hc
      obtain ⟨c1, c2⟩ := hcol hc.1
      obtain ⟨b1, b2, b3, b4⟩ := bare_slot hc.2.1
      simp only [Bool.false_eq_true, false_or] at b1 b2
      dsimp only at b1 b2 b3 b4
      subst b1 b2 b3 b4
      exact .inr (.inl ⟨hk, c1, rfl, c2⟩)
    · cases h
  split at h
  · rename_i hk
    unfold renameS at h
    split at h
    · rename_i hc
      obtain ⟨c1, c2⟩ := hcol hc.1
      obtain ⟨b1, b2, b3, b4⟩ := bare_slot hc.2.1
      simp only [Bool.false_eq_true, false_or] at b2
      dsimp only at b2 b3 b4
      subst b2 b3 b4
      exact .inr (.inr (.inl ⟨hk, c1, rfl, by have := name_le hc.2.2.1; dsimp only at *; omega, c2⟩))
    · cases h
  split at h
  · rename_i hk
    unfold widenS at h
    split at h
    · rename_i hc
      obtain ⟨c1, c2⟩ := hcol hc.1
      obtain ⟨b1, b2, b3, b4⟩ := bare_slot hc.2.1
      simp only [Bool.false_eq_true, false_or] at b1
      dsimp only at b1 b3 b4
      subst b1 b3 b4
      have := takes_iff.1 hc.2.2.1
      exact .inr (.inr (.inr (.inl ⟨hk, c1, rfl, by dsimp only at *; omega, c2⟩)))
    · cases h
  split at h
  · rename_i hk
    unfold reorderS at h
    split at h
    · rename_i hc
      obtain ⟨b1, b2, b3, b4⟩ := bare_slot hc.2.1
      simp only [Bool.false_eq_true, false_or] at b1 b2
      dsimp only at b1 b2 b3 b4
      subst b1 b2 b3 b4
      cases hr : reo x.cols order [] with
      | none => rw [show (Stp.mk kind col _ order).order = order from rfl, hr] at h; cases h
      | some r => exact .inr (.inr (.inr (.inr ⟨hk, hc.1, rfl, by have := hc.2.2; dsimp only at *; omega, fun k hk => by have := reo_ge _ _ _ hr k hk; omega⟩)))
    · cases h
  · cases h
theorem firstL_good : ∀ (l : List Sl) (x y : Vr), firstL l x = some y → ∀ s ∈ l, sound s = true
  | [], _, _, _, _, h => by cases h
  | a :: l, x, y, h, s, hs => by
    rw [firstL] at h
    split at h
    · rename_i hc
      rcases List.mem_cons.1 hs with rfl | hs
      · exact hc.1
      · exact firstL_good l _ y h s hs
    · cases h
theorem versL_good : ∀ (l : List Stp) (n : Nat) (x : Vr), VI n x → (versL x l).length = l.length → (∀ s ∈ l, s.slot.dv.Ok) → ∀ s ∈ l, Reg.StG s
  | [], _, _, _, _, _, _, h => by cases h
  | a :: l, n, x, hx, hl, ho, s, hs => by
    rw [versL] at hl
    cases hv : stepV x a with
    | none => rw [hv] at hl; cases hl
    | some y =>
      rw [hv] at hl
      rcases List.mem_cons.1 hs with rfl | hs
      · exact step_good hx hv (ho _ (List.mem_cons_self ..))
      · exact versL_good l (n + 1) y (step_vi hx hv) (by simpa using hl) (fun s h => ho s (List.mem_cons_of_mem _ h)) s hs
theorem last_good {t : Tm} (h : 0 < last t) (hs : ∀ s ∈ t.slots, s.dv.Ok) (hp : ∀ s ∈ t.steps, s.slot.dv.Ok) : Reg.TmG t := by
  have h1 : (vers t).length = t.steps.length + 1 := by
    unfold last at h
    split at h
    · assumption
    · omega
  unfold vers at h1
  cases hf : firstV t with
  | none => rw [hf] at h1; cases h1
  | some x =>
    rw [hf] at h1
    obtain ⟨k1, k2, k3⟩ := first_vi hf
    have h2 : (versL x t.steps).length = t.steps.length := by simpa using h1
    have hg := versL_good t.steps 8 x k1 h2 hp
    unfold firstV at hf
    split at hf
    · rename_i hc
      exact ⟨by have := name_le hc.1; omega, hc.2.2.1, hc.2.2.2, fun s hs' => sound_good (firstL_good _ _ _ hf s hs') (hs s hs'), hg⟩
    · cases hf
end Sch
theorem Reg.TmG.put {t : Tm} (h : Reg.TmG t) (hs : ∀ s ∈ t.steps, s.slot.name.size ≤ 300 ∧ s.slot.dv.nodes ≤ 1000 ∧ s.slot.dv.Ok) : Reg.TmP t :=
  ⟨h.nm, h.ls, h.lt, fun s k => ⟨(h.os s k).nm, by have := (V.right_iff.1 (h.os s k).dv).2.2; omega, (h.os s k).ok⟩, fun s k => ⟨hs s k, by
    rcases h.ot s k with h | h | h | h | h
    · rw [h.2.2.2]; exact Nat.zero_le _
    · rw [h.2.2.2]; exact Nat.zero_le _
    · rw [h.2.2.2.2]; exact Nat.zero_le _
    · rw [h.2.2.2.2]; exact Nat.zero_le _
    · have := h.2.2.2.1; omega⟩⟩
end Go.Proofs.YtgcienlfpnpbgaaGreat
end

section
namespace Go.Proofs.YtgcienlfpnpbgaaGreat
set_option linter.unusedSimpArgs false
open Go.RowKit B
set_option maxHeartbeats 4000000
namespace Reg
theorem findL_spec (nm : ByteArray) : ∀ (l : List Tm) (i : Nat), (findL nm l i = -1 ∧ ∀ t ∈ l, ¬ t.name.toList = nm.toList) ∨ ∃ (j : Nat) (t : Tm), l[j]? = some t ∧ t.name.toList = nm.toList ∧ findL nm l i = ((i + j : Nat) : Int) ∧ ∀ (k : Nat) (u : Tm), k < j → l[k]? = some u → ¬ u.name.toList = nm.toList
  | [], i => .inl ⟨rfl, fun t h => by cases h⟩
  | t :: l, i => by
    rw [findL]
    by_cases h : t.name.toList = nm.toList
    · rw [if_pos (beq_iff_eq.2 h)]
      exact .inr ⟨0, t, rfl, h, rfl, fun k u hk => by omega⟩
    · rw [if_neg (fun k => h (beq_iff_eq.1 k))]
      rcases findL_spec nm l (i + 1) with ⟨h1, h2⟩ | ⟨j, u, h1, h2, h3, h4⟩
      · exact .inl ⟨h1, fun u hu => by
          rcases List.mem_cons.1 hu with rfl | hu
          · exact h
          · exact h2 u hu⟩
      · refine .inr ⟨j + 1, u, h1, h2, by rw [h3]; congr 1; omega, fun k v hk hv => ?_⟩
        cases k with
        | zero => cases hv; exact h
        | succ k => exact h4 k v (by omega) hv
theorem find_none {L : List Tm} {nm : ByteArray} (h : ∀ t ∈ L, ¬ t.name.toList = nm.toList) : find L nm = -1 := by
  rcases findL_spec nm L 0 with ⟨h1, h2⟩ | ⟨j, u, h1, h2, h3, h4⟩
  · exact h1
  · exact absurd h2 (h u (List.mem_of_getElem? h1))
theorem find_at {L : List Tm} {nm : ByteArray} {i : Nat} {t : Tm} (ht : L[i]? = some t) (hn : t.name.toList = nm.toList) (h : ∀ (k : Nat) (u : Tm), k < i → L[k]? = some u → ¬ u.name.toList = nm.toList) : find L nm = i := by
  unfold find
  rcases findL_spec nm L 0 with ⟨h1, h2⟩ | ⟨j, u, h1, h2, h3, h4⟩
  · exact absurd hn (h2 t (List.mem_of_getElem? ht))
  · rw [h3, Nat.zero_add]
    rcases Nat.lt_trichotomy i j with hl | he | hl
    · exact absurd hn (h4 i t hl ht)
    · rw [he]
    · exact absurd h2 (h j u hl h1)
def Apart (L : List Tm) : Prop := ∀ (i j : Nat) (t u : Tm), L[i]? = some t → L[j]? = some u → t.name.toList = u.name.toList → i = j
theorem apart_find {L : List Tm} : Apart L ↔ ∀ (i : Nat) (t : Tm), L[i]? = some t → find L t.name = i := by
  constructor
  · intro h i t ht
    exact find_at ht rfl fun k u hk hu he => by have := h k i u t hu ht he; omega
  · intro h i j t u ht hu he
    have h1 := h i t ht
    have h2 := h j u hu
    have e : find L t.name = find L u.name := by
      have : ∀ (l : List Tm) (i : Nat), findL t.name l i = findL u.name l i := fun l => by
        induction l with
        | nil => intro _; rfl
        | cons a l ih => intro i; rw [findL, findL, he, ih]
      exact this L 0
    rw [h1, h2] at e
    exact Int.ofNat.inj e
theorem rightL_iff (L : List Tm) : ∀ (l : List Tm) (i : Nat), rightL L l i = true ↔ ∀ (j : Nat) (t : Tm), l[j]? = some t → i + j < 6 ∧ 0 < Sch.last t ∧ find L t.name = ((i + j : Nat) : Int)
  | [], i => ⟨fun _ j t h => (by cases h), fun _ => rfl⟩
  | t :: l, i => by
    rw [rightL, Bool.and_eq_true, Bool.and_eq_true, Bool.and_eq_true, decide_eq_true_eq, decide_eq_true_eq, beq_iff_eq, rightL_iff L l (i + 1)]
    constructor
    · rintro ⟨h1, h2, h3, h4⟩ j u hu
      cases j with
      | zero => cases hu; exact ⟨h1, h2, h3⟩
      | succ j =>
        have := h4 j u hu
        rw [show i + 1 + j = i + (j + 1) by omega] at this
        exact this
    · intro h
      have h0 := h 0 t rfl
      refine ⟨h0.1, h0.2.1, h0.2.2, fun j u hu => ?_⟩
      have := h (j + 1) u hu
      rw [show i + (j + 1) = i + 1 + j by omega] at this
      exact this
theorem right_iff {L : List Tm} : right L = true ↔ L.length ≤ 6 ∧ (∀ t ∈ L, 0 < Sch.last t) ∧ Apart L := by
  unfold right
  rw [rightL_iff, apart_find]
  constructor
  · intro h
    refine ⟨?_, ?_, ?_⟩
    · rcases Nat.lt_or_ge 6 L.length with hl | hl
      · obtain ⟨t, ht⟩ : ∃ t, L[6]? = some t := ⟨_, List.getElem?_eq_getElem hl⟩
        have := (h 6 t ht).1
        omega
      · exact hl
    · intro t ht
      obtain ⟨i, hi⟩ := List.getElem?_of_mem ht
      exact (h i t hi).2.1
    · intro i t ht
      have := (h i t ht).2.2
      rwa [Nat.zero_add] at this
  · rintro ⟨h1, h2, h3⟩ j t ht
    have hj := (List.getElem?_eq_some_iff.1 ht).1
    exact ⟨by omega, h2 t (List.mem_of_getElem? ht), by rw [Nat.zero_add]; exact h3 j t ht⟩
theorem all2_iff {α : Type} {f : α → α → Bool} (hf : ∀ a b, f a b = true ↔ a = b) : ∀ (a b : List α), all2 f a b = true ↔ a = b
  | [], [] => ⟨fun _ => rfl, fun _ => rfl⟩
  | a :: l, b :: m => by
    rw [all2, Bool.and_eq_true, hf, all2_iff hf l m, List.cons.injEq]
  | [], _ :: _ => ⟨fun h => (by cases h), fun h => (by cases h)⟩
  | _ :: _, [] => ⟨fun h => (by cases h), fun h => (by cases h)⟩
theorem name_iff {a b : ByteArray} : (a.toList == b.toList) = true ↔ a = b := by
  rw [beq_iff_eq]
  constructor
  · intro h
    have h2 : a.data.toList = b.data.toList := by
      have e : ∀ x : ByteArray, x.toList = x.data.toList := fun x => ByteArray.toList_eq x
      rw [← e, ← e]; exact h
    cases a; cases b
    exact congrArg ByteArray.mk (Array.toList_inj.1 h2)
  · rintro rfl; rfl
theorem slotS_iff (a b : Sl) : slotS a b = true ↔ a = b := by
  unfold slotS
  rw [Bool.and_eq_true, Bool.and_eq_true, Bool.and_eq_true, name_iff, beq_iff_eq, beq_iff_eq, beq_iff_eq]
  cases a; cases b
  rw [Sl.mk.injEq]
  constructor
  · rintro ⟨h1, h2, h3, h4⟩; exact ⟨h1, h2, h3, V.cmp_eq _ _ h4⟩
  · rintro ⟨h1, h2, h3, rfl⟩; exact ⟨h1, h2, h3, V.cmp_self _⟩
theorem stepS_iff (a b : Stp) : stepS a b = true ↔ a = b := by
  unfold stepS
  rw [Bool.and_eq_true, Bool.and_eq_true, Bool.and_eq_true, slotS_iff, beq_iff_eq, beq_iff_eq, all2_iff (fun a b => beq_iff_eq)]
  cases a; cases b
  rw [Stp.mk.injEq]
theorem tmS_iff (a b : Tm) : tmS a b = true ↔ a = b := by
  unfold tmS
  rw [Bool.and_eq_true, Bool.and_eq_true, name_iff, all2_iff slotS_iff, all2_iff stepS_iff]
  cases a; cases b
  rw [Tm.mk.injEq]
theorem same_iff (a b : List Tm) : same a b = true ↔ a = b := all2_iff tmS_iff a b
end Reg
end Go.Proofs.YtgcienlfpnpbgaaGreat
end

section
namespace Go.Proofs.YtgcienlfpnpbgaaGreat
set_option linter.unusedSimpArgs false
attribute [local push_cast] encB encI encC V.cells_mk V.cells_len Nat.mul_one Int.sub_zero List.map_nil beq_self_eq_true List.head?_cons
open Go.RowKit
set_option maxRecDepth 10000
set_option maxHeartbeats 4000000
namespace Sch
def greatS (s : Sl) : Bool := s.dv.great || decide (300 < s.name.size)
def greatP (s : Stp) : Bool := s.slot.dv.great || (decide (300 < s.slot.name.size) || decide (30 < s.order.length))
def great (t : Tm) : Bool := decide (30 < t.slots.length) || (decide (30 < t.steps.length) || (decide (300 < t.name.size) || (t.slots.any greatS || t.steps.any greatP)))
end Sch
theorem any_drop {α : Type} {p : α → Bool} {l : List α} {i : Nat} {x : α} (h : l[i]? = some x) : (l.drop i).any p = (p x || (l.drop (i + 1)).any p) := by
  obtain ⟨h1, rfl⟩ := List.getElem?_eq_some_iff.1 h
  rw [List.drop_eq_getElem_cons h1, List.any_cons]
theorem refGreat10F (t : Tm) (hw : t.Wf) (st : St) : TrF Tryz.prog 49 [.agg t.cells] st fun d st' => d = .b (Sch.great t) ∧ st' = st := by
  obtain ⟨-, hws, hsl, hwp, hpl⟩ := hw
  obtain ⟨B, hB⟩ : ∃ B, Sch.great t = B := ⟨_, rfl⟩
  rw [hB]
  unfold Sch.great at hB
  cases t with
  | mk nm slots steps =>
  unfold Tm.cells
  dsimp only at hB hws hwp hsl hpl ⊢
  have hws2 := Lib.hid hws
  have hwp2 := Lib.hid hwp
  clear hws hwp
  have hml : (slots.map Sl.cells).length = slots.length := List.length_map ..
  have hmp : (steps.map Stp.cells).length = steps.length := List.length_map ..
  have hcl : Hid (∀ (i : Nat) (s : Sl), slots[i]? = some s → (slots.map Sl.cells)[i]? = some s.cells) := fun i s h => by rw [List.getElem?_map, h]; rfl
  have hcp : Hid (∀ (i : Nat) (s : Stp), steps[i]? = some s → (steps.map Stp.cells)[i]? = some s.cells) := fun i s h => by rw [List.getElem?_map, h]; rfl
  generalize slots.map Sl.cells = SL at *
  generalize steps.map Stp.cells = TL at *
  have hn1 := hml
  have hn2 := hmp
  unfold maxLen at hsl hpl
  by_cases h1 : 30 < slots.length
  · have hBt : B = true := by rw [← hB]; simp [h1]
    subst hBt
    clear hB
    refine Qin [2] Tryz.func49 Tryz.results49 Tryz.ntmps49 ?_
    repeat' (with_reducible first | refine Q1 ?_ | refine Qe ?_ | refine Ql ?_ | refine Q2 ?_ | refine Qs ?_ | refine Q4 ?_ | (refine al_go ?_; intro b) | refine Q5 ?_ | (refine Q3a ?_; intro hb; try intro hb1) | (refine Q3b ?_; intro hb; try intro hb1) | (refine Q3 ?_ ?_ <;> intro hb <;> try intro hb1) | fail)
    all_goals exact Qret
  by_cases h2 : 30 < steps.length
  · have hBt : B = true := by rw [← hB]; simp [h2]
    subst hBt
    clear hB
    refine Qin [2] Tryz.func49 Tryz.results49 Tryz.ntmps49 ?_
    repeat' (with_reducible first | refine Q1 ?_ | refine Qe ?_ | refine Ql ?_ | refine Q2 ?_ | refine Qs ?_ | refine Q4 ?_ | (refine al_go ?_; intro b) | refine Q5 ?_ | (refine Q3a ?_; intro hb; try intro hb1) | (refine Q3b ?_; intro hb; try intro hb1) | (refine Q3 ?_ ?_ <;> intro hb <;> try intro hb1) | fail)
    all_goals exact Qret
  by_cases h3 : 300 < nm.size
  · have hBt : B = true := by rw [← hB]; simp [h3]
    subst hBt
    clear hB
    refine Qin [2] Tryz.func49 Tryz.results49 Tryz.ntmps49 ?_
    repeat' (with_reducible first | refine Q1 ?_ | refine Qe ?_ | refine Ql ?_ | refine Q2 ?_ | refine Qs ?_ | refine Q4 ?_ | (refine al_go ?_; intro b) | refine Q5 ?_ | (refine Q3a ?_; intro hb; try intro hb1) | (refine Q3b ?_; intro hb; try intro hb1) | (refine Q3 ?_ ?_ <;> intro hb <;> try intro hb1) | fail)
    all_goals exact Qret
  have HB : Hid (((slots.drop 0).any Sch.greatS || steps.any Sch.greatP) = B) := Lib.hid (by rw [← hB]; simp [h1, h2, h3])
  clear hB
  refine Qin [2] Tryz.func49 Tryz.results49 Tryz.ntmps49 ?_
  repeat' (with_reducible first | refine Q1 ?_ | refine Qe ?_ | refine Ql ?_ | refine Q2 ?_ | refine Qs ?_ | refine Q4 ?_ | (refine al_go ?_; intro b) | refine Q5 ?_ | (refine Q3a ?_; intro hb; try intro hb1) | (refine Q3b ?_; intro hb; try intro hb1) | (refine Q3 ?_ ?_ <;> intro hb <;> try intro hb1) | fail)
  refine tr_loop (ι := Nat) (fun i A st' => i ≤ slots.length ∧ Hid (((slots.drop i).any Sch.greatS || steps.any Sch.greatP) = B) ∧ A.df = [] ∧ A.e 1 = .ip [.str nm, .sl .shared SL, .sl .shared TL] ∧ A.e 3 = .i i ∧ st = st') (fun i => slots.length - i) 0 ⟨Nat.zero_le _, HB, Qf, Qf, Qf, rfl⟩ ?_
  rintro i A st' ⟨hi, HT, hdf, e1, e3, rfl⟩
  clear HB
  by_cases hlt : i < slots.length
  · obtain ⟨s, hs⟩ : ∃ s, slots[i]? = some s := ⟨_, List.getElem?_eq_getElem hlt⟩
    have HE := HT.out
    rw [any_drop hs, Bool.or_assoc] at HE
    have hc := hcl.out i s hs
    have hG := refGreatF s.dv (hws2.out s (List.mem_of_getElem? hs)).2.2
    clear HT hs
    unfold Sch.greatS at HE
    cases s with
    | mk snm ty rq dv =>
    dsimp only at HE hG
    generalize V.great dv = g at *
    cases dv with
    | mk k n sv l =>
    rw [Sl.cells_mk] at hc
    rw [V.cells_mk] at hG
    replace hG := Lib.hid hG
    cases g with
    | true =>
      simp only [Bool.true_or] at HE
      subst HE
      repeat' (first | (with_reducible first | refine Q1 ?_ | refine Qe ?_ | refine Ql ?_ | refine Q2 ?_ | refine Qs ?_ | refine Q4 ?_ | (refine al_go ?_; intro b) | fail) | refine Qc Tryz.call133 (hG.out _) ?_ | (with_reducible first | refine Q5 ?_ | (refine Q3a ?_; intro hb; try intro hb1) | (refine Q3b ?_; intro hb; try intro hb1) | (refine Q3 ?_ ?_ <;> intro hb <;> try intro hb1) | fail) | fail)
      all_goals exact Qret
    | false =>
      by_cases h4 : 300 < snm.size
      · simp only [h4, decide_true, Bool.or_true, Bool.true_or] at HE
        subst HE
        repeat' (first | (with_reducible first | refine Q1 ?_ | refine Qe ?_ | refine Ql ?_ | refine Q2 ?_ | refine Qs ?_ | refine Q4 ?_ | (refine al_go ?_; intro b) | fail) | refine Qc Tryz.call133 (hG.out _) ?_ | (with_reducible first | refine Q5 ?_ | (refine Q3a ?_; intro hb; try intro hb1) | (refine Q3b ?_; intro hb; try intro hb1) | (refine Q3 ?_ ?_ <;> intro hb <;> try intro hb1) | fail) | fail)
        all_goals exact Qret
      · rw [decide_eq_false h4, Bool.or_self, Bool.false_or] at HE
        replace HE := Lib.hid HE
        repeat' (first | (with_reducible first | refine Q1 ?_ | refine Qe ?_ | refine Ql ?_ | refine Q2 ?_ | refine Qs ?_ | refine Q4 ?_ | (refine al_go ?_; intro b) | fail) | refine Qc Tryz.call133 (hG.out _) ?_ | (with_reducible first | refine Q5 ?_ | (refine Q3a ?_; intro hb; try intro hb1) | (refine Q3b ?_; intro hb; try intro hb1) | (refine Q3 ?_ ?_ <;> intro hb <;> try intro hb1) | fail) | fail)
        refine ⟨i + 1, ⟨hlt, HE, ?_, ?_, ?_, rfl⟩, ?_⟩
        all_goals exact Qf
  · have HE := HT.out
    rw [List.drop_of_length_le (by omega), List.any_nil, Bool.false_or] at HE
    have HB : Hid ((steps.drop 0).any Sch.greatP = B) := HE
    clear HT HE
    repeat' (with_reducible first | refine Q1 ?_ | refine Qe ?_ | refine Ql ?_ | refine Q2 ?_ | refine Qs ?_ | refine Q4 ?_ | (refine al_go ?_; intro b) | refine Q5 ?_ | (refine Q3a ?_; intro hb; try intro hb1) | (refine Q3b ?_; intro hb; try intro hb1) | (refine Q3 ?_ ?_ <;> intro hb <;> try intro hb1) | fail)
    refine tr_loop (ι := Nat) (fun i A st' => i ≤ steps.length ∧ Hid ((steps.drop i).any Sch.greatP = B) ∧ A.df = [] ∧ A.e 1 = .ip [.str nm, .sl .shared SL, .sl .shared TL] ∧ A.e 4 = .i i ∧ st = st') (fun i => steps.length - i) 0 ⟨Nat.zero_le _, HB, Qf, Qf, Qf, rfl⟩ ?_
    clear hdf e1 e3
    rintro i A st' ⟨hi, HT, hdf, e1, e4, rfl⟩
    clear HB
    by_cases hlt : i < steps.length
    · obtain ⟨s, hs⟩ : ∃ s, steps[i]? = some s := ⟨_, List.getElem?_eq_getElem hlt⟩
      have HE := HT.out
      rw [any_drop hs] at HE
      have hc := hcp.out i s hs
      have hG := refGreatF s.slot.dv (hwp2.out s (List.mem_of_getElem? hs)).2.2.1.2.2
      have hol := (hwp2.out s (List.mem_of_getElem? hs)).2.2.2
      clear HT hs
      unfold Sch.greatP at HE
      unfold maxLen at hol
      unfold Stp.cells at hc
      cases s with
      | mk kd col slot order =>
      cases slot with
      | mk snm ty rq dv =>
      dsimp only at HE hG hol
      generalize V.great dv = g at *
      cases dv with
      | mk k n sv l =>
      rw [Sl.cells_mk] at hc
      rw [V.cells_mk] at hG
      dsimp only [List.cons_append, List.nil_append] at hc
      replace hG := Lib.hid hG
      cases g with
      | true =>
        simp only [Bool.true_or] at HE
        subst HE
        repeat' (first | (with_reducible first | refine Q1 ?_ | refine Qe ?_ | refine Ql ?_ | refine Q2 ?_ | refine Qs ?_ | refine Q4 ?_ | (refine al_go ?_; intro b) | fail) | refine Qc Tryz.call133 (hG.out _) ?_ | (with_reducible first | refine Q5 ?_ | (refine Q3a ?_; intro hb; try intro hb1) | (refine Q3b ?_; intro hb; try intro hb1) | (refine Q3 ?_ ?_ <;> intro hb <;> try intro hb1) | fail) | fail)
        all_goals exact Qret
      | false =>
        by_cases h4 : 300 < snm.size
        · simp only [h4, decide_true, Bool.or_true, Bool.true_or] at HE
          subst HE
          repeat' (first | (with_reducible first | refine Q1 ?_ | refine Qe ?_ | refine Ql ?_ | refine Q2 ?_ | refine Qs ?_ | refine Q4 ?_ | (refine al_go ?_; intro b) | fail) | refine Qc Tryz.call133 (hG.out _) ?_ | (with_reducible first | refine Q5 ?_ | (refine Q3a ?_; intro hb; try intro hb1) | (refine Q3b ?_; intro hb; try intro hb1) | (refine Q3 ?_ ?_ <;> intro hb <;> try intro hb1) | fail) | fail)
          all_goals exact Qret
        · by_cases h5 : 30 < order.length
          · simp only [h5, decide_true, Bool.or_true, Bool.true_or] at HE
            subst HE
            repeat' (first | (with_reducible first | refine Q1 ?_ | refine Qe ?_ | refine Ql ?_ | refine Q2 ?_ | refine Qs ?_ | refine Q4 ?_ | (refine al_go ?_; intro b) | fail) | refine Qc Tryz.call133 (hG.out _) ?_ | (with_reducible first | refine Q5 ?_ | (refine Q3a ?_; intro hb; try intro hb1) | (refine Q3b ?_; intro hb; try intro hb1) | (refine Q3 ?_ ?_ <;> intro hb <;> try intro hb1) | fail) | fail)
            all_goals exact Qret
          · rw [decide_eq_false h4, decide_eq_false h5, Bool.or_self, Bool.or_self, Bool.false_or] at HE
            replace HE := Lib.hid HE
            repeat' (first | (with_reducible first | refine Q1 ?_ | refine Qe ?_ | refine Ql ?_ | refine Q2 ?_ | refine Qs ?_ | refine Q4 ?_ | (refine al_go ?_; intro b) | fail) | refine Qc Tryz.call133 (hG.out _) ?_ | (with_reducible first | refine Q5 ?_ | (refine Q3a ?_; intro hb; try intro hb1) | (refine Q3b ?_; intro hb; try intro hb1) | (refine Q3 ?_ ?_ <;> intro hb <;> try intro hb1) | fail) | fail)
            refine ⟨i + 1, ⟨hlt, HE, ?_, ?_, ?_, rfl⟩, ?_⟩
            all_goals exact Qf
    · have HE := HT.out
      rw [List.drop_of_length_le (by omega), List.any_nil] at HE
      subst HE
      clear HT
      repeat' (with_reducible first | refine Q1 ?_ | refine Qe ?_ | refine Ql ?_ | refine Q2 ?_ | refine Qs ?_ | refine Q4 ?_ | (refine al_go ?_; intro b) | refine Q5 ?_ | (refine Q3a ?_; intro hb; try intro hb1) | (refine Q3b ?_; intro hb; try intro hb1) | (refine Q3 ?_ ?_ <;> intro hb <;> try intro hb1) | fail)
      all_goals exact Qret
end Go.Proofs.YtgcienlfpnpbgaaGreat
end

section
namespace Go.Proofs.YtgcienlfpnpbgaaGreat
set_option linter.unusedSimpArgs false
open Go.RowKit
theorem not_great10 {t : Tm} (hw : t.Wf) (h : Sch.great t = false) : TOk t ∧ (∀ s ∈ t.slots, s.dv.nodes ≤ 1000 ∧ s.dv.deep ≤ 10 ∧ s.name.size ≤ 300 ∧ s.Ok) ∧ (∀ s ∈ t.steps, s.slot.dv.nodes ≤ 1000 ∧ s.slot.dv.deep ≤ 10 ∧ s.slot.name.size ≤ 300 ∧ s.slot.Ok ∧ s.order.length ≤ 30) ∧ t.name.size ≤ 300 ∧ t.slots.length ≤ 30 ∧ t.steps.length ≤ 30 := by
  unfold Sch.great at h
  simp only [Bool.or_eq_false_iff, decide_eq_false_iff_not, List.any_eq_false, Bool.not_eq_true] at h
  obtain ⟨h1, h2, h3, h4, h5⟩ := h
  have hs : ∀ s ∈ t.slots, s.dv.nodes ≤ 1000 ∧ s.dv.deep ≤ 10 ∧ s.name.size ≤ 300 ∧ s.Ok := fun s hs => by
    have := h4 s hs
    unfold Sch.greatS at this
    rw [Bool.or_eq_false_iff, decide_eq_false_iff_not] at this
    obtain ⟨k1, k2⟩ := V.not_great this.1
    exact ⟨k1, k2, by omega, hw.ss s hs⟩
  have hp : ∀ s ∈ t.steps, s.slot.dv.nodes ≤ 1000 ∧ s.slot.dv.deep ≤ 10 ∧ s.slot.name.size ≤ 300 ∧ s.slot.Ok ∧ s.order.length ≤ 30 := fun s hs => by
    have := h5 s hs
    unfold Sch.greatP at this
    simp only [Bool.or_eq_false_iff, decide_eq_false_iff_not] at this
    obtain ⟨k1, k2⟩ := V.not_great this.1
    exact ⟨k1, k2, by omega, (hw.ps s hs).2.2.1, by omega⟩
  refine ⟨⟨by omega, by omega, fun s h => (hs s h).1, fun s h => ?_⟩, hs, hp, by omega, by omega, by omega⟩
  obtain ⟨k1, -, -, k4, k5⟩ := hp s h
  exact ⟨k1, V.Ok.bg k4.2.2, by omega⟩
end Go.Proofs.YtgcienlfpnpbgaaGreat
end

section
namespace Go.Proofs.YtgcienlfpnpbgaaGreat
set_option linter.unusedSimpArgs false
attribute [local push_cast] encB encI encC encBs V.cells_mk V.cells_len Nat.mul_one Int.sub_zero List.map_nil beq_self_eq_true bne_self_eq_false List.head?_cons
open Go.RowKit B
set_option maxRecDepth 10000
set_option maxHeartbeats 8000000
namespace Reg
def great (L : List Tm) : Bool := decide (12 < L.length) || L.any Sch.great
structure Kn (t : Tm) : Prop where
  ok : TOk t
  q : TmQ t
  nm : t.name.size ≤ 300
  os : ∀ s ∈ t.slots, s.dv.Ok
  ot : ∀ s ∈ t.steps, s.slot.name.size ≤ 300 ∧ s.slot.dv.nodes ≤ 1000 ∧ s.slot.dv.Ok
theorem not_great {L : List Tm} (hw : ∀ t ∈ L, t.Wf) (h : great L = false) : L.length ≤ 12 ∧ ∀ t ∈ L, Kn t := by
  unfold great at h
  rw [Bool.or_eq_false_iff, decide_eq_false_iff_not, List.any_eq_false] at h
  refine ⟨by omega, fun t ht => ?_⟩
  have hg : Sch.great t = false := by
    have := h.2 t ht
    cases hq : Sch.great t with
    | false => rfl
    | true => exact absurd hq this
  obtain ⟨k1, k2, k3, k4, k5, k6⟩ := not_great10 (hw t ht) hg
  exact ⟨k1, ⟨by omega, by omega, fun s hs => V.Ok.bg (k2 s hs).2.2.2.2.2, fun s hs => ⟨V.Ok.bg (k3 s hs).2.2.2.1.2.2, by have := (k3 s hs).2.2.2.2; omega⟩⟩, k4, fun s hs => (k2 s hs).2.2.2.2.2, fun s hs => ⟨(k3 s hs).2.2.1, (k3 s hs).1, (k3 s hs).2.2.2.1.2.2⟩⟩
theorem Kn.good {t : Tm} (k : Kn t) (h : 0 < Sch.last t) : TmG t ∧ TmP t := by
  have hg := Sch.last_good h k.os fun s hs => (k.ot s hs).2.2
  exact ⟨hg, hg.put k.ot⟩
theorem good_all {L : List Tm} (hk : ∀ t ∈ L, Kn t) (hr : right L = true) : L.length ≤ 6 ∧ (∀ t ∈ L, TmG t) ∧ ∀ t ∈ L, TmP t := by
  obtain ⟨h1, h2, -⟩ := right_iff.1 hr
  exact ⟨h1, fun t ht => ((hk t ht).good (h2 t ht)).1, fun t ht => ((hk t ht).good (h2 t ht)).2⟩
end Reg
theorem readsTms : Reads Tryz.prog 22 (fun l : List Tm => [D.sl .shared (l.map Tm.cells)]) fun l => (∀ x ∈ l, x.Wf) ∧ l.length ≤ maxLen :=
  reads_slice' (sz := 3) Tryz.underlying22 (by kernel_rfl) (by omega) readsTm (fun _ => rfl) fun t d hd => by
    unfold Tm.cells at hd
    simp only [List.mem_cons, List.not_mem_nil, or_false] at hd
    rcases hd with rfl | rfl | rfl <;> rfl
theorem refGreat13F (L : List Tm) (hw : ∀ t ∈ L, t.Wf) (hl : L.length ≤ maxLen) (st : St) : TrF Tryz.prog 15 [.sl .shared (L.map Tm.cells)] st fun d st' => d = .b (Reg.great L) ∧ st' = st := by
  unfold maxLen at hl
  have hm : (L.map Tm.cells).length = L.length := List.length_map ..
  have hc : Hid (∀ (i : Nat) (t : Tm), L[i]? = some t → (L.map Tm.cells)[i]? = some t.cells) := fun i t h => by rw [List.getElem?_map, h]; rfl
  have hG := Lib.hid fun (t : Tm) (ht : t ∈ L) => refGreat10F t (hw t ht)
  unfold Reg.great
  clear hw
  generalize L.map Tm.cells = LS at *
  by_cases h12 : 12 < L.length
  · rw [decide_eq_true h12, Bool.true_or]
    refine Qin [2] Tryz.func15 Tryz.results15 Tryz.ntmps15 ?_
    repeat' (with_reducible first | refine Q1 ?_ | refine Qe ?_ | refine Ql ?_ | refine Q2 ?_ | refine Qs ?_ | refine Q4 ?_ | (refine al_go ?_; intro b) | refine Q5 ?_ | (refine Q3a ?_; intro hb; try intro hb1) | (refine Q3b ?_; intro hb; try intro hb1) | (refine Q3 ?_ ?_ <;> intro hb <;> try intro hb1) | fail)
    all_goals exact Qret
  · rw [decide_eq_false h12, Bool.false_or]
    obtain ⟨F, hF⟩ : ∃ F, L.any Sch.great = F := ⟨_, rfl⟩
    rw [hF]
    have HF : Hid ((L.drop 0).any Sch.great = F) := hF
    clear hF
    refine Qin [2] Tryz.func15 Tryz.results15 Tryz.ntmps15 ?_
    repeat' (with_reducible first | refine Q1 ?_ | refine Qe ?_ | refine Ql ?_ | refine Q2 ?_ | refine Qs ?_ | refine Q4 ?_ | (refine al_go ?_; intro b) | refine Q5 ?_ | (refine Q3a ?_; intro hb; try intro hb1) | (refine Q3b ?_; intro hb; try intro hb1) | (refine Q3 ?_ ?_ <;> intro hb <;> try intro hb1) | fail)
    refine tr_loopd (ι := Nat) (fun i A st' => i ≤ L.length ∧ Hid ((L.drop i).any Sch.great = F) ∧ A.df = [] ∧ A.e 0 = .sl .shared LS ∧ A.e 3 = .i i ∧ st = st') (fun i => L.length - i) 0 ⟨Nat.zero_le _, HF, Qf, Qf, Qf, rfl⟩ ?_
    rintro i A st' ⟨hi, HT, hdf, e0, e3, rfl⟩
    clear HF
    by_cases hlt : i < L.length
    · obtain ⟨t, ht⟩ : ∃ t, L[i]? = some t := ⟨_, List.getElem?_eq_getElem hlt⟩
      have h1 := hc.out i t ht
      have HE := HT.out
      rw [any_drop ht] at HE
      have hR := hG.out t (List.mem_of_getElem? ht)
      clear HT ht
      obtain ⟨G, hGG⟩ : ∃ G, (L.drop (i + 1)).any Sch.great = G := ⟨_, rfl⟩
      rw [hGG] at HE
      replace hGG := Lib.hid hGG
      generalize Sch.great t = q at *
      unfold Tm.cells at h1 hR
      generalize t.slots.map Sl.cells = SL at *
      generalize t.steps.map Stp.cells = TL at *
      generalize t.name = nm at *
      replace hR := Lib.hid hR
      cases q with
      | true =>
        rw [Bool.true_or] at HE
        subst HE
        repeat' (first | (with_reducible first | refine Q1 ?_ | refine Qe ?_ | refine Ql ?_ | refine Q2 ?_ | refine Qs ?_ | refine Q4 ?_ | (refine al_go ?_; intro b) | fail) | refine Qc Tryz.call49 (hR.out _) ?_ | (with_reducible first | refine Q5 ?_ | (refine Q3a ?_; intro hb; try intro hb1) | (refine Q3b ?_; intro hb; try intro hb1) | (refine Q3 ?_ ?_ <;> intro hb <;> try intro hb1) | fail) | fail)
        all_goals exact Qret
      | false =>
        rw [Bool.false_or] at HE
        replace HE := Lib.hid (hGG.out.trans HE)
        clear hGG
        repeat' (first | (with_reducible first | refine Q1 ?_ | refine Qe ?_ | refine Ql ?_ | refine Q2 ?_ | refine Qs ?_ | refine Q4 ?_ | (refine al_go ?_; intro b) | fail) | refine Qc Tryz.call49 (hR.out _) ?_ | (with_reducible first | refine Q5 ?_ | (refine Q3a ?_; intro hb; try intro hb1) | (refine Q3b ?_; intro hb; try intro hb1) | (refine Q3 ?_ ?_ <;> intro hb <;> try intro hb1) | fail) | fail)
        refine ⟨i + 1, st, (by (repeat (first | exact List.Sublist.refl _ | apply List.Sublist.cons))), ⟨hlt, HE, ?_, ?_, ?_, rfl⟩, by omega⟩
        all_goals exact Qf
    · have HE := HT.out
      rw [List.drop_of_length_le (by omega)] at HE
      subst HE
      clear HT
      repeat' (with_reducible first | refine Q1 ?_ | refine Qe ?_ | refine Ql ?_ | refine Q2 ?_ | refine Qs ?_ | refine Q4 ?_ | (refine al_go ?_; intro b) | refine Q5 ?_ | (refine Q3a ?_; intro hb; try intro hb1) | (refine Q3b ?_; intro hb; try intro hb1) | (refine Q3 ?_ ?_ <;> intro hb <;> try intro hb1) | fail)
      all_goals exact Qret
theorem twoKn : Reg.Kn twoT := by
  have ho : ∀ k n : Int, (0 ≤ k ∧ k ≤ 9) → (0 ≤ n ∧ n ≤ 9) → (V.mk k n ⟨#[]⟩ []).Ok := fun k n h1 h2 => .mk (by omega) (by omega) (Nat.zero_le _) (Nat.zero_le _) fun x h => by cases h
  refine ⟨twoOk, ⟨by decide, by decide, ?_, ?_⟩, by decide, ?_, ?_⟩
  · intro s hs
    simp only [twoT, List.mem_cons, List.not_mem_nil, or_false] at hs
    rcases hs with rfl | rfl <;> exact (ho _ _ (by decide) (by decide)).bg
  · intro s hs
    simp only [twoT, List.mem_cons, List.not_mem_nil, or_false] at hs
    rcases hs with rfl | rfl <;> exact ⟨(ho _ _ (by decide) (by decide)).bg, by decide⟩
  · intro s hs
    simp only [twoT, List.mem_cons, List.not_mem_nil, or_false] at hs
    rcases hs with rfl | rfl <;> exact ho _ _ (by decide) (by decide)
  · intro s hs
    simp only [twoT, List.mem_cons, List.not_mem_nil, or_false] at hs
    rcases hs with rfl | rfl <;> exact ⟨by decide, by decide, ho _ _ (by decide) (by decide)⟩
abbrev L13 : List Tm := [twoT]
theorem l13_kn : ∀ t ∈ L13, Reg.Kn t := fun t h => by rw [List.mem_singleton.1 h]; exact twoKn
theorem l13_right : Reg.right L13 = true := Reg.right_iff.2 ⟨by decide, fun t h => by rw [List.mem_singleton.1 h, twoL]; decide, fun i j t u ht hu _ => by
  have h1 := (List.getElem?_eq_some_iff.1 ht).1
  have h2 := (List.getElem?_eq_some_iff.1 hu).1
  have : L13.length = 1 := rfl
  omega⟩
theorem l13_len : 20 < (Reg.put L13).length ∧ (Reg.put L13).length ≤ 1000000 := by
  have hP := (Reg.good_all l13_kn l13_right).2.2 twoT (List.mem_singleton.2 rfl)
  have h1 := Reg.tmB_len twoT hP
  have h2 : (Reg.put L13).length = 4 + (Reg.tmB twoT).length := by
    unfold Reg.put
    rw [if_pos l13_right]
    unfold Reg.listB
    simp only [List.map_cons, List.map_nil, List.flatten_cons, List.flatten_nil, List.append_nil, List.length_append, be_len]
  have h3 : 17 ≤ (Reg.tmB twoT).length := by
    unfold Reg.tmB Reg.tmP twoT Reg.listB
    simp only [List.map_cons, List.map_nil, List.flatten_cons, List.flatten_nil, List.append_nil, List.length_append, tx, be_len]
    have e1 : (Reg.slotB ⟨⟨#[97]⟩, 4, false, .mk 2 0 ⟨#[]⟩ []⟩).length ≥ 5 := by
      unfold Reg.slotB Reg.slotP
      simp only [List.flatten_cons, List.flatten_nil, List.append_nil, List.length_append, tx, be_len]
      have : ([97] : List UInt8).length = 1 := rfl
      have : (ByteArray.mk #[97]).data.toList.length = 1 := rfl
      omega
    have : (ByteArray.mk #[116]).data.toList.length = 1 := rfl
    omega
  omega
theorem l13_get : Reg.get (Reg.put L13) = some L13 := Reg.get_put L13 l13_right (by decide) (Reg.good_all l13_kn l13_right).2.1
theorem l13_get0 : Reg.get (Reg.put L13 ++ [0]) = none := by
  have := Reg.read_put L13 l13_right (by decide) (Reg.good_all l13_kn l13_right).2.1 .shared [0]
  unfold Reg.get
  rw [this]
  exact if_neg fun h => by cases h.2.2
theorem l13_rl (r : List UInt8) : ∀ t ∈ (Reg.rlist Reg.getTm 7 ⟨.shared, Reg.put L13 ++ r, false⟩).1, TOk t := by
  have := Reg.rlist_tms L13 (by decide) (Reg.good_all l13_kn l13_right).2.1 .shared r
  unfold Reg.put
  rw [if_pos l13_right, this]
  exact fun t ht => (l13_kn t ht).ok
theorem l13_find : Reg.find L13 ⟨#[116]⟩ = 0 ∧ Reg.find L13 ⟨#[117]⟩ = -1 := ⟨Reg.find_at (i := 0) rfl rfl fun k u hk => by omega, Reg.find_none fun t ht => by rw [List.mem_singleton.1 ht]; exact fun h => absurd (Reg.name_iff.1 (beq_iff_eq.2 h)) (by decide)⟩
theorem put_nil : Reg.put [] = [0, 0, 0, 0] := by kernel_rfl
theorem reg13AliveF (st : St) : TrF Tryz.prog 14 [] st fun d st' => d = .b true ∧ st' = st := by
  have hT := twoF
  have hok : ∀ t ∈ L13, TOk t := fun t h => (l13_kn t h).ok
  have hq : ∀ t ∈ L13, Reg.TmQ t := fun t h => (l13_kn t h).q
  have hlen := l13_len
  have hP := regPutOF L13 hok (by decide) l13_right (Reg.good_all l13_kn l13_right).2.2
  have hG1 := regGetF .shared (Reg.put L13) (by omega) (by have := l13_rl []; rwa [List.append_nil] at this)
  have hG2 := regGetF .shared (Reg.put L13 ++ [0]) (by rw [List.length_append]; show _ + 1 ≤ _; omega) (l13_rl [0])
  have hS := regSameF L13 L13 hq hq (by decide) (by decide)
  have hR := regRightF L13 hok (by decide)
  have hF1 := regFindF L13 ⟨#[116]⟩ (by decide)
  have hF2 := regFindF L13 ⟨#[117]⟩ (by decide)
  have hP0 := regPutF [] (fun t h => by cases h) (by decide) (fun _ => ⟨by decide, fun t h => by cases h⟩)
  have hB := bytesF .shared .shared [0, 0, 0, 0] [0, 0, 0, 0]
  rw [l13_get] at hG1
  rw [l13_get0] at hG2
  rw [(Reg.same_iff L13 L13).2 rfl] at hS
  rw [l13_right] at hR
  rw [l13_find.1] at hF1
  rw [l13_find.2] at hF2
  rw [put_nil] at hP0
  rw [decide_eq_true rfl] at hB
  have hm : ((Reg.put L13).map encB).length = (Reg.put L13).length := List.length_map ..
  rw [List.map_append] at hG2
  simp only [List.map_cons, List.map_nil, twoC, encB, Option.getD, Option.isSome] at hT hP hG1 hG2 hS hR hF1 hF2 hP0 hB
  generalize Reg.put L13 = PB at *
  replace hT := Lib.hid hT
  replace hP := Lib.hid hP
  replace hG1 := Lib.hid hG1
  replace hG2 := Lib.hid hG2
  replace hS := Lib.hid hS
  replace hR := Lib.hid hR
  replace hF1 := Lib.hid hF1
  replace hF2 := Lib.hid hF2
  replace hP0 := Lib.hid hP0
  replace hB := Lib.hid hB
  clear hok hq
  refine Qin [0] Tryz.func14 Tryz.results14 Tryz.ntmps14 ?_
  repeat' (first | (with_reducible first | refine Q1 ?_ | refine Qe ?_ | refine Ql ?_ | refine Q2 ?_ | refine Qs ?_ | refine Q4 ?_ | (refine al_go ?_; intro b) | fail) | refine Qc Tryz.call48 (hT.out _) ?_ | (refine QE Tryz.call19 (hP.out _) ?_; intro o1 ho1) | refine QL Tryz.call25 (hG1.out _) ?_ | refine QL Tryz.call25 (hG2.out _) ?_ | refine QL Tryz.call23 (hS.out _) ?_ | refine QL Tryz.call16 (hR.out _) ?_ | refine QL Tryz.call21 (hF1.out _) ?_ | refine QL Tryz.call21 (hF2.out _) ?_ | refine QL Tryz.call19 (hP0.out _) ?_ | refine QL Tryz.call18 (hB.out _) ?_ | (with_reducible first | (refine Qa ?_; intro o' ho') | (refine Qp ?_; intro o' ho') | refine Q5 ?_ | (refine Q3a ?_; intro hb; try intro hb1) | (refine Q3b ?_; intro hb; try intro hb1) | (refine Q3 ?_ ?_ <;> intro hb <;> try intro hb1) | fail) | fail)
  all_goals exact Qret
end Go.Proofs.YtgcienlfpnpbgaaGreat
end

section
namespace Go.Proofs.YtgcienlfpnpbgaaGreat
set_option linter.unusedSimpArgs false
open Go.RowKit
mutual
inductive Frz (g n cap : Nat) (es : List (List D)) : D → D → Prop
  | same (d : D) : Frz g n cap es d d
  | ar : Frz g n cap es (.ar g 0 n cap) (.sl .shared es)
  | agg (cs cs' : List D) (h : FrzL g n cap es cs cs') : Frz g n cap es (.agg cs) (.agg cs')
  | tup (cs cs' : List D) (h : FrzL g n cap es cs cs') : Frz g n cap es (.tup cs) (.tup cs')
inductive FrzL (g n cap : Nat) (es : List (List D)) : List D → List D → Prop
  | nil : FrzL g n cap es [] []
  | cons (d d' : D) (l l' : List D) (h : Frz g n cap es d d') (k : FrzL g n cap es l l') : FrzL g n cap es (d :: l) (d' :: l')
end
section
variable {g n cap : Nat} {es : List (List D)} {O O' : Nat → Nat → Prop} {w : World}
mutual
theorem Frz.rep (he : Ext O w O' w) (hr : ∀ v, Rep O w v (.ar g 0 n cap) → Rep O' w v (.sl .shared es)) : ∀ {d d' : D}, Frz g n cap es d d' → ∀ v, Rep O w v d → Rep O' w v d'
  | _, _, .same d, v, h => h.ext he
  | _, _, .ar, v, h => hr v h
  | _, _, .agg cs cs' k, v, h => by
    cases h with
    | agg us _ h1 h2 =>
      obtain ⟨q1, q2⟩ := FrzL.rep he hr k us ⟨h1, h2⟩
      exact .agg us cs' q1 q2
  | _, _, .tup cs cs' k, v, h => by
    cases h with
    | tup us _ h1 h2 =>
      obtain ⟨q1, q2⟩ := FrzL.rep he hr k us ⟨h1, h2⟩
      exact .tup us cs' q1 q2
theorem FrzL.rep (he : Ext O w O' w) (hr : ∀ v, Rep O w v (.ar g 0 n cap) → Rep O' w v (.sl .shared es)) : ∀ {l l' : List D}, FrzL g n cap es l l' → ∀ us, RepL O w us l → RepL O' w us l'
  | _, _, .nil, us, h => by
    obtain rfl := h.inv_nil
    exact .nil
  | _, _, .cons d d' l l' h k, us, hh => by
    obtain ⟨u, t, rfl, k1, k2⟩ := hh.inv_cons
    exact .cons (Frz.rep he hr h u k1) (FrzL.rep he hr k t k2)
end
theorem row_rest {el : TypeId} {zs : List D} {s0 : St} {sz : Nat} (hh : Holds (.box g el (es.flatten ++ zs) :: s0) w) (hsz : 0 < sz) (hes : ∀ e ∈ es, e.length = sz) (hn : es.length = n) (v : Value) (hv : Rep (OwnS (.box g el (es.flatten ++ zs) :: s0)) w v (.ar g 0 n cap)) : Rep (OwnS s0) w v (.sl .shared es) := by
  have hch : chop sz n ((es.flatten ++ zs).drop 0) = es := by
    rw [List.drop_zero, ← hn]
    exact chop_row zs es hes
  have hr := frozen .shared (.inl rfl) (sz := sz) hh hv hsz (by rw [List.length_append, flat_len hes, hn]; omega) (by intro h; cases h)
  rwa [hch] at hr
end
section
variable {P : Program} {f : FuncId} {args : List D} {st : St}
theorem TrF.rest {ι : Type} {el : TypeId} {sz : Nat} {p : ι → Prop} {es : ι → List (List D)} {g n cap : ι → Nat} {F F' : ι → D} {zs : ι → List D} {S : ι → St} (hsz : 0 < sz) (hes : ∀ i, p i → (∀ e ∈ es i, e.length = sz) ∧ (es i).length = n i) (hF : ∀ i, Frz (g i) (n i) (cap i) (es i) (F i) (F' i))
    (h : TrF P f args st fun d st' => ∃ i, p i ∧ d = F i ∧ st' = .box (g i) el ((es i).flatten ++ zs i) :: S i) : TrF P f args st fun d st' => ∃ i, p i ∧ d = F' i ∧ st' = S i := by
  intro vs w h1 h2
  refine (h vs w h1 h2).mono fun _ w' ⟨v, ev, d, s, k1, k2, k3, i, hi, e1, e2⟩ => ?_
  subst e1 e2
  have he := Ext.drop (st := .box (g i) el ((es i).flatten ++ zs i) :: S i) (st' := S i) (fun _ h => List.mem_cons_of_mem _ h) w'
  exact ⟨v, ev, _, S i, (hF i).rep he (row_rest k2 hsz (hes i hi).1 (hes i hi).2) v k1, k2.sub (List.sublist_cons_self _ _), k3.trans he, i, hi, rfl, rfl⟩
end
section
variable {P : Program} {N : Nat} {r : Option Nat} {A : AA} {st : St} {Q : Exit → AA → St → Prop}
theorem tr_rest {c : Code} {g b n cap sz : Nat} {el ty : TypeId} {es : List (List D)} {zs cs cs' : List D} {s : St} (hp : st.Perm (.box g el (es.flatten ++ zs) :: .box b ty cs :: s)) (hsz : 0 < sz) (hes : ∀ e ∈ es, e.length = sz) (hn : es.length = n) (hF : FrzL g n cap es cs cs') (hl : ∀ d ∈ cs', d.leaf = true) (h : Tr P N r c A (.box b ty cs' :: s) Q) : Tr P N r c A st Q := by
  refine tr_perm hp ?_
  intro a w h1 h2
  obtain ⟨⟨us, hb, hr⟩, hlc⟩ := h2.2 (.box b ty cs) (List.mem_cons_of_mem _ (List.mem_cons_self ..))
  have he := Ext.drop (st := .box g el (es.flatten ++ zs) :: .box b ty cs :: s) (st' := .box b ty cs :: s) (fun _ h => List.mem_cons_of_mem _ h) w
  have hO : OwnS (.box b ty cs :: s) = OwnS (.box b ty cs' :: s) := by
    funext b' off; apply propext
    rw [OwnS.cons_iff, OwnS.cons_iff]; exact Iff.rfl
  have h3 := h2.sub (List.sublist_cons_self (.box g el (es.flatten ++ zs)) (.box b ty cs :: s))
  have hr' := hF.rep he (row_rest h2 hsz hes hn) us.toList hr
  have h4 : Holds (.box b ty cs' :: s) w := by
    refine ⟨List.pairwise_cons.2 ⟨fun x hx b' hb' => (List.pairwise_cons.1 h3.1).1 x hx b' hb', (List.pairwise_cons.1 h3.1).2⟩, fun x hx => ?_⟩
    rcases List.mem_cons.1 hx with rfl | hx
    · exact ⟨⟨us, hb, by rw [← hO]; exact hr'⟩, hl⟩
    · rw [← hO]; exact h3.2 x (List.mem_cons_of_mem _ hx)
  rw [hO] at he
  exact wpIn_mono (h a w (h1.ext he) h4) fun _ _ _ => PostA.ext he
end
end Go.Proofs.YtgcienlfpnpbgaaGreat
end

section
namespace Go.Proofs.YtgcienlfpnpbgaaGreat
set_option linter.unusedSimpArgs false
attribute [local push_cast] encB encI encC V.cells_mk V.cells_len Nat.mul_one Int.sub_zero List.map_nil beq_self_eq_true List.head?_cons
open Go.RowKit
set_option maxRecDepth 10000
set_option maxHeartbeats 4000000
structure VQ (v : V) : Prop where
  ok : v.Ok
  nodes : v.nodes ≤ 1000
  deep : v.deep ≤ 1000
theorem refSoundF (s : Sl) (hv : VQ s.dv) (ht : -9223372036854775808 ≤ s.types ∧ s.types ≤ 9223372036854775807) (st : St) : TrF Tryz.prog 162 [.agg s.cells] st fun x st' => x = .b (Sch.sound s) ∧ st' = st := by
  have hN := Lib.hid (refIsNameF s.name)
  have hF : 0 ≤ s.types → Hid (∀ st, TrF Tryz.prog 190 [.agg s.cells, .agg s.dv.cells] st fun x st' => x = .b (Sch.fits s s.dv) ∧ st' = st) := fun h => refFits10F s s.dv hv.ok hv.nodes hv.deep ⟨h, ht.2⟩
  unfold Sch.sound Sch.takes
  cases s with
  | mk nm ty rq dv =>
  dsimp only at hN hF ht ⊢
  generalize V.isName nm.data.toList = q1 at *
  generalize Sch.fits (Sl.mk nm ty rq dv) dv = q3 at *
  clear hv
  cases dv with
  | mk k n s l =>
  rw [Sl.cells_mk] at *
  rw [V.cells_mk] at hF
  by_cases h1 : 0 < ty
  · have hF2 := hF (by omega)
    clear hF
    by_cases h2 : ty < 64
    · rw [decide_eq_true (show 1 ≤ ty by omega), decide_eq_true (show ty ≤ 63 by omega)]
      cases q1 <;> cases q3
      all_goals skip
      all_goals (
        refine Qin [2] Tryz.func162 Tryz.results162 Tryz.ntmps162 ?_
        repeat' (first | (with_reducible first | refine Q1 ?_ | refine Qe ?_ | refine Ql ?_ | refine Q2 ?_ | refine Qs ?_ | refine Q4 ?_ | (refine al_go ?_; intro b) | fail) | refine Qc Tryz.call89 (hN.out _) ?_ | refine Qc Tryz.call190 (hF2.out _) ?_ | (with_reducible first | refine Q5 ?_ | (refine Q3a ?_; intro hb; try intro hb1) | (refine Q3b ?_; intro hb; try intro hb1) | (refine Q3 ?_ ?_ <;> intro hb <;> try intro hb1) | fail) | fail)
        all_goals exact Qret)
    · rw [decide_eq_false (show ¬ ty ≤ 63 by omega), Bool.and_false, Bool.and_false, Bool.false_and]
      clear hF2
      cases q1
      all_goals skip
      all_goals (
        refine Qin [2] Tryz.func162 Tryz.results162 Tryz.ntmps162 ?_
        repeat' (first | (with_reducible first | refine Q1 ?_ | refine Qe ?_ | refine Ql ?_ | refine Q2 ?_ | refine Qs ?_ | refine Q4 ?_ | (refine al_go ?_; intro b) | fail) | refine Qc Tryz.call89 (hN.out _) ?_ | (with_reducible first | refine Q5 ?_ | (refine Q3a ?_; intro hb; try intro hb1) | (refine Q3b ?_; intro hb; try intro hb1) | (refine Q3 ?_ ?_ <;> intro hb <;> try intro hb1) | fail) | fail)
        all_goals exact Qret)
  · rw [decide_eq_false (show ¬ 1 ≤ ty by omega), Bool.false_and, Bool.and_false, Bool.false_and]
    clear hF
    cases q1
    all_goals skip
    all_goals (
      refine Qin [2] Tryz.func162 Tryz.results162 Tryz.ntmps162 ?_
      repeat' (first | (with_reducible first | refine Q1 ?_ | refine Qe ?_ | refine Ql ?_ | refine Q2 ?_ | refine Qs ?_ | refine Q4 ?_ | (refine al_go ?_; intro b) | fail) | refine Qc Tryz.call89 (hN.out _) ?_ | (with_reducible first | refine Q5 ?_ | (refine Q3a ?_; intro hb; try intro hb1) | (refine Q3b ?_; intro hb; try intro hb1) | (refine Q3 ?_ ?_ <;> intro hb <;> try intro hb1) | fail) | fail)
      all_goals exact Qret)
theorem refColF (slots : List Sl) (cols : List Nat) (name : ByteArray) (hl : slots.length ≤ 1000000) (hc : cols.length ≤ 1000000) (hcs : ∀ c ∈ cols, c < slots.length) (st : St) : TrF Tryz.prog 163 [.agg [.sl .shared (slots.map Sl.cells), .sl .shared (cols.map encC)], .str name] st fun x st' => x = .i (Sch.colL slots name cols) ∧ st' = st := by
  obtain ⟨B, hB⟩ : ∃ B, Sch.colL slots name cols = B := ⟨_, rfl⟩
  have HB : Hid (Sch.colL slots name (cols.drop 0) = B) := hB
  rw [hB]
  clear hB
  have hcs2 := Lib.hid hcs
  clear hcs
  refine Qin [4] Tryz.func163 Tryz.results163 Tryz.ntmps163 ?_
  repeat' (with_reducible first | refine Q1 ?_ | refine Qe ?_ | refine Ql ?_ | refine Q2 ?_ | refine Qs ?_ | refine Q4 ?_ | (refine al_go ?_; intro b) | refine Q5 ?_ | (refine Q3a ?_; intro hb; try intro hb1) | (refine Q3b ?_; intro hb; try intro hb1) | (refine Q3 ?_ ?_ <;> intro hb <;> try intro hb1) | fail)
  refine tr_loop (ι := Nat) (fun i A st' => i ≤ cols.length ∧ Hid (Sch.colL slots name (cols.drop i) = B) ∧ A.df = [] ∧ A.e 1 = .str name ∧ A.e 2 = .ip [.sl .shared (slots.map Sl.cells), .sl .shared (cols.map encC)] ∧ A.e 5 = .i i ∧ st = st') (fun i => cols.length - i) 0 ⟨Nat.zero_le _, HB, Qf, Qf, Qf, Qf, rfl⟩ ?_
  rintro i A st' ⟨hi, HT, hdf, e1, e2, e5, rfl⟩
  clear HB
  by_cases hlt : i < cols.length
  · obtain ⟨c, hx⟩ : ∃ c, cols[i]? = some c := ⟨_, List.getElem?_eq_getElem hlt⟩
    have hcs := hcs2.out c (List.mem_of_getElem? hx)
    have HE := HT.out
    rw [colL_drop hx] at HE
    clear HT
    obtain ⟨s, hs⟩ : ∃ s, slots[c]? = some s := ⟨_, List.getElem?_eq_getElem hcs⟩
    cases s with
    | mk nm ty rq dv =>
    cases dv with
    | mk k n sv l =>
    obtain ⟨q, hq⟩ : ∃ q, (nm.toList == name.toList) = q := ⟨_, rfl⟩
    have hnm : Sch.named slots name c = q := by
      unfold Sch.named
      rw [hs, ← hq]; rfl
    rw [hnm] at HE
    clear hnm
    have hcell : (slots.map Sl.cells)[c]? = some [.str nm, .i ty, .b rq, .i k, .i n, .str sv, .sl .shared (l.map V.cells)] := by
      rw [List.getElem?_map, hs, ← Sl.cells_mk]; rfl
    clear hs
    have hsl : (slots.map Sl.cells).length = slots.length := List.length_map ..
    generalize slots.map Sl.cells = SL at *
    cases q with
    | true =>
      rw [if_pos rfl] at HE
      rw [← HE]
      clear HE
      repeat' (with_reducible first | refine Q1 ?_ | refine Qe ?_ | refine Ql ?_ | refine Q2 ?_ | refine Qs ?_ | refine Q4 ?_ | (refine al_go ?_; intro b) | refine Q5 ?_ | (refine Q3a ?_; intro hb; try intro hb1) | (refine Q3b ?_; intro hb; try intro hb1) | (refine Q3 ?_ ?_ <;> intro hb <;> try intro hb1) | fail)
      all_goals exact Qret
    | false =>
      rw [if_neg (by decide)] at HE
      replace HE := Lib.hid HE
      repeat' (with_reducible first | refine Q1 ?_ | refine Qe ?_ | refine Ql ?_ | refine Q2 ?_ | refine Qs ?_ | refine Q4 ?_ | (refine al_go ?_; intro b) | refine Q5 ?_ | (refine Q3a ?_; intro hb; try intro hb1) | (refine Q3b ?_; intro hb; try intro hb1) | (refine Q3 ?_ ?_ <;> intro hb <;> try intro hb1) | fail)
      refine ⟨i + 1, ⟨hlt, HE, ?_, ?_, ?_, ?_, rfl⟩, ?_⟩
      all_goals exact Qf
  · have HE := HT.out
    rw [List.drop_of_length_le (by omega), Sch.colL] at HE
    rw [← HE]
    clear HE HT
    repeat' (with_reducible first | refine Q1 ?_ | refine Qe ?_ | refine Ql ?_ | refine Q2 ?_ | refine Qs ?_ | refine Q4 ?_ | (refine al_go ?_; intro b) | refine Q5 ?_ | (refine Q3a ?_; intro hb; try intro hb1) | (refine Q3b ?_; intro hb; try intro hb1) | (refine Q3 ?_ ?_ <;> intro hb <;> try intro hb1) | fail)
    all_goals exact Qret
def CopyR (x : Vr) (st : St) (d : D) (st' : St) : Prop := ∃ gs cS zS gc cC zC, VL cS zS cC zC x ∧ d = .agg [.ar gs 0 x.slots.length cS, .ar gc 0 x.cols.length cC] ∧ st' = .box gc 3 (colC x.cols ++ zC) :: .box gs 75 (slotC x.slots ++ zS) :: st
theorem refCopyF (x : Vr) (h1 : 1 ≤ x.slots.length) (h2 : 1 ≤ x.cols.length) (hl : x.slots.length ≤ 1000) (hc : x.cols.length ≤ 1000) (st : St) : TrF Tryz.prog 195 [.agg x.cells] st (CopyR x st) := by
  unfold CopyR VL Vr.cells
  have e1 := Lib.hid (slots_each x.slots)
  have e2 := Lib.hid (cols_each x.cols)
  have l1 : Hid ((x.slots.map Sl.cells).length = x.slots.length) := List.length_map ..
  have l2 : Hid ((x.cols.map encC).length = x.cols.length) := List.length_map ..
  have f1 : Hid ((x.slots.map Sl.cells).flatten = slotC x.slots) := rfl
  have f2 : Hid ((x.cols.map encC).flatten = colC x.cols) := rfl
  generalize slotC x.slots = R1 at *
  generalize colC x.cols = R2 at *
  generalize x.slots.map Sl.cells = L1 at *
  generalize x.cols.map encC = L2 at *
  generalize x.slots.length = m1 at *
  generalize x.cols.length = m2 at *
  refine trF_enterG (G := cellA 2 147 Tryz.prog) Tryz.func195 rfl (by rw [Tryz.ntmps195]; exact Nat.le_of_ble_eq_true rfl) (fun h1 h2 h3 => res_cell rfl h1 h2 h3) ?_
  simp only [Tryz.ntmps195]
  repeat' (first | (with_reducible first | refine Q1 ?_ | refine Qe ?_ | fail) | with_reducible refine s_appN ?_ | with_reducible refine rn_go ?_ | ((with_reducible apply (rn2_go (ys := L1))); (focus (have := l1.out; omega)); (focus exact e1.out); (focus (have := l1.out; omega)); (focus (have := l1.out; omega)); intro gl1 cl1 zl1 hcl1 hll1) | ((with_reducible apply (rn2_go (ys := L2))); (focus (have := l2.out; omega)); (focus exact e2.out); (focus (have := l2.out; omega)); (focus (have := l2.out; omega)); intro gl2 cl2 zl2 hcl2 hll2) | (with_reducible first | refine Ql ?_ | refine Q2 ?_ | refine Qs ?_ | refine Q4 ?_ | (refine al_go ?_; intro b) | refine Q5 ?_ | (refine Q3a ?_; intro hb; try intro hb1) | (refine Q3b ?_; intro hb; try intro hb1) | (refine Q3 ?_ ?_ <;> intro hb <;> try intro hb1) | fail) | fail)
  rw [l1.out] at *
  rw [l2.out] at *
  rw [f1.out] at *
  rw [f2.out] at *
  refine retG_mk (rs := []) (by first | exact .inl rfl | exact .inr rfl) (by first | rfl | assumption) (List.Perm.refl _) (cell_mk (by simp (disch := omega) only [push_cast, simprocAttr, *]; exact rfl) (by repeat (first | exact mm_h | apply mm_t)) (by simp (disch := omega) only [push_cast, simprocAttr, *]; exact rfl) (by (try simp (disch := omega) only [push_cast, simprocAttr, *]); (try exact rfl); done)) (by (repeat (first | exact List.Sublist.refl _ | with_reducible apply List.Sublist.cons_cons | apply List.Sublist.cons))) (LE.refl _) ⟨gl1, cl1, zl1, gl2, cl2, zl2, ⟨hll1, hll2⟩, rfl, rfl⟩
def Sch.restV (s : Stp) : Bool :=
  if s.kind = 1 then decide (s.order.length = 0) && (s.col == 0)
  else if s.kind = 2 then bare s.slot false false && decide (s.order.length = 0)
  else if s.kind = 3 then bare s.slot true false && decide (s.order.length = 0)
  else if s.kind = 4 then bare s.slot false true && decide (s.order.length = 0)
  else bare s.slot false false && (s.col == 0)
theorem refRestF (s : Stp) (hv : s.slot.dv.Ok) (hk : 1 ≤ s.kind ∧ s.kind ≤ 5) (ho : s.order.length ≤ 1000) (st : St) : TrF Tryz.prog 196 [.agg s.cells] st fun x st' => x = .b (Sch.restV s) ∧ st' = st := by
  have hS := refSameF s.slot.dv Sch.zeroV hv
  unfold Sch.restV Sch.bare Stp.cells
  cases s with
  | mk kd col slot order =>
  cases slot with
  | mk nm ty rq dv =>
  dsimp only at hS hk ho ⊢
  have hE := isE_eq nm
  generalize decide (nm.size = 0) = q1 at *
  generalize (dv.cmp Sch.zeroV == 0) = q3 at *
  unfold Sch.zeroV at hS
  clear hv
  cases dv with
  | mk k n sv l =>
  rw [V.cells_mk, V.cells_mk, List.map_nil] at hS
  rw [Sl.cells_mk]
  dsimp only [List.cons_append, List.nil_append]
  replace hS := Lib.hid hS
  obtain ⟨q2, h2⟩ : ∃ q2, (ty == 0) = q2 := ⟨_, rfl⟩
  have h2' : (ty != 0) = !q2 := by rw [← h2]; rfl
  rw [h2]
  have hno : (order.length = 0 ∧ ¬ (0 : Int) < order.length) ∨ (order.length ≠ 0 ∧ (0 : Int) < order.length) := by omega
  obtain ⟨hk1, hk2⟩ := hk
  have hkk : kd = 1 ∨ kd = 2 ∨ kd = 3 ∨ kd = 4 ∨ kd = 5 := by omega
  clear hk1 hk2
  rcases hno with ⟨h0, h0'⟩ | ⟨h0, h0'⟩
  · simp only [h0, decide_true, Bool.and_true, Bool.true_and]
    replace h0 := Lib.hid h0
    rcases hkk with rfl | rfl | rfl | rfl | rfl
    all_goals skip
    all_goals (
      refine Qin [2] Tryz.func196 Tryz.results196 Tryz.ntmps196 ?_
      repeat' (first | (with_reducible first | refine Q1 ?_ | refine Qe ?_ | refine Ql ?_ | refine Q2 ?_ | refine Qs ?_ | refine Q4 ?_ | (refine al_go ?_; intro b) | fail) | refine QL Tryz.call111 (hS.out _) ?_ | (with_reducible first | refine Q5 ?_ | (refine Q3a ?_; intro hb; try intro hb1) | (refine Q3b ?_; intro hb; try intro hb1) | (refine Q3 ?_ ?_ <;> intro hb <;> try intro hb1) | fail) | fail)
      all_goals (refine Qret (hd := ?_); (try simp (disch := omega) only [push_cast, simprocAttr, *]); try (first | exact LE.refl _ | exact LE.sl _ _ | ((first | refine LE.tup ?_ | refine LE.agg ?_); (repeat' (first | exact LEL.nil | refine LEL.cons ?_ ?_ | exact LE.refl _ | exact LE.sl _ _ | refine LE.agg ?_)); done) | refine LE.of_eq ?_))
      all_goals (first | done | (simp_all; done)))
  · simp only [h0, decide_false, Bool.and_false, Bool.false_and]
    replace h0 := Lib.hid h0
    rcases hkk with rfl | rfl | rfl | rfl | rfl
    all_goals skip
    all_goals (
      refine Qin [2] Tryz.func196 Tryz.results196 Tryz.ntmps196 ?_
      repeat' (first | (with_reducible first | refine Q1 ?_ | refine Qe ?_ | refine Ql ?_ | refine Q2 ?_ | refine Qs ?_ | refine Q4 ?_ | (refine al_go ?_; intro b) | fail) | refine QL Tryz.call111 (hS.out _) ?_ | (with_reducible first | refine Q5 ?_ | (refine Q3a ?_; intro hb; try intro hb1) | (refine Q3b ?_; intro hb; try intro hb1) | (refine Q3 ?_ ?_ <;> intro hb <;> try intro hb1) | fail) | fail)
      all_goals (refine Qret (hd := ?_); (try simp (disch := omega) only [push_cast, simprocAttr, *]); try (first | exact LE.refl _ | exact LE.sl _ _ | ((first | refine LE.tup ?_ | refine LE.agg ?_); (repeat' (first | exact LEL.nil | refine LEL.cons ?_ ?_ | exact LE.refl _ | exact LE.sl _ _ | refine LE.agg ?_)); done) | refine LE.of_eq ?_))
      all_goals (first | done | (simp_all; done)))
end Go.Proofs.YtgcienlfpnpbgaaGreat
end

section
namespace Go.Proofs.YtgcienlfpnpbgaaGreat
set_option linter.unusedSimpArgs false
attribute [local push_cast] encB encI encC V.cells_mk V.cells_len Nat.mul_one Int.sub_zero List.map_nil beq_self_eq_true List.head?_cons
open Go.RowKit
set_option maxRecDepth 10000
set_option maxHeartbeats 4000000
abbrev RI := Nat × Nat × List D
theorem refCopySF (x : Vr) (h1 : 1 ≤ x.slots.length) (h2 : 1 ≤ x.cols.length) (hl : x.slots.length ≤ 1000) (hc : x.cols.length ≤ 1000) (st : St) : TrF Tryz.prog 195 [.agg x.cells] st fun d st' => ∃ i : Nat × Nat × List D, (slotC x.slots ++ i.2.2).length = i.2.1 * 7 ∧ d = .agg [.ar i.1 0 x.slots.length i.2.1, .sl .shared (x.cols.map encC)] ∧ st' = .box i.1 75 (slotC x.slots ++ i.2.2) :: st := by
  have h := (refCopyF x h1 h2 hl hc st).mono (R' := fun d st' => ∃ i : (Nat × Nat × List D) × (Nat × Nat × List D), VL i.1.2.1 i.1.2.2 i.2.2.1 i.2.2.2 x ∧ d = .agg [.ar i.1.1 0 x.slots.length i.1.2.1, .ar i.2.1 0 x.cols.length i.2.2.1] ∧ st' = .box i.2.1 3 ((x.cols.map encC).flatten ++ i.2.2.2) :: .box i.1.1 75 (slotC x.slots ++ i.1.2.2) :: st) (fun d st' ⟨gs, cS, zS, gc, cC, zC, k1, k2, k3⟩ => ⟨((gs, cS, zS), (gc, cC, zC)), k1, k2, k3⟩)
  have h' := TrF.rest (ι := RI × RI) (g := fun i => i.2.1) (n := fun _ => x.cols.length) (cap := fun i => i.2.2.1) (es := fun _ => x.cols.map encC) (F' := fun i => .agg [.ar i.1.1 0 x.slots.length i.1.2.1, .sl .shared (x.cols.map encC)]) (sz := 1) (by decide) (fun i _ => ⟨cols_each x.cols, List.length_map ..⟩) (fun i => .agg _ _ (.cons _ _ _ _ (.same _) (.cons _ _ _ _ .ar .nil))) h
  exact h'.mono fun d st' ⟨i, k1, k2, k3⟩ => ⟨i.1, k1.1, k2, k3⟩
theorem refCopyAF (x : Vr) (h1 : 1 ≤ x.slots.length) (h2 : 1 ≤ x.cols.length) (hl : x.slots.length ≤ 1000) (hc : x.cols.length ≤ 1000) (st : St) : TrF Tryz.prog 195 [.agg x.cells] st fun d st' => d = .agg x.cells ∧ st' = st := by
  have h' := TrF.rest (ι := RI) (el := 75) (p := fun i : Nat × Nat × List D => (slotC x.slots ++ i.2.2).length = i.2.1 * 7) (g := fun i => i.1) (n := fun _ => x.slots.length) (cap := fun i => i.2.1) (es := fun _ => x.slots.map Sl.cells) (F := fun i => .agg [.ar i.1 0 x.slots.length i.2.1, .sl .shared (x.cols.map encC)]) (zs := fun i => i.2.2) (S := fun _ => st) (F' := fun _ => .agg x.cells) (sz := 7) (by decide) (fun i _ => ⟨slots_each x.slots, List.length_map ..⟩) (fun i => .agg _ _ (.cons _ _ _ _ .ar (.cons _ _ _ _ (.same _) .nil))) (refCopySF x h1 h2 hl hc st)
  exact h'.mono fun d st' ⟨i, k1, k2, k3⟩ => ⟨k2, k3⟩
theorem refCopyCF (x : Vr) (h1 : 1 ≤ x.slots.length) (h2 : 1 ≤ x.cols.length) (hl : x.slots.length ≤ 1000) (hc : x.cols.length ≤ 1000) (st : St) : TrF Tryz.prog 195 [.agg x.cells] st fun d st' => ∃ i : Nat × Nat × List D, (colC x.cols ++ i.2.2).length = i.2.1 * 1 ∧ d = .agg [.sl .shared (x.slots.map Sl.cells), .ar i.1 0 x.cols.length i.2.1] ∧ st' = .box i.1 3 (colC x.cols ++ i.2.2) :: st := by
  intro vs w q1 q2
  refine (refCopyF x h1 h2 hl hc st vs w q1 q2).mono fun _ w' ⟨v, ev, d, s, k1, k2, k3, gs, cS, zS, gc, cC, zC, k4, e1, e2⟩ => ?_
  subst e1 e2
  have hp : (Res.box gc 3 (colC x.cols ++ zC) :: .box gs 75 (slotC x.slots ++ zS) :: st).Perm (.box gs 75 (slotC x.slots ++ zS) :: .box gc 3 (colC x.cols ++ zC) :: st) := .swap _ _ _
  have e := OwnS.perm hp
  have k2' := k2.perm hp
  have he := Ext.drop (st := .box gs 75 (slotC x.slots ++ zS) :: .box gc 3 (colC x.cols ++ zC) :: st) (st' := .box gc 3 (colC x.cols ++ zC) :: st) (fun _ h => List.mem_cons_of_mem _ h) w'
  rw [e] at k1 k3
  refine ⟨v, ev, .agg [.sl .shared (x.slots.map Sl.cells), .ar gc 0 x.cols.length cC], _, ?_, k2'.sub (List.sublist_cons_self _ _), k3.trans he, (gc, cC, zC), k4.2, rfl, rfl⟩
  exact (Frz.agg (g := gs) (n := x.slots.length) (cap := cS) (es := x.slots.map Sl.cells) _ _ (.cons _ _ _ _ .ar (.cons _ _ _ _ (.same _) .nil))).rep he (row_rest k2' (by decide) (slots_each x.slots) (List.length_map ..)) v k1
def RefStepR (x : Vr) (s : Stp) (st : St) (d : D) (st' : St) : Prop :=
  (Sch.stepV x s = none ∧ ∃ X1 X2, d = .tup [.agg [.sl .shared X1, .sl .shared X2], .b false] ∧ st' = st) ∨ ∃ y, Sch.stepV x s = some y ∧ d = .tup [.agg y.cells, .b true] ∧ st' = st
structure RefP (x : Vr) (s : Stp) : Prop where
  vi : Sch.VI 1000 x
  q : VQ s.slot.dv
  ty : -9223372036854775808 ≤ s.slot.types ∧ s.slot.types ≤ 9223372036854775807
  ord : s.order.length ≤ 1000
abbrev retR (o1 o2 : Own) (L1 L2 : List (List D)) (ok : Bool) : LE (.tup [.agg [.sl o1 L1, .sl o2 L2], .b ok]) (.tup [.agg [.sl .shared L1, .sl .shared L2], .b ok]) := LE.tup (l := [.agg [.sl o1 L1, .sl o2 L2], .b ok]) ⟨LE.agg (l := [.sl o1 L1, .sl o2 L2]) ⟨LE.sl _ _, LE.sl _ _, trivial⟩, LE.refl _, trivial⟩
theorem copyR_ex (x : Vr) (st : St) : ∃ d st', CopyR x st d st' := ⟨_, _, 0, x.slots.length, [], 0, x.cols.length, [], ⟨by rw [List.append_nil, slotC_len], by rw [List.append_nil, colC_len]⟩, rfl, rfl⟩
def Raw2 (x : Vr) (s : Stp) (st : St) (d : D) (st' : St) : Prop := ∃ i : (Bool × Vr) × (Nat × Nat × List D) × (Nat × Nat × List D), (Sch.stepV x s = if i.1.1 then some i.1.2 else none) ∧ d = .tup [.agg [.ar i.2.1.1 0 i.1.2.slots.length i.2.1.2.1, .ar i.2.2.1 0 i.1.2.cols.length i.2.2.2.1], .b i.1.1] ∧ st' = .box i.2.1.1 75 ((i.1.2.slots.map Sl.cells).flatten ++ i.2.1.2.2) :: .box i.2.2.1 3 ((i.1.2.cols.map encC).flatten ++ i.2.2.2.2) :: st
theorem raw2_rest {x : Vr} {s : Stp} {st : St} {f : FuncId} {args : List D} (h : TrF Tryz.prog f args st (Raw2 x s st)) : TrF Tryz.prog f args st (RefStepR x s st) := by
  have h1 := TrF.rest (ι := (Bool × Vr) × RI × RI) (g := fun i => i.2.1.1) (n := fun i => i.1.2.slots.length) (cap := fun i => i.2.1.2.1) (es := fun i => i.1.2.slots.map Sl.cells) (F' := fun i => .tup [.agg [.sl .shared (i.1.2.slots.map Sl.cells), .ar i.2.2.1 0 i.1.2.cols.length i.2.2.2.1], .b i.1.1]) (sz := 7) (by decide) (fun i _ => ⟨slots_each i.1.2.slots, List.length_map ..⟩) (fun i => .tup _ _ (.cons _ _ _ _ (.agg _ _ (.cons _ _ _ _ .ar (.cons _ _ _ _ (.same _) .nil))) (.cons _ _ _ _ (.same _) .nil))) h
  have h2 := TrF.rest (ι := (Bool × Vr) × RI × RI) (g := fun i => i.2.2.1) (n := fun i => i.1.2.cols.length) (cap := fun i => i.2.2.2.1) (es := fun i => i.1.2.cols.map encC) (F' := fun i => .tup [.agg i.1.2.cells, .b i.1.1]) (sz := 1) (by decide) (fun i _ => ⟨cols_each i.1.2.cols, List.length_map ..⟩) (fun i => .tup _ _ (.cons _ _ _ _ (.agg _ _ (.cons _ _ _ _ (.same _) (.cons _ _ _ _ .ar .nil))) (.cons _ _ _ _ (.same _) .nil))) h1
  refine h2.mono fun d st' ⟨i, k1, k2, k3⟩ => ?_
  obtain ⟨⟨ok, y⟩, i2⟩ := i
  cases ok with
  | true => exact .inr ⟨y, k1, k2, k3⟩
  | false => exact .inl ⟨k1, _, _, k2, k3⟩
theorem perm_321 (a b c : Res) (l : St) : (a :: b :: c :: l).Perm (c :: b :: a :: l) := (List.Perm.cons a (.swap c b l)).trans ((List.Perm.swap c a (b :: l)).trans (.cons c (.swap b a l)))
theorem refAddF (x : Vr) (s : Stp) (h : RefP x s) (hk : s.kind = 1) (st : St) : TrF Tryz.prog 164 [.agg x.cells, .agg s.cells] st (RefStepR x s st) := by
  refine raw2_rest ?_
  obtain ⟨⟨hl, hp, hcp, hcl, hcs⟩, hq, hty, ho⟩ := h
  have hC := refCopyF x hp hcp hl (by omega)
  have hE := copyR_ex x
  have hR := refRestF s hq.ok (by omega) ho
  have hS := refSoundF s.slot hq hty
  have hL := refColF x.slots x.cols s.slot.name (by omega) (by omega) hcs []
  have hF : Hid (Sch.stepV x s = if s.col = 0 ∧ s.order.length = 0 ∧ x.cols.length < 8 ∧ Sch.sound s.slot = true ∧ s.slot.req = false ∧ Sch.colL x.slots s.slot.name x.cols < 0 then some ⟨x.slots ++ [s.slot], x.cols ++ [x.slots.length]⟩ else none) := Lib.hid (by unfold Sch.stepV; rw [if_pos hk]; rfl)
  have hrv : Sch.restV s = (decide (s.order.length = 0) && (s.col == 0)) := by unfold Sch.restV; rw [if_pos hk]
  rw [hrv] at hR
  clear hrv
  unfold Raw2
  unfold CopyR VL at hC hE
  have hr1 := slotC_len x.slots
  have hr2 := colC_len x.cols
  have e1 := Lib.hid (slots_each x.slots)
  have e2 := Lib.hid (cols_each x.cols)
  have f1 : Hid ((x.slots.map Sl.cells).flatten = slotC x.slots) := rfl
  have f2 : Hid ((x.cols.map encC).flatten = colC x.cols) := rfl
  have l1 : Hid ((x.slots.map Sl.cells).length = x.slots.length) := List.length_map ..
  have l2 : Hid ((x.cols.map encC).length = x.cols.length) := List.length_map ..
  obtain ⟨y, hy⟩ : ∃ y : Vr, y = ⟨x.slots ++ [s.slot], x.cols ++ [x.slots.length]⟩ := ⟨_, rfl⟩
  have g1 : Hid ((y.slots.map Sl.cells).flatten = slotC x.slots ++ [s.slot.cells].flatten) := Lib.hid (by rw [hy, ← slotC_add]; rfl)
  have g2 : Hid ((y.cols.map encC).flatten = colC x.cols ++ [[.i x.slots.length]].flatten) := Lib.hid (by rw [hy, ← colC_add]; rfl)
  have g3 : Hid (y.slots.length = x.slots.length + 1) := Lib.hid (by rw [hy]; simp)
  have g4 : Hid (y.cols.length = x.cols.length + 1) := Lib.hid (by rw [hy]; simp)
  rw [← hy] at hF
  unfold Vr.cells Stp.cells at *
  clear hy hcs hq hty
  generalize Sch.stepV x s = F at *
  cases s with
  | mk kd col slot order =>
  cases slot with
  | mk nm ty rq dv =>
  cases dv with
  | mk k n sv lv =>
  dsimp only at hC hE hR hS hL hF hk ho g1 ⊢
  subst hk
  generalize Sch.sound _ = q at *
  generalize Sch.colL _ _ _ = cv at *
  rw [Sl.cells_mk] at *
  dsimp only [List.cons_append, List.nil_append] at *
  obtain ⟨R1, r1e⟩ : ∃ R1, slotC x.slots = R1 := ⟨_, rfl⟩
  obtain ⟨R2, r2e⟩ : ∃ R2, colC x.cols = R2 := ⟨_, rfl⟩
  obtain ⟨m1, m1e⟩ : ∃ m1, x.slots.length = m1 := ⟨_, rfl⟩
  obtain ⟨m2, m2e⟩ : ∃ m2, x.cols.length = m2 := ⟨_, rfl⟩
  generalize hL1 : x.slots.map Sl.cells = L1 at *
  generalize hL2 : x.cols.map encC = L2 at *
  simp only [r1e, r2e, m1e, m2e] at hC hE hr1 hr2 f1 f2 l1 l2 g1 g2 g3 g4 hF hp hl hcp hcl
  replace r1e : Hid ((x.slots.map Sl.cells).flatten = R1) := r1e
  replace r2e : Hid ((x.cols.map encC).flatten = R2) := r2e
  replace m1e := Lib.hid m1e
  replace m2e := Lib.hid m2e
  replace hL1 := Lib.hid hL1
  replace hL2 := Lib.hid hL2
  replace hC := Lib.hid hC
  replace hE := Lib.hid hE
  replace hS := Lib.hid hS
  replace hL := Lib.hid hL
  have hol : (decide (order.length = 0) && (col == 0)) = true ∨ (decide (order.length = 0) && (col == 0)) = false := by
    cases (decide (order.length = 0) && (col == 0)) <;> simp
  rcases hol with hrr | hrr
  · rw [hrr] at hR
    replace hR := Lib.hid hR
    rw [Bool.and_eq_true, decide_eq_true_eq, beq_iff_eq] at hrr
    obtain ⟨h01, rfl⟩ := hrr
    refine trF_enterG (G := twoA Tryz.prog (.cell 4 147) (.tmp 5)) Tryz.func164 rfl (by rw [Tryz.ntmps164]; exact Nat.le_of_ble_eq_true rfl) (fun h1 h2 h3 => res_two rfl h1 h2 h3) ?_
    simp only [Tryz.ntmps164]
    repeat' (first | (with_reducible first | refine Q1 ?_ | refine Qe ?_ | fail) | with_reducible refine s_appR ?_ | with_reducible refine rk_go ?_ | ((with_reducible apply (r2_go hr1 hz1)); (focus (intro g' cs'; repeat (first | exact ra_h | apply ra_t))); (focus exact len_one rfl); (focus (simp only [List.length_cons, List.length_nil]; omega)); (focus (simp only [List.length_cons, List.length_nil]; omega)); intro gs' cS' zS' hcs hls) | ((with_reducible apply (r2_go hr2 hz2)); (focus (intro g' cs'; repeat (first | exact ra_h | apply ra_t))); (focus exact len_one rfl); (focus (simp only [List.length_cons, List.length_nil]; omega)); (focus (simp only [List.length_cons, List.length_nil]; omega)); intro gc' cC' zC' hcc hlc) | (with_reducible first | refine Ql ?_ | refine Q2 ?_ | refine Qs ?_ | refine Q4 ?_ | (refine al_go ?_; intro b) | fail) | ((with_reducible apply (ck_gen Tryz.call195)); (focus exact List.Perm.refl _); (focus exact hC.out _); (focus exact LEL.refl _); (focus exact hE.out _); (rintro d st' ⟨gs, cS, zS, gc, cC, zC, ⟨hz1, hz2⟩, rfl, rfl⟩)) | refine Qc Tryz.call196 (hR.out _) ?_ | refine Qc Tryz.call162 (hS.out _) ?_ | ((with_reducible apply (ck_lend Tryz.call163)); (focus exact hL.out); (focus exact ⟨Lend.agg ⟨Lend.rowE (by repeat (first | exact mm_h | apply mm_t)) f1.out (by decide) e1.out l1.out, Lend.rowE (by repeat (first | exact mm_h | apply mm_t)) f2.out (by decide) e2.out l2.out, trivial⟩, Lend.refl _, trivial⟩)) | (with_reducible first | refine Q5 ?_ | (refine Q3a ?_; intro hb; try intro hb1) | (refine Q3b ?_; intro hb; try intro hb1) | (refine Q3 ?_ ?_ <;> intro hb <;> try intro hb1) | fail) | fail)
    all_goals first
      | ((refine retG_mk (rs := []) (by first | exact .inl rfl | exact .inr rfl) (by first | rfl | assumption) (perm_321 _ _ _ _) ⟨_, _, rfl, cell_mk (by simp (disch := omega) only [push_cast, simprocAttr, *]; exact rfl) (by repeat (first | exact mm_h | apply mm_t)) (by simp (disch := omega) only [push_cast, simprocAttr, *]; exact rfl) (by (try simp (disch := omega) only [push_cast, simprocAttr, *]); (try exact rfl); done), (by show _ = _; (try simp (disch := omega) only [push_cast, simprocAttr, *]); (try exact rfl); done)⟩ (((List.Sublist.refl _).cons _).cons _ |>.cons_cons _ |>.cons_cons _) (LE.refl _) ⟨((false, x), (gs, cS, zS), (gc, cC, zC)), ?_, by simp only [m1e.out, m2e.out], by simp only [r1e.out, r2e.out]⟩); (focus (rw [hF.out]; refine if_neg ?_; rintro ⟨h1, h2, h3, h4, h5, h6⟩; (first | omega | exact Bool.noConfusion (h4.symm.trans (by assumption) : true = false) | exact Bool.noConfusion (h5.symm.trans (by assumption) : false = true)))))
      | ((refine retG_mk (rs := []) (by first | exact .inl rfl | exact .inr rfl) (by first | rfl | assumption) (perm_321 _ _ _ _) ⟨_, _, rfl, cell_mk (by simp (disch := omega) only [push_cast, simprocAttr, *]; exact rfl) (by repeat (first | exact mm_h | apply mm_t)) (by simp (disch := omega) only [push_cast, simprocAttr, *]; exact rfl) (by (try simp (disch := omega) only [push_cast, simprocAttr, *]); (try exact rfl); done), (by show _ = _; (try simp (disch := omega) only [push_cast, simprocAttr, *]); (try exact rfl); done)⟩ (((List.Sublist.refl _).cons _).cons _ |>.cons_cons _ |>.cons_cons _) (LE.refl _) ⟨((true, y), (gs', cS', zS'), (gc', cC', zC')), ?_, by simp only [g3.out, g4.out], by simp only [g1.out, g2.out, (by assumption : rq = false)]⟩); (focus (rw [hF.out]; exact if_pos (by (try rw [h01]); refine ⟨rfl, rfl, ?_, ?_, ?_, ?_⟩ <;> first | assumption | omega))))
  · rw [hrr] at hR
    replace hR := Lib.hid hR
    have hFn : Hid (F = none) := Lib.hid (by
      rw [hF.out, if_neg]
      rintro ⟨h1, h2, -⟩
      rw [h1, h2] at hrr
      exact Bool.noConfusion hrr)
    clear hF hrr
    refine trF_enterG (G := twoA Tryz.prog (.cell 4 147) (.tmp 5)) Tryz.func164 rfl (by rw [Tryz.ntmps164]; exact Nat.le_of_ble_eq_true rfl) (fun h1 h2 h3 => res_two rfl h1 h2 h3) ?_
    simp only [Tryz.ntmps164]
    repeat' (first | (with_reducible first | refine Q1 ?_ | refine Qe ?_ | refine Ql ?_ | refine Q2 ?_ | refine Qs ?_ | refine Q4 ?_ | (refine al_go ?_; intro b) | fail) | ((with_reducible apply (ck_gen Tryz.call195)); (focus exact List.Perm.refl _); (focus exact hC.out _); (focus exact LEL.refl _); (focus exact hE.out _); (rintro d st' ⟨gs, cS, zS, gc, cC, zC, ⟨hz1, hz2⟩, rfl, rfl⟩)) | refine Qc Tryz.call196 (hR.out _) ?_ | (with_reducible first | refine Q5 ?_ | (refine Q3a ?_; intro hb; try intro hb1) | (refine Q3b ?_; intro hb; try intro hb1) | (refine Q3 ?_ ?_ <;> intro hb <;> try intro hb1) | fail) | fail)
    all_goals ((refine retG_mk (rs := []) (by first | exact .inl rfl | exact .inr rfl) (by first | rfl | assumption) (perm_321 _ _ _ _) ⟨_, _, rfl, cell_mk (by simp (disch := omega) only [push_cast, simprocAttr, *]; exact rfl) (by repeat (first | exact mm_h | apply mm_t)) (by simp (disch := omega) only [push_cast, simprocAttr, *]; exact rfl) (by (try simp (disch := omega) only [push_cast, simprocAttr, *]); (try exact rfl); done), (by show _ = _; (try simp (disch := omega) only [push_cast, simprocAttr, *]); (try exact rfl); done)⟩ (((List.Sublist.refl _).cons _).cons _ |>.cons_cons _ |>.cons_cons _) (LE.refl _) ⟨((false, x), (gs, cS, zS), (gc, cC, zC)), ?_, by simp only [m1e.out, m2e.out], by simp only [r1e.out, r2e.out]⟩); (focus (exact hFn.out)))
end Go.Proofs.YtgcienlfpnpbgaaGreat
end

section
namespace Go.Proofs.YtgcienlfpnpbgaaGreat
set_option linter.unusedSimpArgs false
attribute [local push_cast] encB encI encC V.cells_mk V.cells_len Nat.mul_one Int.sub_zero List.map_nil beq_self_eq_true List.head?_cons
open Go.RowKit
set_option maxRecDepth 10000
set_option maxHeartbeats 4000000
theorem refLoseF (x : Vr) (s : Stp) (h : RefP x s) (hk : s.kind = 2) (st : St) : TrF Tryz.prog 164 [.agg x.cells, .agg s.cells] st (RefStepR x s st) := by
  obtain ⟨⟨hl, hp, hcp, hcl, hcs⟩, hq, hty, ho⟩ := h
  have hC := refCopyAF x hp hcp hl (by omega)
  have hR := refRestF s hq.ok (by omega) ho
  have hF : Hid (Sch.stepV x s = if Sch.column x s = true ∧ Sch.bare s.slot false false = true ∧ x.cols.length ≠ 1 then some ⟨x.slots, x.cols.eraseIdx s.col.toNat⟩ else none) := Lib.hid (by unfold Sch.stepV; rw [if_neg (show ¬ s.kind = 1 by omega), if_pos hk]; rfl)
  have hrv : Sch.restV s = (Sch.bare s.slot false false && decide (s.order.length = 0)) := by unfold Sch.restV; rw [if_neg (show ¬ s.kind = 1 by omega), if_pos hk]
  rw [hrv] at hR
  clear hrv
  unfold RefStepR
  have l2 : (x.cols.map encC).length = x.cols.length := List.length_map ..
  have hEr : Hid (∀ c : Nat, c < x.cols.length → List.take c (x.cols.map encC) ++ List.take (x.cols.length - (c + 1)) (List.drop (c + 1) (x.cols.map encC)) = (x.cols.eraseIdx c).map encC) := fun c hc => by
    rw [List.eraseIdx_eq_take_drop_succ, List.map_append, List.map_take, List.map_drop, List.take_of_length_le (l := List.drop _ _) (by rw [List.length_drop, l2]; omega)]
  have hall : (x.cols.map encC).all (fun e => e.length == 1) = true := by
    rw [List.all_eq_true]
    intro e he
    obtain ⟨n, -, rfl⟩ := List.mem_map.1 he
    rfl
  have e2 := cols_each x.cols
  have ht1 : ∀ c : Nat, ∀ e ∈ List.take c (x.cols.map encC), e.length = 1 := fun c e he => e2 e (List.mem_of_mem_take he)
  have ht2 : ∀ a b : Nat, ∀ e ∈ List.take a (List.drop b (x.cols.map encC)), e.length = 1 := fun a b e he => e2 e (List.mem_of_mem_drop (List.mem_of_mem_take he))
  unfold Sch.column at hF
  by_cases hb : Sch.bare s.slot false false = true ∧ s.order.length = 0
  · obtain ⟨hb1, hb2⟩ := hb
    rw [hb1, hb2] at hR hF
    by_cases hcr : 0 ≤ s.col ∧ s.col < x.cols.length
    · obtain ⟨hc1, hc2⟩ := hcr
      obtain ⟨c, hcE⟩ := Int.eq_ofNat_of_zero_le hc1
      have hclt : c < x.cols.length := by omega
      by_cases hm : x.cols.length = 1
      · have hFn : Hid (Sch.stepV x s = none) := Lib.hid (by rw [hF.out, if_neg]; rintro ⟨-, -, h⟩; exact h hm)
        clear hF hEr hcs ht1 ht2
        unfold Vr.cells Stp.cells at *
        generalize Sch.stepV x s = F at *
        cases s with
        | mk kd col slot order =>
        cases slot with
        | mk nm ty rq dv =>
        cases dv with
        | mk k n sv lv =>
        dsimp only at hC hR hk ho hcE hb2 hc1 hc2 ⊢
        subst hk hcE
        rw [Sl.cells_mk] at *
        dsimp only [List.cons_append, List.nil_append] at *
        generalize x.slots.map Sl.cells = L1 at *
        generalize x.cols.map encC = L2 at *
        generalize x.cols.length = m2 at *
        replace hC := Lib.hid hC
        replace hR := Lib.hid hR
        replace hb1 := Lib.hid hb1
        replace hb2 := Lib.hid hb2
        refine trF_enterG (G := twoA Tryz.prog (.cell 4 147) (.tmp 5)) Tryz.func164 rfl (by rw [Tryz.ntmps164]; exact Nat.le_of_ble_eq_true rfl) (fun h1 h2 h3 => res_two rfl h1 h2 h3) ?_
        simp only [Tryz.ntmps164]
        repeat' (first | (with_reducible first | refine Q1 ?_ | refine Qe ?_ | refine Ql ?_ | refine Q2 ?_ | refine Qs ?_ | refine Q4 ?_ | (refine al_go ?_; intro b) | fail) | refine Qc Tryz.call195 (hC.out _) ?_ | refine Qc Tryz.call196 (hR.out _) ?_ | (with_reducible first | (refine Qa ?_; intro o' ho') | (refine Qp ?_; intro o' ho') | refine Q5 ?_ | (refine Q3a ?_; intro hb; try intro hb1) | (refine Q3b ?_; intro hb; try intro hb1) | (refine Q3 ?_ ?_ <;> intro hb <;> try intro hb1) | fail) | fail)
        all_goals (refine retG_mk (rs := []) (by first | exact .inl rfl | exact .inr rfl) (by first | rfl | assumption) (List.Perm.refl _) ⟨_, _, rfl, cell_mk (by simp (disch := omega) only [push_cast, simprocAttr, *]; exact rfl) (by repeat (first | exact mm_h | apply mm_t)) (by simp (disch := omega) only [push_cast, simprocAttr, *]; exact rfl) (by (try simp (disch := omega) only [push_cast, simprocAttr, *]); (try exact rfl); done), (by show _ = _; (try simp (disch := omega) only [push_cast, simprocAttr, *]); (try exact rfl); done)⟩ (by (repeat (first | exact List.Sublist.refl _ | with_reducible apply List.Sublist.cons_cons | apply List.Sublist.cons))) (LE.refl _) (.inl ⟨hFn.out, _, _, rfl, rfl⟩))
      · have hFs : Hid (Sch.stepV x s = some ⟨x.slots, x.cols.eraseIdx c⟩) := Lib.hid (by
          rw [hF.out, if_pos ⟨by simp [hc1, hc2], rfl, hm⟩, hcE, Int.toNat_natCast])
        have hEr2 := Lib.hid (hEr.out c hclt)
        clear hF hEr hcs
        obtain ⟨y, hy⟩ : ∃ y : Vr, y = ⟨x.slots, x.cols.eraseIdx c⟩ := ⟨_, rfl⟩
        have hyc : Hid (y.cells = [.sl .shared (x.slots.map Sl.cells), .sl .shared ((x.cols.eraseIdx c).map encC)]) := Lib.hid (by rw [hy]; rfl)
        rw [← hy] at hFs
        rw [← hEr2.out] at hyc
        clear hy hEr2
        unfold Vr.cells Stp.cells at *
        generalize Sch.stepV x s = F at *
        cases s with
        | mk kd col slot order =>
        cases slot with
        | mk nm ty rq dv =>
        cases dv with
        | mk k n sv lv =>
        dsimp only at hC hR hk ho hcE hb2 hc1 hc2 ⊢
        subst hk hcE
        rw [Sl.cells_mk] at *
        dsimp only [List.cons_append, List.nil_append] at *
        generalize x.slots.map Sl.cells = L1 at *
        generalize x.cols.map encC = L2 at *
        generalize x.cols.length = m2 at *
        replace hC := Lib.hid hC
        replace hR := Lib.hid hR
        replace hb1 := Lib.hid hb1
        replace hb2 := Lib.hid hb2
        have t1 := ht1 c
        have t2 := ht2 (m2 - (c + 1)) (c + 1)
        have t3 : (List.take c L2).length ≤ 1000 ∧ (List.take (m2 - (c + 1)) (List.drop (c + 1) L2)).length ≤ 1000 := by
          rw [List.length_take, List.length_take]; omega
        obtain ⟨t3, t4⟩ := t3
        obtain ⟨c1, hcc⟩ : ∃ c1, c + 1 = c1 := ⟨_, rfl⟩
        have hcI : (c : Int) + 1 = (c1 : Int) := by omega
        have hc1l : c1 ≤ m2 := by omega
        rw [hcc] at t2 t4 hyc
        replace hcc := Lib.hid hcc
        clear ht1 ht2 e2
        refine trF_enterG (G := twoA Tryz.prog (.cell 4 147) (.tmp 5)) Tryz.func164 rfl (by rw [Tryz.ntmps164]; exact Nat.le_of_ble_eq_true rfl) (fun h1 h2 h3 => res_two rfl h1 h2 h3) ?_
        simp only [Tryz.ntmps164]
        refine tr_room 3 1 ([] : List (List D)).length ?_
        repeat' (first | (with_reducible first | refine Q1 ?_ | refine Qe ?_ | fail) | ((with_reducible apply (w_drawN [(b, [.sl .shared L1, .sl .shared L2])])); (iterate 3 (focus kernel_rfl)); (focus ((repeat (first | exact keep_nil | refine keep_more (by (repeat (first | exact mm_h | apply mm_t)); done) ?_)); done)); intro hne; simp only [nes, ne1, and_assoc] at hne; repeat (have hq := hne.1; replace hne := hne.2)) | ((with_reducible refine And.intro ?_ ?_); (focus ((repeat (first | exact keep_nil | refine keep_more (by (repeat (first | exact mm_h | apply mm_t)); done) ?_)); done))) | (with_reducible first | refine Ql ?_ | refine Q2 ?_ | refine Qs ?_ | refine Q4 ?_ | (refine al_go ?_; intro b) | fail) | refine Qc Tryz.call195 (hC.out _) ?_ | refine Qc Tryz.call196 (hR.out _) ?_ | (with_reducible first | (refine Qa ?_; intro o' ho') | (refine Qp ?_; intro o' ho') | refine Q5 ?_ | (refine Q3a ?_; intro hb; try intro hb1) | (refine Q3b ?_; intro hb; try intro hb1) | (refine Q3 ?_ ?_ <;> intro hb <;> try intro hb1) | fail) | fail)
        all_goals (refine retG_mk (rs := []) (by first | exact .inl rfl | exact .inr rfl) (by first | rfl | assumption) (List.Perm.refl _) ⟨_, _, rfl, cell_mk (by simp (disch := omega) only [push_cast, simprocAttr, *]; exact rfl) (by repeat (first | exact mm_h | apply mm_t)) (by simp (disch := omega) only [push_cast, simprocAttr, *]; exact rfl) (by (try simp (disch := omega) only [push_cast, simprocAttr, *]); (try exact rfl); done), (by show _ = _; (try simp (disch := omega) only [push_cast, simprocAttr, *]); (try exact rfl); done)⟩ (by (repeat (first | exact List.Sublist.refl _ | with_reducible apply List.Sublist.cons_cons | apply List.Sublist.cons))) (retR _ _ _ _ _) (.inr ⟨y, hFs.out, by rw [hyc.out], rfl⟩))
    · have hFn : Hid (Sch.stepV x s = none) := Lib.hid (by
        rw [hF.out, if_neg]
        rintro ⟨h1, -⟩
        simp at h1
        omega)
      clear hF hEr hcs ht1 ht2
      unfold Vr.cells Stp.cells at *
      generalize Sch.stepV x s = F at *
      cases s with
      | mk kd col slot order =>
      cases slot with
      | mk nm ty rq dv =>
      cases dv with
      | mk k n sv lv =>
      dsimp only at hC hR hk ho hb2 hcr ⊢
      subst hk
      rw [Sl.cells_mk] at *
      dsimp only [List.cons_append, List.nil_append] at *
      generalize x.slots.map Sl.cells = L1 at *
      generalize x.cols.map encC = L2 at *
      generalize x.cols.length = m2 at *
      replace hC := Lib.hid hC
      replace hR := Lib.hid hR
      replace hb1 := Lib.hid hb1
      replace hb2 := Lib.hid hb2
      have hcr' : col < 0 ∨ (0 ≤ col ∧ (m2 : Int) ≤ col) := by omega
      clear hcr
      rcases hcr' with h1 | ⟨h1, h2⟩
      all_goals skip
      all_goals (
        refine trF_enterG (G := twoA Tryz.prog (.cell 4 147) (.tmp 5)) Tryz.func164 rfl (by rw [Tryz.ntmps164]; exact Nat.le_of_ble_eq_true rfl) (fun h1 h2 h3 => res_two rfl h1 h2 h3) ?_
        simp only [Tryz.ntmps164]
        repeat' (first | (with_reducible first | refine Q1 ?_ | refine Qe ?_ | refine Ql ?_ | refine Q2 ?_ | refine Qs ?_ | refine Q4 ?_ | (refine al_go ?_; intro b) | fail) | refine Qc Tryz.call195 (hC.out _) ?_ | refine Qc Tryz.call196 (hR.out _) ?_ | (with_reducible first | (refine Qa ?_; intro o' ho') | (refine Qp ?_; intro o' ho') | refine Q5 ?_ | (refine Q3a ?_; intro hb; try intro hb1) | (refine Q3b ?_; intro hb; try intro hb1) | (refine Q3 ?_ ?_ <;> intro hb <;> try intro hb1) | fail) | fail)
        all_goals (refine retG_mk (rs := []) (by first | exact .inl rfl | exact .inr rfl) (by first | rfl | assumption) (List.Perm.refl _) ⟨_, _, rfl, cell_mk (by simp (disch := omega) only [push_cast, simprocAttr, *]; exact rfl) (by repeat (first | exact mm_h | apply mm_t)) (by simp (disch := omega) only [push_cast, simprocAttr, *]; exact rfl) (by (try simp (disch := omega) only [push_cast, simprocAttr, *]); (try exact rfl); done), (by show _ = _; (try simp (disch := omega) only [push_cast, simprocAttr, *]); (try exact rfl); done)⟩ (by (repeat (first | exact List.Sublist.refl _ | with_reducible apply List.Sublist.cons_cons | apply List.Sublist.cons))) (LE.refl _) (.inl ⟨hFn.out, _, _, rfl, rfl⟩)))
  · have hrr : (Sch.bare s.slot false false && decide (s.order.length = 0)) = false := by
      cases h1 : Sch.bare s.slot false false with
      | false => rfl
      | true => rw [Bool.true_and, decide_eq_false fun h2 => hb ⟨h1, h2⟩]
    rw [hrr] at hR
    have hFn : Hid (Sch.stepV x s = none) := Lib.hid (by
      rw [hF.out, if_neg]
      rintro ⟨h1, h2, -⟩
      simp at h1
      exact hb ⟨h2, by rw [h1.2]; rfl⟩)
    clear hF hEr hcs ht1 ht2 hb hrr
    unfold Vr.cells Stp.cells at *
    generalize Sch.stepV x s = F at *
    cases s with
    | mk kd col slot order =>
    cases slot with
    | mk nm ty rq dv =>
    cases dv with
    | mk k n sv lv =>
    dsimp only at hC hR hk ho ⊢
    subst hk
    rw [Sl.cells_mk] at *
    dsimp only [List.cons_append, List.nil_append] at *
    generalize x.slots.map Sl.cells = L1 at *
    generalize x.cols.map encC = L2 at *
    generalize x.cols.length = m2 at *
    replace hC := Lib.hid hC
    replace hR := Lib.hid hR
    refine trF_enterG (G := twoA Tryz.prog (.cell 4 147) (.tmp 5)) Tryz.func164 rfl (by rw [Tryz.ntmps164]; exact Nat.le_of_ble_eq_true rfl) (fun h1 h2 h3 => res_two rfl h1 h2 h3) ?_
    simp only [Tryz.ntmps164]
    repeat' (first | (with_reducible first | refine Q1 ?_ | refine Qe ?_ | refine Ql ?_ | refine Q2 ?_ | refine Qs ?_ | refine Q4 ?_ | (refine al_go ?_; intro b) | fail) | refine Qc Tryz.call195 (hC.out _) ?_ | refine Qc Tryz.call196 (hR.out _) ?_ | (with_reducible first | (refine Qa ?_; intro o' ho') | (refine Qp ?_; intro o' ho') | refine Q5 ?_ | (refine Q3a ?_; intro hb; try intro hb1) | (refine Q3b ?_; intro hb; try intro hb1) | (refine Q3 ?_ ?_ <;> intro hb <;> try intro hb1) | fail) | fail)
    all_goals (refine retG_mk (rs := []) (by first | exact .inl rfl | exact .inr rfl) (by first | rfl | assumption) (List.Perm.refl _) ⟨_, _, rfl, cell_mk (by simp (disch := omega) only [push_cast, simprocAttr, *]; exact rfl) (by repeat (first | exact mm_h | apply mm_t)) (by simp (disch := omega) only [push_cast, simprocAttr, *]; exact rfl) (by (try simp (disch := omega) only [push_cast, simprocAttr, *]); (try exact rfl); done), (by show _ = _; (try simp (disch := omega) only [push_cast, simprocAttr, *]); (try exact rfl); done)⟩ (by (repeat (first | exact List.Sublist.refl _ | with_reducible apply List.Sublist.cons_cons | apply List.Sublist.cons))) (LE.refl _) (.inl ⟨hFn.out, _, _, rfl, rfl⟩))
end Go.Proofs.YtgcienlfpnpbgaaGreat
end

section
namespace Go.Proofs.YtgcienlfpnpbgaaGreat
set_option linter.unusedSimpArgs false
attribute [local push_cast] encB encI encC V.cells_mk V.cells_len Nat.mul_one Int.sub_zero List.map_nil beq_self_eq_true List.head?_cons
open Go.RowKit
set_option maxRecDepth 10000
set_option maxHeartbeats 4000000
def CopyS (x : Vr) (st : St) (d : D) (st' : St) : Prop := ∃ gs cS zS, (slotC x.slots ++ zS).length = cS * 7 ∧ d = D.agg [.ar gs 0 x.slots.length cS, .sl .shared (x.cols.map encC)] ∧ st' = Res.box gs 75 (slotC x.slots ++ zS) :: st
theorem copyS_ex (x : Vr) (st : St) : ∃ d st', CopyS x st d st' := ⟨_, _, 0, x.slots.length, [], by rw [List.append_nil, slotC_len], rfl, rfl⟩
theorem refCopySF' (x : Vr) (h1 : 1 ≤ x.slots.length) (h2 : 1 ≤ x.cols.length) (hl : x.slots.length ≤ 1000) (hc : x.cols.length ≤ 1000) (st : St) : TrF Tryz.prog 195 [.agg x.cells] st (CopyS x st) :=
  (refCopySF x h1 h2 hl hc st).mono fun d st' ⟨⟨gs, cS, zS⟩, k1, k2, k3⟩ => ⟨gs, cS, zS, k1, k2, k3⟩
def Raw1 (x : Vr) (s : Stp) (st : St) (d : D) (st' : St) : Prop := ∃ i : (Bool × Vr) × RI, (Sch.stepV x s = if i.1.1 then some i.1.2 else none) ∧ d = .tup [.agg [.ar i.2.1 0 i.1.2.slots.length i.2.2.1, .sl .shared (i.1.2.cols.map encC)], .b i.1.1] ∧ st' = .box i.2.1 75 ((i.1.2.slots.map Sl.cells).flatten ++ i.2.2.2) :: st
theorem raw1_rest {x : Vr} {s : Stp} {st : St} {f : FuncId} {args : List D} (h : TrF Tryz.prog f args st (Raw1 x s st)) : TrF Tryz.prog f args st (RefStepR x s st) := by
  have h1 := TrF.rest (ι := (Bool × Vr) × RI) (g := fun i => i.2.1) (n := fun i => i.1.2.slots.length) (cap := fun i => i.2.2.1) (es := fun i => i.1.2.slots.map Sl.cells) (F' := fun i => .tup [.agg i.1.2.cells, .b i.1.1]) (sz := 7) (by decide) (fun i _ => ⟨slots_each i.1.2.slots, List.length_map ..⟩) (fun i => .tup _ _ (.cons _ _ _ _ (.agg _ _ (.cons _ _ _ _ .ar (.cons _ _ _ _ (.same _) .nil))) (.cons _ _ _ _ (.same _) .nil))) h
  refine h1.mono fun d st' ⟨i, k1, k2, k3⟩ => ?_
  obtain ⟨⟨ok, y⟩, i2⟩ := i
  cases ok with
  | true => exact .inr ⟨y, k1, k2, k3⟩
  | false => exact .inl ⟨k1, _, _, k2, k3⟩
theorem refRenameF (x : Vr) (s : Stp) (h : RefP x s) (hk : s.kind = 3) (st : St) : TrF Tryz.prog 164 [.agg x.cells, .agg s.cells] st (RefStepR x s st) := by
  refine raw1_rest ?_
  obtain ⟨⟨hl, hp, hcp, hcl, hcs⟩, hq, hty, ho⟩ := h
  have hC := refCopySF' x hp hcp hl (by omega)
  have hE := copyS_ex x
  have hR := refRestF s hq.ok (by omega) ho
  have hF : Hid (Sch.stepV x s = Sch.renameS x s) := Lib.hid (by unfold Sch.stepV; rw [if_neg (show ¬ s.kind = 1 by omega), if_neg (show ¬ s.kind = 2 by omega), if_pos hk])
  have hrv : Sch.restV s = (Sch.bare s.slot true false && decide (s.order.length = 0)) := by unfold Sch.restV; rw [if_neg (show ¬ s.kind = 1 by omega), if_neg (show ¬ s.kind = 2 by omega), if_pos hk]
  rw [hrv] at hR
  clear hrv
  unfold Raw1
  have hC := fun st => hC st
  unfold CopyS at hC hE
  have l2 : (x.cols.map encC).length = x.cols.length := List.length_map ..
  have hN := Lib.hid (refIsNameF s.slot.name)
  have hL := Lib.hid (refColF x.slots x.cols s.slot.name (by omega) (by omega) hcs [])
  have e1 := Lib.hid (slots_each x.slots)
  have f1 : Hid ((x.slots.map Sl.cells).flatten = slotC x.slots) := rfl
  have l1 : Hid ((x.slots.map Sl.cells).length = x.slots.length) := List.length_map ..
  unfold Sch.renameS Sch.col at hF
  by_cases hb : Sch.bare s.slot true false = true ∧ s.order.length = 0
  · obtain ⟨hb1, hb2⟩ := hb
    rw [hb1, hb2] at hR
    rw [hb1] at hF
    by_cases hcr : 0 ≤ s.col ∧ s.col < x.cols.length
    · obtain ⟨hc1, hc2⟩ := hcr
      have hcol : Sch.column x s = true := by unfold Sch.column; simp [hc1, hc2, hb2]
      rw [hcol] at hF
      obtain ⟨i, hi⟩ := Int.eq_ofNat_of_zero_le hc1
      have hilt : i < x.cols.length := by omega
      obtain ⟨c, hc⟩ : ∃ c, x.cols[i]? = some c := ⟨_, List.getElem?_eq_getElem hilt⟩
      have hcm : c < x.slots.length := hcs c (List.mem_of_getElem? hc)
      obtain ⟨z, hz⟩ : ∃ z, x.slots[c]? = some z := ⟨_, List.getElem?_eq_getElem hcm⟩
      have hat : Sch.at_ x s = c := by
        unfold Sch.at_
        rw [hi, Int.toNat_natCast, List.getD_eq_getElem?_getD, hc]; rfl
      rw [hat, modify_set hz] at hF
      have hL2i : (x.cols.map encC)[i]? = some [D.i c] := by rw [List.getElem?_map, hc]; rfl
      have hL1c : (x.slots.map Sl.cells)[c]? = some z.cells := by rw [List.getElem?_map, hz]; rfl
      obtain ⟨y, hy⟩ : ∃ y : Vr, y = ⟨x.slots.set c { z with name := s.slot.name }, x.cols⟩ := ⟨_, rfl⟩
      rw [← hy] at hF
      have hsp : Hid (∀ zS, List.take (c * 7) (slotC x.slots ++ zS) ++ [D.str s.slot.name] ++ List.drop (c * 7 + 1) (slotC x.slots ++ zS) = (y.slots.map Sl.cells).flatten ++ zS) := fun zS => by
        have h := row_splice (o := 0) (ds := [D.str s.slot.name]) zS _ c (slots_each x.slots) hL1c (by simp)
        rw [show splice z.cells 0 [D.str s.slot.name] = Sl.cells { z with name := s.slot.name } from rfl, show (x.slots.map Sl.cells).set c (Sl.cells { z with name := s.slot.name }) = (x.slots.set c { z with name := s.slot.name }).map Sl.cells from (List.map_set ..).symm] at h
        rw [hy]
        exact h
      have hys : Hid (y.slots.length = x.slots.length) := Lib.hid (by rw [hy]; simp)
      have hyc : Hid (y.cols.map encC = x.cols.map encC) := Lib.hid (by rw [hy])
      have hrl := slotC_len x.slots
      have hle : Hid (∀ (zS : List D) (cS : Nat), (slotC x.slots ++ zS).length = cS * 7 → c * 7 + 1 ≤ cS * 7) := fun zS cS h => by
        rw [List.length_append] at h
        omega
      clear hy hcs hq hty hat hc hz hL1c hcol
      unfold Vr.cells Stp.cells at *
      generalize Sch.stepV x s = F at *
      cases s with
      | mk kd col slot order =>
      cases slot with
      | mk nm ty rq dv =>
      cases dv with
      | mk k n sv lv =>
      dsimp only at hC hE hR hF hk ho hi hb2 hc1 hc2 hsp hN hL ⊢
      subst hk
      rw [Sl.cells_mk] at *
      dsimp only [List.cons_append, List.nil_append] at *
      generalize r1e : slotC x.slots = R1 at *
      generalize m1e : x.slots.length = m1 at *
      generalize m2e : x.cols.length = m2 at *
      generalize hL1 : x.slots.map Sl.cells = L1 at *
      generalize hL2 : x.cols.map encC = L2 at *
      have r1e : Hid ((x.slots.map Sl.cells).flatten = R1) := r1e
      replace m1e := Lib.hid m1e
      replace m2e := Lib.hid m2e
      replace hL1 := Lib.hid hL1
      replace hL2 := Lib.hid hL2
      replace hC := Lib.hid hC
      replace hE := Lib.hid hE
      replace hR := Lib.hid hR
      subst hi
      replace hb1 := Lib.hid hb1
      replace hb2 := Lib.hid hb2
      generalize V.isName nm.data.toList = qn at *
      generalize Sch.colL x.slots nm x.cols = cv at *
      refine trF_enterG (G := twoA Tryz.prog (.cell 4 147) (.tmp 5)) Tryz.func164 rfl (by rw [Tryz.ntmps164]; exact Nat.le_of_ble_eq_true rfl) (fun h1 h2 h3 => res_two rfl h1 h2 h3) ?_
      simp only [Tryz.ntmps164]
      repeat' (first | (with_reducible first | refine Q1 ?_ | refine Qe ?_ | fail) | ((with_reducible apply (w_drawN [(b, [.ar gs 0 m1 cS, .sl .shared L2])])); (iterate 3 (focus kernel_rfl)); (focus ((repeat (first | exact keep_nil | refine keep_more (by (repeat (first | exact mm_h | apply mm_t)); done) ?_)); done)); intro hne; simp only [nes, ne1, and_assoc] at hne; repeat (have hq := hne.1; replace hne := hne.2)) | ((with_reducible refine And.intro ?_ ?_); (focus ((repeat (first | exact keep_nil | refine keep_more (by (repeat (first | exact mm_h | apply mm_t)); done) ?_)); done))) | (with_reducible first | refine Ql ?_ | refine Q2 ?_ | refine Qs ?_ | refine Q4 ?_ | (refine al_go ?_; intro b) | fail) | ((with_reducible apply (ck_gen Tryz.call195)); (focus exact List.Perm.refl _); (focus exact hC.out _); (focus exact LEL.refl _); (focus exact hE.out _); (rintro d st' ⟨gs, cS, zS, hz1, rfl, rfl⟩); (have hle2 := hle.out zS cS hz1; have hsp2 := hsp.out zS)) | refine Qc Tryz.call196 (hR.out _) ?_ | refine Qc Tryz.call89 (hN.out _) ?_ | ((with_reducible apply (ck_lend Tryz.call163)); (focus exact hL.out); (focus exact ⟨Lend.agg ⟨Lend.rowE (by repeat (first | exact mm_h | apply mm_t)) f1.out (by decide) e1.out l1.out, Lend.refl _, trivial⟩, Lend.refl _, trivial⟩)) | (with_reducible first | refine Q5 ?_ | (refine Q3a ?_; intro hb; try intro hb1) | (refine Q3b ?_; intro hb; try intro hb1) | (refine Q3 ?_ ?_ <;> intro hb <;> try intro hb1) | fail) | fail)
      all_goals first
        | ((refine retG_mk (rs := []) (by first | exact .inl rfl | exact .inr rfl) (by first | rfl | assumption) (.swap _ _ _) ⟨_, _, rfl, cell_mk (by simp (disch := omega) only [push_cast, simprocAttr, *]; exact rfl) (by repeat (first | exact mm_h | apply mm_t)) (by simp (disch := omega) only [push_cast, simprocAttr, *]; exact rfl) (by (try simp (disch := omega) only [push_cast, simprocAttr, *]); (try exact rfl); done), (by show _ = _; (try simp (disch := omega) only [push_cast, simprocAttr, *]); (try exact rfl); done)⟩ (((List.Sublist.refl _).cons _).cons _ |>.cons_cons _) (LE.refl _) ⟨((false, x), (gs, cS, zS)), ?_, by simp only [m1e.out, hL2.out], by simp only [r1e.out]⟩); (rw [hF.out]; refine if_neg ?_; rintro ⟨h1, h2, h3, h4⟩; first | omega | exact Bool.noConfusion (h3.symm.trans (by assumption) : true = false)))
        | ((refine retG_mk (rs := []) (by first | exact .inl rfl | exact .inr rfl) (by first | rfl | assumption) (.swap _ _ _) ⟨_, _, rfl, cell_mk (by simp (disch := omega) only [push_cast, simprocAttr, *]; exact rfl) (by repeat (first | exact mm_h | apply mm_t)) (by simp (disch := omega) only [push_cast, simprocAttr, *]; exact rfl) (by (try simp (disch := omega) only [push_cast, simprocAttr, *]); (try exact rfl); done), (by show _ = _; (try simp (disch := omega) only [push_cast, simprocAttr, *]); (try exact rfl); done)⟩ (((List.Sublist.refl _).cons _).cons _ |>.cons_cons _) (LE.refl _) ⟨((true, y), (gs, cS, zS)), ?_, by simp only [hys.out, hyc.out], rfl⟩); (rw [hF.out]; exact if_pos (by refine ⟨rfl, rfl, ?_, ?_⟩ <;> first | assumption | omega)))
    · have hFn : Hid (Sch.stepV x s = none) := Lib.hid (by
        rw [hF.out, if_neg]
        rintro ⟨h1, -⟩
        unfold Sch.column at h1
        simp at h1
        omega)
      clear hF hcs hN hL hq hty
      unfold Vr.cells Stp.cells at *
      generalize Sch.stepV x s = F at *
      cases s with
      | mk kd col slot order =>
      cases slot with
      | mk nm ty rq dv =>
      cases dv with
      | mk k n sv lv =>
      dsimp only at hC hE hR hk ho hb2 hcr ⊢
      subst hk
      rw [Sl.cells_mk] at *
      dsimp only [List.cons_append, List.nil_append] at *
      generalize r1e : slotC x.slots = R1 at *
      generalize m1e : x.slots.length = m1 at *
      generalize m2e : x.cols.length = m2 at *
      generalize hL1 : x.slots.map Sl.cells = L1 at *
      generalize hL2 : x.cols.map encC = L2 at *
      have r1e : Hid ((x.slots.map Sl.cells).flatten = R1) := r1e
      replace m1e := Lib.hid m1e
      replace m2e := Lib.hid m2e
      replace hL1 := Lib.hid hL1
      replace hL2 := Lib.hid hL2
      replace hC := Lib.hid hC
      replace hE := Lib.hid hE
      replace hR := Lib.hid hR
      replace hb1 := Lib.hid hb1
      replace hb2 := Lib.hid hb2
      have hcr' : col < 0 ∨ (0 ≤ col ∧ (m2 : Int) ≤ col) := by omega
      clear hcr
      rcases hcr' with h1 | ⟨h1, h2⟩
      all_goals skip
      all_goals (
        refine trF_enterG (G := twoA Tryz.prog (.cell 4 147) (.tmp 5)) Tryz.func164 rfl (by rw [Tryz.ntmps164]; exact Nat.le_of_ble_eq_true rfl) (fun h1 h2 h3 => res_two rfl h1 h2 h3) ?_
        simp only [Tryz.ntmps164]
        repeat' (first | (with_reducible first | refine Q1 ?_ | refine Qe ?_ | refine Ql ?_ | refine Q2 ?_ | refine Qs ?_ | refine Q4 ?_ | (refine al_go ?_; intro b) | fail) | ((with_reducible apply (ck_gen Tryz.call195)); (focus exact List.Perm.refl _); (focus exact hC.out _); (focus exact LEL.refl _); (focus exact hE.out _); (rintro d st' ⟨gs, cS, zS, hz1, rfl, rfl⟩)) | refine Qc Tryz.call196 (hR.out _) ?_ | (with_reducible first | refine Q5 ?_ | (refine Q3a ?_; intro hb; try intro hb1) | (refine Q3b ?_; intro hb; try intro hb1) | (refine Q3 ?_ ?_ <;> intro hb <;> try intro hb1) | fail) | fail)
        all_goals (refine retG_mk (rs := []) (by first | exact .inl rfl | exact .inr rfl) (by first | rfl | assumption) (.swap _ _ _) ⟨_, _, rfl, cell_mk (by simp (disch := omega) only [push_cast, simprocAttr, *]; exact rfl) (by repeat (first | exact mm_h | apply mm_t)) (by simp (disch := omega) only [push_cast, simprocAttr, *]; exact rfl) (by (try simp (disch := omega) only [push_cast, simprocAttr, *]); (try exact rfl); done), (by show _ = _; (try simp (disch := omega) only [push_cast, simprocAttr, *]); (try exact rfl); done)⟩ (((List.Sublist.refl _).cons _).cons _ |>.cons_cons _) (LE.refl _) ⟨((false, x), (gs, cS, zS)), hFn.out, by simp only [m1e.out, hL2.out], by simp only [r1e.out]⟩))
  · have hrr : (Sch.bare s.slot true false && decide (s.order.length = 0)) = false := by
      cases h1 : Sch.bare s.slot true false with
      | false => rfl
      | true => rw [Bool.true_and, decide_eq_false fun h2 => hb ⟨h1, h2⟩]
    rw [hrr] at hR
    have hFn : Hid (Sch.stepV x s = none) := Lib.hid (by
      rw [hF.out, if_neg]
      rintro ⟨h1, h2, -⟩
      unfold Sch.column at h1
      simp at h1
      exact hb ⟨h2, by rw [h1.2]; rfl⟩)
    clear hF hcs hN hL hb hrr hq hty
    unfold Vr.cells Stp.cells at *
    generalize Sch.stepV x s = F at *
    cases s with
    | mk kd col slot order =>
    cases slot with
    | mk nm ty rq dv =>
    cases dv with
    | mk k n sv lv =>
    dsimp only at hC hE hR hk ho ⊢
    subst hk
    rw [Sl.cells_mk] at *
    dsimp only [List.cons_append, List.nil_append] at *
    generalize r1e : slotC x.slots = R1 at *
    generalize m1e : x.slots.length = m1 at *
    generalize m2e : x.cols.length = m2 at *
    generalize hL1 : x.slots.map Sl.cells = L1 at *
    generalize hL2 : x.cols.map encC = L2 at *
    have r1e : Hid ((x.slots.map Sl.cells).flatten = R1) := r1e
    replace m1e := Lib.hid m1e
    replace m2e := Lib.hid m2e
    replace hL1 := Lib.hid hL1
    replace hL2 := Lib.hid hL2
    replace hC := Lib.hid hC
    replace hE := Lib.hid hE
    replace hR := Lib.hid hR
    refine trF_enterG (G := twoA Tryz.prog (.cell 4 147) (.tmp 5)) Tryz.func164 rfl (by rw [Tryz.ntmps164]; exact Nat.le_of_ble_eq_true rfl) (fun h1 h2 h3 => res_two rfl h1 h2 h3) ?_
    simp only [Tryz.ntmps164]
    repeat' (first | (with_reducible first | refine Q1 ?_ | refine Qe ?_ | refine Ql ?_ | refine Q2 ?_ | refine Qs ?_ | refine Q4 ?_ | (refine al_go ?_; intro b) | fail) | ((with_reducible apply (ck_gen Tryz.call195)); (focus exact List.Perm.refl _); (focus exact hC.out _); (focus exact LEL.refl _); (focus exact hE.out _); (rintro d st' ⟨gs, cS, zS, hz1, rfl, rfl⟩)) | refine Qc Tryz.call196 (hR.out _) ?_ | (with_reducible first | refine Q5 ?_ | (refine Q3a ?_; intro hb; try intro hb1) | (refine Q3b ?_; intro hb; try intro hb1) | (refine Q3 ?_ ?_ <;> intro hb <;> try intro hb1) | fail) | fail)
    all_goals (refine retG_mk (rs := []) (by first | exact .inl rfl | exact .inr rfl) (by first | rfl | assumption) (.swap _ _ _) ⟨_, _, rfl, cell_mk (by simp (disch := omega) only [push_cast, simprocAttr, *]; exact rfl) (by repeat (first | exact mm_h | apply mm_t)) (by simp (disch := omega) only [push_cast, simprocAttr, *]; exact rfl) (by (try simp (disch := omega) only [push_cast, simprocAttr, *]); (try exact rfl); done), (by show _ = _; (try simp (disch := omega) only [push_cast, simprocAttr, *]); (try exact rfl); done)⟩ (((List.Sublist.refl _).cons _).cons _ |>.cons_cons _) (LE.refl _) ⟨((false, x), (gs, cS, zS)), hFn.out, by simp only [m1e.out, hL2.out], by simp only [r1e.out]⟩)
end Go.Proofs.YtgcienlfpnpbgaaGreat
end

section
namespace Go.Proofs.YtgcienlfpnpbgaaGreat
set_option linter.unusedSimpArgs false
attribute [local push_cast] encB encI encC V.cells_mk V.cells_len Nat.mul_one Int.sub_zero List.map_nil beq_self_eq_true List.head?_cons
open Go.RowKit
set_option maxRecDepth 10000
set_option maxHeartbeats 4000000
def wt (t s : Nat) : Nat → Nat
  | 0 => t
  | k + 1 => if Sch.has s k && !Sch.has (wt t s k) k then wt t s k + 2 ^ k else wt t s k
def wm (t s : Nat) : Nat → Bool
  | 0 => false
  | k + 1 => if Sch.has s k && !Sch.has (wt t s k) k then true else wm t s k
theorem wt_all : ∀ t s : Fin 64, wt t s 6 = t.val ||| s.val ∧ wm t s 6 = (t.val ||| s.val != t.val) := by decide +kernel
theorem wt_le (t s : Nat) : ∀ k, wt t s k + 1 ≤ t + 2 ^ k
  | 0 => by rw [wt]; omega
  | k + 1 => by
    have := wt_le t s k
    rw [wt, Nat.pow_succ]
    split <;> omega
theorem refWidenF (x : Vr) (s : Stp) (h : RefP x s) (hxt : ∀ z ∈ x.slots, Sch.takes z.types = true) (hk : s.kind = 4) (st : St) : TrF Tryz.prog 164 [.agg x.cells, .agg s.cells] st (RefStepR x s st) := by
  refine raw1_rest ?_
  obtain ⟨⟨hl, hp, hcp, hcl, hcs⟩, hq, hty, ho⟩ := h
  have hC := refCopySF' x hp hcp hl (by omega)
  have hE := copyS_ex x
  have hR := refRestF s hq.ok (by omega) ho
  have hF : Hid (Sch.stepV x s = Sch.widenS x s) := Lib.hid (by unfold Sch.stepV; rw [if_neg (show ¬ s.kind = 1 by omega), if_neg (show ¬ s.kind = 2 by omega), if_neg (show ¬ s.kind = 3 by omega), if_pos hk])
  have hrv : Sch.restV s = (Sch.bare s.slot false true && decide (s.order.length = 0)) := by unfold Sch.restV; rw [if_neg (show ¬ s.kind = 1 by omega), if_neg (show ¬ s.kind = 2 by omega), if_neg (show ¬ s.kind = 3 by omega), if_pos hk]
  rw [hrv] at hR
  clear hrv
  unfold Raw1
  have hC := fun st => hC st
  unfold CopyS at hC hE
  have l2 : (x.cols.map encC).length = x.cols.length := List.length_map ..
  unfold Sch.widenS at hF
  by_cases hb : Sch.bare s.slot false true = true ∧ s.order.length = 0
  · obtain ⟨hb1, hb2⟩ := hb
    rw [hb1, hb2] at hR
    rw [hb1] at hF
    by_cases hcr : 0 ≤ s.col ∧ s.col < x.cols.length
    · obtain ⟨hc1, hc2⟩ := hcr
      have hcol : Sch.column x s = true := by unfold Sch.column; simp [hc1, hc2, hb2]
      rw [hcol] at hF
      obtain ⟨i, hi⟩ := Int.eq_ofNat_of_zero_le hc1
      have hilt : i < x.cols.length := by omega
      obtain ⟨c, hc⟩ : ∃ c, x.cols[i]? = some c := ⟨_, List.getElem?_eq_getElem hilt⟩
      have hcm : c < x.slots.length := hcs c (List.mem_of_getElem? hc)
      obtain ⟨z, hz⟩ : ∃ z, x.slots[c]? = some z := ⟨_, List.getElem?_eq_getElem hcm⟩
      have hat : Sch.at_ x s = c := by
        unfold Sch.at_
        rw [hi, Int.toNat_natCast, List.getD_eq_getElem?_getD, hc]; rfl
      have hzt := hxt z (List.mem_of_getElem? hz)
      by_cases htk : Sch.takes s.slot.types = true
      · obtain ⟨tn, sn, ht1, hs1, htl, hsl, hor, hol⟩ := Sch.widen_nat hzt htk
        have hall := wt_all ⟨tn, htl⟩ ⟨sn, hsl⟩
        dsimp only at hall
        obtain ⟨hw1, hw2⟩ := hall
        rw [hat, modify_set hz, hz, Option.any_some, htk, hor] at hF
        have hL2i : (x.cols.map encC)[i]? = some [D.i c] := by rw [List.getElem?_map, hc]; rfl
        have hL1c : (x.slots.map Sl.cells)[c]? = some z.cells := by rw [List.getElem?_map, hz]; rfl
        obtain ⟨w, hw⟩ : ∃ w, tn ||| sn = w := ⟨_, rfl⟩
        rw [hw] at hF hw1 hw2 hol
        obtain ⟨y, hy⟩ : ∃ y : Vr, y = ⟨x.slots.set c { z with types := (w : Int) }, x.cols⟩ := ⟨_, rfl⟩
        rw [← hy] at hF
        have hFw : Hid (Sch.stepV x s = if (w != tn) = true then some y else none) := Lib.hid (by
          rw [hF.out]
          by_cases hwt : w = tn
          · rw [if_neg (by rw [ht1]; simp [hwt]), if_neg (by simp [hwt])]
          · rw [if_pos (by refine ⟨rfl, rfl, rfl, ?_⟩; rw [ht1, bne_iff_ne]; omega), if_pos (by simp [hwt])])
        have hsp : Hid (∀ zS, List.take (c * 7 + 1) (slotC x.slots ++ zS) ++ [D.i w] ++ List.drop (c * 7 + 1 + 1) (slotC x.slots ++ zS) = (y.slots.map Sl.cells).flatten ++ zS) := fun zS => by
          have h := row_splice (o := 1) (ds := [D.i w]) zS _ c (slots_each x.slots) hL1c (by simp)
          rw [show splice z.cells 1 [D.i w] = Sl.cells { z with types := (w : Int) } from rfl, show (x.slots.map Sl.cells).set c (Sl.cells { z with types := (w : Int) }) = (x.slots.set c { z with types := (w : Int) }).map Sl.cells from (List.map_set ..).symm] at h
          rw [hy]
          exact h
        have hld : Hid (∀ zS, ∃ tl, List.drop (c * 7 + 1) (slotC x.slots ++ zS) = D.i tn :: tl) := fun zS => by
          obtain ⟨tl, h⟩ := row_drop (sz := 7) (o := 1) zS _ c (slots_each x.slots) hL1c (by omega)
          rw [show z.cells.drop 1 = D.i z.types :: z.cells.drop 2 from rfl, ht1] at h
          exact ⟨_, h⟩
        have hys : Hid (y.slots.length = x.slots.length) := Lib.hid (by rw [hy]; simp)
        have hyc : Hid (y.cols.map encC = x.cols.map encC) := Lib.hid (by rw [hy])
        have hrl := slotC_len x.slots
        have hle : Hid (∀ (zS : List D) (cS : Nat), (slotC x.slots ++ zS).length = cS * 7 → c * 7 + 1 + 1 ≤ cS * 7) := fun zS cS h => by
          rw [List.length_append] at h
          omega
        have hHs := Lib.hid fun k (h : k ≤ 6) => refHasF sn k (by omega) (by omega)
        have hHt := Lib.hid fun k (h : k ≤ 6) => refHasF (wt tn sn k) k (by omega) (by have := wt_le tn sn k; have : 2 ^ k ≤ 2 ^ 6 := Nat.pow_le_pow_right (by decide) h; omega)
        have hwb : Hid (∀ k, k ≤ 6 → wt tn sn k ≤ 200 ∧ 2 ^ k ≤ 64) := fun k h => by
          have := wt_le tn sn k
          have : 2 ^ k ≤ 2 ^ 6 := Nat.pow_le_pow_right (by decide) h
          omega
        replace htk := Sch.takes_iff.1 htk
        clear hy hcs hq hty hat hc hz hL1c hcol hF hor hzt hxt ht1
        replace hw1 := Lib.hid hw1
        replace hw2 := Lib.hid hw2
        replace hw := Lib.hid hw
        unfold Vr.cells Stp.cells at *
        generalize Sch.stepV x s = F at *
        cases s with
        | mk kd col slot order =>
        cases slot with
        | mk nm ty rq dv =>
        cases dv with
        | mk k n sv lv =>
        dsimp only at hC hE hR hFw hk ho hi hb2 hc1 hc2 hsp hs1 htk ⊢
        subst hk
        rw [Sl.cells_mk] at *
        dsimp only [List.cons_append, List.nil_append] at *
        generalize r1e : slotC x.slots = R1 at *
        generalize m1e : x.slots.length = m1 at *
        generalize m2e : x.cols.length = m2 at *
        generalize hL1 : x.slots.map Sl.cells = L1 at *
        generalize hL2 : x.cols.map encC = L2 at *
        have r1e : Hid ((x.slots.map Sl.cells).flatten = R1) := r1e
        replace m1e := Lib.hid m1e
        replace m2e := Lib.hid m2e
        replace hL1 := Lib.hid hL1
        replace hL2 := Lib.hid hL2
        replace hC := Lib.hid hC
        replace hE := Lib.hid hE
        replace hR := Lib.hid hR
        subst hi hs1
        replace hb1 := Lib.hid hb1
        replace hb2 := Lib.hid hb2
        refine trF_enterG (G := twoA Tryz.prog (.cell 4 147) (.tmp 5)) Tryz.func164 rfl (by rw [Tryz.ntmps164]; exact Nat.le_of_ble_eq_true rfl) (fun h1 h2 h3 => res_two rfl h1 h2 h3) ?_
        simp only [Tryz.ntmps164]
        repeat' (first | (with_reducible first | refine Q1 ?_ | refine Qe ?_ | fail) | ((with_reducible apply (w_drawN [(b, [.ar gs 0 m1 cS, .sl .shared L2]), (gs, R1 ++ zS)])); (iterate 3 (focus kernel_rfl)); (focus ((repeat (first | exact keep_nil | refine keep_more (by (repeat (first | exact mm_h | apply mm_t)); done) ?_)); done)); intro hne; simp only [nes, ne1, and_assoc] at hne; repeat (have hq := hne.1; replace hne := hne.2)) | ((with_reducible refine And.intro ?_ ?_); (focus ((repeat (first | exact keep_nil | refine keep_more (by (repeat (first | exact mm_h | apply mm_t)); done) ?_)); done))) | (with_reducible first | refine Ql ?_ | refine Q2 ?_ | refine Qs ?_ | refine Q4 ?_ | (refine al_go ?_; intro b) | fail) | ((with_reducible apply (ck_gen Tryz.call195)); (focus exact List.Perm.refl _); (focus exact hC.out _); (focus exact LEL.refl _); (focus exact hE.out _); (rintro d st' ⟨gs, cS, zS, hz1, rfl, rfl⟩); (have hle2 := hle.out zS cS hz1; have hsp2 := hsp.out zS; obtain ⟨t2, hld2⟩ := hld.out zS; obtain ⟨b4, rfl⟩ : ∃ q, q = b := ⟨_, rfl⟩)) | refine Qc Tryz.call196 (hR.out _) ?_ | (with_reducible first | refine Q5 ?_ | (refine Q3a ?_; intro hb; try intro hb1) | (refine Q3b ?_; intro hb; try intro hb1) | (refine Q3 ?_ ?_ <;> intro hb <;> try intro hb1) | fail) | fail)
        obtain ⟨b6, rfl⟩ : ∃ q, q = b := ⟨_, rfl⟩
        have hL2i' := hL2i
        refine tr_loopd (ι := Nat) (fun k' A st' => k' ≤ 6 ∧ A.df = [] ∧ A.e 3 = .ip [.i 4, .i i, .str nm, .i sn, .b rq, .i k, .i n, .str sv, .sl .shared (lv.map V.cells), .sl .shared (order.map encI)] ∧ A.e 4 = .ptr b4 0 ∧ A.e 6 = .ptr b6 0 ∧ A.e 10 = .i k' ∧ (∃ tk bk : Nat, Hid (wt tn sn k' = tk) ∧ Hid (2 ^ k' = bk) ∧ A.e 7 = .i tk ∧ A.e 8 = .i bk) ∧ (∃ mk : Bool, Hid (wm tn sn k' = mk) ∧ A.e 9 = .b mk) ∧
          st' = .box b6 147 [.ar gs 0 m1 cS, .sl .shared L2] :: .box gs 75 (R1 ++ zS) :: .box b4 147 [.sl .tight [], .sl .tight []] :: st) (fun k' => 6 - k') 0 ⟨Nat.zero_le _, Qf, Qf, Qf, Qf, Qf, ⟨tn, 1, rfl, rfl, Qf, Qf⟩, ⟨false, rfl, Qf⟩, rfl⟩ ?_
        rintro k' A st' ⟨hk', hdf, e3, e4, e6, e10, ⟨tk, bk, ht, hbk, e7, e8⟩, ⟨mk, hm, e9⟩, rfl⟩
        by_cases hlt : k' < 6
        · have hH1 := hHs.out k' hk'
          have hH2 := hHt.out k' hk'
          have hb := hwb.out k' hk'
          have hb' := hwb.out (k' + 1) hlt
          have hs1 : wt tn sn (k' + 1) = if Sch.has sn k' && !Sch.has (wt tn sn k') k' then wt tn sn k' + 2 ^ k' else wt tn sn k' := rfl
          have hs2 : wm tn sn (k' + 1) = if Sch.has sn k' && !Sch.has (wt tn sn k') k' then true else wm tn sn k' := rfl
          rw [Nat.pow_succ] at hb'
          have hp2 : 2 ^ (k' + 1) = bk * 2 := by rw [Nat.pow_succ, hbk.out]
          rw [hbk.out] at hb hb' hs1
          rw [ht.out] at hH2 hb hs1 hs2
          rw [hm.out] at hs2
          obtain ⟨hb7, hb8⟩ := hb
          clear hb'
          generalize Sch.has sn k' = q1 at *
          generalize Sch.has tk k' = q2 at *
          replace hH1 := Lib.hid hH1
          replace hH2 := Lib.hid hH2
          replace hp2 := Lib.hid hp2
          replace hs1 := Lib.hid hs1
          replace hs2 := Lib.hid hs2
          cases q1 <;> cases q2
          all_goals skip
          all_goals (
            repeat' (first | (with_reducible first | refine Q1 ?_ | refine Qe ?_ | refine Ql ?_ | refine Q2 ?_ | refine Qs ?_ | refine Q4 ?_ | (refine al_go ?_; intro b) | fail) | refine Qc Tryz.call197 (hH1.out _) ?_ | refine Qc Tryz.call197 (hH2.out _) ?_ | (with_reducible first | refine Q5 ?_ | (refine Q3a ?_; intro hb; try intro hb1) | (refine Q3b ?_; intro hb; try intro hb1) | (refine Q3 ?_ ?_ <;> intro hb <;> try intro hb1) | fail) | fail)
            refine ⟨k' + 1, _, List.Sublist.refl _, ⟨hlt, ?_, ?_, ?_, ?_, ?_, ⟨_, _, hs1.out, hp2.out, ?_, ?_⟩, ⟨_, hs2.out, ?_⟩, rfl⟩, by omega⟩
            all_goals exact Qf)
        · have hk6 : k' = 6 := by omega
          subst hk6
          have ht2 : tk = w := ht.out.symm.trans hw1.out
          have hm2 : mk = (w != tn) := hm.out.symm.trans hw2.out
          subst ht2
          subst hm2
          have hFw2 := hFw.out
          cases hwq : (tk != tn) with
          | true =>
            rw [hwq, if_pos rfl] at hFw2
            rw [hwq] at e9
            replace hFw2 := Lib.hid hFw2
            replace hwq := Lib.hid hwq
            repeat' (first | (with_reducible first | refine Q1 ?_ | refine Qe ?_ | fail) | ((with_reducible apply (w_drawN [(b6, [.ar gs 0 m1 cS, .sl .shared L2])])); (iterate 3 (focus kernel_rfl)); (focus ((repeat (first | exact keep_nil | refine keep_more (by (repeat (first | exact mm_h | apply mm_t)); done) ?_)); done)); intro hne; simp only [nes, ne1, and_assoc] at hne; repeat (have hq := hne.1; replace hne := hne.2)) | ((with_reducible refine And.intro ?_ ?_); (focus ((repeat (first | exact keep_nil | refine keep_more (by (repeat (first | exact mm_h | apply mm_t)); done) ?_)); done))) | (with_reducible first | refine Ql ?_ | refine Q2 ?_ | refine Qs ?_ | refine Q4 ?_ | (refine al_go ?_; intro b) | refine Q5 ?_ | (refine Q3a ?_; intro hb; try intro hb1) | (refine Q3b ?_; intro hb; try intro hb1) | (refine Q3 ?_ ?_ <;> intro hb <;> try intro hb1) | fail) | fail)
            all_goals (refine retG_mk (rs := []) (by first | exact .inl rfl | exact .inr rfl) (by first | rfl | assumption) (.swap _ _ _) ⟨_, _, rfl, cell_mk (by simp (disch := omega) only [push_cast, simprocAttr, *]; exact rfl) (by repeat (first | exact mm_h | apply mm_t)) (by simp (disch := omega) only [push_cast, simprocAttr, *]; exact rfl) (by (try simp (disch := omega) only [push_cast, simprocAttr, *]); (try exact rfl); done), (by show _ = _; (try simp (disch := omega) only [push_cast, simprocAttr, *]); (try exact rfl); done)⟩ (((List.Sublist.refl _).cons _).cons _ |>.cons_cons _) (LE.refl _) ⟨((true, y), (gs, cS, zS)), hFw2.out, by simp only [hys.out, hyc.out], rfl⟩)
          | false =>
            rw [hwq, if_neg Bool.false_ne_true] at hFw2
            rw [hwq] at e9
            have hFn := Lib.hid hFw2
            replace hFw2 := Lib.hid hFw2
            replace hwq := Lib.hid hwq
            repeat' (with_reducible first | refine Q1 ?_ | refine Qe ?_ | refine Ql ?_ | refine Q2 ?_ | refine Qs ?_ | refine Q4 ?_ | (refine al_go ?_; intro b) | refine Q5 ?_ | (refine Q3a ?_; intro hb; try intro hb1) | (refine Q3b ?_; intro hb; try intro hb1) | (refine Q3 ?_ ?_ <;> intro hb <;> try intro hb1) | fail)
            all_goals (refine retG_mk (rs := []) (by first | exact .inl rfl | exact .inr rfl) (by first | rfl | assumption) (.swap _ _ _) ⟨_, _, rfl, cell_mk (by simp (disch := omega) only [push_cast, simprocAttr, *]; exact rfl) (by repeat (first | exact mm_h | apply mm_t)) (by simp (disch := omega) only [push_cast, simprocAttr, *]; exact rfl) (by (try simp (disch := omega) only [push_cast, simprocAttr, *]); (try exact rfl); done), (by show _ = _; (try simp (disch := omega) only [push_cast, simprocAttr, *]); (try exact rfl); done)⟩ (((List.Sublist.refl _).cons _).cons _ |>.cons_cons _) (LE.refl _) ⟨((false, x), (gs, cS, zS)), hFn.out, by simp only [m1e.out, hL2.out], by simp only [r1e.out]⟩)
      · have hFn : Hid (Sch.stepV x s = none) := Lib.hid (by
          rw [hF.out, if_neg]
          rintro ⟨-, -, h3, -⟩
          exact htk h3)
        have htk' : s.slot.types < 1 ∨ (1 ≤ s.slot.types ∧ 63 < s.slot.types) := by
          have : ¬ (1 ≤ s.slot.types ∧ s.slot.types ≤ 63) := fun h => htk (Sch.takes_iff.2 h)
          omega
        clear hF hcs hq hty hat hc hz hcol hzt hxt htk
        unfold Vr.cells Stp.cells at *
        generalize Sch.stepV x s = F at *
        cases s with
        | mk kd col slot order =>
        cases slot with
        | mk nm ty rq dv =>
        cases dv with
        | mk k n sv lv =>
        dsimp only at hC hE hR hk ho hi hb2 hc1 hc2 htk' ⊢
        subst hk
        rw [Sl.cells_mk] at *
        dsimp only [List.cons_append, List.nil_append] at *
        generalize r1e : slotC x.slots = R1 at *
        generalize m1e : x.slots.length = m1 at *
        generalize m2e : x.cols.length = m2 at *
        generalize hL1 : x.slots.map Sl.cells = L1 at *
        generalize hL2 : x.cols.map encC = L2 at *
        have r1e : Hid ((x.slots.map Sl.cells).flatten = R1) := r1e
        replace m1e := Lib.hid m1e
        replace m2e := Lib.hid m2e
        replace hL1 := Lib.hid hL1
        replace hL2 := Lib.hid hL2
        replace hC := Lib.hid hC
        replace hE := Lib.hid hE
        replace hR := Lib.hid hR
        subst hi
        replace hb1 := Lib.hid hb1
        replace hb2 := Lib.hid hb2
        rcases htk' with h1 | ⟨h1, h2⟩
        all_goals skip
        all_goals (
          refine trF_enterG (G := twoA Tryz.prog (.cell 4 147) (.tmp 5)) Tryz.func164 rfl (by rw [Tryz.ntmps164]; exact Nat.le_of_ble_eq_true rfl) (fun h1 h2 h3 => res_two rfl h1 h2 h3) ?_
          simp only [Tryz.ntmps164]
          repeat' (first | (with_reducible first | refine Q1 ?_ | refine Qe ?_ | refine Ql ?_ | refine Q2 ?_ | refine Qs ?_ | refine Q4 ?_ | (refine al_go ?_; intro b) | fail) | ((with_reducible apply (ck_gen Tryz.call195)); (focus exact List.Perm.refl _); (focus exact hC.out _); (focus exact LEL.refl _); (focus exact hE.out _); (rintro d st' ⟨gs, cS, zS, hz1, rfl, rfl⟩)) | refine Qc Tryz.call196 (hR.out _) ?_ | (with_reducible first | refine Q5 ?_ | (refine Q3a ?_; intro hb; try intro hb1) | (refine Q3b ?_; intro hb; try intro hb1) | (refine Q3 ?_ ?_ <;> intro hb <;> try intro hb1) | fail) | fail)
          all_goals (refine retG_mk (rs := []) (by first | exact .inl rfl | exact .inr rfl) (by first | rfl | assumption) (.swap _ _ _) ⟨_, _, rfl, cell_mk (by simp (disch := omega) only [push_cast, simprocAttr, *]; exact rfl) (by repeat (first | exact mm_h | apply mm_t)) (by simp (disch := omega) only [push_cast, simprocAttr, *]; exact rfl) (by (try simp (disch := omega) only [push_cast, simprocAttr, *]); (try exact rfl); done), (by show _ = _; (try simp (disch := omega) only [push_cast, simprocAttr, *]); (try exact rfl); done)⟩ (((List.Sublist.refl _).cons _).cons _ |>.cons_cons _) (LE.refl _) ⟨((false, x), (gs, cS, zS)), hFn.out, by simp only [m1e.out, hL2.out], by simp only [r1e.out]⟩))
    · have hFn : Hid (Sch.stepV x s = none) := Lib.hid (by
        rw [hF.out, if_neg]
        rintro ⟨h1, -⟩
        unfold Sch.column at h1
        simp at h1
        omega)
      clear hF hcs hq hty hxt
      unfold Vr.cells Stp.cells at *
      generalize Sch.stepV x s = F at *
      cases s with
      | mk kd col slot order =>
      cases slot with
      | mk nm ty rq dv =>
      cases dv with
      | mk k n sv lv =>
      dsimp only at hC hE hR hk ho hb2 hcr ⊢
      subst hk
      rw [Sl.cells_mk] at *
      dsimp only [List.cons_append, List.nil_append] at *
      generalize r1e : slotC x.slots = R1 at *
      generalize m1e : x.slots.length = m1 at *
      generalize m2e : x.cols.length = m2 at *
      generalize hL1 : x.slots.map Sl.cells = L1 at *
      generalize hL2 : x.cols.map encC = L2 at *
      have r1e : Hid ((x.slots.map Sl.cells).flatten = R1) := r1e
      replace m1e := Lib.hid m1e
      replace m2e := Lib.hid m2e
      replace hL1 := Lib.hid hL1
      replace hL2 := Lib.hid hL2
      replace hC := Lib.hid hC
      replace hE := Lib.hid hE
      replace hR := Lib.hid hR
      replace hb1 := Lib.hid hb1
      replace hb2 := Lib.hid hb2
      have hcr' : col < 0 ∨ (0 ≤ col ∧ (m2 : Int) ≤ col) := by omega
      clear hcr
      rcases hcr' with h1 | ⟨h1, h2⟩
      all_goals skip
      all_goals (
        refine trF_enterG (G := twoA Tryz.prog (.cell 4 147) (.tmp 5)) Tryz.func164 rfl (by rw [Tryz.ntmps164]; exact Nat.le_of_ble_eq_true rfl) (fun h1 h2 h3 => res_two rfl h1 h2 h3) ?_
        simp only [Tryz.ntmps164]
        repeat' (first | (with_reducible first | refine Q1 ?_ | refine Qe ?_ | refine Ql ?_ | refine Q2 ?_ | refine Qs ?_ | refine Q4 ?_ | (refine al_go ?_; intro b) | fail) | ((with_reducible apply (ck_gen Tryz.call195)); (focus exact List.Perm.refl _); (focus exact hC.out _); (focus exact LEL.refl _); (focus exact hE.out _); (rintro d st' ⟨gs, cS, zS, hz1, rfl, rfl⟩)) | refine Qc Tryz.call196 (hR.out _) ?_ | (with_reducible first | refine Q5 ?_ | (refine Q3a ?_; intro hb; try intro hb1) | (refine Q3b ?_; intro hb; try intro hb1) | (refine Q3 ?_ ?_ <;> intro hb <;> try intro hb1) | fail) | fail)
        all_goals (refine retG_mk (rs := []) (by first | exact .inl rfl | exact .inr rfl) (by first | rfl | assumption) (.swap _ _ _) ⟨_, _, rfl, cell_mk (by simp (disch := omega) only [push_cast, simprocAttr, *]; exact rfl) (by repeat (first | exact mm_h | apply mm_t)) (by simp (disch := omega) only [push_cast, simprocAttr, *]; exact rfl) (by (try simp (disch := omega) only [push_cast, simprocAttr, *]); (try exact rfl); done), (by show _ = _; (try simp (disch := omega) only [push_cast, simprocAttr, *]); (try exact rfl); done)⟩ (((List.Sublist.refl _).cons _).cons _ |>.cons_cons _) (LE.refl _) ⟨((false, x), (gs, cS, zS)), hFn.out, by simp only [m1e.out, hL2.out], by simp only [r1e.out]⟩))
  · have hrr : (Sch.bare s.slot false true && decide (s.order.length = 0)) = false := by
      cases h1 : Sch.bare s.slot false true with
      | false => rfl
      | true => rw [Bool.true_and, decide_eq_false fun h2 => hb ⟨h1, h2⟩]
    rw [hrr] at hR
    have hFn : Hid (Sch.stepV x s = none) := Lib.hid (by
      rw [hF.out, if_neg]
      rintro ⟨h1, h2, -⟩
      unfold Sch.column at h1
      simp at h1
      exact hb ⟨h2, by rw [h1.2]; rfl⟩)
    clear hF hcs hb hrr hq hty hxt
    unfold Vr.cells Stp.cells at *
    generalize Sch.stepV x s = F at *
    cases s with
    | mk kd col slot order =>
    cases slot with
    | mk nm ty rq dv =>
    cases dv with
    | mk k n sv lv =>
    dsimp only at hC hE hR hk ho ⊢
    subst hk
    rw [Sl.cells_mk] at *
    dsimp only [List.cons_append, List.nil_append] at *
    generalize r1e : slotC x.slots = R1 at *
    generalize m1e : x.slots.length = m1 at *
    generalize m2e : x.cols.length = m2 at *
    generalize hL1 : x.slots.map Sl.cells = L1 at *
    generalize hL2 : x.cols.map encC = L2 at *
    have r1e : Hid ((x.slots.map Sl.cells).flatten = R1) := r1e
    replace m1e := Lib.hid m1e
    replace m2e := Lib.hid m2e
    replace hL1 := Lib.hid hL1
    replace hL2 := Lib.hid hL2
    replace hC := Lib.hid hC
    replace hE := Lib.hid hE
    replace hR := Lib.hid hR
    refine trF_enterG (G := twoA Tryz.prog (.cell 4 147) (.tmp 5)) Tryz.func164 rfl (by rw [Tryz.ntmps164]; exact Nat.le_of_ble_eq_true rfl) (fun h1 h2 h3 => res_two rfl h1 h2 h3) ?_
    simp only [Tryz.ntmps164]
    repeat' (first | (with_reducible first | refine Q1 ?_ | refine Qe ?_ | refine Ql ?_ | refine Q2 ?_ | refine Qs ?_ | refine Q4 ?_ | (refine al_go ?_; intro b) | fail) | ((with_reducible apply (ck_gen Tryz.call195)); (focus exact List.Perm.refl _); (focus exact hC.out _); (focus exact LEL.refl _); (focus exact hE.out _); (rintro d st' ⟨gs, cS, zS, hz1, rfl, rfl⟩)) | refine Qc Tryz.call196 (hR.out _) ?_ | (with_reducible first | refine Q5 ?_ | (refine Q3a ?_; intro hb; try intro hb1) | (refine Q3b ?_; intro hb; try intro hb1) | (refine Q3 ?_ ?_ <;> intro hb <;> try intro hb1) | fail) | fail)
    all_goals (refine retG_mk (rs := []) (by first | exact .inl rfl | exact .inr rfl) (by first | rfl | assumption) (.swap _ _ _) ⟨_, _, rfl, cell_mk (by simp (disch := omega) only [push_cast, simprocAttr, *]; exact rfl) (by repeat (first | exact mm_h | apply mm_t)) (by simp (disch := omega) only [push_cast, simprocAttr, *]; exact rfl) (by (try simp (disch := omega) only [push_cast, simprocAttr, *]); (try exact rfl); done), (by show _ = _; (try simp (disch := omega) only [push_cast, simprocAttr, *]); (try exact rfl); done)⟩ (((List.Sublist.refl _).cons _).cons _ |>.cons_cons _) (LE.refl _) ⟨((false, x), (gs, cS, zS)), hFn.out, by simp only [m1e.out, hL2.out], by simp only [r1e.out]⟩)
end Go.Proofs.YtgcienlfpnpbgaaGreat
end

section
namespace Go.Proofs.YtgcienlfpnpbgaaGreat
set_option linter.unusedSimpArgs false
open Go.RowKit
namespace Sch
theorem all_len : ∀ (m : Nat) (l : List Int), l.length = m → (∀ k : Nat, k < m → (k : Int) ∈ l) → l.Nodup ∧ ∀ a ∈ l, 0 ≤ a ∧ a < m
  | 0, l, h, _ => by
    obtain rfl := List.eq_nil_of_length_eq_zero h
    exact ⟨List.nodup_nil, fun a h => by cases h⟩
  | m + 1, l, h, hk => by
    have hm := hk m (Nat.lt_succ_self m)
    have hp := List.perm_cons_erase hm
    have hl : (l.erase (m : Int)).length = m := by rw [List.length_erase_of_mem hm]; omega
    obtain ⟨h1, h2⟩ := all_len m _ hl fun k hk' => (List.mem_erase_of_ne (by omega)).2 (hk k (by omega))
    have hn : (m : Int) ∉ l.erase (m : Int) := fun h => by have := (h2 _ h).2; omega
    refine ⟨hp.nodup_iff.2 (List.nodup_cons.2 ⟨hn, h1⟩), fun a ha => ?_⟩
    rcases List.mem_cons.1 (hp.mem_iff.1 ha) with rfl | h
    · omega
    · have := h2 a h; omega
theorem nodup_len : ∀ (m : Nat) (l : List Int), l.Nodup → (∀ a ∈ l, 0 ≤ a ∧ a < m) → l.length ≤ m
  | 0, l, _, h => by
    cases l with
    | nil => exact Nat.le_refl _
    | cons a l => have := h a (List.mem_cons_self ..); omega
  | m + 1, l, hn, h => by
    by_cases hm : (m : Int) ∈ l
    · have hp := List.perm_cons_erase hm
      have hn' := List.nodup_cons.1 (hp.nodup_iff.1 hn)
      have hl : (l.erase (m : Int)).length = l.length - 1 := List.length_erase_of_mem hm
      have := nodup_len m _ hn'.2 fun a ha => by
        have h1 := h a (List.mem_of_mem_erase ha)
        have : a ≠ m := fun e => hn'.1 (e ▸ ha)
        omega
      omega
    · have := nodup_len m l hn fun a ha => by
        have h1 := h a ha
        have : a ≠ m := fun e => hm (e ▸ ha)
        omega
      omega
def put (cols : List Nat) (l : List Int) : List Nat := l.map fun o => cols.getD o.toNat 0
theorem getD_inj {cols : List Nat} (hn : cols.Nodup) {a b : Int} (ha : 0 ≤ a ∧ a < cols.length) (hb : 0 ≤ b ∧ b < cols.length) (h : cols.getD a.toNat 0 = cols.getD b.toNat 0) : a = b := by
  have h1 : a.toNat < cols.length := by omega
  have h2 : b.toNat < cols.length := by omega
  rw [List.getD_eq_getElem?_getD, List.getD_eq_getElem?_getD, List.getElem?_eq_getElem h1, List.getElem?_eq_getElem h2, Option.getD_some, Option.getD_some] at h
  have h3 : a.toNat = b.toNat := (List.getElem?_inj h1 hn).1 (by rw [List.getElem?_eq_getElem h1, List.getElem?_eq_getElem h2, h])
  omega
theorem reo_yes {cols : List Nat} (hn : cols.Nodup) : ∀ (l p : List Int), (p ++ l).Nodup → (∀ a ∈ p ++ l, 0 ≤ a ∧ a < cols.length) → reo cols l (put cols p) = some (put cols (p ++ l))
  | [], p, _, _ => by rw [reo, List.append_nil]
  | k :: l, p, h, hr => by
    have hk := hr k (by simp)
    rw [reo, if_pos]
    · have := reo_yes hn l (p ++ [k]) (by simpa using h) (by simpa using hr)
      rw [show put cols p ++ [cols.getD k.toNat 0] = put cols (p ++ [k]) by unfold put; simp]
      simpa using this
    · refine ⟨hk.1, hk.2, fun hm => ?_⟩
      obtain ⟨a, ha, he⟩ := List.mem_map.1 hm
      have := getD_inj hn (hr a (by simp [ha])) hk he
      subst this
      rw [List.nodup_append] at h
      exact h.2.2 a ha a (by simp) rfl
theorem reo_no {cols : List Nat} : ∀ (l p : List Int) (r : List Nat), reo cols l (put cols p) = some r → p.Nodup → (∀ a ∈ p, 0 ≤ a ∧ a < cols.length) → (p ++ l).Nodup ∧ ∀ a ∈ p ++ l, 0 ≤ a ∧ a < cols.length
  | [], p, _, _, hn, hr => by rw [List.append_nil]; exact ⟨hn, hr⟩
  | k :: l, p, r, h, hn, hr => by
    rw [reo] at h
    split at h
    · rename_i hc
      rw [show put cols p ++ [cols.getD k.toNat 0] = put cols (p ++ [k]) by unfold put; simp] at h
      have := reo_no l (p ++ [k]) r h (by
        rw [List.nodup_append]
        refine ⟨hn, by simp, fun a ha b hb e => ?_⟩
        rw [List.mem_singleton] at hb
        subst hb e
        exact hc.2.2 (List.mem_map.2 ⟨a, ha, rfl⟩)) (fun a ha => by
        rcases List.mem_append.1 ha with h | h
        · exact hr a h
        · rw [List.mem_singleton] at h
          subst h; omega)
      simpa using this
    · cases h
theorem reo_count {cols : List Nat} (hn : cols.Nodup) {l : List Int} (hl : l.length = cols.length) : reo cols l [] = if ∀ k : Nat, k < cols.length → l.count (k : Int) = 1 then some (put cols l) else none := by
  split
  · rename_i h
    obtain ⟨h1, h2⟩ := all_len cols.length l hl fun k hk => List.count_pos_iff.1 (by rw [h k hk]; omega)
    exact reo_yes hn l [] (by simpa using h1) (by simpa using h2)
  · rename_i h
    cases hr : reo cols l [] with
    | none => rfl
    | some r =>
      exfalso
      obtain ⟨h1, h2⟩ := reo_no l [] r hr List.nodup_nil (fun a h => by cases h)
      rw [List.nil_append] at h1 h2
      refine h fun k hk => ?_
      have hm : (k : Int) ∈ l := by
        refine Decidable.by_contra fun hm => ?_
        have := nodup_len cols.length ((k : Int) :: l) (List.nodup_cons.2 ⟨hm, h1⟩) fun a ha => by
          rcases List.mem_cons.1 ha with rfl | h
          · omega
          · exact h2 a h
        rw [List.length_cons] at this
        omega
      rw [h1.count, if_pos hm]
end Sch
end Go.Proofs.YtgcienlfpnpbgaaGreat
end

section
namespace Go.Proofs.YtgcienlfpnpbgaaGreat
set_option linter.unusedSimpArgs false
attribute [local push_cast] encB encI encC V.cells_mk V.cells_len Nat.mul_one Int.sub_zero List.map_nil beq_self_eq_true List.head?_cons
open Go.RowKit
set_option maxRecDepth 10000
set_option maxHeartbeats 4000000
def CopyC (x : Vr) (st : St) (d : D) (st' : St) : Prop := ∃ gc cC zC, (colC x.cols ++ zC).length = cC * 1 ∧ d = D.agg [.sl .shared (x.slots.map Sl.cells), .ar gc 0 x.cols.length cC] ∧ st' = Res.box gc 3 (colC x.cols ++ zC) :: st
theorem copyC_ex (x : Vr) (st : St) : ∃ d st', CopyC x st d st' := ⟨_, _, 0, x.cols.length, [], by rw [List.append_nil, colC_len], rfl, rfl⟩
theorem refCopyCF' (x : Vr) (h1 : 1 ≤ x.slots.length) (h2 : 1 ≤ x.cols.length) (hl : x.slots.length ≤ 1000) (hc : x.cols.length ≤ 1000) (st : St) : TrF Tryz.prog 195 [.agg x.cells] st (CopyC x st) :=
  (refCopyCF x h1 h2 hl hc st).mono fun d st' ⟨⟨gc, cC, zC⟩, k1, k2, k3⟩ => ⟨gc, cC, zC, k1, k2, k3⟩
def RawC (x : Vr) (s : Stp) (st : St) (d : D) (st' : St) : Prop := ∃ i : (Bool × Vr) × RI, (Sch.stepV x s = if i.1.1 then some i.1.2 else none) ∧ d = .tup [.agg [.sl .shared (i.1.2.slots.map Sl.cells), .ar i.2.1 0 i.1.2.cols.length i.2.2.1], .b i.1.1] ∧ st' = .box i.2.1 3 ((i.1.2.cols.map encC).flatten ++ i.2.2.2) :: st
theorem rawC_rest {x : Vr} {s : Stp} {st : St} {f : FuncId} {args : List D} (h : TrF Tryz.prog f args st (RawC x s st)) : TrF Tryz.prog f args st (RefStepR x s st) := by
  have h1 := TrF.rest (ι := (Bool × Vr) × RI) (g := fun i => i.2.1) (n := fun i => i.1.2.cols.length) (cap := fun i => i.2.2.1) (es := fun i => i.1.2.cols.map encC) (F' := fun i => .tup [.agg i.1.2.cells, .b i.1.1]) (sz := 1) (by decide) (fun i _ => ⟨cols_each i.1.2.cols, List.length_map ..⟩) (fun i => .tup _ _ (.cons _ _ _ _ (.agg _ _ (.cons _ _ _ _ (.same _) (.cons _ _ _ _ .ar .nil))) (.cons _ _ _ _ (.same _) .nil))) h
  refine h1.mono fun d st' ⟨i, k1, k2, k3⟩ => ?_
  obtain ⟨⟨ok, y⟩, i2⟩ := i
  cases ok with
  | true => exact .inr ⟨y, k1, k2, k3⟩
  | false => exact .inl ⟨k1, _, _, k2, k3⟩
theorem count_take {l : List Int} {i : Nat} {a k : Int} (h : l[i]? = some a) : (l.take (i + 1)).count k = (l.take i).count k + if a = k then 1 else 0 := by
  rw [List.take_add_one, h, Option.toList_some, List.count_append, List.count_singleton]
  congr 1
  by_cases e : a = k
  · rw [if_pos e, if_pos (by simp [e])]
  · rw [if_neg e, if_neg (by simp [e])]
theorem refReorderF (x : Vr) (s : Stp) (h : RefP x s) (hnd : x.cols.Nodup) (hk : s.kind = 5) (st : St) : TrF Tryz.prog 164 [.agg x.cells, .agg s.cells] st (RefStepR x s st) := by
  refine rawC_rest ?_
  obtain ⟨⟨hl, hp, hcp, hcl, hcs⟩, hq, hty, ho⟩ := h
  have hC := refCopyCF' x hp hcp hl (by omega)
  have hE := copyC_ex x
  have hR := refRestF s hq.ok (by omega) ho
  have hF : Hid (Sch.stepV x s = Sch.reorderS x s) := Lib.hid (by unfold Sch.stepV; rw [if_neg (show ¬ s.kind = 1 by omega), if_neg (show ¬ s.kind = 2 by omega), if_neg (show ¬ s.kind = 3 by omega), if_neg (show ¬ s.kind = 4 by omega), if_pos hk])
  have hrv : Sch.restV s = (Sch.bare s.slot false false && (s.col == 0)) := by unfold Sch.restV; rw [if_neg (show ¬ s.kind = 1 by omega), if_neg (show ¬ s.kind = 2 by omega), if_neg (show ¬ s.kind = 3 by omega), if_neg (show ¬ s.kind = 4 by omega)]
  rw [hrv] at hR
  clear hrv
  unfold RawC
  have hC := fun st => hC st
  unfold CopyC at hC hE
  have l2 : (x.cols.map encC).length = x.cols.length := List.length_map ..
  unfold Sch.reorderS at hF
  by_cases hb : Sch.bare s.slot false false = true ∧ s.col = 0
  · obtain ⟨hb1, hb2⟩ := hb
    rw [hb1, hb2] at hR hF
    by_cases hol : s.order.length = x.cols.length
    · have hF2 : Hid (Sch.stepV x s = if ∀ k : Nat, k < x.cols.length → s.order.count (k : Int) = 1 then some ⟨x.slots, Sch.put x.cols s.order⟩ else none) := Lib.hid (by
        rw [hF.out, if_pos ⟨rfl, rfl, hol⟩, Sch.reo_count hnd hol]
        split <;> rfl)
      obtain ⟨y, hy⟩ : ∃ y : Vr, y = ⟨x.slots, Sch.put x.cols s.order⟩ := ⟨_, rfl⟩
      rw [← hy] at hF2
      have hys : Hid (y.slots = x.slots) := Lib.hid (by rw [hy])
      have hyc : Hid (y.cols = Sch.put x.cols s.order) := Lib.hid (by rw [hy])
      have hget := Lib.hid fun (i : Nat) (a : Int) (h : s.order[i]? = some a) => h
      have hrl := colC_len x.cols
      have hdup := Lib.hid hnd
      clear hF hy hcs hq hty hnd
      unfold Vr.cells Stp.cells at *
      generalize Sch.stepV x s = F at *
      cases s with
      | mk kd col slot order =>
      cases slot with
      | mk nm ty rq dv =>
      cases dv with
      | mk k n sv lv =>
      dsimp only at hC hE hR hF2 hk ho hb2 hol hyc hget ⊢
      subst hk
      rw [Sl.cells_mk] at *
      dsimp only [List.cons_append, List.nil_append] at *
      generalize r2e : colC x.cols = R2 at *
      generalize m1e : x.slots.length = m1 at *
      generalize m2e : x.cols.length = m2 at *
      generalize hL1 : x.slots.map Sl.cells = L1 at *
      generalize hL2 : x.cols.map encC = L2 at *
      have r2e : Hid ((x.cols.map encC).flatten = R2) := r2e
      replace m1e := Lib.hid m1e
      replace m2e := Lib.hid m2e
      replace hL1 := Lib.hid hL1
      replace hL2 := Lib.hid hL2
      replace hC := Lib.hid hC
      replace hE := Lib.hid hE
      replace hR := Lib.hid hR
      subst hb2
      replace hb1 := Lib.hid hb1
      refine trF_enterG (G := twoA Tryz.prog (.cell 4 147) (.tmp 5)) Tryz.func164 rfl (by rw [Tryz.ntmps164]; exact Nat.le_of_ble_eq_true rfl) (fun h1 h2 h3 => res_two rfl h1 h2 h3) ?_
      simp only [Tryz.ntmps164]
      repeat' (first | (with_reducible first | refine Q1 ?_ | refine Qe ?_ | refine Ql ?_ | refine Q2 ?_ | refine Qs ?_ | refine Q4 ?_ | (refine al_go ?_; intro b) | fail) | ((with_reducible apply (ck_gen Tryz.call195)); (focus exact List.Perm.refl _); (focus exact hC.out _); (focus exact LEL.refl _); (focus exact hE.out _); (rintro d st' ⟨gc, cC, zC, hz2, rfl, rfl⟩; (obtain ⟨b4, rfl⟩ : ∃ q, q = b := ⟨_, rfl⟩))) | refine Qc Tryz.call196 (hR.out _) ?_ | (with_reducible first | refine Q5 ?_ | (refine Q3a ?_; intro hb; try intro hb1) | (refine Q3b ?_; intro hb; try intro hb1) | (refine Q3 ?_ ?_ <;> intro hb <;> try intro hb1) | fail) | fail)
      obtain ⟨b6, rfl⟩ : ∃ q, q = b := ⟨_, rfl⟩
      refine tr_loopd (ι := Nat) (fun j A st' => j ≤ m2 ∧ Hid (∀ j' : Nat, j' < j → order.count (j' : Int) = 1) ∧ A.df = [] ∧ A.e 2 = .ip [.sl .shared L1, .sl .shared L2] ∧ A.e 3 = .ip [.i 5, .i 0, .str nm, .i ty, .b rq, .i k, .i n, .str sv, .sl .shared (lv.map V.cells), .sl .shared (order.map encI)] ∧ A.e 4 = .ptr b4 0 ∧ A.e 6 = .ptr b6 0 ∧ A.e 11 = .i j ∧ st' = .box b6 147 [.sl .shared L1, .ar gc 0 m2 cC] :: .box gc 3 (R2 ++ zC) :: .box b4 147 [.sl .tight [], .sl .tight []] :: st) (fun j => m2 - j) 0 ⟨Nat.zero_le _, fun j h => absurd h (Nat.not_lt_zero _), Qf, Qf, Qf, Qf, Qf, Qf, rfl⟩ ?_
      rintro j A st' ⟨hj, hcn, hdf, e2, e3, e4, e6, e11, rfl⟩
      by_cases hjl : j < m2
      · repeat' (with_reducible first | refine Q1 ?_ | refine Qe ?_ | refine Ql ?_ | refine Q2 ?_ | refine Qs ?_ | refine Q4 ?_ | (refine al_go ?_; intro b) | refine Q5 ?_ | (refine Q3a ?_; intro hb; try intro hb1) | (refine Q3b ?_; intro hb; try intro hb1) | (refine Q3 ?_ ?_ <;> intro hb <;> try intro hb1) | fail)
        refine tr_loopd (ι := Nat) (fun i A st' => i ≤ m2 ∧ A.df = [] ∧ A.e 2 = .ip [.sl .shared L1, .sl .shared L2] ∧ A.e 3 = .ip [.i 5, .i 0, .str nm, .i ty, .b rq, .i k, .i n, .str sv, .sl .shared (lv.map V.cells), .sl .shared (order.map encI)] ∧ A.e 4 = .ptr b4 0 ∧ A.e 6 = .ptr b6 0 ∧ A.e 11 = .i j ∧ A.e 13 = .i i ∧ (∃ q : Nat, q ≤ i ∧ Hid ((order.take i).count (j : Int) = q) ∧ A.e 12 = .i q) ∧ st' = .box b6 147 [.sl .shared L1, .ar gc 0 m2 cC] :: .box gc 3 (R2 ++ zC) :: .box b4 147 [.sl .tight [], .sl .tight []] :: st) (fun i => m2 - i) 0 ⟨Nat.zero_le _, Qf, Qf, Qf, Qf, Qf, Qf, Qf, ⟨0, Nat.le_refl _, rfl, Qf⟩, rfl⟩ ?_
        clear hdf e2 e3 e4 e6 e11
        rintro i A st' ⟨hi, hdf, e2, e3, e4, e6, e11, e13, ⟨q, hqi, hqc, e12⟩, rfl⟩
        by_cases hil : i < m2
        · obtain ⟨a, ha⟩ : ∃ a, order[i]? = some a := ⟨_, List.getElem?_eq_getElem (by omega)⟩
          have hct := count_take (k := (j : Int)) ha
          have hac : (order.map encI)[i]? = some [D.i a] := by rw [List.getElem?_map, ha]; rfl
          have hml : (order.map encI).length = order.length := List.length_map ..
          rw [hqc.out] at hct
          by_cases haj : a = (j : Int)
          · rw [if_pos haj] at hct
            replace hct := Lib.hid hct
            clear ha
            generalize order.map encI = OL at *
            repeat' (with_reducible first | refine Q1 ?_ | refine Qe ?_ | refine Ql ?_ | refine Q2 ?_ | refine Qs ?_ | refine Q4 ?_ | (refine al_go ?_; intro b) | refine Q5 ?_ | (refine Q3a ?_; intro hb; try intro hb1) | (refine Q3b ?_; intro hb; try intro hb1) | (refine Q3 ?_ ?_ <;> intro hb <;> try intro hb1) | fail)
            refine ⟨i + 1, _, List.Sublist.refl _, ⟨hil, ?_, ?_, ?_, ?_, ?_, ?_, ?_, ⟨q + 1, by omega, hct, ?_⟩, rfl⟩, by omega⟩
            all_goals exact Qf
          · rw [if_neg haj, Nat.add_zero] at hct
            replace hct := Lib.hid hct
            clear ha
            generalize order.map encI = OL at *
            repeat' (with_reducible first | refine Q1 ?_ | refine Qe ?_ | refine Ql ?_ | refine Q2 ?_ | refine Qs ?_ | refine Q4 ?_ | (refine al_go ?_; intro b) | refine Q5 ?_ | (refine Q3a ?_; intro hb; try intro hb1) | (refine Q3b ?_; intro hb; try intro hb1) | (refine Q3 ?_ ?_ <;> intro hb <;> try intro hb1) | fail)
            refine ⟨i + 1, _, List.Sublist.refl _, ⟨hil, ?_, ?_, ?_, ?_, ?_, ?_, ?_, ⟨q, by omega, hct, ?_⟩, rfl⟩, by omega⟩
            all_goals exact Qf
        · have him : i = m2 := by omega
          have hq := hqc.out
          rw [List.take_of_length_le (by omega)] at hq
          replace hol := Lib.hid hol
          replace him := Lib.hid him
          have hil' : ¬ (i : Int) < order.length := by have := hol.out; have := him.out; omega
          by_cases hq1 : q = 1
          · have hcn2 : Hid (∀ j' : Nat, j' < j + 1 → order.count (j' : Int) = 1) := fun j' h => by
              by_cases e : j' = j
              · subst e; rw [hq, hq1]
              · exact hcn.out j' (by omega)
            subst hq1
            replace hq := Lib.hid hq
            repeat' (with_reducible first | refine Q1 ?_ | refine Qe ?_ | refine Ql ?_ | refine Q2 ?_ | refine Qs ?_ | refine Q4 ?_ | (refine al_go ?_; intro b) | refine Q5 ?_ | (refine Q3a ?_; intro hb; try intro hb1) | (refine Q3b ?_; intro hb; try intro hb1) | (refine Q3 ?_ ?_ <;> intro hb <;> try intro hb1) | fail)
            refine ⟨j + 1, _, List.Sublist.refl _, ⟨hjl, hcn2, ?_, ?_, ?_, ?_, ?_, ?_, rfl⟩, by omega⟩
            all_goals exact Qf
          · have hFn : Hid (F = none) := Lib.hid (by rw [hF2.out, if_neg fun h => hq1 (hq.symm.trans (h j hjl))])
            replace hq := Lib.hid hq
            repeat' (with_reducible first | refine Q1 ?_ | refine Qe ?_ | refine Ql ?_ | refine Q2 ?_ | refine Qs ?_ | refine Q4 ?_ | (refine al_go ?_; intro b) | refine Q5 ?_ | (refine Q3a ?_; intro hb; try intro hb1) | (refine Q3b ?_; intro hb; try intro hb1) | (refine Q3 ?_ ?_ <;> intro hb <;> try intro hb1) | fail)
            all_goals (refine retG_mk (rs := []) (by first | exact .inl rfl | exact .inr rfl) (by first | rfl | assumption) (.swap _ _ _) ⟨_, _, rfl, cell_mk (by simp (disch := omega) only [push_cast, simprocAttr, *]; exact rfl) (by repeat (first | exact mm_h | apply mm_t)) (by simp (disch := omega) only [push_cast, simprocAttr, *]; exact rfl) (by (try simp (disch := omega) only [push_cast, simprocAttr, *]); (try exact rfl); done), (by show _ = _; (try simp (disch := omega) only [push_cast, simprocAttr, *]); (try exact rfl); done)⟩ (((List.Sublist.refl _).cons _).cons _ |>.cons_cons _) (LE.refl _) ⟨((false, x), (gc, cC, zC)), hFn.out, by simp only [m2e.out, hL1.out], by simp only [r2e.out]⟩)
      · have hjm : j = m2 := by omega
        have hFy : Hid (F = some y) := Lib.hid (by rw [hF2.out, if_pos (fun k h => hcn.out k (by omega))])
        have hrng : Hid (∀ a ∈ order, 0 ≤ a ∧ a < (m2 : Int)) := Lib.hid (Sch.all_len m2 order hol fun k h => List.count_pos_iff.1 (by rw [hcn.out k (by omega)]; omega)).2
        obtain ⟨CL, hCL⟩ : ∃ CL : Nat → List Nat, CL = fun i => Sch.put x.cols (order.take i) ++ x.cols.drop i := ⟨_, rfl⟩
        have hc0 : Hid (colC (CL 0) = R2) := Lib.hid (by rw [← r2e.out, hCL]; rfl)
        have hce : Hid (CL m2 = y.cols) := Lib.hid (by
          rw [hCL, hyc.out]
          show Sch.put x.cols (order.take m2) ++ x.cols.drop m2 = _
          rw [List.take_of_length_le (by omega), List.drop_of_length_le (by rw [m2e.out]; omega), List.append_nil])
        have hcl1 : Hid (∀ i, i ≤ m2 → (CL i).length = m2) := fun i h => by
          rw [hCL]
          show (Sch.put x.cols (order.take i) ++ x.cols.drop i).length = m2
          rw [List.length_append, List.length_drop, m2e.out, Sch.put, List.length_map, List.length_take]; omega
        have hnx : Hid (∀ (i an : Nat), order[i]? = some (an : Int) → an < m2 → ∃ c, x.cols[an]? = some c ∧ (CL i).set i c = CL (i + 1)) := fun i an h hlt => by
          have hi := (List.getElem?_eq_some_iff.1 h).1
          obtain ⟨c, hc⟩ : ∃ c, x.cols[an]? = some c := ⟨_, List.getElem?_eq_getElem (by rw [m2e.out]; exact hlt)⟩
          refine ⟨c, hc, ?_⟩
          have him : i < x.cols.length := by rw [m2e.out]; omega
          have hpl : (Sch.put x.cols (order.take i)).length = i := by rw [Sch.put, List.length_map, List.length_take]; omega
          rw [hCL]
          show (Sch.put x.cols (order.take i) ++ x.cols.drop i).set i c = Sch.put x.cols (order.take (i + 1)) ++ x.cols.drop (i + 1)
          rw [List.set_append_right i c (by omega), hpl, Nat.sub_self, List.drop_eq_getElem_cons him, List.set_cons_zero]
          rw [show Sch.put x.cols (order.take (i + 1)) = Sch.put x.cols (order.take i) ++ [c] by
            rw [List.take_add_one, h, Option.toList_some, Sch.put, List.map_append]
            show _ ++ [x.cols.getD ((an : Int)).toNat 0] = _
            rw [Int.toNat_natCast, List.getD_eq_getElem?_getD, hc]; rfl]
          rw [List.append_assoc]; rfl
        have hL2g : Hid (∀ (an c : Nat), x.cols[an]? = some c → L2[an]? = some [D.i c]) := fun an c h => by rw [← hL2.out, List.getElem?_map, h]; rfl
        have hrow : Hid (∀ (i c : Nat), i < m2 → List.take i (colC (CL i) ++ zC) ++ [D.i c] ++ List.drop (i + 1) (colC (CL i) ++ zC) = colC ((CL i).set i c) ++ zC) := fun i c h => by
          obtain ⟨w, hw⟩ : ∃ w, (CL i)[i]? = some w := ⟨_, List.getElem?_eq_getElem (by rw [hcl1.out i (by omega)]; exact h)⟩
          have h2 := row_splice (sz := 1) (o := 0) (e := [D.i w]) (ds := [D.i c]) zC ((CL i).map encC) i (cols_each _) (by rw [List.getElem?_map, hw]; rfl) (by simp)
          rw [Nat.mul_one, Nat.add_zero] at h2
          have h3 : ((CL i).map encC).set i (splice [D.i w] 0 [D.i c]) = ((CL i).set i c).map encC := by rw [List.map_set]; rfl
          rw [h3] at h2
          exact h2
        have hrl2 : Hid (∀ i, i ≤ m2 → (colC (CL i) ++ zC).length = cC * 1) := fun i h => by
          have h2 := hz2
          rw [List.length_append] at h2
          rw [List.length_append, colC_len, hcl1.out i h]
          omega
        have hcCm : m2 ≤ cC := by
          have h2 := hz2
          rw [List.length_append] at h2
          omega
        replace hjm := Lib.hid hjm
        clear hcn hF2 hCL
        repeat' (with_reducible first | refine Q1 ?_ | refine Qe ?_ | refine Ql ?_ | refine Q2 ?_ | refine Qs ?_ | refine Q4 ?_ | (refine al_go ?_; intro b) | refine Q5 ?_ | (refine Q3a ?_; intro hb; try intro hb1) | (refine Q3b ?_; intro hb; try intro hb1) | (refine Q3 ?_ ?_ <;> intro hb <;> try intro hb1) | fail)
        refine tr_loopd (ι := Nat) (fun i A st' => i ≤ m2 ∧ A.df = [] ∧ A.e 2 = .ip [.sl .shared L1, .sl .shared L2] ∧ A.e 3 = .ip [.i 5, .i 0, .str nm, .i ty, .b rq, .i k, .i n, .str sv, .sl .shared (lv.map V.cells), .sl .shared (order.map encI)] ∧ A.e 4 = .ptr b4 0 ∧ A.e 6 = .ptr b6 0 ∧ A.e 14 = .i i ∧ st' = .box b6 147 [.sl .shared L1, .ar gc 0 m2 cC] :: .box gc 3 (colC (CL i) ++ zC) :: .box b4 147 [.sl .tight [], .sl .tight []] :: st) (fun i => m2 - i) 0 ⟨Nat.zero_le _, Qf, Qf, Qf, Qf, Qf, Qf, by rw [hc0.out]⟩ ?_
        clear hdf e2 e3 e4 e6 e11
        rintro i A st' ⟨hi, hdf, e2, e3, e4, e6, e14, rfl⟩
        have hzl := hrl2.out i hi
        by_cases hil : i < m2
        · obtain ⟨a, ha⟩ : ∃ a, order[i]? = some a := ⟨_, List.getElem?_eq_getElem (by omega)⟩
          obtain ⟨ha1, ha2⟩ := hrng.out a (List.mem_of_getElem? ha)
          obtain ⟨an, rfl⟩ := Int.eq_ofNat_of_zero_le ha1
          obtain ⟨c, hc1, hc2⟩ := hnx.out i an ha (by omega)
          have hg := hL2g.out an c hc1
          have hac : (order.map encI)[i]? = some [D.i an] := by rw [List.getElem?_map, ha]; rfl
          have hml : (order.map encI).length = order.length := List.length_map ..
          have hsp := hrow.out i c hil
          rw [hc2] at hsp
          have hanl : an < m2 := by omega
          clear hc1 hc2 ha
          generalize hQ1 : colC (CL i) = QA1 at *
          generalize hQ2 : colC (CL (i + 1)) = QA2 at *
          generalize order.map encI = OL at *
          replace hQ1 := Lib.hid hQ1
          have hQ2 := Lib.hid hQ2
          repeat' (first | (with_reducible first | refine Q1 ?_ | refine Qe ?_ | fail) | ((with_reducible apply (w_drawN [(b6, [.sl .shared L1, .ar gc 0 m2 cC])])); (iterate 3 (focus kernel_rfl)); (focus ((repeat (first | exact keep_nil | refine keep_more (by (repeat (first | exact mm_h | apply mm_t)); done) ?_)); done)); intro hne; simp only [nes, ne1, and_assoc] at hne; repeat (have hq := hne.1; replace hne := hne.2)) | ((with_reducible refine And.intro ?_ ?_); (focus ((repeat (first | exact keep_nil | refine keep_more (by (repeat (first | exact mm_h | apply mm_t)); done) ?_)); done))) | (with_reducible first | refine Ql ?_ | refine Q2 ?_ | refine Qs ?_ | refine Q4 ?_ | (refine al_go ?_; intro b) | refine Q5 ?_ | (refine Q3a ?_; intro hb; try intro hb1) | (refine Q3b ?_; intro hb; try intro hb1) | (refine Q3 ?_ ?_ <;> intro hb <;> try intro hb1) | fail) | fail)
          refine ⟨i + 1, .box b6 147 [.sl .shared L1, .ar gc 0 m2 cC] :: .box gc 3 (QA2 ++ zC) :: .box b4 147 [.sl .tight [], .sl .tight []] :: st, List.Sublist.refl _, ⟨hil, ?_, ?_, ?_, ?_, ?_, ?_, by rw [hQ2.out]⟩, by omega⟩
          all_goals exact Qf
        · have him : i = m2 := by omega
          subst him
          generalize hQ1 : colC (CL i) = QA1 at *
          have hQ1 := Lib.hid hQ1
          repeat' (with_reducible first | refine Q1 ?_ | refine Qe ?_ | refine Ql ?_ | refine Q2 ?_ | refine Qs ?_ | refine Q4 ?_ | (refine al_go ?_; intro b) | refine Q5 ?_ | (refine Q3a ?_; intro hb; try intro hb1) | (refine Q3b ?_; intro hb; try intro hb1) | (refine Q3 ?_ ?_ <;> intro hb <;> try intro hb1) | fail)
          all_goals (refine retG_mk (rs := []) (by first | exact .inl rfl | exact .inr rfl) (by first | rfl | assumption) (.swap _ _ _) ⟨_, _, rfl, cell_mk (by simp (disch := omega) only [push_cast, simprocAttr, *]; exact rfl) (by repeat (first | exact mm_h | apply mm_t)) (by simp (disch := omega) only [push_cast, simprocAttr, *]; exact rfl) (by (try simp (disch := omega) only [push_cast, simprocAttr, *]); (try exact rfl); done), (by show _ = _; (try simp (disch := omega) only [push_cast, simprocAttr, *]); (try exact rfl); done)⟩ (((List.Sublist.refl _).cons _).cons _ |>.cons_cons _) (LE.refl _) ⟨((true, y), (gc, cC, zC)), hFy.out, by simp only [hys.out, hL1.out, ← hce.out, hcl1.out _ (Nat.le_refl _)], by rw [← hce.out, ← hQ1.out]; rfl⟩)
    · have hFn : Hid (Sch.stepV x s = none) := Lib.hid (by
        rw [hF.out, if_neg]
        rintro ⟨-, -, h⟩
        exact hol h)
      clear hF hcs hq hty hnd
      unfold Vr.cells Stp.cells at *
      generalize Sch.stepV x s = F at *
      cases s with
      | mk kd col slot order =>
      cases slot with
      | mk nm ty rq dv =>
      cases dv with
      | mk k n sv lv =>
      dsimp only at hC hE hR hk ho hb2 hol ⊢
      subst hk
      rw [Sl.cells_mk] at *
      dsimp only [List.cons_append, List.nil_append] at *
      generalize r2e : colC x.cols = R2 at *
      generalize m1e : x.slots.length = m1 at *
      generalize m2e : x.cols.length = m2 at *
      generalize hL1 : x.slots.map Sl.cells = L1 at *
      generalize hL2 : x.cols.map encC = L2 at *
      have r2e : Hid ((x.cols.map encC).flatten = R2) := r2e
      replace m1e := Lib.hid m1e
      replace m2e := Lib.hid m2e
      replace hL1 := Lib.hid hL1
      replace hL2 := Lib.hid hL2
      replace hC := Lib.hid hC
      replace hE := Lib.hid hE
      replace hR := Lib.hid hR
      subst hb2
      replace hb1 := Lib.hid hb1
      have hol' : ¬ (order.length : Int) = (m2 : Int) := by omega
      clear hol
      refine trF_enterG (G := twoA Tryz.prog (.cell 4 147) (.tmp 5)) Tryz.func164 rfl (by rw [Tryz.ntmps164]; exact Nat.le_of_ble_eq_true rfl) (fun h1 h2 h3 => res_two rfl h1 h2 h3) ?_
      simp only [Tryz.ntmps164]
      repeat' (first | (with_reducible first | refine Q1 ?_ | refine Qe ?_ | refine Ql ?_ | refine Q2 ?_ | refine Qs ?_ | refine Q4 ?_ | (refine al_go ?_; intro b) | fail) | ((with_reducible apply (ck_gen Tryz.call195)); (focus exact List.Perm.refl _); (focus exact hC.out _); (focus exact LEL.refl _); (focus exact hE.out _); (rintro d st' ⟨gc, cC, zC, hz2, rfl, rfl⟩; (obtain ⟨b4, rfl⟩ : ∃ q, q = b := ⟨_, rfl⟩))) | refine Qc Tryz.call196 (hR.out _) ?_ | (with_reducible first | refine Q5 ?_ | (refine Q3a ?_; intro hb; try intro hb1) | (refine Q3b ?_; intro hb; try intro hb1) | (refine Q3 ?_ ?_ <;> intro hb <;> try intro hb1) | fail) | fail)
      all_goals (refine retG_mk (rs := []) (by first | exact .inl rfl | exact .inr rfl) (by first | rfl | assumption) (.swap _ _ _) ⟨_, _, rfl, cell_mk (by simp (disch := omega) only [push_cast, simprocAttr, *]; exact rfl) (by repeat (first | exact mm_h | apply mm_t)) (by simp (disch := omega) only [push_cast, simprocAttr, *]; exact rfl) (by (try simp (disch := omega) only [push_cast, simprocAttr, *]); (try exact rfl); done), (by show _ = _; (try simp (disch := omega) only [push_cast, simprocAttr, *]); (try exact rfl); done)⟩ (((List.Sublist.refl _).cons _).cons _ |>.cons_cons _) (LE.refl _) ⟨((false, x), (gc, cC, zC)), hFn.out, by simp only [m2e.out, hL1.out], by simp only [r2e.out]⟩)
  · have hrr : (Sch.bare s.slot false false && (s.col == 0)) = false := by
      cases h1 : Sch.bare s.slot false false with
      | false => rfl
      | true => rw [Bool.true_and, beq_eq_false_iff_ne]; exact fun h2 => hb ⟨h1, h2⟩
    rw [hrr] at hR
    have hFn : Hid (Sch.stepV x s = none) := Lib.hid (by
      rw [hF.out, if_neg]
      rintro ⟨h1, h2, -⟩
      exact hb ⟨h2, h1⟩)
    clear hF hcs hb hrr hq hty hnd
    unfold Vr.cells Stp.cells at *
    generalize Sch.stepV x s = F at *
    cases s with
    | mk kd col slot order =>
    cases slot with
    | mk nm ty rq dv =>
    cases dv with
    | mk k n sv lv =>
    dsimp only at hC hE hR hk ho ⊢
    subst hk
    rw [Sl.cells_mk] at *
    dsimp only [List.cons_append, List.nil_append] at *
    generalize r2e : colC x.cols = R2 at *
    generalize m1e : x.slots.length = m1 at *
    generalize m2e : x.cols.length = m2 at *
    generalize hL1 : x.slots.map Sl.cells = L1 at *
    generalize hL2 : x.cols.map encC = L2 at *
    have r2e : Hid ((x.cols.map encC).flatten = R2) := r2e
    replace m1e := Lib.hid m1e
    replace m2e := Lib.hid m2e
    replace hL1 := Lib.hid hL1
    replace hL2 := Lib.hid hL2
    replace hC := Lib.hid hC
    replace hE := Lib.hid hE
    replace hR := Lib.hid hR
    refine trF_enterG (G := twoA Tryz.prog (.cell 4 147) (.tmp 5)) Tryz.func164 rfl (by rw [Tryz.ntmps164]; exact Nat.le_of_ble_eq_true rfl) (fun h1 h2 h3 => res_two rfl h1 h2 h3) ?_
    simp only [Tryz.ntmps164]
    repeat' (first | (with_reducible first | refine Q1 ?_ | refine Qe ?_ | refine Ql ?_ | refine Q2 ?_ | refine Qs ?_ | refine Q4 ?_ | (refine al_go ?_; intro b) | fail) | ((with_reducible apply (ck_gen Tryz.call195)); (focus exact List.Perm.refl _); (focus exact hC.out _); (focus exact LEL.refl _); (focus exact hE.out _); (rintro d st' ⟨gc, cC, zC, hz2, rfl, rfl⟩; (obtain ⟨b4, rfl⟩ : ∃ q, q = b := ⟨_, rfl⟩))) | refine Qc Tryz.call196 (hR.out _) ?_ | (with_reducible first | refine Q5 ?_ | (refine Q3a ?_; intro hb; try intro hb1) | (refine Q3b ?_; intro hb; try intro hb1) | (refine Q3 ?_ ?_ <;> intro hb <;> try intro hb1) | fail) | fail)
    all_goals (refine retG_mk (rs := []) (by first | exact .inl rfl | exact .inr rfl) (by first | rfl | assumption) (.swap _ _ _) ⟨_, _, rfl, cell_mk (by simp (disch := omega) only [push_cast, simprocAttr, *]; exact rfl) (by repeat (first | exact mm_h | apply mm_t)) (by simp (disch := omega) only [push_cast, simprocAttr, *]; exact rfl) (by (try simp (disch := omega) only [push_cast, simprocAttr, *]); (try exact rfl); done), (by show _ = _; (try simp (disch := omega) only [push_cast, simprocAttr, *]); (try exact rfl); done)⟩ (((List.Sublist.refl _).cons _).cons _ |>.cons_cons _) (LE.refl _) ⟨((false, x), (gc, cC, zC)), hFn.out, by simp only [m2e.out, hL1.out], by simp only [r2e.out]⟩)
end Go.Proofs.YtgcienlfpnpbgaaGreat
end

section
namespace Go.Proofs.YtgcienlfpnpbgaaGreat
set_option linter.unusedSimpArgs false
attribute [local push_cast] encB encI encC V.cells_mk V.cells_len Nat.mul_one Int.sub_zero List.map_nil beq_self_eq_true List.head?_cons
open Go.RowKit
set_option maxRecDepth 10000
set_option maxHeartbeats 4000000
theorem refOutF (x : Vr) (s : Stp) (h : RefP x s) (hk : s.kind < 1 ∨ 5 < s.kind) (st : St) : TrF Tryz.prog 164 [.agg x.cells, .agg s.cells] st (RefStepR x s st) := by
  obtain ⟨⟨hl, hp, hcp, hcl, hcs⟩, hq, hty, ho⟩ := h
  have hC := refCopyAF x hp hcp hl (by omega)
  have hFn : Hid (Sch.stepV x s = none) := Lib.hid (by unfold Sch.stepV; rw [if_neg (show ¬ s.kind = 1 by omega), if_neg (show ¬ s.kind = 2 by omega), if_neg (show ¬ s.kind = 3 by omega), if_neg (show ¬ s.kind = 4 by omega), if_neg (show ¬ s.kind = 5 by omega)])
  unfold RefStepR
  unfold Vr.cells Stp.cells at *
  generalize Sch.stepV x s = F at *
  have hk' : s.kind < 1 ∨ (1 ≤ s.kind ∧ 5 < s.kind) := by omega
  clear hk hq hty hcs
  cases s with
  | mk kd col slot order =>
  cases slot with
  | mk nm ty rq dv =>
  cases dv with
  | mk k n sv lv =>
  dsimp only at hC hk' ho ⊢
  rw [Sl.cells_mk] at *
  dsimp only [List.cons_append, List.nil_append] at *
  generalize x.slots.map Sl.cells = L1 at *
  generalize x.cols.map encC = L2 at *
  replace hC := Lib.hid hC
  rcases hk' with h1 | ⟨h1, h2⟩
  all_goals skip
  all_goals (
    refine trF_enterG (G := twoA Tryz.prog (.cell 4 147) (.tmp 5)) Tryz.func164 rfl (by rw [Tryz.ntmps164]; exact Nat.le_of_ble_eq_true rfl) (fun h1 h2 h3 => res_two rfl h1 h2 h3) ?_
    simp only [Tryz.ntmps164]
    repeat' (first | (with_reducible first | refine Q1 ?_ | refine Qe ?_ | refine Ql ?_ | refine Q2 ?_ | refine Qs ?_ | refine Q4 ?_ | (refine al_go ?_; intro b) | fail) | refine Qc Tryz.call195 (hC.out _) ?_ | (with_reducible first | refine Q5 ?_ | (refine Q3a ?_; intro hb; try intro hb1) | (refine Q3b ?_; intro hb; try intro hb1) | (refine Q3 ?_ ?_ <;> intro hb <;> try intro hb1) | fail) | fail)
    all_goals (refine retG_mk (rs := []) (by first | exact .inl rfl | exact .inr rfl) (by first | rfl | assumption) (List.Perm.refl _) ⟨_, _, rfl, cell_mk (by simp (disch := omega) only [push_cast, simprocAttr, *]; exact rfl) (by repeat (first | exact mm_h | apply mm_t)) (by simp (disch := omega) only [push_cast, simprocAttr, *]; exact rfl) (by (try simp (disch := omega) only [push_cast, simprocAttr, *]); (try exact rfl); done), (by show _ = _; (try simp (disch := omega) only [push_cast, simprocAttr, *]); (try exact rfl); done)⟩ (by (repeat (first | exact List.Sublist.refl _ | with_reducible apply List.Sublist.cons_cons | apply List.Sublist.cons))) (LE.refl _) (.inl ⟨hFn.out, _, _, rfl, rfl⟩)))
theorem refStepF (x : Vr) (s : Stp) (h : RefP x s) (hnd : x.cols.Nodup) (hxt : ∀ z ∈ x.slots, Sch.takes z.types = true) (st : St) : TrF Tryz.prog 164 [.agg x.cells, .agg s.cells] st (RefStepR x s st) := by
  by_cases h1 : s.kind = 1
  · exact refAddF x s h h1 st
  by_cases h2 : s.kind = 2
  · exact refLoseF x s h h2 st
  by_cases h3 : s.kind = 3
  · exact refRenameF x s h h3 st
  by_cases h4 : s.kind = 4
  · exact refWidenF x s h hxt h4 st
  by_cases h5 : s.kind = 5
  · exact refReorderF x s h hnd h5 st
  exact refOutF x s h (by omega) st
namespace Sch
theorem step_nd {x y : Vr} {s : Stp} (hb : ∀ c ∈ x.cols, c < x.slots.length) (hx : x.cols.Nodup) (h : stepV x s = some y) : y.cols.Nodup := by
  unfold stepV at h
  split at h
  · unfold addS at h
    split at h
    · cases h
      show (x.cols ++ [x.slots.length]).Nodup
      rw [List.nodup_append]
      refine ⟨hx, by simp, fun a ha b hb' e => ?_⟩
      rw [List.mem_singleton] at hb'
      subst hb' e
      have := hb _ ha
      omega
    · cases h
  · split at h
    · unfold loseS at h
      split at h
      · cases h; exact hx.eraseIdx _
      · cases h
    · split at h
      · unfold renameS at h
        split at h
        · cases h; exact hx
        · cases h
      · split at h
        · unfold widenS at h
          split at h
          · cases h; exact hx
          · cases h
        · split at h
          · unfold reorderS at h
            split at h
            · rename_i hc
              have hl : s.order.length = x.cols.length := hc.2.2
              rw [reo_count hx hl] at h
              split at h
              · rename_i hq
                cases h
                obtain ⟨h1, h2⟩ := all_len x.cols.length s.order hl fun k hk => List.count_pos_iff.1 (by rw [hq k hk]; omega)
                show (put x.cols s.order).Nodup
                unfold put
                rw [List.nodup_iff_pairwise_ne, List.pairwise_map]
                refine List.Pairwise.imp_of_mem (fun {a b} ha hb hab e => ?_) h1
                exact hab (getD_inj hx (h2 a ha) (h2 b hb) e)
              · cases h
            · cases h
          · cases h
structure VZ (n : Nat) (x : Vr) : Prop where
  vi : VI n x
  nd : x.cols.Nodup
  sl : ∀ z ∈ x.slots, SOk z
theorem firstL_nd : ∀ (l : List Sl) (x y : Vr), (∀ c ∈ x.cols, c < x.slots.length) → x.cols.Nodup → (∀ z ∈ x.slots, SOk z) → firstL l x = some y → y.cols.Nodup ∧ ∀ z ∈ y.slots, SOk z
  | [], x, y, _, h2, h3, h => by cases h; exact ⟨h2, h3⟩
  | s :: l, x, y, h1, h2, h3, h => by
    rw [firstL] at h
    split at h
    · rename_i hc
      refine firstL_nd l _ y (fun c hc => ?_) ?_ (fun z hz => ?_) h
      · rcases List.mem_append.1 hc with h | h
        · have := h1 c h; simp; omega
        · rw [List.mem_singleton] at h
          subst h; simp
      · show (x.cols ++ [x.slots.length]).Nodup
        rw [List.nodup_append]
        refine ⟨h2, by simp, fun a ha b hb' e => ?_⟩
        rw [List.mem_singleton] at hb'
        subst hb' e
        have := h1 _ ha
        omega
      · rcases List.mem_append.1 hz with h | h
        · exact h3 z h
        · rw [List.mem_singleton] at h
          subst h; exact sound_ok hc.1
    · cases h
theorem first_vz {t : Tm} {x : Vr} (h : firstV t = some x) : VZ 8 x := by
  have hv := (first_vi h).1
  unfold firstV at h
  split at h
  · obtain ⟨h1, h2⟩ := firstL_nd _ _ _ (fun c h => by cases h) List.nodup_nil (fun z h => by cases h) h
    exact ⟨hv, h1, h2⟩
  · cases h
theorem step_vz {n : Nat} {x y : Vr} {s : Stp} (hx : VZ n x) (h : stepV x s = some y) : VZ (n + 1) y :=
  ⟨step_vi hx.vi h, step_nd hx.vi.cs hx.nd h, (step_grow hx.sl h).2⟩
end Sch
end Go.Proofs.YtgcienlfpnpbgaaGreat
end

section
namespace Go.Proofs.YtgcienlfpnpbgaaGreat
set_option linter.unusedSimpArgs false
attribute [local push_cast] encB encI encC V.cells_mk V.cells_len Nat.mul_one Int.sub_zero List.map_nil beq_self_eq_true List.head?_cons
open Go.RowKit
set_option maxRecDepth 10000
set_option maxHeartbeats 4000000
structure TQ (t : Tm) : Prop where
  ls : t.slots.length ≤ 1000
  lt : t.steps.length ≤ 1000
  os : ∀ s ∈ t.slots, VQ s.dv ∧ (-9223372036854775808 ≤ s.types ∧ s.types ≤ 9223372036854775807)
  ot : ∀ s ∈ t.steps, VQ s.slot.dv ∧ (-9223372036854775808 ≤ s.slot.types ∧ s.slot.types ≤ 9223372036854775807) ∧ s.order.length ≤ 1000
def Sch.refVers (t : Tm) : List Vr := if 0 < Sch.last t then Sch.vers t else []
theorem refStepR_ex (x : Vr) (s : Stp) (st : St) : ∃ d st', RefStepR x s st d st' := by
  unfold RefStepR
  cases h : Sch.stepV x s with
  | none => exact ⟨_, _, .inl ⟨rfl, [], [], rfl, rfl⟩⟩
  | some y => exact ⟨_, _, .inr ⟨y, rfl, rfl, rfl⟩⟩
theorem Vr.cells_leaf (x : Vr) : ∀ d ∈ x.cells, d.leaf = true := by
  intro d hd
  unfold Vr.cells at hd
  simp only [List.mem_cons, List.not_mem_nil, or_false] at hd
  rcases hd with rfl | rfl <;> rfl
theorem refVersF (t : Tm) (ht : TQ t) (st : St) : TrF Tryz.prog 114 [.agg t.cells] st fun d st' => d = .sl .shared ((Sch.refVers t).map Vr.cells) ∧ st' = st := by
  have hN := Lib.hid (refIsNameF t.name)
  have hF : Hid (Sch.firstV t = if V.isName t.name.data.toList = true ∧ 1 ≤ t.slots.length ∧ t.slots.length ≤ 8 ∧ t.steps.length ≤ 8 then Sch.firstL t.slots ⟨[], []⟩ else none) := rfl
  have hV : Hid (Sch.vers t = match Sch.firstV t with | none => [] | some x => x :: Sch.versL x t.steps) := rfl
  have hLs : Hid (Sch.last t = if (Sch.vers t).length = t.steps.length + 1 then t.steps.length + 1 else 0) := rfl
  have hz : Hid (∀ x, Sch.firstV t = some x → Sch.VZ 8 x) := fun x h => Sch.first_vz h
  obtain ⟨hls, hlt', hos, hot⟩ := ht
  unfold Sch.refVers
  generalize Sch.last t = LT at *
  generalize Sch.vers t = VS at *
  generalize Sch.firstV t = F at *
  cases t with
  | mk nm slots steps =>
  unfold Tm.cells
  dsimp only at hN hF hV hLs hls hlt' hos hot ⊢
  have hos2 := Lib.hid hos
  have hot2 := Lib.hid hot
  clear hos hot
  generalize V.isName nm.data.toList = qn at *
  have hcl : Hid (∀ (i : Nat) (s : Sl), slots[i]? = some s → (slots.map Sl.cells)[i]? = some s.cells) := fun i s h => by rw [List.getElem?_map, h]; rfl
  have hcp : Hid (∀ (i : Nat) (s : Stp), steps[i]? = some s → (steps.map Stp.cells)[i]? = some s.cells) := fun i s h => by rw [List.getElem?_map, h]; rfl
  have hml : (slots.map Sl.cells).length = slots.length := List.length_map ..
  have hmp : (steps.map Stp.cells).length = steps.length := List.length_map ..
  generalize slots.map Sl.cells = SL at *
  generalize steps.map Stp.cells = TL at *
  by_cases hc : qn = true ∧ 1 ≤ slots.length ∧ slots.length ≤ 8 ∧ steps.length ≤ 8
  case neg =>
    have hF2 : F = none := by rw [hF.out, if_neg hc]
    have hR : Hid ((if 0 < LT then VS else []) = []) := Lib.hid (by
      have h1 : VS = [] := by rw [hV.out, hF2]
      have h2 : LT = 0 := by rw [hLs.out, h1]; exact if_neg (by simp)
      rw [h2]; exact if_neg (by omega))
    rw [hR.out]
    have hno : qn = false ∨ (qn = true ∧ (slots.length : Int) < 1) ∨ (qn = true ∧ 1 ≤ (slots.length : Int) ∧ 8 < (slots.length : Int)) ∨ (qn = true ∧ 1 ≤ (slots.length : Int) ∧ (slots.length : Int) ≤ 8 ∧ 8 < (steps.length : Int)) := by
      cases qn
      · exact .inl rfl
      · refine .inr ?_
        by_cases h1 : 1 ≤ slots.length
        · by_cases h2 : slots.length ≤ 8
          · by_cases h3 : steps.length ≤ 8
            · exact absurd ⟨rfl, h1, h2, h3⟩ hc
            · exact .inr (.inr ⟨rfl, by omega, by omega, by omega⟩)
          · exact .inr (.inl ⟨rfl, by omega, by omega⟩)
        · exact .inl ⟨rfl, by omega⟩
    clear hc hF hV hLs hz hF2 hR
    rcases hno with rfl | ⟨rfl, h1⟩ | ⟨rfl, h1, h2⟩ | ⟨rfl, h1, h2, h3⟩
    all_goals skip
    all_goals (
      refine Qin [2] Tryz.func114 Tryz.results114 Tryz.ntmps114 ?_
      repeat' (first | (with_reducible first | refine Q1 ?_ | refine Qe ?_ | refine Ql ?_ | refine Q2 ?_ | refine Qs ?_ | refine Q4 ?_ | (refine al_go ?_; intro b) | fail) | refine Qc Tryz.call89 (hN.out _) ?_ | (with_reducible first | (refine Qa ?_; intro o' ho') | (refine Qp ?_; intro o' ho') | refine Q5 ?_ | (refine Q3a ?_; intro hb; try intro hb1) | (refine Q3b ?_; intro hb; try intro hb1) | (refine Q3 ?_ ?_ <;> intro hb <;> try intro hb1) | fail) | fail)
      all_goals exact Qret)
  case pos =>
    have hF2 : Hid (F = Sch.firstL slots ⟨[], []⟩) := Lib.hid (by rw [hF.out, if_pos hc])
    obtain ⟨rfl, h1, h2, h3⟩ := hc
    clear hF
    obtain ⟨B, hB⟩ : ∃ B, Sch.firstL slots ⟨[], []⟩ = B := ⟨_, rfl⟩
    have HB : Hid (Sch.firstL (slots.drop 0) ⟨[], []⟩ = B) := hB
    rw [hB] at hF2
    clear hB
    have hnone : Hid (B = none → (if 0 < LT then VS else []) = []) := fun h => by
      have h1 : VS = [] := by rw [hV.out, hF2.out, h]
      have h2 : LT = 0 := by rw [hLs.out, h1]; exact if_neg (by simp)
      rw [h2]; exact if_neg (by omega)
    generalize hRV : (if 0 < LT then VS else []) = RV at *
    replace hRV := Lib.hid hRV
    refine Qin [2] Tryz.func114 Tryz.results114 Tryz.ntmps114 ?_
    repeat' (first | (with_reducible first | refine Q1 ?_ | refine Qe ?_ | refine Ql ?_ | refine Q2 ?_ | refine Qs ?_ | refine Q4 ?_ | (refine al_go ?_; intro b) | fail) | refine Qc Tryz.call89 (hN.out _) ?_ | (with_reducible first | (refine Qa ?_; intro o' ho') | (refine Qp ?_; intro o' ho') | refine Q5 ?_ | (refine Q3a ?_; intro hb; try intro hb1) | (refine Q3b ?_; intro hb; try intro hb1) | (refine Q3 ?_ ?_ <;> intro hb <;> try intro hb1) | fail) | fail)
    obtain ⟨b3, rfl⟩ : ∃ q, q = b := ⟨_, rfl⟩
    refine tr_loopd (ι := Nat) (fun i A st' => i ≤ slots.length ∧ A.df = [] ∧ A.e 1 = .ip [.str nm, .sl .shared SL, .sl .shared TL] ∧ A.e 3 = .ptr b3 0 ∧ A.e 4 = .i i ∧ ∃ x : Vr, x.slots.length = i ∧ x.cols.length = i ∧ (∀ c ∈ x.cols, c < x.slots.length) ∧ Hid (Sch.firstL (slots.drop i) x = B) ∧
      ((i = 0 ∧ x = ⟨[], []⟩ ∧ st' = .box b3 147 [.sl .tight [], .sl .tight []] :: st) ∨ (0 < i ∧ ∃ gs cS zS gc cC zC, (slotC x.slots ++ zS).length = cS * 7 ∧ (colC x.cols ++ zC).length = cC * 1 ∧ st' = .box gc 3 (colC x.cols ++ zC) :: .box gs 75 (slotC x.slots ++ zS) :: .box b3 147 [.ar gs 0 i cS, .ar gc 0 i cC] :: st))) (fun i => slots.length - i) 0 ⟨Nat.zero_le _, Qf, Qf, Qf, Qf, ⟨[], []⟩, rfl, rfl, (fun c h => by cases h), HB, .inl ⟨rfl, rfl, rfl⟩⟩ ?_
    rintro i A st' ⟨hi, hdf, e1, e3, e4, x, hxs, hxc, hxcs, HT, hcase⟩
    clear HB
    by_cases hlt : i < slots.length
    · obtain ⟨sl, hsl⟩ : ∃ s, slots[i]? = some s := ⟨_, List.getElem?_eq_getElem hlt⟩
      have HE := HT.out
      rw [firstL_drop hsl] at HE
      clear HT
      obtain ⟨hq, hty⟩ := hos2.out sl (List.mem_of_getElem? hsl)
      have hS := refSoundF sl hq hty
      have hC := refColF x.slots x.cols sl.name (by omega) (by omega) hxcs []
      have hcl2 := hcl.out i sl hsl
      have hcs3 : Hid (∀ c ∈ x.cols ++ [x.slots.length], c < (x.slots ++ [sl]).length) := fun c hc => by
        rcases List.mem_append.1 hc with h | h
        · have := hxcs c h; simp; omega
        · rw [List.mem_singleton] at h
          subst h; simp
      clear hsl hq hty hxcs
      unfold Sch.col at HE
      have g1 := Lib.hid (slotC_add x.slots sl)
      have g2 := Lib.hid (colC_add x.cols x.slots.length)
      cases sl with
      | mk snm sty srq sdv =>
      cases sdv with
      | mk sk sn ss sL =>
      rw [Sl.cells_mk] at hS hcl2 g1
      dsimp only at hS hC HE g1
      generalize Sch.sound _ = q at *
      rcases hcase with ⟨rfl, hx0, rfl⟩ | ⟨hi0, gs, cS, zS, gc, cC, zC, hz1, hz2, rfl⟩
      · subst hx0
        dsimp only at hC HE g1 g2 hcs3
        rw [List.map_nil, List.map_nil] at hC
        rw [Sch.colL] at hC HE
        replace hS := Lib.hid hS
        replace hC := Lib.hid hC
        replace g1 := Lib.hid g1
        replace g2 := Lib.hid g2
        cases q with
        | false =>
          rw [if_neg (fun h => Bool.noConfusion h.1)] at HE
          have hRn := hnone.out HE.symm
          subst hRn
          clear HE
          repeat' (first | (with_reducible first | refine Q1 ?_ | refine Qe ?_ | fail) | ((with_reducible refine w_drawRN ?_ ?_ ?_ ?_); (iterate 3 (focus kernel_rfl)); intro hne; simp only [nes, ne1, and_assoc] at hne; repeat (have hq := hne.1; replace hne := hne.2)) | (with_reducible first | refine Ql ?_ | refine Q2 ?_ | refine Qs ?_ | refine Q4 ?_ | (refine al_go ?_; intro b) | fail) | refine Qc Tryz.call162 (hS.out _) ?_ | ((with_reducible apply (ck_lend Tryz.call163)); (focus exact hC.out); (focus exact ⟨Lend.agg ⟨Lend.sl _ _, Lend.sl _ _, trivial⟩, Lend.refl _, trivial⟩)) | (with_reducible first | (refine Qa ?_; intro o' ho') | (refine Qp ?_; intro o' ho') | refine Q5 ?_ | (refine Q3a ?_; intro hb; try intro hb1) | (refine Q3b ?_; intro hb; try intro hb1) | (refine Q3 ?_ ?_ <;> intro hb <;> try intro hb1) | fail) | fail)
          all_goals exact Qret
        | true =>
          rw [if_pos ⟨rfl, by decide⟩] at HE
          replace HE := Lib.hid HE
          repeat' (first | (with_reducible first | refine Q1 ?_ | refine Qe ?_ | fail) | ((with_reducible refine w_drawRN ?_ ?_ ?_ ?_); (iterate 3 (focus kernel_rfl)); intro hne; simp only [nes, ne1, and_assoc] at hne; repeat (have hq := hne.1; replace hne := hne.2)) | ((with_reducible apply (w_drawN [(b3, [.sl .tight [], .sl .tight []])])); (iterate 3 (focus kernel_rfl)); (focus ((repeat (first | exact keep_nil | refine keep_more (by (repeat (first | exact mm_h | apply mm_t)); done) ?_)); done)); intro hne; simp only [nes, ne1, and_assoc] at hne; repeat (have hq := hne.1; replace hne := hne.2)) | ((with_reducible refine And.intro ?_ ?_); (focus ((repeat (first | exact keep_nil | refine keep_more (by (repeat (first | exact mm_h | apply mm_t)); done) ?_)); done))) | with_reducible refine s_appN ?_ | with_reducible refine rn_go ?_ | ((with_reducible apply rn2_go); (focus (simp only [List.length_cons, List.length_nil]; omega)); (focus exact len_one rfl); (focus (simp only [List.length_cons, List.length_nil]; omega)); (focus (simp only [List.length_cons, List.length_nil]; omega)); intro g' c' z' hc' hl') | (with_reducible first | refine Ql ?_ | refine Q2 ?_ | refine Qs ?_ | refine Q4 ?_ | (refine al_go ?_; intro b) | fail) | refine Qc Tryz.call162 (hS.out _) ?_ | ((with_reducible apply (ck_lend Tryz.call163)); (focus exact hC.out); (focus exact ⟨Lend.agg ⟨Lend.sl _ _, Lend.sl _ _, trivial⟩, Lend.refl _, trivial⟩)) | (with_reducible first | (refine Qa ?_; intro o' ho') | (refine Qp ?_; intro o' ho') | refine Q5 ?_ | (refine Q3a ?_; intro hb; try intro hb1) | (refine Q3b ?_; intro hb; try intro hb1) | (refine Q3 ?_ ?_ <;> intro hb <;> try intro hb1) | fail) | fail)
          rename_i gs' cS' zS' hcs' hls'
          refine ⟨1, .box g' 3 ([[D.i 0]].flatten ++ z') :: .box gs' 75 ([[.str snm, .i sty, .b srq, .i sk, .i sn, .str ss, .sl .shared (sL.map V.cells)]].flatten ++ zS') :: .box b3 147 [.ar gs' 0 1 cS', .ar g' 0 1 c'] :: st, List.Sublist.refl _, ⟨hlt, ?_, ?_, ?_, ?_, ⟨[] ++ [.mk snm sty srq (.mk sk sn ss sL)], [] ++ [([] : List Sl).length]⟩, rfl, rfl, hcs3.out, HE, .inr ⟨Nat.zero_lt_one, gs', cS', zS', g', c', z', ?_, ?_, ?_⟩⟩, ?_⟩
          iterate 4 (focus exact Qf)
          · rw [show slotC ([] ++ [Sl.mk snm sty srq (.mk sk sn ss sL)]) = [(Sl.mk snm sty srq (.mk sk sn ss sL)).cells].flatten from rfl, Sl.cells_mk]
            exact hls'
          · exact hl'
          · rw [show slotC ([] ++ [Sl.mk snm sty srq (.mk sk sn ss sL)]) = [(Sl.mk snm sty srq (.mk sk sn ss sL)).cells].flatten from rfl, Sl.cells_mk]
            rfl
          · omega
      · have hr1 := slotC_len x.slots
        have hr2 := colC_len x.cols
        have e1 := Lib.hid (slots_each x.slots)
        have e2 := Lib.hid (cols_each x.cols)
        have f1 := Lib.hid (slotC_flat x)
        have f2 := Lib.hid (colC_flat x)
        have l1 : Hid ((x.slots.map Sl.cells).length = i) := Lib.hid (by rw [List.length_map, hxs])
        have l2 : Hid ((x.cols.map encC).length = i) := Lib.hid (by rw [List.length_map, hxc])
        rw [hxs] at hr1 HE g2
        rw [hxc] at hr2
        have hcs4 : Hid (∀ c ∈ x.cols ++ [i], c < (x.slots ++ [Sl.mk snm sty srq (.mk sk sn ss sL)]).length) := Lib.hid (by have := hcs3.out; rwa [hxs] at this)
        generalize Sch.colL x.slots snm x.cols = cv at *
        obtain ⟨S1, hS1⟩ : ∃ S1, slotC x.slots = S1 := ⟨_, rfl⟩
        obtain ⟨C1, hC1⟩ : ∃ C1, colC x.cols = C1 := ⟨_, rfl⟩
        rw [hS1] at hz1 hr1 f1 g1
        rw [hC1] at hz2 hr2 f2 g2
        rw [hS1, hC1]
        clear hS1 hC1
        generalize x.slots.map Sl.cells = L1 at *
        generalize x.cols.map encC = L2 at *
        replace hS := Lib.hid hS
        replace hC := Lib.hid hC
        by_cases hqc : q = true ∧ cv < 0
        · obtain ⟨rfl, hcv⟩ := hqc
          rw [if_pos ⟨rfl, hcv⟩] at HE
          replace HE := Lib.hid HE
          replace hxs := Lib.hid hxs
          replace hxc := Lib.hid hxc
          repeat' (first | (with_reducible first | refine Q1 ?_ | refine Qe ?_ | fail) | ((with_reducible apply (w_drawN [(b3, [.ar gs 0 i cS, .ar gc 0 i cC])])); (iterate 3 (focus kernel_rfl)); (focus ((repeat (first | exact keep_nil | refine keep_more (by (repeat (first | exact mm_h | apply mm_t)); done) ?_)); done)); intro hne; simp only [nes, ne1, and_assoc] at hne; repeat (have hq := hne.1; replace hne := hne.2)) | ((with_reducible refine And.intro ?_ ?_); (focus ((repeat (first | exact keep_nil | refine keep_more (by (repeat (first | exact mm_h | apply mm_t)); done) ?_)); done))) | with_reducible refine s_appR ?_ | with_reducible refine rk_go ?_ | ((with_reducible apply (r2_go hr1 hz1)); (focus (intro g' cs'; repeat (first | exact ra_h | apply ra_t))); (focus exact len_one rfl); (focus (simp only [List.length_cons, List.length_nil]; omega)); (focus (simp only [List.length_cons, List.length_nil]; omega)); intro gs' cS' zS' hcs hls) | ((with_reducible apply (r2_go hr2 hz2)); (focus (intro g' cs'; repeat (first | exact ra_h | apply ra_t))); (focus exact len_one rfl); (focus (simp only [List.length_cons, List.length_nil]; omega)); (focus (simp only [List.length_cons, List.length_nil]; omega)); intro gc' cC' zC' hcc hlc) | (with_reducible first | refine Ql ?_ | refine Q2 ?_ | refine Qs ?_ | refine Q4 ?_ | (refine al_go ?_; intro b) | fail) | refine Qc Tryz.call162 (hS.out _) ?_ | ((with_reducible apply (ck_lend Tryz.call163)); (focus exact hC.out); (focus exact ⟨Lend.agg ⟨Lend.rowE (by repeat (first | exact mm_h | apply mm_t)) f1.out (by decide) e1.out l1.out, Lend.rowE (by repeat (first | exact mm_h | apply mm_t)) f2.out (by decide) e2.out l2.out, trivial⟩, Lend.refl _, trivial⟩)) | (with_reducible first | (refine Qa ?_; intro o' ho') | (refine Qp ?_; intro o' ho') | refine Q5 ?_ | (refine Q3a ?_; intro hb; try intro hb1) | (refine Q3b ?_; intro hb; try intro hb1) | (refine Q3 ?_ ?_ <;> intro hb <;> try intro hb1) | fail) | fail)
          refine ⟨i + 1, .box gc' 3 (C1 ++ [[D.i i]].flatten ++ zC') :: .box gs' 75 (S1 ++ [[.str snm, .i sty, .b srq, .i sk, .i sn, .str ss, .sl .shared (sL.map V.cells)]].flatten ++ zS') :: .box b3 147 [.ar gs' 0 (i + 1) cS', .ar gc' 0 (i + 1) cC'] :: st, List.Sublist.refl _, ⟨hlt, ?_, ?_, ?_, ?_, ⟨x.slots ++ [.mk snm sty srq (.mk sk sn ss sL)], x.cols ++ [i]⟩, ?_, ?_, hcs4.out, HE, .inr ⟨Nat.succ_pos _, gs', cS', zS', gc', cC', zC', ?_, ?_, ?_⟩⟩, ?_⟩
          iterate 4 (focus exact Qf)
          · rw [List.length_append, hxs.out]; rfl
          · rw [List.length_append, hxc.out]; rfl
          · rw [g1.out]; exact hls
          · rw [g2.out]; exact hlc
          · rw [g1.out, g2.out]
          · omega
        · rw [if_neg hqc] at HE
          have hRn := hnone.out HE.symm
          subst hRn
          clear HE
          have hno : q = false ∨ (q = true ∧ 0 ≤ cv) := by
            cases q
            · exact .inl rfl
            · exact .inr ⟨rfl, by
                have : ¬ cv < 0 := fun h => hqc ⟨rfl, h⟩
                omega⟩
          clear hqc
          rcases hno with rfl | ⟨rfl, hcv⟩
          all_goals skip
          all_goals (
            repeat' (first | (with_reducible first | refine Q1 ?_ | refine Qe ?_ | fail) | ((with_reducible refine w_drawRN ?_ ?_ ?_ ?_); (iterate 3 (focus kernel_rfl)); intro hne; simp only [nes, ne1, and_assoc] at hne; repeat (have hq := hne.1; replace hne := hne.2)) | (with_reducible first | refine Ql ?_ | refine Q2 ?_ | refine Qs ?_ | refine Q4 ?_ | (refine al_go ?_; intro b) | fail) | refine Qc Tryz.call162 (hS.out _) ?_ | ((with_reducible apply (ck_lend Tryz.call163)); (focus exact hC.out); (focus exact ⟨Lend.agg ⟨Lend.rowE (by repeat (first | exact mm_h | apply mm_t)) f1.out (by decide) e1.out l1.out, Lend.rowE (by repeat (first | exact mm_h | apply mm_t)) f2.out (by decide) e2.out l2.out, trivial⟩, Lend.refl _, trivial⟩)) | (with_reducible first | (refine Qa ?_; intro o' ho') | (refine Qp ?_; intro o' ho') | refine Q5 ?_ | (refine Q3a ?_; intro hb; try intro hb1) | (refine Q3b ?_; intro hb; try intro hb1) | (refine Q3 ?_ ?_ <;> intro hb <;> try intro hb1) | fail) | fail)
            all_goals exact Qret)
    · have HE := HT.out
      rw [List.drop_of_length_le (by omega), Sch.firstL] at HE
      clear HT
      rcases hcase with ⟨rfl, hx0, rfl⟩ | ⟨hi0, gs, cS, zS, gc, cC, zC, hz1, hz2, rfl⟩
      · omega
      · have hil : i = slots.length := by omega
        have hFx : F = some x := hF2.out.trans HE.symm
        have hvz := hz.out x hFx
        have hVx : Hid (VS = x :: Sch.versL x steps) := Lib.hid (by rw [hV.out, hFx])
        refine tr_rest (g := gs) (b := b3) (n := i) (cap := cS) (sz := 7) (es := x.slots.map Sl.cells) (el := 75) (ty := 147) (zs := zS) (cs := [.ar gs 0 i cS, .ar gc 0 i cC]) (cs' := [.sl .shared (x.slots.map Sl.cells), .ar gc 0 i cC]) (s := .box gc 3 (colC x.cols ++ zC) :: st) ((List.Perm.swap _ _ _).trans (.cons _ (.swap _ _ _))) (by decide) (slots_each x.slots) (by rw [List.length_map, hxs]) (.cons _ _ _ _ .ar (.cons _ _ _ _ (.same _) .nil)) (by intro d hd; simp only [List.mem_cons, List.not_mem_nil, or_false] at hd; rcases hd with rfl | rfl <;> rfl) ?_
        refine tr_rest (g := gc) (b := b3) (n := i) (cap := cC) (sz := 1) (es := x.cols.map encC) (el := 3) (ty := 147) (zs := zC) (cs := [.sl .shared (x.slots.map Sl.cells), .ar gc 0 i cC]) (cs' := x.cells) (s := st) (.swap _ _ _) (by decide) (cols_each x.cols) (by rw [List.length_map, hxc]) (.cons _ _ _ _ (.same _) (.cons _ _ _ _ .ar .nil)) (Vr.cells_leaf x) ?_
        unfold Vr.cells
        clear hz1 hz2 hV hF2 hnone HE hz
        have hx1 := hvz.vi.lp
        generalize hX1 : x.slots.map Sl.cells = X1 at *
        generalize hX2 : x.cols.map encC = X2 at *
        replace hX1 := Lib.hid hX1
        replace hX2 := Lib.hid hX2
        replace hil := Lib.hid hil
        replace hxs := Lib.hid hxs
        replace hxc := Lib.hid hxc
        repeat' (with_reducible first | refine Q1 ?_ | refine Qe ?_ | refine Ql ?_ | refine Q2 ?_ | refine Qs ?_ | refine Q4 ?_ | (refine al_go ?_; intro b) | (refine Qa ?_; intro o' ho') | (refine Qp ?_; intro o' ho') | refine Q5 ?_ | (refine Q3a ?_; intro hb; try intro hb1) | (refine Q3b ?_; intro hb; try intro hb1) | (refine Q3 ?_ ?_ <;> intro hb <;> try intro hb1) | fail)
        have hcx : x.cells = [.sl .shared X1, .sl .shared X2] := by unfold Vr.cells; rw [hX1.out, hX2.out]
        have hst0 : Hid (VS = [x] ++ Sch.versL x (steps.drop 0)) := hVx
        have hfin : Hid (VS.length = steps.length + 1 → RV = VS) := fun h => by
          rw [← hRV.out, hLs.out, if_pos h, if_pos (by omega)]
        have hbad : Hid (VS.length ≠ steps.length + 1 → RV = []) := fun h => by
          rw [← hRV.out, hLs.out, if_neg h, if_neg (by omega)]
        have hvz' : Hid (Sch.VZ 8 x) := Lib.hid hvz
        clear hVx hRV hLs hN hos2 hcl hi hi0 hlt hvz hil hFx hxcs
        refine tr_room 147 2 1 ?_
        refine tr_loopd (ι := Nat) (fun j A st' => j ≤ steps.length ∧ A.df = [] ∧ A.e 1 = .ip [.str nm, .sl .shared SL, .sl .shared TL] ∧ A.e 6 = .i j ∧ ∃ (O : List Vr) (o : Own) (z : Vr), o ≠ .shared ∧ O.length = j + 1 ∧ Hid (O[j]? = some z) ∧ Hid (Sch.VZ (8 + j) z) ∧ Hid (VS = O ++ Sch.versL z (steps.drop j)) ∧ A.e 5 = .sl o (O.map Vr.cells) ∧ st' = .room o 147 2 (O.map Vr.cells).length :: .box b3 147 [.sl .shared X1, .sl .shared X2] :: st) (fun j => steps.length - j) 0 ⟨Nat.zero_le _, Qf, Qf, Qf, [x], .tight, x, by simp, rfl, rfl, hvz'.out, hst0.out, by (rw [List.map_cons, List.map_nil, hcx]; exact Qf), rfl⟩ ?_
        clear hdf e1 e3 e4 hst0 hvz' hxs hxc hX1 hX2 hcx
        rintro j A st' ⟨hj, hdf, e1, e6, O, o, z, ho, hOl, hOj, hzz, hVO, e5, rfl⟩
        by_cases hjl : j < steps.length
        · obtain ⟨stp, hstp⟩ : ∃ s, steps[j]? = some s := ⟨_, List.getElem?_eq_getElem hjl⟩
          obtain ⟨hsq, hsty, hso⟩ := hot2.out stp (List.mem_of_getElem? hstp)
          have hS := refStepF z stp ⟨hzz.out.vi.mono (by omega), hsq, hsty, hso⟩ hzz.out.nd fun w hw => (hzz.out.sl w hw).types
          have hSx := refStepR_ex z stp
          have hVd := hVO.out
          rw [Sch.versL_drop hstp] at hVd
          have hOc : (O.map Vr.cells)[j]? = some z.cells := by rw [List.getElem?_map, hOj.out]; rfl
          have htc := hcp.out j stp hstp
          have hOm : (O.map Vr.cells).length = j + 1 := by rw [List.length_map, hOl]
          have hnn : Hid (Sch.stepV z stp = none → RV = []) := fun h => by
            rw [h, List.append_nil] at hVd
            exact hbad.out (by rw [hVd]; omega)
          have hyy : Hid (∀ y, Sch.stepV z stp = some y → Sch.VZ (8 + (j + 1)) y ∧ VS = (O ++ [y]) ++ Sch.versL y (steps.drop (j + 1))) := fun y h => by
            rw [h] at hVd
            exact ⟨Sch.step_vz hzz.out h, by rw [hVd, List.append_assoc]; rfl⟩
          have hOe : Hid (∀ e ∈ O.map Vr.cells, e.length = 2) := fun e he => by
            obtain ⟨w, -, rfl⟩ := List.mem_map.1 he
            rfl
          have hOy : Hid (∀ y : Vr, (O ++ [y]).map Vr.cells = O.map Vr.cells ++ [y.cells]) := fun y => by rw [List.map_append]; rfl
          unfold RefStepR at hS hSx
          clear hVd hVO hstp hsq hsty hso hOj hzz
          generalize Sch.stepV z stp = SV at *
          cases stp with
          | mk kd col slot order =>
          cases slot with
          | mk snm sty srq sdv =>
          cases sdv with
          | mk sk sn ss sL =>
          unfold Vr.cells Stp.cells at hS
          unfold Stp.cells at htc
          rw [Sl.cells_mk] at hS htc
          dsimp only [List.cons_append, List.nil_append] at hS htc
          generalize hOC : O.map Vr.cells = OC at *
          replace hOC := Lib.hid hOC
          replace hS := Lib.hid hS
          replace hSx := Lib.hid hSx
          replace hOl := Lib.hid hOl
          unfold Vr.cells at hOc
          repeat' (first | (with_reducible first | refine Q1 ?_ | refine Qe ?_ | fail) | ((with_reducible apply (w_draw2 [] 13 9)); (iterate 3 (focus kernel_rfl)); (focus (repeat (first | exact keep_nil | refine keep_more (by repeat (first | exact mm_h | apply mm_t)) ?_))); (focus exact rfl); (focus (simp only [List.eraseIdx_cons_succ, List.eraseIdx_cons_zero]; rfl))) | ((with_reducible refine And.intro ?_ ?_); (focus ((repeat (first | exact keep_nil | refine keep_more (by (repeat (first | exact mm_h | apply mm_t)); done) ?_)); done))) | (with_reducible first | refine Ql ?_ | refine Q2 ?_ | refine Qs ?_ | refine Q4 ?_ | (refine al_go ?_; intro b) | fail) | ((with_reducible apply (ck_gen Tryz.call164)); (focus exact List.Perm.refl _); (focus exact hS.out _); (focus exact LEL.refl _); (focus exact hSx.out _); (rintro d st' (⟨hn, Y1, Y2, rfl, rfl⟩ | ⟨y, hy, rfl, rfl⟩))) | (with_reducible first | (refine Qa ?_; intro o' ho') | (refine Qp ?_; intro o' ho') | refine Q5 ?_ | (refine Q3a ?_; intro hb; try intro hb1) | (refine Q3b ?_; intro hb; try intro hb1) | (refine Q3 ?_ ?_ <;> intro hb <;> try intro hb1) | fail) | fail)
          all_goals first
            | (have hRn := hnn.out hn
               subst hRn
               exact Qret
               done)
            | skip
          all_goals (
            obtain ⟨q1, q2⟩ := hyy.out y hy
            refine ⟨j + 1, .room o' 147 2 (OC ++ [y.cells]).length :: .box b3 147 [.sl .shared X1, .sl .shared X2] :: st, .cons _ (List.Sublist.refl _), ⟨hjl, ?_, ?_, ?_, O ++ [y], o', y, ho', ?_, ?_, q1, q2, ?_, ?_⟩, by omega⟩
            · exact Qf
            · exact Qf
            · exact Qf
            · rw [List.length_append, hOl.out]; rfl
            · show (O ++ [y])[j + 1]? = some y
              rw [List.getElem?_append_right (by rw [hOl.out]; omega), hOl.out, Nat.sub_self]; rfl
            · have h1 := hOy.out y
              show _ = D.sl o' (List.map Vr.cells (O ++ [y]))
              rw [h1]
              unfold Vr.cells
              exact Qf
            · have h1 := hOy.out y
              show _ = Res.room o' _ 2 (List.map Vr.cells (O ++ [y])).length :: _
              rw [h1])
        · have hVd := hVO.out
          rw [List.drop_of_length_le (by omega), Sch.versL, List.append_nil] at hVd
          have hRf := hfin.out (by rw [hVd, hOl]; omega)
          subst hVd
          subst hRf
          clear hVO hOj hzz hot2 hcp hfin hbad
          repeat' (with_reducible first | refine Q1 ?_ | refine Qe ?_ | refine Ql ?_ | refine Q2 ?_ | refine Qs ?_ | refine Q4 ?_ | (refine al_go ?_; intro b) | (refine Qa ?_; intro o' ho') | (refine Qp ?_; intro o' ho') | refine Q5 ?_ | (refine Q3a ?_; intro hb; try intro hb1) | (refine Q3b ?_; intro hb; try intro hb1) | (refine Q3 ?_ ?_ <;> intro hb <;> try intro hb1) | fail)
          all_goals exact retA_mk (by first | exact .inl rfl | exact .inr rfl) (by first | rfl | assumption) (by (repeat (first | exact List.Sublist.refl _ | with_reducible apply List.Sublist.cons_cons | apply List.Sublist.cons))) (LE.trans (LE.of_eq (by (try simp (disch := omega) only [push_cast, simprocAttr, *]); (try exact rfl); done)) (LE.sl o (RV.map Vr.cells))) ⟨rfl, rfl⟩
end Go.Proofs.YtgcienlfpnpbgaaGreat
end

section
namespace Go.Proofs.YtgcienlfpnpbgaaGreat
open Go.RowKit

theorem take_eq_stepI {α : Type} {xs ys : List α} {k : Nat} (h : xs.take k = ys.take k) (hx : k < xs.length) (hy : k < ys.length) (e : xs[k] = ys[k]) : xs.take (k + 1) = ys.take (k + 1) := by
  rw [take_snoc xs k hx, take_snoc ys k hy, h, e]

set_option maxHeartbeats 400000 in
theorem ints_any (u v : Value) (xs ys : List Int) (w : World) (hu : Sees iv w u xs) (hv : Sees iv w v ys) :
    Calls Tryz.prog 36 #[u, v] w fun e w' => e = .returned (.bool (decide (xs = ys))) ∧ ∃ n, w' = w.drewN n := by
  obtain ⟨a, cap, rfl, h1, h2, h3, h4⟩ := hu
  obtain ⟨a', cap', rfl, h1', h2', h3', h4'⟩ := hv
  unfold maxLen at h2 h2'
  by_cases hl : xs.length = ys.length
  · have hl' : ((xs.length : Int) != (ys.length : Int)) = false := by rw [bne_eq_false_iff_eq]; omega
    have HL := Lib.hid hl
    have i1 : xs.length ≤ ys.length := by omega
    have i2 : ys.length ≤ xs.length := by omega
    clear hl
    obtain ⟨q, hq⟩ : ∃ q, decide (xs = ys) = q := ⟨_, rfl⟩
    rw [hq]
    have HQ := Lib.hid hq; clear hq
    go_enter Tryz.func36, Tryz.ntmps36
    go_wp2
    go_loopw [5] (fun i wr => ∃ k : Nat, k ≤ xs.length ∧ i = .int .i64 k ∧ xs.take k = ys.take k ∧ ∃ n, wr = w.drewN n) (fun i _ => xs.length - (intOf i).toNat)
    case atStart => exact ⟨0, Nat.zero_le _, rfl, rfl, 0, rfl⟩
    case round =>
      obtain ⟨k, hk, rfl, htk, n, rfl⟩ := hrel
      have HT := Lib.hid htk; clear htk
      by_cases hlt : k < xs.length
      · have hlt' : k < ys.length := by omega
        obtain ⟨⟨b, off, s⟩, rfl⟩ : ∃ b, a = some b := by
          cases a with
          | none => have := h3 rfl; omega
          | some b => exact ⟨b, rfl⟩
        obtain ⟨⟨b', off', s'⟩, rfl⟩ : ∃ b, a' = some b := by
          cases a' with
          | none => have := h3' rfl; omega
          | some b => exact ⟨b, rfl⟩
        obtain ⟨e1, e2, e3⟩ := h4 _ rfl (by omega)
        obtain ⟨e1', e2', e3'⟩ := h4' _ rfl (by omega)
        dsimp only at e1 e2 e3 e1' e2' e3'
        subst e1 e1'
        have hc := e3 k hlt
        have hc' := e3' k hlt'
        have HX := Lib.hid (fun e : xs[k] = ys[k] => take_eq_stepI HT.out hlt hlt' e)
        have HN := Lib.hid (fun (h : xs[k] ≠ ys[k]) (e : xs = ys) => h (by simp only [e]))
        clear h4 h4' e3 e3' h3 h3'
        generalize xs[k] = x at *
        generalize ys[k] = y at *
        unfold iv at hc hc'
        by_cases hxy : x = y
        · subst hxy
          go_wp2
          go_quiet (fail)
          go_wp2
          go_roundw
          case rel => exact ⟨k + 1, by omega, by go_num, HX.out trivial, _, rfl⟩
          case measure => simp [intOf]; omega
        · have hn : (x != y) = true := by rw [bne_iff_ne]; exact hxy
          have hne : decide (xs = ys) = false := by rw [decide_eq_false_iff_not]; exact HN.out hxy
          have HE := Lib.hid (HQ.out.symm.trans hne)
          clear hne hxy
          go_wp2
          go_quiet (fail)
          go_wp2
          go_ret
          exact ⟨ret_bool HE.out.symm, _, by first | rfl | exact World.drewN_drewN _ _ _⟩
      · clear h4 h4' h3 h3'
        have HE : Hid (q = true) := by
          have := HT.out
          rw [List.take_of_length_le (by omega), List.take_of_length_le (by omega)] at this
          show q = true
          rw [← HQ.out, this]; simp
        go_wp2
        go_ret
        exact ⟨ret_bool HE.out.symm, _, by first | rfl | exact World.drewN_drewN _ _ _⟩
  · have hl' : ((xs.length : Int) != (ys.length : Int)) = true := by rw [bne_iff_ne]; omega
    have hne : decide (xs = ys) = false := by rw [decide_eq_false_iff_not]; intro e; exact hl (by rw [e])
    rw [hne]
    clear hne hl
    go_enter Tryz.func36, Tryz.ntmps36
    go_wp2
    go_ret
    exact ⟨rfl, 0, rfl⟩
end Go.Proofs.YtgcienlfpnpbgaaGreat
end

section
namespace Go.Proofs.YtgcienlfpnpbgaaGreat
set_option linter.unusedSimpArgs false
attribute [local push_cast] encB encI encC V.cells_mk V.cells_len Nat.mul_one Int.sub_zero List.map_nil beq_self_eq_true bne_self_eq_false List.head?_cons
open Go.RowKit
set_option maxRecDepth 10000
set_option maxHeartbeats 8000000
theorem refIntsL (o o' : Own) (a b : List Int) (st : St) : TrF Tryz.prog 36 [.sl o (a.map encI), .sl o' (b.map encI)] st fun d st' => d = .b (decide (a = b)) ∧ st' = st :=
  trF_pure fun vs w hv => by
    obtain ⟨v, v', rfl, h1, h2⟩ := args2 hv
    exact ⟨_, fun _ _ => .s _ rfl, (ints_any v v' a b w (sees_of_rep (f := iv) h1) (sees_of_rep (f := iv) h2)).mono fun _ _ ⟨h, n, e⟩ => ⟨h, by subst e; exact ⟨rfl, rfl, rfl, Nat.le_refl _, fun _ _ => rfl⟩⟩⟩
theorem refVers_len (t : Tm) : decide (0 < (Sch.refVers t).length) = decide (0 < Sch.last t) := by
  unfold Sch.refVers
  by_cases h : 0 < Sch.last t
  · rw [if_pos h]
    have := (Sch.last_len h).1
    rw [decide_eq_true h]
    exact decide_eq_true (by omega)
  · rw [if_neg h, decide_eq_false h]; rfl
theorem ref10RightF (t : Tm) (ht : TQ t) (st : St) : TrF Tryz.prog 51 [.agg t.cells] st fun d st' => d = .b (decide (0 < Sch.last t)) ∧ st' = st := by
  have hV := refVersF t ht
  rw [← refVers_len]
  have hm : ((Sch.refVers t).map Vr.cells).length = (Sch.refVers t).length := List.length_map ..
  have h9 : (Sch.refVers t).length ≤ 9 := by
    unfold Sch.refVers
    split
    · exact (Sch.vers_len t).2
    · exact Nat.zero_le _
  generalize (Sch.refVers t).map Vr.cells = VS at *
  generalize (Sch.refVers t).length = n at *
  unfold Tm.cells at *
  generalize t.slots.map Sl.cells = SL at *
  generalize t.steps.map Stp.cells = TL at *
  generalize t.name = nm at *
  replace hV := Lib.hid hV
  rw [show decide (0 < n) = decide (0 < (n : Int)) by simp]
  refine Qin [2] Tryz.func51 Tryz.results51 Tryz.ntmps51 ?_
  repeat' (first | (with_reducible first | refine Q1 ?_ | refine Qe ?_ | refine Ql ?_ | refine Q2 ?_ | refine Qs ?_ | refine Q4 ?_ | (refine al_go ?_; intro b) | fail) | refine Qc Tryz.call114 (hV.out _) ?_ | (with_reducible first | refine Q5 ?_ | (refine Q3a ?_; intro hb; try intro hb1) | (refine Q3b ?_; intro hb; try intro hb1) | (refine Q3 ?_ ?_ <;> intro hb <;> try intro hb1) | fail) | fail)
  all_goals exact Qret
theorem ref13FindF (L : List Tm) (nm : ByteArray) (hl : L.length ≤ 1000000) (st : St) : TrF Tryz.prog 22 [.sl .shared (L.map Tm.cells), .str nm] st fun d st' => d = .i (Reg.find L nm) ∧ st' = st := by
  unfold Reg.find
  obtain ⟨F, hF⟩ : ∃ F, Reg.findL nm L 0 = F := ⟨_, rfl⟩
  rw [hF]
  have HF : Hid (Reg.findL nm (L.drop 0) 0 = F) := hF
  have hm : (L.map Tm.cells).length = L.length := List.length_map ..
  have hc : Hid (∀ (i : Nat) (t : Tm), L[i]? = some t → (L.map Tm.cells)[i]? = some t.cells) := fun i t h => by rw [List.getElem?_map, h]; rfl
  clear hF
  generalize L.map Tm.cells = LS at *
  refine Qin [4] Tryz.func22 Tryz.results22 Tryz.ntmps22 ?_
  repeat' (with_reducible first | refine Q1 ?_ | refine Qe ?_ | refine Ql ?_ | refine Q2 ?_ | refine Qs ?_ | refine Q4 ?_ | (refine al_go ?_; intro b) | refine Q5 ?_ | (refine Q3a ?_; intro hb; try intro hb1) | (refine Q3b ?_; intro hb; try intro hb1) | (refine Q3 ?_ ?_ <;> intro hb <;> try intro hb1) | fail)
  refine tr_loopd (ι := Nat) (fun i A st' => i ≤ L.length ∧ Hid (Reg.findL nm (L.drop i) i = F) ∧ A.df = [] ∧ A.e 0 = .sl .shared LS ∧ A.e 1 = .str nm ∧ A.e 5 = .i i ∧ st = st') (fun i => L.length - i) 0 ⟨Nat.zero_le _, HF, Qf, Qf, Qf, Qf, rfl⟩ ?_
  rintro i A st' ⟨hi, HT, hdf, e0, e1, e5, rfl⟩
  clear HF
  by_cases hlt : i < L.length
  · obtain ⟨t, ht⟩ : ∃ t, L[i]? = some t := ⟨_, List.getElem?_eq_getElem hlt⟩
    have h1 := hc.out i t ht
    have HE := HT.out
    rw [Reg.findL_drop ht] at HE
    clear HT ht
    unfold Tm.cells at h1
    generalize t.slots.map Sl.cells = SL at *
    generalize t.steps.map Stp.cells = TL at *
    generalize t.name = n1 at *
    generalize hq : (n1.toList == nm.toList) = q at *
    cases q with
    | true =>
      rw [if_pos rfl] at HE
      subst HE
      repeat' (with_reducible first | refine Q1 ?_ | refine Qe ?_ | refine Ql ?_ | refine Q2 ?_ | refine Qs ?_ | refine Q4 ?_ | (refine al_go ?_; intro b) | refine Q5 ?_ | (refine Q3a ?_; intro hb; try intro hb1) | (refine Q3b ?_; intro hb; try intro hb1) | (refine Q3 ?_ ?_ <;> intro hb <;> try intro hb1) | fail)
      all_goals exact Qret
    | false =>
      rw [if_neg Bool.false_ne_true] at HE
      replace HE := Lib.hid HE
      repeat' (with_reducible first | refine Q1 ?_ | refine Qe ?_ | refine Ql ?_ | refine Q2 ?_ | refine Qs ?_ | refine Q4 ?_ | (refine al_go ?_; intro b) | refine Q5 ?_ | (refine Q3a ?_; intro hb; try intro hb1) | (refine Q3b ?_; intro hb; try intro hb1) | (refine Q3 ?_ ?_ <;> intro hb <;> try intro hb1) | fail)
      refine ⟨i + 1, st, (by (repeat (first | exact List.Sublist.refl _ | apply List.Sublist.cons))), ⟨hlt, HE, ?_, ?_, ?_, ?_, rfl⟩, by omega⟩
      all_goals exact Qf
  · have HE := HT.out
    rw [List.drop_of_length_le (by omega), Reg.findL] at HE
    subst HE
    clear HT
    repeat' (with_reducible first | refine Q1 ?_ | refine Qe ?_ | refine Ql ?_ | refine Q2 ?_ | refine Qs ?_ | refine Q4 ?_ | (refine al_go ?_; intro b) | refine Q5 ?_ | (refine Q3a ?_; intro hb; try intro hb1) | (refine Q3b ?_; intro hb; try intro hb1) | (refine Q3 ?_ ?_ <;> intro hb <;> try intro hb1) | fail)
    all_goals exact Qret
namespace Reg
theorem right_not_last {L : List Tm} {t : Tm} (h : t ∈ L) (k : ¬ 0 < Sch.last t) : right L = false := by
  cases hr : right L with
  | false => rfl
  | true => exact absurd ((right_iff.1 hr).2.1 t h) k
theorem right_not_name {L : List Tm} {i j : Nat} {t u : Tm} (h : L[i]? = some t) (k : L[j]? = some u) (hij : j < i) (he : (t.name.toList == u.name.toList) = true) : right L = false := by
  cases hr : right L with
  | false => rfl
  | true => have := (right_iff.1 hr).2.2 i j t u h k (beq_iff_eq.1 he); omega
def RightTo (L : List Tm) (i : Nat) : Prop := ∀ (j : Nat) (t : Tm), j < i → L[j]? = some t → 0 < Sch.last t ∧ ∀ (k : Nat) (u : Tm), k < j → L[k]? = some u → (t.name.toList == u.name.toList) = false
theorem right_all {L : List Tm} (h : RightTo L L.length) : right L = decide ((L.length : Int) ≤ 6) := by
  by_cases h6 : (L.length : Int) ≤ 6
  · rw [decide_eq_true h6]
    refine right_iff.2 ⟨by omega, fun t ht => ?_, fun i j t u hi hj he => ?_⟩
    · obtain ⟨i, hi⟩ := List.getElem?_of_mem ht
      exact (h i t (List.getElem?_eq_some_iff.1 hi).1 hi).1
    · rcases Nat.lt_trichotomy i j with hl | he2 | hl
      · have := (h j u (List.getElem?_eq_some_iff.1 hj).1 hj).2 i t hl hi
        rw [he, beq_self_eq_true] at this
        cases this
      · exact he2
      · have := (h i t (List.getElem?_eq_some_iff.1 hi).1 hi).2 j u hl hj
        rw [he, beq_self_eq_true] at this
        cases this
  · rw [decide_eq_false h6]
    cases hr : right L with
    | false => rfl
    | true => have := (right_iff.1 hr).1; omega
end Reg
theorem ref13RightF (L : List Tm) (hQ : ∀ t ∈ L, TQ t) (hl : L.length ≤ 1000000) (st : St) : TrF Tryz.prog 17 [.sl .shared (L.map Tm.cells)] st fun d st' => d = .b (Reg.right L) ∧ st' = st := by
  have hm : (L.map Tm.cells).length = L.length := List.length_map ..
  have hc : Hid (∀ (i : Nat) (t : Tm), L[i]? = some t → (L.map Tm.cells)[i]? = some t.cells) := fun i t h => by rw [List.getElem?_map, h]; rfl
  have hR := Lib.hid fun (t : Tm) (ht : t ∈ L) => ref10RightF t (hQ t ht)
  obtain ⟨F, hF⟩ : ∃ F, Reg.right L = F := ⟨_, rfl⟩
  have n1 : Hid (∀ t ∈ L, ¬ 0 < Sch.last t → F = false) := fun t ht hk => by rw [← hF]; exact Reg.right_not_last ht hk
  have n2 : Hid (∀ (i j : Nat) (t u : Tm), L[i]? = some t → L[j]? = some u → j < i → (t.name.toList == u.name.toList) = true → F = false) := fun i j t u h1 h2 h3 h4 => by rw [← hF]; exact Reg.right_not_name h1 h2 h3 h4
  have n3 : Hid (Reg.RightTo L L.length → F = decide ((L.length : Int) ≤ 6)) := fun h => by rw [← hF]; exact Reg.right_all h
  rw [hF]
  clear hF hQ
  generalize L.map Tm.cells = LS at *
  refine Qin [2] Tryz.func17 Tryz.results17 Tryz.ntmps17 ?_
  repeat' (with_reducible first | refine Q1 ?_ | refine Qe ?_ | refine Ql ?_ | refine Q2 ?_ | refine Qs ?_ | refine Q4 ?_ | (refine al_go ?_; intro b) | refine Q5 ?_ | (refine Q3a ?_; intro hb; try intro hb1) | (refine Q3b ?_; intro hb; try intro hb1) | (refine Q3 ?_ ?_ <;> intro hb <;> try intro hb1) | fail)
  refine tr_loopd (ι := Nat) (fun i A st' => i ≤ L.length ∧ Hid (Reg.RightTo L i) ∧ A.df = [] ∧ A.e 0 = .sl .shared LS ∧ A.e 3 = .i i ∧ st = st') (fun i => L.length - i) 0 ⟨Nat.zero_le _, Lib.hid fun j t hj => by omega, Qf, Qf, Qf, rfl⟩ ?_
  rintro i A st' ⟨hi, HT, hdf, e0, e3, rfl⟩
  by_cases hlt : i < L.length
  · obtain ⟨t, ht⟩ : ∃ t, L[i]? = some t := ⟨_, List.getElem?_eq_getElem hlt⟩
    have h1 := hc.out i t ht
    have hRt := hR.out t (List.mem_of_getElem? ht)
    have hn := n1.out t (List.mem_of_getElem? ht)
    have hnn := n2.out i
    have hgo : Hid (0 < Sch.last t → (∀ (k : Nat) (u : Tm), k < i → L[k]? = some u → (t.name.toList == u.name.toList) = false) → Reg.RightTo L (i + 1)) := fun a b j v hj hv => by
      rcases Nat.lt_or_ge j i with hl | hl
      · exact HT.out j v hl hv
      · obtain rfl : j = i := by omega
        rw [ht] at hv
        cases hv
        exact ⟨a, b⟩
    have hnt : Hid (∀ (j : Nat) (u : Tm), L[j]? = some u → j < i → (t.name.toList == u.name.toList) = true → F = false) := fun j u h2 h3 h4 => hnn j t u ht h2 h3 h4
    clear HT hnn n1 n2 hR ht
    generalize Sch.last t = la at *
    unfold Tm.cells at h1 hRt
    generalize t.slots.map Sl.cells = SL at *
    generalize t.steps.map Stp.cells = TL at *
    generalize t.name = nm at *
    by_cases hla : 0 < la
    · rw [decide_eq_true hla] at hRt
      replace hRt := Lib.hid hRt
      clear hn
      repeat' (first | (with_reducible first | refine Q1 ?_ | refine Qe ?_ | refine Ql ?_ | refine Q2 ?_ | refine Qs ?_ | refine Q4 ?_ | (refine al_go ?_; intro b) | fail) | refine Qc Tryz.call51 (hRt.out _) ?_ | (with_reducible first | refine Q5 ?_ | (refine Q3a ?_; intro hb; try intro hb1) | (refine Q3b ?_; intro hb; try intro hb1) | (refine Q3 ?_ ?_ <;> intro hb <;> try intro hb1) | fail) | fail)
      clear hRt
      refine tr_loopd (ι := Nat) (fun k A st' => k ≤ i ∧ Hid (∀ (m : Nat) (u : Tm), m < k → L[m]? = some u → (nm.toList == u.name.toList) = false) ∧ A.df = [] ∧ A.e 0 = .sl .shared LS ∧ A.e 3 = .i i ∧ A.e 4 = .i k ∧ st = st') (fun k => i - k) 0 ⟨Nat.zero_le _, Lib.hid fun m u hm => by omega, Qf, Qf, Qf, Qf, rfl⟩ ?_
      clear e0 e3 hdf A
      rintro k A st' ⟨hk, HK, hdf, e0, e3, e4, rfl⟩
      by_cases hkl : k < i
      · obtain ⟨u, hu⟩ : ∃ u, L[k]? = some u := ⟨_, List.getElem?_eq_getElem (by omega)⟩
        have h2 := hc.out k u hu
        have hFu := hnt.out k u hu hkl
        have hHu : Hid ((nm.toList == u.name.toList) = false → ∀ (m : Nat) (v : Tm), m < k + 1 → L[m]? = some v → (nm.toList == v.name.toList) = false) := fun a m v hm hv => by
          rcases Nat.lt_or_ge m k with hl | hl
          · exact HK.out m v hl hv
          · obtain rfl : m = k := by omega
            rw [hu] at hv
            cases hv
            exact a
        clear HK hnt hu
        unfold Tm.cells at h2
        generalize u.slots.map Sl.cells = SL2 at *
        generalize u.steps.map Stp.cells = TL2 at *
        generalize u.name = nm2 at *
        cases hq : (nm.toList == nm2.toList) with
        | true =>
          have := hFu hq
          subst this
          clear hFu hHu hgo
          repeat' (with_reducible first | refine Q1 ?_ | refine Qe ?_ | refine Ql ?_ | refine Q2 ?_ | refine Qs ?_ | refine Q4 ?_ | (refine al_go ?_; intro b) | refine Q5 ?_ | (refine Q3a ?_; intro hb; try intro hb1) | (refine Q3b ?_; intro hb; try intro hb1) | (refine Q3 ?_ ?_ <;> intro hb <;> try intro hb1) | fail)
          all_goals exact Qret
        | false =>
          have hH := Lib.hid (hHu.out hq)
          clear hFu hHu
          repeat' (with_reducible first | refine Q1 ?_ | refine Qe ?_ | refine Ql ?_ | refine Q2 ?_ | refine Qs ?_ | refine Q4 ?_ | (refine al_go ?_; intro b) | refine Q5 ?_ | (refine Q3a ?_; intro hb; try intro hb1) | (refine Q3b ?_; intro hb; try intro hb1) | (refine Q3 ?_ ?_ <;> intro hb <;> try intro hb1) | fail)
          refine ⟨k + 1, st, (by (repeat (first | exact List.Sublist.refl _ | apply List.Sublist.cons))), ⟨hkl, hH, ?_, ?_, ?_, ?_, rfl⟩, by omega⟩
          all_goals exact Qf
      · obtain rfl : k = i := by omega
        have hH := Lib.hid (hgo.out hla HK.out)
        clear hgo HK hnt
        repeat' (with_reducible first | refine Q1 ?_ | refine Qe ?_ | refine Ql ?_ | refine Q2 ?_ | refine Qs ?_ | refine Q4 ?_ | (refine al_go ?_; intro b) | refine Q5 ?_ | (refine Q3a ?_; intro hb; try intro hb1) | (refine Q3b ?_; intro hb; try intro hb1) | (refine Q3 ?_ ?_ <;> intro hb <;> try intro hb1) | fail)
        refine ⟨k + 1, st, (by (repeat (first | exact List.Sublist.refl _ | apply List.Sublist.cons))), ⟨hlt, hH, ?_, ?_, ?_, rfl⟩, by omega⟩
        all_goals exact Qf
    · rw [decide_eq_false hla] at hRt
      have := hn hla
      subst this
      clear hn hgo hnt
      replace hRt := Lib.hid hRt
      repeat' (first | (with_reducible first | refine Q1 ?_ | refine Qe ?_ | refine Ql ?_ | refine Q2 ?_ | refine Qs ?_ | refine Q4 ?_ | (refine al_go ?_; intro b) | fail) | refine Qc Tryz.call51 (hRt.out _) ?_ | (with_reducible first | refine Q5 ?_ | (refine Q3a ?_; intro hb; try intro hb1) | (refine Q3b ?_; intro hb; try intro hb1) | (refine Q3 ?_ ?_ <;> intro hb <;> try intro hb1) | fail) | fail)
      all_goals exact Qret
  · obtain rfl : i = L.length := by omega
    have := n3.out HT.out
    subst this
    clear n1 n2 n3 HT hR
    repeat' (with_reducible first | refine Q1 ?_ | refine Qe ?_ | refine Ql ?_ | refine Q2 ?_ | refine Qs ?_ | refine Q4 ?_ | (refine al_go ?_; intro b) | refine Q5 ?_ | (refine Q3a ?_; intro hb; try intro hb1) | (refine Q3b ?_; intro hb; try intro hb1) | (refine Q3 ?_ ?_ <;> intro hb <;> try intro hb1) | fail)
    all_goals exact Qret
end Go.Proofs.YtgcienlfpnpbgaaGreat
end

section
namespace Go.Proofs.YtgcienlfpnpbgaaGreat
set_option linter.unusedSimpArgs false
attribute [local push_cast] encB encI encBs V.cells_mk V.cells_take V.cells_len Nat.mul_one Int.sub_zero
open Go.RowKit B
set_option maxRecDepth 10000
set_option maxHeartbeats 4000000
theorem of_byte (n : Nat) : ∃ c : UInt8, UInt8.ofNat n = c ∧ ((n % 256 : Nat) : Int) = c.toNat ∧ c.toNat < 256 := ⟨UInt8.ofNat n, rfl, by rw [UInt8.toNat_ofNat'], (UInt8.ofNat n).toNat_lt⟩
theorem refNumF (n : Int) (st : St) : TrF Tryz.prog 60 [.i n] st fun d st' => d = .sl .tight ((if 0 ≤ n ∧ n ≤ 2147483647 then be 4 n.toNat else []).map encB) ∧ st' = st := by
  by_cases h : 0 ≤ n ∧ n ≤ 2147483647
  · rw [if_pos h]
    obtain ⟨m, rfl⟩ : ∃ m : Nat, n = m := ⟨n.toNat, by omega⟩
    obtain ⟨h1, h2⟩ := h
    rw [Int.toNat_natCast]
    obtain ⟨c1, d1, e1, l1⟩ := of_byte (m / 16777216)
    obtain ⟨c2, d2, e2, l2⟩ := of_byte (m / 65536)
    obtain ⟨c3, d3, e3, l3⟩ := of_byte (m / 256)
    obtain ⟨c4, d4, e4, l4⟩ := of_byte m
    have hb : be 4 m = [c1, c2, c3, c4] := by rw [← d1, ← d2, ← d3, ← d4]; simp [be]
    rw [hb]
    have g1 : ((m : Int)).tdiv 16777216 = c1.toNat := by rw [Int.tdiv_eq_ediv_of_nonneg h1, ← e1]; omega
    have g2 : ((m : Int)).tdiv 65536 = (m : Int) / 65536 := Int.tdiv_eq_ediv_of_nonneg h1
    have g3 : ((m : Int)).tdiv 256 = (m : Int) / 256 := Int.tdiv_eq_ediv_of_nonneg h1
    have g4 : ((m : Int) / 65536).tmod 256 = c2.toNat := by rw [Int.tmod_eq_emod_of_nonneg (by omega), ← e2]; omega
    have g5 : ((m : Int) / 256).tmod 256 = c3.toNat := by rw [Int.tmod_eq_emod_of_nonneg (by omega), ← e3]; omega
    have g6 : ((m : Int)).tmod 256 = c4.toNat := by rw [Int.tmod_eq_emod_of_nonneg h1, ← e4]; omega
    clear d1 d2 d3 d4 e1 e2 e3 e4 hb
    refine Qin [2] Tryz.func60 Tryz.results60 Tryz.ntmps60 ?_
    repeat' (with_reducible first | refine Q1 ?_ | refine Qe ?_ | refine Ql ?_ | refine Q2 ?_ | refine Qs ?_ | refine Q4 ?_ | (refine al_go ?_; intro b) | refine Q5 ?_ | (refine Q3a ?_; intro hb; try intro hb1) | (refine Q3b ?_; intro hb; try intro hb1) | (refine Q3 ?_ ?_ <;> intro hb <;> try intro hb1) | fail)
    all_goals exact Qret
  · rw [if_neg h]
    refine Qin [2] Tryz.func60 Tryz.results60 Tryz.ntmps60 ?_
    repeat' (with_reducible first | refine Q1 ?_ | refine Qe ?_ | refine Ql ?_ | refine Q2 ?_ | refine Qs ?_ | refine Q4 ?_ | (refine al_go ?_; intro b) | refine Q5 ?_ | (refine Q3a ?_; intro hb; try intro hb1) | (refine Q3b ?_; intro hb; try intro hb1) | (refine Q3 ?_ ?_ <;> intro hb <;> try intro hb1) | fail)
    all_goals exact Qret
theorem be8_at (U : Nat) : ∀ i, i < 8 → (be 8 U)[i]? = some (UInt8.ofNat (U / (72057594037927936 / 256 ^ i)))
  | 0, _ => rfl
  | 1, _ => rfl
  | 2, _ => rfl
  | 3, _ => rfl
  | 4, _ => rfl
  | 5, _ => rfl
  | 6, _ => rfl
  | 7, _ => rfl
  | n + 8, h => by omega
theorem refLongF (n : Int) (st : St) : TrF Tryz.prog 107 [.i n] st fun d st' => d = .sl .shared ((be 8 (IntKind.u64.wrap n).toNat).map encB) ∧ st' = st := by
  obtain ⟨U, hU, hU2⟩ : ∃ U : Nat, IntKind.u64.wrap n = U ∧ U < 18446744073709551616 := ⟨(IntKind.u64.wrap n).toNat, by
    have : 0 ≤ IntKind.u64.wrap n := by simp [IntKind.wrap, IntKind.bits, IntKind.signed]; omega
    omega, by simp [IntKind.wrap, IntKind.bits, IntKind.signed]; omega⟩
  have hB := be8_at U
  have hl := be_len 8 U
  rw [hU, Int.toNat_natCast]
  generalize be 8 U = bs at *
  refine Qin [2] Tryz.func107 Tryz.results107 Tryz.ntmps107 ?_
  refine tr_room 5 1 0 ?_
  repeat' (with_reducible first | refine Q1 ?_ | refine Qe ?_ | refine Ql ?_ | refine Q2 ?_ | refine Qs ?_ | refine Q4 ?_ | (refine al_go ?_; intro b) | (refine Qa ?_; intro o' ho') | (refine Qp ?_; intro o' ho') | refine Q5 ?_ | (refine Q3a ?_; intro hb; try intro hb1) | (refine Q3b ?_; intro hb; try intro hb1) | (refine Q3 ?_ ?_ <;> intro hb <;> try intro hb1) | fail)
  refine tr_loopd (ι := Nat) (fun i A st' => i ≤ 8 ∧ A.df = [] ∧ A.e 3 = .s (.int .u64 U) ∧ A.e 6 = .i i ∧ ∃ S : Nat, Hid (S = 72057594037927936 / 256 ^ i) ∧ A.e 5 = .s (.int .u64 (S : Int)) ∧ ∃ o' l, o' ≠ .shared ∧ Hid (l = bs.take i) ∧ l.length = i ∧ A.e 4 = .sl o' (l.map encB) ∧ st' = .room o' 5 1 (l.map encB).length :: st) (fun i => 8 - i) 0 ⟨Nat.zero_le _, Qf, Qf, Qf, 72057594037927936, rfl, Qf, .tight, [], by simp, rfl, rfl, Qf, rfl⟩ ?_
  rintro i A st' ⟨hi, hdf, e3, e6, S, HS, e5, o', l, ho', HL, hll, e4, rfl⟩
  by_cases hlt : i < 8
  · obtain ⟨c, d1, g1, g2⟩ := of_byte (U / (72057594037927936 / 256 ^ i))
    have hx := hB i hlt
    rw [d1] at hx
    have hs : bs.take (i + 1) = bs.take i ++ [c] := by rw [List.take_succ, hx]; rfl
    have HL2 : Hid (l ++ [c] = bs.take (i + 1)) := by show _ = _; rw [hs, HL.out]
    have hsp : 0 < 72057594037927936 / 256 ^ i := by
      refine Nat.div_pos ?_ (Nat.pow_pos (by omega))
      exact Nat.le_trans (Nat.pow_le_pow_right (by omega) (show i ≤ 7 by omega)) (by decide)
    have hsl : 72057594037927936 / 256 ^ i ≤ 72057594037927936 := Nat.div_le_self _ _
    have hs2 : (72057594037927936 / 256 ^ i) / 256 = 72057594037927936 / 256 ^ (i + 1) := by rw [Nat.div_div_eq_div_mul, Nat.pow_succ]
    have hS := HS.out
    rw [← hS] at g1 hsp hsl hs2
    clear hx hs HL d1 HS hS
    have hq : U / S ≤ U := Nat.div_le_self _ _
    have hquo : ∀ t, aBin Tryz.prog .quo t (.s (.int .u64 U)) (.s (.int .u64 S)) = some (.s (.int .u64 ((U / S : Nat) : Int))) := fun t => by
      rw [bin_quo (by rw [beq_eq_false_iff_ne]; omega), Int.tdiv_eq_ediv_of_nonneg (by omega), show (U : Int) / (S : Int) = ((U / S : Nat) : Int) from rfl]
      generalize U / S = q at *
      congr 3
      simp [IntKind.wrap, IntKind.bits, IntKind.signed]; omega
    generalize U / S = q at *
    have hrem : ∀ t, aBin Tryz.prog .rem t (.s (.int .u64 q)) (.s (.int .u64 256)) = some (.s (.int .u64 (c.toNat : Int))) := fun t => by
      rw [bin_rem (by decide), Int.tmod_eq_emod_of_nonneg (by omega), ← g1]; rfl
    have hstp : ∀ t, aBin Tryz.prog .quo t (.s (.int .u64 S)) (.s (.int .u64 256)) = some (.s (.int .u64 ((S / 256 : Nat) : Int))) := fun t => by
      rw [bin_quo (by decide), Int.tdiv_eq_ediv_of_nonneg (by omega), show (S : Int) / 256 = ((S / 256 : Nat) : Int) from rfl]
      congr 3
      simp [IntKind.wrap, IntKind.bits, IntKind.signed]; omega
    clear g1 hB
    replace hs2 := Lib.hid hs2
    generalize S / 256 = S2 at *
    repeat' (with_reducible first | refine Q1 ?_ | refine Qe ?_ | refine Ql ?_ | refine Q2 ?_ | refine Qs ?_ | refine Q4 ?_ | (refine al_go ?_; intro b) | (refine Qa ?_; intro o' ho') | (refine Qp ?_; intro o' ho') | refine Q5 ?_ | (refine Q3a ?_; intro hb; try intro hb1) | (refine Q3b ?_; intro hb; try intro hb1) | (refine Q3 ?_ ?_ <;> intro hb <;> try intro hb1) | fail)
    refine ⟨i + 1, .room o' 5 1 ((l ++ [c]).map encB).length :: st, ?_, ⟨by omega, ?_, ?_, ?_, S2, hs2, ?_, o', l ++ [c], ho', HL2, by rw [List.length_append, List.length_singleton, hll], ?_, rfl⟩, ?_⟩
    · rw [List.map_append]; (repeat (first | exact List.Sublist.refl _ | apply List.Sublist.cons))
    all_goals exact Qf
  · have hLe := HL.out
    rw [List.take_of_length_le (by omega)] at hLe
    rw [← hLe]
    clear hLe HL hB
    repeat' (with_reducible first | refine Q1 ?_ | refine Qe ?_ | refine Ql ?_ | refine Q2 ?_ | refine Qs ?_ | refine Q4 ?_ | (refine al_go ?_; intro b) | (refine Qa ?_; intro o' ho') | (refine Qp ?_; intro o' ho') | refine Q5 ?_ | (refine Q3a ?_; intro hb; try intro hb1) | (refine Q3b ?_; intro hb; try intro hb1) | (refine Q3 ?_ ?_ <;> intro hb <;> try intro hb1) | fail)
    all_goals exact Qret
end Go.Proofs.YtgcienlfpnpbgaaGreat
end

section
namespace Go.Proofs.YtgcienlfpnpbgaaGreat
set_option linter.unusedSimpArgs false
attribute [local push_cast] encB encI encBs V.cells_mk V.cells_take V.cells_len Nat.mul_one Int.sub_zero
open Go.RowKit B
set_option maxRecDepth 10000
set_option maxHeartbeats 4000000
theorem refTextF (s : ByteArray) (hs : s.size ≤ 1000000) (st : St) : TrF Tryz.prog 61 [.str s] st fun d st' => d = .sl .shared ((tx s.data.toList).map encB) ∧ st' = st := by
  have hN := refNumF s.size
  rw [if_pos (by omega), Int.toNat_natCast] at hN
  replace hN := Lib.hid hN
  have h4 : (be 4 s.size).length = 4 := be_len _ _
  have ht : tx s.data.toList = be 4 s.size ++ s.data.toList := by unfold tx; congr 1
  have hsl : s.data.toList.length = s.size := by simp
  rw [ht]
  clear ht
  generalize be 4 s.size = hd at *
  generalize hbs : s.data.toList = bs at *
  refine Qin [2] Tryz.func61 Tryz.results61 Tryz.ntmps61 ?_
  refine tr_room 5 1 4 ?_
  have h4 : (hd.map encB).length = 4 := by rw [List.length_map]; exact h4
  rw [← h4]
  repeat' (first | (with_reducible first | refine Q1 ?_ | refine Qe ?_ | refine Ql ?_ | refine Q2 ?_ | refine Qs ?_ | refine Q4 ?_ | (refine al_go ?_; intro b) | fail) | refine Qc Tryz.call60 (hN.out _) ?_ | (with_reducible first | (refine Qa ?_; intro o' ho') | (refine Qp ?_; intro o' ho') | refine Q5 ?_ | (refine Q3a ?_; intro hb; try intro hb1) | (refine Q3b ?_; intro hb; try intro hb1) | (refine Q3 ?_ ?_ <;> intro hb <;> try intro hb1) | fail) | fail)
  all_goals exact Qret
open V in
theorem refPutF : ∀ (N : Nat) (v : V), v.nodes ≤ N → v.nodes ≤ 100 → v.parts = true → v.Ok → ∀ st, TrF Tryz.prog 177 [.agg v.cells] st fun d st' => d = .sl .shared (v.put.map encB) ∧ st' = st
  | 0, v, h, _, _, _ => by have := v.nodes_pos; omega
  | N + 1, .mk k n s l, hN, hnn, hpa, hok => by
    intro st
    obtain ⟨-, hkn, -, -, hall⟩ := hok
    obtain ⟨h1, h2, h3⟩ := parts_facts hpa
    obtain ⟨f1, f2, f3, f4, f5, f6⟩ := sgl_facts h1
    have hpl := putL_le l h3
    have IH := Lib.hid fun x (hx : x ∈ l) => refPutF N x (by have := nodes_lt (k := k) (n := n) (s := s) hx; omega) (by have := nodes_lt (k := k) (n := n) (s := s) hx; omega) (h3 x hx) (hall x hx)
    rw [nodes] at hnn
    rw [V.cells_mk]
    rw [show (V.mk k n s l).put = UInt8.ofNat k.toNat :: (if k = 1 then [UInt8.ofNat n.toNat] else if k = 2 then be 8 (IntKind.u64.wrap n).toNat else if k = 3 ∨ k = 4 then tx s.data.toList else if k = 5 then be 4 l.length ++ putL l else []) from put.eq_1 ..]
    obtain ⟨kb, hkb, hkb2, -⟩ := of_byte k.toNat
    have hK : IntKind.u8.wrap k = kb.toNat := by
      rw [← hkb2, show k = ((k.toNat : Nat) : Int) by omega, u8_wrap, UInt8.toNat_ofNat']; rfl
    rw [hkb]
    have hT := Lib.hid (refTextF s (by omega))
    have hT5 : (tx s.data.toList).length = 4 + s.size := by unfold tx; rw [List.length_append, be_len]; simp
    clear h1 h3 hpa hall hN hkb hkb2
    refine Qin [2] Tryz.func177 Tryz.results177 Tryz.ntmps177 ?_
    refine tr_room 5 1 1 ?_
    by_cases k1 : k = 1
    · subst k1
      obtain ⟨m, rfl⟩ : ∃ m : Nat, n = m := ⟨n.toNat, by have := f3 (by omega); omega⟩
      have hW := u8_wrap m
      clear f3 f5 f6 hT IH
      rw [if_pos rfl, Int.toNat_natCast]
      repeat' (with_reducible first | refine Q1 ?_ | refine Qe ?_ | refine Ql ?_ | refine Q2 ?_ | refine Qs ?_ | refine Q4 ?_ | (refine al_go ?_; intro b) | (refine Qa ?_; intro o' ho') | (refine Qp ?_; intro o' ho') | refine Q5 ?_ | (refine Q3a ?_; intro hb; try intro hb1) | (refine Q3b ?_; intro hb; try intro hb1) | (refine Q3 ?_ ?_ <;> intro hb <;> try intro hb1) | fail)
      all_goals exact Qret
    rw [if_neg k1]
    have b1 : (k == 1) = false := by simpa using k1
    by_cases k2 : k = 2
    · subst k2
      have hL := Lib.hid (refLongF n)
      have h8 := be_len 8 (IntKind.u64.wrap n).toNat
      clear f3 f5 f6 hT IH
      rw [if_pos rfl]
      generalize be 8 (IntKind.u64.wrap n).toNat = bs at *
      repeat' (first | (with_reducible first | refine Q1 ?_ | refine Qe ?_ | refine Ql ?_ | refine Q2 ?_ | refine Qs ?_ | refine Q4 ?_ | (refine al_go ?_; intro b) | fail) | refine Qc Tryz.call107 (hL.out _) ?_ | (with_reducible first | (refine Qa ?_; intro o' ho') | (refine Qp ?_; intro o' ho') | refine Q5 ?_ | (refine Q3a ?_; intro hb; try intro hb1) | (refine Q3b ?_; intro hb; try intro hb1) | (refine Q3 ?_ ?_ <;> intro hb <;> try intro hb1) | fail) | fail)
      all_goals exact Qret
    rw [if_neg k2]
    have b2 : (k == 2) = false := by simpa using k2
    by_cases k3 : k = 3 ∨ k = 4
    · rw [if_pos k3]
      clear f3 f5 f6 IH h2
      generalize tx s.data.toList = bs at *
      rcases k3 with rfl | rfl
      all_goals
        repeat' (first | (with_reducible first | refine Q1 ?_ | refine Qe ?_ | refine Ql ?_ | refine Q2 ?_ | refine Qs ?_ | refine Q4 ?_ | (refine al_go ?_; intro b) | fail) | refine Qc Tryz.call61 (hT.out _) ?_ | (with_reducible first | (refine Qa ?_; intro o' ho') | (refine Qp ?_; intro o' ho') | refine Q5 ?_ | (refine Q3a ?_; intro hb; try intro hb1) | (refine Q3b ?_; intro hb; try intro hb1) | (refine Q3 ?_ ?_ <;> intro hb <;> try intro hb1) | fail) | fail)
        all_goals exact Qret
    rw [if_neg k3]
    have b3 : (k == 3) = false := by simp; omega
    have b4 : (k == 4) = false := by simp; omega
    by_cases k5 : k = 5
    case neg =>
      rw [if_neg k5]
      have b5 : (k == 5) = false := by simpa using k5
      clear f3 f5 f6 hT IH
      repeat' (with_reducible first | refine Q1 ?_ | refine Qe ?_ | refine Ql ?_ | refine Q2 ?_ | refine Qs ?_ | refine Q4 ?_ | (refine al_go ?_; intro b) | (refine Qa ?_; intro o' ho') | (refine Qp ?_; intro o' ho') | refine Q5 ?_ | (refine Q3a ?_; intro hb; try intro hb1) | (refine Q3b ?_; intro hb; try intro hb1) | (refine Q3 ?_ ?_ <;> intro hb <;> try intro hb1) | fail)
      all_goals exact Qret
    subst k5
    rw [if_pos rfl]
    have hN := refNumF l.length
    have hl20 := f6 rfl
    rw [if_pos (by omega), Int.toNat_natCast] at hN
    replace hN := Lib.hid hN
    have h4 := be_len 4 l.length
    clear f3 f5 f6 hT h2 k1 k2 k3 b1 b2 b3 b4
    generalize be 4 l.length = hd at *
    repeat' (first | (with_reducible first | refine Q1 ?_ | refine Qe ?_ | refine Ql ?_ | refine Q2 ?_ | refine Qs ?_ | refine Q4 ?_ | (refine al_go ?_; intro b) | fail) | refine Qc Tryz.call60 (hN.out _) ?_ | (with_reducible first | (refine Qa ?_; intro o' ho') | (refine Qp ?_; intro o' ho') | refine Q5 ?_ | (refine Q3a ?_; intro hb; try intro hb1) | (refine Q3b ?_; intro hb; try intro hb1) | (refine Q3 ?_ ?_ <;> intro hb <;> try intro hb1) | fail) | fail)
    clear hN hT5
    refine tr_loopd (ι := Nat) (fun i A st' => i ≤ l.length ∧ A.df = [] ∧ A.e 1 = .ip [.i 5, .i n, .str s, .sl .shared (l.map V.cells)] ∧ A.e 4 = .i i ∧ ∃ o', o' ≠ .shared ∧ ∃ B : List UInt8, Hid (B = kb :: (hd ++ putL (l.take i))) ∧ B.length = 5 + (putL (l.take i)).length ∧ A.e 3 = .sl o' (B.map encB) ∧ st' = .room o' 5 1 (B.map encB).length :: st) (fun i => l.length - i) 0 ⟨Nat.zero_le _, Qf, Qf, Qf, _, by assumption, kb :: hd, by show _ = _; simp [putL], by simp [putL]; omega, Qf, rfl⟩ ?_
    clear o' ho' h4
    rintro i A st' ⟨hi, hdf, e1, e4, o', ho', B, HB, hBl, e3, rfl⟩
    by_cases hlt : i < l.length
    · obtain ⟨x, hx⟩ : ∃ x, l[i]? = some x := ⟨_, List.getElem?_eq_getElem hlt⟩
      have ih := IH.out x (mem_of hx)
      have htk : putL (l.take (i + 1)) = putL (l.take i) ++ x.put := by
        rw [List.take_succ, hx, putL_app]; simp [putL]
      have hln : (putL (l.take i)).length + x.put.length ≤ (putL l).length := by
        have := congrArg List.length (congrArg putL (List.take_append_drop (i + 1) l))
        rw [putL_app, htk, List.length_append, List.length_append] at this
        omega
      have HB2 : Hid (B ++ x.put = kb :: (hd ++ putL (l.take (i + 1)))) := by
        show _ = _
        rw [htk, HB.out]; simp
      have hBl2 : (B ++ x.put).length = 5 + (putL (l.take (i + 1))).length := by
        rw [htk, List.length_append, List.length_append]; omega
      clear IH HB htk
      cases x with
      | mk k1 n1 s1 l1 =>
        rw [V.cells_mk] at ih
        replace ih := Lib.hid ih
        generalize (V.mk k1 n1 s1 l1).put = bs at *
        obtain ⟨q1, hq1⟩ : ∃ q, (putL (l.take (i + 1))).length = q := ⟨_, rfl⟩
        rw [hq1] at hBl2
        replace hq1 := Lib.hid hq1
        generalize (putL (l.take i)).length = q0 at *
        repeat' (first | (with_reducible first | refine Q1 ?_ | refine Qe ?_ | refine Ql ?_ | refine Q2 ?_ | refine Qs ?_ | refine Q4 ?_ | (refine al_go ?_; intro b) | fail) | refine Qc Tryz.call177 (ih.out _) ?_ | (with_reducible first | (refine Qa ?_; intro o' ho') | (refine Qp ?_; intro o' ho') | refine Q5 ?_ | (refine Q3a ?_; intro hb; try intro hb1) | (refine Q3b ?_; intro hb; try intro hb1) | (refine Q3 ?_ ?_ <;> intro hb <;> try intro hb1) | fail) | fail)
        refine ⟨i + 1, .room o' 5 1 ((B ++ bs).map encB).length :: st, ?_, ⟨hlt, ?_, ?_, ?_, o', ho', B ++ bs, HB2, hBl2.trans (by rw [hq1.out]), ?_, rfl⟩, ?_⟩
        · rw [List.map_append]; (repeat (first | exact List.Sublist.refl _ | apply List.Sublist.cons))
        all_goals exact Qf
    · have hBe : B = kb :: (hd ++ putL l) := by
        rw [HB.out, List.take_of_length_le (by omega)]
      rw [← hBe]
      clear hBe HB IH
      repeat' (with_reducible first | refine Q1 ?_ | refine Qe ?_ | refine Ql ?_ | refine Q2 ?_ | refine Qs ?_ | refine Q4 ?_ | (refine al_go ?_; intro b) | (refine Qa ?_; intro o' ho') | (refine Qp ?_; intro o' ho') | refine Q5 ?_ | (refine Q3a ?_; intro hb; try intro hb1) | (refine Q3b ?_; intro hb; try intro hb1) | (refine Q3 ?_ ?_ <;> intro hb <;> try intro hb1) | fail)
      all_goals exact Qret
theorem refValueF (v : V) (hok : v.Ok) (hn : v.nodes ≤ 1000) (hd : v.deep ≤ 1000) (st : St) : TrF Tryz.prog 139 [.agg v.cells] st fun x st' => x = .sl .shared (v.bin.map encB) ∧ st' = st := by
  have hR := refRightF v hok hn hd
  unfold V.bin
  by_cases hr : v.right = true
  · rw [if_pos hr]
    obtain ⟨h1, -, h3⟩ := V.right_iff.1 hr
    have hP := refPutF v.nodes v (Nat.le_refl _) h3 h1 hok
    rw [hr] at hR
    generalize v.put = bs at *
    cases v with
    | mk k n s l =>
    rw [V.cells_mk] at *
    replace hR := Lib.hid hR
    replace hP := Lib.hid hP
    refine Qin [2] Tryz.func139 Tryz.results139 Tryz.ntmps139 ?_
    repeat' (first | (with_reducible first | refine Q1 ?_ | refine Qe ?_ | refine Ql ?_ | refine Q2 ?_ | refine Qs ?_ | refine Q4 ?_ | (refine al_go ?_; intro b) | fail) | refine Qc Tryz.call156 (hR.out _) ?_ | refine Qc Tryz.call177 (hP.out _) ?_ | (with_reducible first | refine Q5 ?_ | (refine Q3a ?_; intro hb; try intro hb1) | (refine Q3b ?_; intro hb; try intro hb1) | (refine Q3 ?_ ?_ <;> intro hb <;> try intro hb1) | fail) | fail)
    all_goals exact Qret
  · rw [if_neg hr]
    have hr' : v.right = false := by simpa using hr
    rw [hr'] at hR
    cases v with
    | mk k n s l =>
    rw [V.cells_mk] at *
    replace hR := Lib.hid hR
    refine Qin [2] Tryz.func139 Tryz.results139 Tryz.ntmps139 ?_
    repeat' (first | (with_reducible first | refine Q1 ?_ | refine Qe ?_ | refine Ql ?_ | refine Q2 ?_ | refine Qs ?_ | refine Q4 ?_ | (refine al_go ?_; intro b) | fail) | refine Qc Tryz.call156 (hR.out _) ?_ | (with_reducible first | refine Q5 ?_ | (refine Q3a ?_; intro hb; try intro hb1) | (refine Q3b ?_; intro hb; try intro hb1) | (refine Q3 ?_ ?_ <;> intro hb <;> try intro hb1) | fail) | fail)
    all_goals exact Qret
end Go.Proofs.YtgcienlfpnpbgaaGreat
end

section
namespace Go.Proofs.YtgcienlfpnpbgaaGreat
set_option linter.unusedSimpArgs false
attribute [local push_cast] encB encI encC encBs V.cells_mk V.cells_len Nat.mul_one Int.sub_zero List.map_nil beq_self_eq_true bne_self_eq_false List.head?_cons
open Go.RowKit B
set_option maxRecDepth 10000
set_option maxHeartbeats 8000000
theorem refTextOF (s : ByteArray) (hs : s.size ≤ 1000000) (st : St) : TrF Tryz.prog 61 [.str s] st fun d st' => ∃ o', o' ≠ .shared ∧ d = .sl o' ((tx s.data.toList).map encB) ∧ st' = .room o' 5 1 ((tx s.data.toList).map encB).length :: st := by
  have hN := refNumF s.size
  rw [if_pos (by omega), Int.toNat_natCast] at hN
  replace hN := Lib.hid hN
  have h4 : (be 4 s.size).length = 4 := be_len _ _
  have ht : tx s.data.toList = be 4 s.size ++ s.data.toList := by unfold tx; congr 1
  have hsl : s.data.toList.length = s.size := by simp
  rw [ht, List.map_append]
  clear ht
  generalize be 4 s.size = hd at *
  generalize hbs : s.data.toList = bs at *
  refine Qin [2] Tryz.func61 Tryz.results61 Tryz.ntmps61 ?_
  refine tr_room 5 1 4 ?_
  have h4 : (hd.map encB).length = 4 := by rw [List.length_map]; exact h4
  rw [← h4]
  repeat' (first | (with_reducible first | refine Q1 ?_ | refine Qe ?_ | refine Ql ?_ | refine Q2 ?_ | refine Qs ?_ | refine Q4 ?_ | (refine al_go ?_; intro b) | fail) | refine Qc Tryz.call60 (hN.out _) ?_ | (with_reducible first | (refine Qa ?_; intro o' ho') | (refine Qp ?_; intro o' ho') | refine Q5 ?_ | (refine Q3a ?_; intro hb; try intro hb1) | (refine Q3b ?_; intro hb; try intro hb1) | (refine Q3 ?_ ?_ <;> intro hb <;> try intro hb1) | fail) | fail)
  all_goals ((apply ret_own (by simp) (by first | rfl | assumption)); (focus ((try simp (disch := omega) only [push_cast, simprocAttr, *]); (try exact rfl); done)); (focus (first | assumption | (intro h; cases h))); (focus ((repeat (first | exact List.Sublist.refl _ | apply List.Sublist.cons)); done)))
  all_goals rfl
namespace Reg
theorem byteB_b8 {n : Int} (h : 0 ≤ n ∧ n ≤ 255) : byteB n = [b8 n] := by
  unfold byteB b8
  rw [if_pos h]
  congr 2
  omega
theorem slotB_eq {s : Sl} (h : SlG s) : slotB s = tx s.name.data.toList ++ [b8 s.types] ++ [if s.req then 1 else 0] ++ s.dv.bin := by
  unfold slotB slotP
  rw [byteB_b8 h.ty]
  cases s with
  | mk nm ty rq dv =>
  simp only [List.flatten_cons, List.flatten_nil, List.append_nil, List.append_assoc]
  cases rq <;> rfl
end Reg
theorem ref13SlotF (s : Sl) (h : Reg.SlG s) (st : St) : TrF Tryz.prog 62 [.agg s.cells] st fun d st' => d = .sl .shared ((Reg.slotB s).map encB) ∧ st' = st := by
  have hT := refTextOF s.name (by have := h.nm; omega)
  have hr := V.right_iff.1 h.dv
  have hV := refValueF s.dv h.ok (by omega) (by omega)
  have hbl := Reg.bin_len s.dv
  have htl : (tx s.name.data.toList).length ≤ 304 := by
    unfold tx
    have : s.name.data.toList.length = s.name.size := by simp
    have := h.nm
    rw [List.length_append, be_len]
    omega
  have hw := u8_wrapI s.types
  rw [Reg.slotB_eq h]
  clear h hr
  cases s with
  | mk nm ty rq dv =>
  dsimp only at *
  generalize tx nm.data.toList = T at *
  generalize dv.bin = B at *
  generalize Reg.b8 ty = w at *
  cases dv with
  | mk k n sv lv =>
  rw [Sl.cells_mk]
  rw [V.cells_mk] at hV
  have h6 : ∀ a ∈ T.map encB ++ [[D.s (.int .u8 (w.toNat : Int))]], a.length = 1 := fun a ha => by
    rcases List.mem_append.1 ha with ha | ha
    · obtain ⟨x, -, rfl⟩ := List.mem_map.1 ha; rfl
    · rw [List.mem_singleton.1 ha]; rfl
  have h7 : ∀ c : UInt8, ∀ a ∈ T.map encB ++ [[D.s (.int .u8 (w.toNat : Int))]] ++ [encB c], a.length = 1 := fun c a ha => by
    rcases List.mem_append.1 ha with ha | ha
    · exact h6 a ha
    · rw [List.mem_singleton.1 ha]; rfl
  have h7a : ∀ a ∈ T.map encB ++ [[D.s (.int .u8 (w.toNat : Int))]] ++ [[D.s (.int .u8 0)]], a.length = 1 := h7 0
  have h7b : ∀ a ∈ T.map encB ++ [[D.s (.int .u8 (w.toNat : Int))]] ++ [[D.s (.int .u8 1)]], a.length = 1 := h7 1
  clear h7
  replace hT := Lib.hid hT
  replace hV := Lib.hid hV
  cases rq
  all_goals (
    simp only [List.map_append, List.map_cons, List.map_nil, if_pos, Bool.false_eq_true, if_false, if_true]
    refine Qin [2] Tryz.func62 Tryz.results62 Tryz.ntmps62 ?_
    repeat' (first | (with_reducible first | refine Q1 ?_ | refine Qe ?_ | refine Ql ?_ | refine Q2 ?_ | refine Qs ?_ | refine Q4 ?_ | (refine al_go ?_; intro b) | fail) | (refine QE Tryz.call61 (hT.out _) ?_; intro o1 ho1) | refine Qc Tryz.call139 (hV.out _) ?_ | (with_reducible first | (refine Qa ?_; intro o' ho') | (refine Qp ?_; intro o' ho') | refine Q5 ?_ | (refine Q3a ?_; intro hb; try intro hb1) | (refine Q3b ?_; intro hb; try intro hb1) | (refine Q3 ?_ ?_ <;> intro hb <;> try intro hb1) | fail) | fail)
    all_goals exact Qret)
end Go.Proofs.YtgcienlfpnpbgaaGreat
end
