/- Texts put together: SchH, AmDraw2, AmPivot, AmRes, SchI, SchL, SchJ, SchK, AmPivot2, SchM, Val03l, RefRight, SchN, SchO, ReadsS, CmpSelf. No statement is proved here. -/
import Derived.Test.YtooaagmhgakhgaaZ4
set_option linter.all false
section
namespace Go.Proofs.Ytooaagmhgakhgaa
set_option linter.unusedSimpArgs false
open Go.RowKit
set_option maxRecDepth 10000
set_option maxHeartbeats 4000000
theorem schCopiedF (gs cS gc cC : Nat) (zS zC : List D) (x : Vr) (h1 : x.slots ≠ []) (h2 : x.cols ≠ []) (hx : VW x) (st : St) (m1 : Res.box gs 26 (slotC x.slots ++ zS) ∈ st) (m2 : Res.box gc 3 (colC x.cols ++ zC) ∈ st) : TrF Try.prog 72 [.agg [.ar gs 0 x.slots.length cS, .ar gc 0 x.cols.length cC]] st fun d st' => d = .agg x.cells ∧ st' = st := by
  have hA := Lib.hid fun b cs => cloneSF gs cS x.slots zS h1 (by have := hx.ls; omega) (.box b 38 cs :: st) (List.mem_cons_of_mem _ m1)
  have hB := Lib.hid fun b cs => cloneIF gc cC x.cols zC h2 (by have := hx.lc; omega) (.box b 38 cs :: st) (List.mem_cons_of_mem _ m2)
  unfold Vr.cells
  refine trF_enterC (G := cellA 2 38 Try.prog) Try.func72 rfl (by rw [Try.ntmps72]; exact Nat.le_of_ble_eq_true rfl) (fun h1 h2 h3 => res_cell rfl h1 h2 h3) ?_
  simp only [Try.ntmps72]
  repeat' (first | with_reducible refine Go1.go ?_ | ((with_reducible apply ev_go); (focus (try simp (disch := omega) only [push_cast, Nat.reduceEqDiff, reduceCtorEq, ↓reduceIte, Nat.reduceAdd, Nat.reduceMul, Nat.reduceSub, Nat.reduceLT, Nat.reduceLeDiff, Int.reduceToNat, Int.reduceLT, Int.reduceLE, Int.reduceAdd, Int.reduceSub, Int.reduceMul, Int.reduceBEq, Int.reduceBNe, encB, encI, encC, V.cells_mk, V.cells_len, Nat.mul_one, Int.sub_zero, List.map_nil, beq_self_eq_true, List.head?_cons, *]); (try exact rfl); done)) | ((with_reducible refine w_last ?_ ?_ ?_); (focus kernel_rfl); (focus rfl)) | ((with_reducible apply w_stepG); (focus rfl)) | ((with_reducible apply lk_mem); (focus ((repeat (first | exact mm_h | apply mm_t)); done))) | with_reducible refine Go2.go ?_ | ((with_reducible apply sto_go); (focus (intro cs'; repeat (first | exact ra_h | apply ra_t)))) | ((with_reducible refine al_go ?_); intro b) | ((with_reducible refine And.intro ?_ ?_); (focus ((repeat (first | exact keep_none | exact keep_nil | exact keep_ro | refine keep_cons ?_)); done))) | ((with_reducible apply (ck_le Try.call88)); (focus exact LEL.refl _); (focus exact hA.out _ _)) | ((with_reducible apply (ck_le Try.call89)); (focus exact LEL.refl _); (focus exact hB.out _ _)) | ((with_reducible refine s_bi ?_ ?_); (focus rfl)) | with_reducible refine blk_ne rfl ?_ | ((with_reducible refine w_region ?_ ?_); (focus kernel_rfl)) | ((with_reducible refine w_draw [] ?_ ?_ ?_ ?_ ?_); (iterate 3 (focus kernel_rfl)); (focus exact keeps_nil)) | ((with_reducible first | refine gd_d1 ?_ ?_ | refine gd_d0 ?_ ?_); all_goals (intro hb; (first | with_reducible replace hb := nt_t hb | with_reducible replace hb := nt_f hb | skip); (first | replace hb := dc_t hb | replace hb := dc_f hb | have hb1 := eq_b hb | have hb1 := ne_b hb | have hb1 := bne_t hb | have hb1 := bne_f hb | skip); (try (exfalso; first | contradiction | omega)))))
  all_goals (refine retC_cell (by first | exact .inl rfl | exact .inr rfl) (by first | rfl | assumption) (by simp (disch := omega) only [push_cast, Nat.reduceEqDiff, reduceCtorEq, ↓reduceIte, Nat.reduceAdd, Nat.reduceMul, Nat.reduceSub, Nat.reduceLT, Nat.reduceLeDiff, Int.reduceToNat, Int.reduceLT, Int.reduceLE, Int.reduceAdd, Int.reduceSub, Int.reduceMul, Int.reduceBEq, Int.reduceBNe, encB, encI, encC, V.cells_mk, V.cells_len, Nat.mul_one, Int.sub_zero, List.map_nil, beq_self_eq_true, List.head?_cons, *]; exact rfl) (by repeat (first | exact mm_h | apply mm_t)) (by simp (disch := omega) only [push_cast, Nat.reduceEqDiff, reduceCtorEq, ↓reduceIte, Nat.reduceAdd, Nat.reduceMul, Nat.reduceSub, Nat.reduceLT, Nat.reduceLeDiff, Int.reduceToNat, Int.reduceLT, Int.reduceLE, Int.reduceAdd, Int.reduceSub, Int.reduceMul, Int.reduceBEq, Int.reduceBNe, encB, encI, encC, V.cells_mk, V.cells_len, Nat.mul_one, Int.sub_zero, List.map_nil, beq_self_eq_true, List.head?_cons, *]; exact rfl) (by (try simp (disch := omega) only [push_cast, Nat.reduceEqDiff, reduceCtorEq, ↓reduceIte, Nat.reduceAdd, Nat.reduceMul, Nat.reduceSub, Nat.reduceLT, Nat.reduceLeDiff, Int.reduceToNat, Int.reduceLT, Int.reduceLE, Int.reduceAdd, Int.reduceSub, Int.reduceMul, Int.reduceBEq, Int.reduceBNe, encB, encI, encC, V.cells_mk, V.cells_len, Nat.mul_one, Int.sub_zero, List.map_nil, beq_self_eq_true, List.head?_cons, *]); (try exact rfl); done) (by (repeat (first | exact List.Sublist.refl _ | apply List.Sublist.cons))) ?_ ⟨rfl, rfl⟩; (try simp (disch := omega) only [push_cast, Nat.reduceEqDiff, reduceCtorEq, ↓reduceIte, Nat.reduceAdd, Nat.reduceMul, Nat.reduceSub, Nat.reduceLT, Nat.reduceLeDiff, Int.reduceToNat, Int.reduceLT, Int.reduceLE, Int.reduceAdd, Int.reduceSub, Int.reduceMul, Int.reduceBEq, Int.reduceBNe, encB, encI, encC, V.cells_mk, V.cells_len, Nat.mul_one, Int.sub_zero, List.map_nil, beq_self_eq_true, List.head?_cons, *]); try (first | exact LE.refl _ | exact LE.sl _ _ | (refine LE.tup ?_; (repeat' (first | exact LEL.nil | refine LEL.cons ?_ ?_ | exact LE.refl _ | exact LE.sl _ _ | refine LE.agg ?_)); done) | (refine LE.agg ?_; (repeat' (first | exact LEL.nil | refine LEL.cons ?_ ?_ | exact LE.refl _ | exact LE.sl _ _)); done) | refine LE.of_eq ?_))
theorem schDoersF (st : St) : TrF Try.prog 73 [] st fun d st' => d = .agg [.s .nilFunc, .fn (.func 90) [] [], .fn (.func 91) [] [], .fn (.func 92) [] [], .fn (.func 93) [] [], .fn (.func 94) [] []] ∧ st' = st := by
  refine trF_enterC (G := cellA 0 97 Try.prog) Try.func73 rfl (by rw [Try.ntmps73]; exact Nat.le_of_ble_eq_true rfl) (fun h1 h2 h3 => res_cell rfl h1 h2 h3) ?_
  simp only [Try.ntmps73]
  repeat' (first | with_reducible refine Go1.go ?_ | ((with_reducible apply ev_go); (focus (try simp (disch := omega) only [push_cast, Nat.reduceEqDiff, reduceCtorEq, ↓reduceIte, Nat.reduceAdd, Nat.reduceMul, Nat.reduceSub, Nat.reduceLT, Nat.reduceLeDiff, Int.reduceToNat, Int.reduceLT, Int.reduceLE, Int.reduceAdd, Int.reduceSub, Int.reduceMul, Int.reduceBEq, Int.reduceBNe, encB, encI, encC, V.cells_mk, V.cells_len, Nat.mul_one, Int.sub_zero, List.map_nil, beq_self_eq_true, List.head?_cons, *]); (try exact rfl); done)) | ((with_reducible refine w_last ?_ ?_ ?_); (focus kernel_rfl); (focus rfl)) | ((with_reducible apply w_stepG); (focus rfl)) | ((with_reducible apply lk_mem); (focus ((repeat (first | exact mm_h | apply mm_t)); done))) | with_reducible refine Go2.go ?_ | ((with_reducible apply sto_go); (focus (intro cs'; repeat (first | exact ra_h | apply ra_t)))) | ((with_reducible refine al_go ?_); intro b) | ((with_reducible refine And.intro ?_ ?_); (focus ((repeat (first | exact keep_none | exact keep_nil | exact keep_ro | refine keep_cons ?_)); done))) | ((with_reducible refine s_bi ?_ ?_); (focus rfl)) | with_reducible refine blk_ne rfl ?_ | ((with_reducible refine w_region ?_ ?_); (focus kernel_rfl)) | ((with_reducible refine w_draw [] ?_ ?_ ?_ ?_ ?_); (iterate 3 (focus kernel_rfl)); (focus exact keeps_nil)) | ((with_reducible first | refine gd_d1 ?_ ?_ | refine gd_d0 ?_ ?_); all_goals (intro hb; (first | with_reducible replace hb := nt_t hb | with_reducible replace hb := nt_f hb | skip); (first | replace hb := dc_t hb | replace hb := dc_f hb | have hb1 := eq_b hb | have hb1 := ne_b hb | have hb1 := bne_t hb | have hb1 := bne_f hb | skip); (try (exfalso; first | contradiction | omega)))))
  all_goals (refine retC_cell (by first | exact .inl rfl | exact .inr rfl) (by first | rfl | assumption) (by simp (disch := omega) only [push_cast, Nat.reduceEqDiff, reduceCtorEq, ↓reduceIte, Nat.reduceAdd, Nat.reduceMul, Nat.reduceSub, Nat.reduceLT, Nat.reduceLeDiff, Int.reduceToNat, Int.reduceLT, Int.reduceLE, Int.reduceAdd, Int.reduceSub, Int.reduceMul, Int.reduceBEq, Int.reduceBNe, encB, encI, encC, V.cells_mk, V.cells_len, Nat.mul_one, Int.sub_zero, List.map_nil, beq_self_eq_true, List.head?_cons, *]; exact rfl) (by repeat (first | exact mm_h | apply mm_t)) (by simp (disch := omega) only [push_cast, Nat.reduceEqDiff, reduceCtorEq, ↓reduceIte, Nat.reduceAdd, Nat.reduceMul, Nat.reduceSub, Nat.reduceLT, Nat.reduceLeDiff, Int.reduceToNat, Int.reduceLT, Int.reduceLE, Int.reduceAdd, Int.reduceSub, Int.reduceMul, Int.reduceBEq, Int.reduceBNe, encB, encI, encC, V.cells_mk, V.cells_len, Nat.mul_one, Int.sub_zero, List.map_nil, beq_self_eq_true, List.head?_cons, *]; exact rfl) (by (try simp (disch := omega) only [push_cast, Nat.reduceEqDiff, reduceCtorEq, ↓reduceIte, Nat.reduceAdd, Nat.reduceMul, Nat.reduceSub, Nat.reduceLT, Nat.reduceLeDiff, Int.reduceToNat, Int.reduceLT, Int.reduceLE, Int.reduceAdd, Int.reduceSub, Int.reduceMul, Int.reduceBEq, Int.reduceBNe, encB, encI, encC, V.cells_mk, V.cells_len, Nat.mul_one, Int.sub_zero, List.map_nil, beq_self_eq_true, List.head?_cons, *]); (try exact rfl); done) (by (repeat (first | exact List.Sublist.refl _ | apply List.Sublist.cons))) ?_ ⟨rfl, rfl⟩; (try simp (disch := omega) only [push_cast, Nat.reduceEqDiff, reduceCtorEq, ↓reduceIte, Nat.reduceAdd, Nat.reduceMul, Nat.reduceSub, Nat.reduceLT, Nat.reduceLeDiff, Int.reduceToNat, Int.reduceLT, Int.reduceLE, Int.reduceAdd, Int.reduceSub, Int.reduceMul, Int.reduceBEq, Int.reduceBNe, encB, encI, encC, V.cells_mk, V.cells_len, Nat.mul_one, Int.sub_zero, List.map_nil, beq_self_eq_true, List.head?_cons, *]); try (first | exact LE.refl _ | exact LE.sl _ _ | (refine LE.tup ?_; (repeat' (first | exact LEL.nil | refine LEL.cons ?_ ?_ | exact LE.refl _ | exact LE.sl _ _ | refine LE.agg ?_)); done) | (refine LE.agg ?_; (repeat' (first | exact LEL.nil | refine LEL.cons ?_ ?_ | exact LE.refl _ | exact LE.sl _ _)); done) | refine LE.of_eq ?_))
end Go.Proofs.Ytooaagmhgakhgaa
end

section
namespace Go.Proofs.Ytooaagmhgakhgaa
set_option linter.unusedSimpArgs false
open Go.RowKit
section
variable {P : Program} {r : Option Nat} {ro : Ro} {st : St}
structure SameOp (o1 o2 : Oper) : Prop where
  dst : o1.dst = o2.dst
  op : o1.op = o2.op
  type : o1.type = o2.type
  pos : o1.pos = o2.pos
  guard : o1.guard = o2.guard
theorem SameOp.refl (o : Oper) : SameOp o o := ⟨rfl, rfl, rfl, rfl, rfl⟩
theorem SameOp.symm {o1 o2 : Oper} (h : SameOp o1 o2) : SameOp o2 o1 := ⟨h.dst.symm, h.op.symm, h.type.symm, h.pos.symm, h.guard.symm⟩
theorem SameOp.free {o1 o2 : Oper} (h : SameOp o1 o2) : freeA o1 = freeA o2 := by unfold freeA; rw [h.op]
theorem SameOp.wanted {ops1 ops2 : Array Oper} {o1 o2 : Oper} (h : SameOp o1 o2) (hd : ∀ j : Nat, (ops1[j]?).bind (fun o : Oper => o.dst) = (ops2[j]?).bind (fun o : Oper => o.dst)) (e : Nat → D) : wantedA ops1 o1 e = wantedA ops2 o2 e := by
  unfold wantedA
  rw [h.guard]
  cases o2.guard with
  | none => rfl
  | some q => obtain ⟨j, b⟩ := q; dsimp only; rw [hd j]
theorem SameOp.frC {o1 o2 : Oper} (h : SameOp o1 o2) (e : Nat → D) : frC P ro o1 e = frC P ro o2 e := by
  obtain ⟨d1, p1, t1, s1, a1, g1⟩ := o1
  obtain ⟨d2, p2, t2, s2, a2, g2⟩ := o2
  obtain ⟨e1, e2, e3, e4, e5⟩ := h
  dsimp only at e1 e2 e3 e4 e5
  subst e1 e2 e3 e4 e5
  rfl
theorem SameOp.opC {o1 o2 : Oper} (h : SameOp o1 o2) {e : Nat → D} {K : D → St → Prop} (hh : OpC P r o1 e st K) : OpC P r o2 e st K := by
  obtain ⟨d1, p1, t1, s1, a1, g1⟩ := o1
  obtain ⟨d2, p2, t2, s2, a2, g2⟩ := o2
  obtain ⟨e1, e2, e3, e4, e5⟩ := h
  dsimp only at e1 e2 e3 e4 e5
  subst e1 e2 e3 e4 e5
  exact hh
def addE : List Oper → Nat → Nat → List Oper
  | [], _, _ => []
  | o :: l, 0, j => { o with after := o.after.push ⟨j, .data⟩ } :: l
  | o :: l, i + 1, j => o :: addE l i j
def freeB (l : List Oper) (a c : Nat) : Bool := (List.range l.length).all fun i => i == a || i == c || match l[i]? with
  | some o => freeA o || o.after.any (fun e => Region.binds .any e && (e.on == a || e.on == c))
  | none => true
def wpOrdA (P : Program) (r : Option Nat) (ro : Ro) (ops : Array Oper) (Q : AA → St → Prop) : List Nat → AA → St → Prop
  | [], A, st => Q A st
  | k :: ks, A, st => ∀ o, ops[k]? = some o → mOpA P r ro (ks.isEmpty && lastAll ops) ops o (wpOrdA P r ro ops Q ks) A st
def mixOrdA (ms : List Nat) (ops : Array Oper) : List Nat → Array Bool → Bool
  | [], listed => (Region.ready .any ops listed).isEmpty
  | k :: ks, listed => (Region.ready .any ops listed).contains k && mixFreeA ms ops listed k && (!ks.isEmpty || k + 1 == ops.size) && mixOrdA ms ops ks (listed.setIfInBounds k true)
def ixs : Nat → Nat → Option Nat → List Nat
  | 0, _, _ => []
  | n + 1, k, some 0 => ixs n (k + 1) none
  | n + 1, k, some (a + 1) => k :: ixs n (k + 1) (some a)
  | n + 1, k, none => k :: ixs n (k + 1) none
def twoB (l : List Oper) (a c : Nat) : Bool :=
  a != c && freeB l a c && decide (a < l.length) && (lastAll (addE l a c).toArray == lastAll l.toArray) && (lastAll (addE l c a).toArray == lastAll l.toArray) &&
  mixOrdA (masks .any (addE l a c) []) (addE l a c).toArray (ixs l.length 0 none) (Array.replicate l.length false) &&
  mixOrdA (masks .any (addE l c a) []) (addE l c a).toArray (a :: ixs l.length 0 (some a)) (Array.replicate l.length false)
end
end Go.Proofs.Ytooaagmhgakhgaa
end

section
namespace Go.Proofs.Ytooaagmhgakhgaa
set_option linter.unusedSimpArgs false
open Go.RowKit
section
variable {P : Program} {r : Option Nat} {ro : Ro} {ops : Array Oper} {md : Region.Mode} {st : St}
def wpAnyP (P : Program) (r : Option Nat) (ro : Ro) (md : Region.Mode) (ops : Array Oper) (p : Nat) (Q : AA → St → Prop) : Nat → Array Bool → AA → St → Prop
  | 0, _, _, _ => False
  | fuel + 1, listed, A, st => Region.ready md ops listed ≠ [] ∧ ∀ i ∈ Region.ready md ops listed, ∀ o, ops[i]? = some o →
      if i = p then mOpA P r ro true ops o (fun A' st' => ∃ ro2, Keeps ro2 st' ∧ wpAnyA P r ro2 md ops Q fuel (listed.setIfInBounds i true) A' st') A st
      else mOpA P r ro false ops o (wpAnyP P r ro md ops p Q fuel (listed.setIfInBounds i true)) A st
def pureA (o : Oper) : Bool := freeA o && match o.op with
  | .load _ _ => false
  | _ => true
theorem frC_pure {ro ro' : Ro} {o : Oper} {e : Nat → D} (h : pureA o = true) : frC P ro o e = frC P ro' o e := by
  unfold pureA at h
  unfold frC
  split
  · rename_i t x hop
    rw [hop] at h
    simp at h
  · rfl
def Between (ms : List Nat) (ops : Array Oper) (p : Nat) : Prop := ∀ j oj, ops[j]? = some oj → j ≠ p → waitsT ms j p = true ∨ waitsT ms p j = true ∨ pureA oj = true
theorem wpAnyP_pivot {ms : List Nat} (hms : MOk md ops.toList ms) {p : Nat} (hB : Between ms ops p) {Q : AA → St → Prop} {op : Oper} (hp : ops[p]? = some op) : ∀ (fuel : Nat) (listed : Array Bool) (A : AA) (st : St), Keeps ro st → DC md ops listed →
    (∀ j oj, ops[j]? = some oj → j ≠ p → listed.getD j true = false → waitsT ms j p = false → op.apart ops oj = true) → p ∈ Region.ready md ops listed →
    mOpA P r ro true ops op (fun A' st' => ∃ ro2, Keeps ro2 st' ∧ wpAnyA P r ro2 md ops Q fuel (listed.setIfInBounds p true) A' st') A st → wpAnyP P r ro md ops p Q (fuel + 1) listed A st := by
  intro fuel
  induction fuel with
  | zero =>
    intro listed A st hw hdc hfree hr H
    refine ⟨fun h => (by rw [h] at hr; cases hr), fun i hi oi hoi => ?_⟩
    by_cases hip : i = p
    · subst hip
      rw [hp] at hoi; cases hoi
      rw [if_pos rfl]; exact H
    · exfalso
      obtain ⟨v, w', _, ro2, _, h1⟩ := mOpA_some hw H
      have h2 := ready_mono hi hip
      rw [h1.1] at h2
      cases h2
  | succ fuel ih =>
    intro listed A st hw hdc hfree hr H
    refine ⟨fun h => (by rw [h] at hr; cases hr), fun j hj oj hoj => ?_⟩
    by_cases hjp : j = p
    · subst hjp
      rw [hp] at hoj; cases hoj
      rw [if_pos rfl]; exact H
    · rw [if_neg hjp]
      have h1 := hdc.ready hms (ready_unlisted hr) hj
      have h2 := hdc.ready hms (ready_unlisted hj) hr
      have hpu : pureA oj = true := by
        rcases hB j oj hoj hjp with h | h | h
        · rw [h1] at h; cases h
        · rw [h2] at h; cases h
        · exact h
      have hfj : freeA oj = true := by
        unfold pureA at hpu
        rw [Bool.and_eq_true] at hpu
        exact hpu.1
      have hdc' := hdc.step hj
      obtain ⟨hjun, -⟩ := mem_ready.1 hj
      have hap := hfree j oj hoj hjp hjun h1
      obtain ⟨d1, d2, d3⟩ := Oper.apart_spec hap
      have hri := ready_mono hr (Ne.symm hjp)
      have hcomm : (listed.setIfInBounds j true).setIfInBounds p true = (listed.setIfInBounds p true).setIfInBounds j true := Array.setIfInBounds_comm _ _ hjp
      have hfree' : ∀ k ok, ops[k]? = some ok → k ≠ p → (listed.setIfInBounds j true).getD k true = false → waitsT ms k p = false → op.apart ops ok = true := fun k ok hk hkp hun hno => by
        refine hfree k ok hk hkp ?_ hno
        by_cases hjk : j = k
        · subst hjk; exact hjun
        · rw [getD_set_ne true hjk] at hun; exact hun
      have hij : ∀ v st' ro2, wpAnyA P r ro2 md ops Q (fuel + 1) (listed.setIfInBounds p true) (A.put op.dst v) st' →
          mOpA P r ro2 (decide (j + 1 = ops.size) && lastAll ops) ops oj (wpAnyA P r ro2 md ops Q fuel ((listed.setIfInBounds j true).setIfInBounds p true)) (A.put op.dst v) st' := fun v st' ro2 h => by
        have := h.2 j (ready_mono hj hjp) oj hoj
        rw [hcomm]; exact this
      have hjw : ∀ v, wantedA ops oj (A.put op.dst v).e = wantedA ops oj A.e := fun v => wantedA_far d1
      have hje : ∀ v ro2, frC P ro2 oj (A.put op.dst v).e = frC P ro oj A.e := fun v ro2 => (frC_congr (ev_far d1)).trans (frC_pure hpu)
      by_cases hwj : wantedA ops oj A.e = true
      · obtain ⟨v1, w1, hc1, ro1, q1, k1⟩ := mOpA_some hw H
        have k2 := hij v1 w1 ro1 k1
        unfold mOpA at k2
        rw [hjw v1, if_pos hwj, if_pos hfj, hje v1] at k2
        obtain ⟨u, hu, _⟩ := k2
        have hstep : mOpA P r ro true ops op (fun A' st' => ∃ ro2, Keeps ro2 st' ∧ wpAnyA P r ro2 md ops Q fuel ((listed.setIfInBounds j true).setIfInBounds p true) A' st') (A.put oj.dst u) st := by
          refine mOpA_far hap (mOpA_put hw (fun v w' hc ⟨ro2, g1, g2⟩ => ⟨ro2, g1, ?_⟩) H)
          have k3 := hij v w' ro2 g2
          unfold mOpA at k3
          rw [hjw v, if_pos hwj, if_pos hfj, hje v] at k3
          obtain ⟨u', hu', k4⟩ := k3
          rw [hu] at hu'
          cases hu'
          exact k4
        unfold mOpA
        rw [if_pos hwj, if_pos hfj]
        exact ⟨u, hu, ih _ _ _ hw hdc' hfree' hri hstep⟩
      · have hstep : mOpA P r ro true ops op (fun A' st' => ∃ ro2, Keeps ro2 st' ∧ wpAnyA P r ro2 md ops Q fuel ((listed.setIfInBounds j true).setIfInBounds p true) A' st') (A.put oj.dst D.un) st := by
          refine mOpA_far hap (mOpA_put hw (fun v w' hc ⟨ro2, g1, g2⟩ => ⟨ro2, g1, ?_⟩) H)
          have k3 := hij v w' ro2 g2
          unfold mOpA at k3
          rw [hjw v, if_neg hwj] at k3
          exact k3
        unfold mOpA
        rw [if_neg hwj]
        exact ih _ _ _ hw hdc' hfree' hri hstep
theorem wpAnyP_first {ms : List Nat} (hms : MOk md ops.toList ms) {p : Nat} {Q : AA → St → Prop} {i : Nat} {oi : Oper} (hi : ops[i]? = some oi) (hip : i ≠ p) (hpi : waitsT ms p i = true) :
    ∀ (fuel : Nat) (listed : Array Bool) (A : AA) (st : St), Keeps ro st → DC md ops listed →
      (∀ j oj, ops[j]? = some oj → j ≠ i → listed.getD j true = false → waitsT ms j i = false → oi.apart ops oj = true ∧ (freeA oi = true ∨ freeA oj = true)) →
      i ∈ Region.ready md ops listed →
      mOpA P r ro false ops oi (wpAnyP P r ro md ops p Q fuel (listed.setIfInBounds i true)) A st → wpAnyP P r ro md ops p Q (fuel + 1) listed A st := by
  intro fuel
  induction fuel with
  | zero =>
    intro listed A st hw _ _ hr H
    obtain ⟨v, w', _, h1⟩ := mOpA_some hw H
    exact h1.elim
  | succ fuel ih =>
    intro listed A st hw hdc hfree hr H
    refine ⟨fun h => (by rw [h] at hr; cases hr), fun j hj oj hoj => ?_⟩
    by_cases hji : j = i
    · subst hji
      rw [hi] at hoj; cases hoj
      rw [if_neg hip]; exact H
    · obtain ⟨hjun, oj', hoj', hall⟩ := mem_ready.1 hj
      rw [hoj] at hoj'; cases hoj'
      have hnot := hdc.ready hms (ready_unlisted hr) hj
      have hjp : j ≠ p := fun e => by
        subst e
        rw [hpi] at hnot; cases hnot
      rw [if_neg hjp]
      have hdc' := hdc.step hj
      obtain ⟨hap, hfk⟩ := hfree j oj hoj hji hjun hnot
      obtain ⟨d1, d2, d3⟩ := Oper.apart_spec hap
      have hfree' : ∀ k ok, ops[k]? = some ok → k ≠ i → (listed.setIfInBounds j true).getD k true = false →
          waitsT ms k i = false → oi.apart ops ok = true ∧ (freeA oi = true ∨ freeA ok = true) := fun k ok hk hki hun hno => by
        refine hfree k ok hk hki ?_ hno
        by_cases hjk : j = k
        · subst hjk; exact hjun
        · rw [getD_set_ne true hjk] at hun; exact hun
      have hri := ready_mono hr (Ne.symm hji)
      have hcomm : (listed.setIfInBounds j true).setIfInBounds i true = (listed.setIfInBounds i true).setIfInBounds j true := Array.setIfInBounds_comm _ _ hji
      have hij : ∀ v st', wpAnyP P r ro md ops p Q (fuel + 1) (listed.setIfInBounds i true) (A.put oi.dst v) st' →
          mOpA P r ro false ops oj (wpAnyP P r ro md ops p Q fuel ((listed.setIfInBounds j true).setIfInBounds i true)) (A.put oi.dst v) st' := fun v st' h => by
        have := h.2 j (ready_mono hj hji) oj hoj
        rw [if_neg hjp] at this
        rw [hcomm]; exact this
      have hjw : ∀ v, wantedA ops oj (A.put oi.dst v).e = wantedA ops oj A.e := fun v => wantedA_far d1
      have hje : ∀ v, frC P ro oj (A.put oi.dst v).e = frC P ro oj A.e := fun v => frC_congr (ev_far d1)
      have hput : ∀ v u, (A.put oi.dst v).put oj.dst u = (A.put oj.dst u).put oi.dst v := fun v u => put_comm A v u d2
      by_cases hwj : wantedA ops oj A.e = true
      · by_cases hfj : freeA oj = true
        · obtain ⟨v1, w1, hc1, k1⟩ := mOpA_some hw H
          have k2 := hij v1 w1 k1
          unfold mOpA at k2
          rw [hjw v1, if_pos hwj, if_pos hfj, hje v1] at k2
          obtain ⟨u, hu, _⟩ := k2
          have hstep : mOpA P r ro false ops oi (wpAnyP P r ro md ops p Q fuel ((listed.setIfInBounds j true).setIfInBounds i true)) (A.put oj.dst u) st := by
            refine mOpA_far hap (mOpA_put hw (fun v w' hc h => ?_) H)
            have k3 := hij v w' h
            unfold mOpA at k3
            rw [hjw v, if_pos hwj, if_pos hfj, hje v] at k3
            obtain ⟨u', hu', k4⟩ := k3
            rw [hu] at hu'
            cases hu'
            exact k4
          unfold mOpA
          rw [if_pos hwj, if_pos hfj]
          exact ⟨u, hu, ih _ _ _ hw hdc' hfree' hri hstep⟩
        · have hfi : freeA oi = true := hfk.resolve_right hfj
          have key : ∀ v, wpAnyP P r ro md ops p Q (fuel + 1) (listed.setIfInBounds i true) (A.put oi.dst v) st → (∀ u st', Keeps ro st' → wpAnyP P r ro md ops p Q fuel ((listed.setIfInBounds j true).setIfInBounds i true) ((A.put oj.dst u).put oi.dst v) st' → mOpA P r ro false ops oi (wpAnyP P r ro md ops p Q fuel ((listed.setIfInBounds j true).setIfInBounds i true)) (A.put oj.dst u) st') →
              mOpA P r ro false ops oj (wpAnyP P r ro md ops p Q (fuel + 1) (listed.setIfInBounds j true)) A st := fun v h hback => by
            have k3 := hij v st h
            unfold mOpA at k3 ⊢
            rw [hjw v, if_pos hwj, if_neg hfj] at k3
            rw [if_pos hwj, if_neg hfj]
            obtain ⟨k4, u, st', k5, k6⟩ := k3
            refine ⟨(opC_congr (ev_far d1) k4).mono fun u st' hk => ⟨hk.1, ?_⟩, u, st', k5, ?_⟩
            · have hk2 := hk.2
              rw [hput v u] at hk2
              have hk1 := hk.1.resolve_left Bool.false_ne_true
              exact ih _ _ _ hk1 hdc' hfree' hri (hback u st' hk1 hk2)
            · rw [hput v u] at k6
              have hk1 := k5.resolve_left Bool.false_ne_true
              exact ih _ _ _ hk1 hdc' hfree' hri (hback u st' hk1 k6)
          have hiw : ∀ u, wantedA ops oi (A.put oj.dst u).e = wantedA ops oi A.e := fun u => wantedA_far d3
          have hie : ∀ u, frC P ro oi (A.put oj.dst u).e = frC P ro oi A.e := fun u => frC_congr (ev_far d3)
          unfold mOpA at H
          by_cases hwi : wantedA ops oi A.e = true
          · rw [if_pos hwi, if_pos hfi] at H
            obtain ⟨v, hv, h⟩ := H
            refine key v h fun u w' hc hk => ?_
            unfold mOpA
            rw [hiw u, if_pos hwi, if_pos hfi, hie u]
            exact ⟨v, hv, hk⟩
          · rw [if_neg hwi] at H
            refine key D.un H fun u w' hc hk => ?_
            unfold mOpA
            rw [hiw u, if_neg hwi]
            exact hk
      · have hstep : mOpA P r ro false ops oi (wpAnyP P r ro md ops p Q fuel ((listed.setIfInBounds j true).setIfInBounds i true)) (A.put oj.dst D.un) st := by
          refine mOpA_far hap (mOpA_put hw (fun v w' hc h => ?_) H)
          have k3 := hij v w' h
          unfold mOpA at k3
          rw [hjw v, if_neg hwj] at k3
          exact k3
        unfold mOpA
        rw [if_neg hwj]
        exact ih _ _ _ hw hdc' hfree' hri hstep
theorem wpAnyP_lex {ms : List Nat} (hms : MOk md ops.toList ms) (hL : LastW ms ops) (hall : lastAll ops = true) {p : Nat} (hBt : Between ms ops p) {op : Oper} {l2 : List Oper} {Q : AA → St → Prop} : ∀ (l1 : List Oper) (k : Nat) (listed : Array Bool) (A : AA) (st : St), Keeps ro st → DC md ops listed → k + l1.length = p → (∀ i, k ≤ i → i < p → waitsT ms p i = true) → (∀ j, (l1 ++ op :: l2)[j]? = ops[k + j]?) →
    mixFromA md ms ops (l1 ++ op :: l2).length k listed = true → wpMixA P r ro ops (fun A' st' => ∃ ro2, Keeps ro2 st' ∧ wpMixA P r ro2 ops Q l2 A' st') (l1 ++ [op]) A st → wpAnyP P r ro md ops p Q (l1 ++ op :: l2).length listed A st
  | [], k, listed, A, st, hw, hdc, hk, hwt, hl, hB, h => by
    have hkp : k = p := hk
    subst hkp
    have h0 : ops[k]? = some op := by simpa using (hl 0).symm
    simp only [List.nil_append, List.length_cons, mixFromA, Bool.and_eq_true] at hB
    obtain ⟨⟨hr, hf⟩, hB'⟩ := hB
    have hrk : k ∈ Region.ready md ops listed := by simpa using hr
    refine wpAnyP_pivot hms hBt h0 _ _ _ _ hw hdc (fun j oj hj hne hun hno => (mixFreeA_spec h0 hf j oj hj hne hun hno).1) hrk ?_
    have h : mOpA P r ro (true && lastAll ops) ops op (fun A' st' => ∃ ro2, Keeps ro2 st' ∧ wpMixA P r ro2 ops Q l2 A' st') A st := h
    rw [hall] at h
    refine mOpA_put hw (fun v w' _ ⟨ro2, q1, q2⟩ => ⟨ro2, q1, ?_⟩) h
    exact wpAnyA_lex hms hL l2 (k + 1) _ _ _ q1 (hdc.step hrk) (fun j => by have := hl (j + 1); simpa [Nat.add_assoc, Nat.add_comm 1 j] using this) hB' q2
  | o :: l1, k, listed, A, st, hw, hdc, hk, hwt, hl, hB, h => by
    have h0 : ops[k]? = some o := by simpa using (hl 0).symm
    simp only [List.cons_append, List.length_cons, mixFromA, Bool.and_eq_true] at hB
    obtain ⟨⟨hr, hf⟩, hB'⟩ := hB
    rw [List.length_cons] at hk
    refine wpAnyP_first hms h0 (by omega) (hwt k (Nat.le_refl _) (by omega)) _ listed A st hw hdc (mixFreeA_spec h0 hf) (by simpa using hr) ?_
    have h : mOpA P r ro ((l1 ++ [op]).isEmpty && lastAll ops) ops o (wpMixA P r ro ops (fun A' st' => ∃ ro2, Keeps ro2 st' ∧ wpMixA P r ro2 ops Q l2 A' st') (l1 ++ [op])) A st := h
    have hne : (l1 ++ [op]).isEmpty = false := by simp
    rw [hne, Bool.false_and] at h
    refine mOpA_put hw (fun v w' hc hk' => ?_) h
    exact wpAnyP_lex hms hL hall hBt l1 (k + 1) _ _ _ (hc.resolve_left Bool.false_ne_true) (hdc.step (by simpa using hr)) (by omega) (fun i h1 h2 => hwt i (by omega) h2) (fun j => by have := hl (j + 1); simpa [Nat.add_assoc, Nat.add_comm 1 j] using this) hB' hk'
theorem wpAnyIn_of_P {N : Nat} {ms : List Nat} (hms : MOk md ops.toList ms) (hL : LastW ms ops) {p : Nat} {K : AA → St → Prop} (hok : ∀ (i : Nat) (o : Oper), ops[i]? = some o → dstOk N o.dst = true ∧ guardOk N ops o = true) : ∀ (fuel : Nat) (listed : Array Bool) (A : AA) (st : St) (a : Act) (w : World) (Q : Exit → Act → World → Prop), Keeps ro st → DC md ops listed → RelA N (OwnS st) w a A → Holds st w → wpAnyP P r ro md ops p K fuel listed A st →
    (∀ A' st' a' w', RelA N (OwnS st') w' a' A' → Holds st' w' → Ext (OwnS st) w (OwnS st') w' → K A' st' → Q .normal a' w') → wpAnyIn (FR r) 0 P md ops Q fuel listed a w
  | 0, listed, A, st, a, w, Q, hk, hdc, hr, hh, h, hQ => h.elim
  | fuel + 1, listed, A, st, a, w, Q, hk, hdc, hr, hh, h, hQ => by
    refine ⟨fun h0 => absurd h0 h.1, fun i hi => ?_⟩
    obtain ⟨_, o, ho, _⟩ := mem_ready.1 hi
    obtain ⟨hd, hg⟩ := hok i o ho
    have hm := h.2 i hi o ho
    unfold wpOpIn
    simp only [ho]
    rw [wantedA_eq hr ops o (guardOk_spec hg)]
    by_cases hip : i = p
    · rw [if_pos hip] at hm
      unfold mOpA at hm
      split
      · rename_i hw
        rw [if_pos hw] at hm
        refine wpIn_of_ResC ?_
        have hC : OpC P r o A.e st fun d st' => ∃ ro2, Keeps ro2 st' ∧ wpAnyA P r ro2 md ops K fuel (listed.setIfInBounds i true) (A.put o.dst d) st' := by
          split at hm
          · obtain ⟨d, k1, k2⟩ := hm
            exact (frC_sound hk k1).opC k2
          · exact hm.1.mono fun d st' hkp => hkp.2
        exact (hC a.eval w (hr.repE _) hh).mono fun v w' ⟨d, st', k1, k2, k3, ro2, k4, k5⟩ =>
          wpAnyIn_of_A hms hL hok fuel _ _ st' _ w' Q (.inl k4) (hdc.step hi) ((hr.ext k3).put hd k1) k2 k5 fun A' st'' a' w'' q1 q2 q3 q4 => hQ A' st'' a' w'' q1 q2 (k3.trans q3) q4
      · rename_i hw
        rw [if_neg hw] at hm
        obtain ⟨ro2, k4, k5⟩ := hm
        exact ⟨fun f _ => trivial, wpAnyIn_of_A hms hL hok fuel _ _ st _ w Q (.inl k4) (hdc.step hi) (hr.put hd (.s undef rfl)) hh k5 hQ⟩
    · rw [if_neg hip] at hm
      unfold mOpA at hm
      split
      · rename_i hw
        rw [if_pos hw] at hm
        refine wpIn_of_ResC ?_
        have hC : OpC P r o A.e st fun d st' => Keeps ro st' ∧ wpAnyP P r ro md ops p K fuel (listed.setIfInBounds i true) (A.put o.dst d) st' := by
          split at hm
          · obtain ⟨d, k1, k2⟩ := hm
            exact (frC_sound hk k1).opC ⟨hk, k2⟩
          · exact hm.1.mono fun d st' hkp => ⟨hkp.1.resolve_left Bool.false_ne_true, hkp.2⟩
        exact (hC a.eval w (hr.repE _) hh).mono fun v w' ⟨d, st', k1, k2, k3, k4, k5⟩ =>
          wpAnyIn_of_P hms hL hok fuel _ _ st' _ w' Q k4 (hdc.step hi) ((hr.ext k3).put hd k1) k2 k5 fun A' st'' a' w'' q1 q2 q3 q4 => hQ A' st'' a' w'' q1 q2 (k3.trans q3) q4
      · rename_i hw
        rw [if_neg hw] at hm
        exact ⟨fun f _ => trivial, wpAnyIn_of_P hms hL hok fuel _ _ st _ w Q hk (hdc.step hi) (hr.put hd (.s undef rfl)) hh hm hQ⟩
def betweenB (l : List Oper) (p : Nat) : Bool := lastAll l.toArray && (List.range l.length).all fun j => j == p || (if j < p then waitsT (masks .any l []) p j else waitsT (masks .any l []) j p || ((l[j]?).any pureA))
theorem tr_drawP {N : Nat} {id : Nat} {l : List Oper} {A : AA} {Q : Exit → AA → St → Prop} (ro : Ro) (l1 : List Oper) (op : Oper) (l2 : List Oper) (hl : l = l1 ++ op :: l2) (hm : P.follows .mixedOrders = true) (hB : mixBA .any l.toArray = true) (hok : opsOk N l = true) (hbt : betweenB l l1.length = true) (hC : Keeps ro st)
    (h : wpMixA P r ro l.toArray (fun A' st' => ∃ ro2, Keeps ro2 st' ∧ wpMixA P r ro2 l.toArray (Q .normal) l2 A' st') (l1 ++ [op]) A st) : Tr P N r (.region id l.toArray true) A st Q := by
  intro a w h1 h2
  have hok' : ∀ (i : Nat) (o : Oper), l.toArray[i]? = some o → dstOk N o.dst = true ∧ guardOk N l.toArray o = true := fun i o ho => by
    have := List.all_eq_true.1 hok o (by simp at ho; exact List.mem_of_getElem? ho)
    simpa using this
  have he := Ext.drew (OwnS st) w
  have hms := masks_ok (md := .any) l l [] (by simp) (fun k i h => by simp at h)
  have hL : LastW (masks .any l []) l.toArray := fun h j i hj hi hne => by
    unfold lastAll at h
    have := List.all_eq_true.1 h i (List.mem_range.2 (by omega))
    rw [show l.toArray.size - 1 = j by omega] at this
    exact this
  unfold betweenB at hbt
  rw [Bool.and_eq_true] at hbt
  have hsz : l.toArray.size = l.length := by simp
  have hb : ∀ j, j < l.length → j ≠ l1.length → (if j < l1.length then waitsT (masks .any l []) l1.length j else waitsT (masks .any l []) j l1.length || ((l[j]?).any pureA)) = true := fun j hj hne => by
    have := List.all_eq_true.1 hbt.2 j (List.mem_range.2 hj)
    rw [Bool.or_eq_true, beq_iff_eq] at this
    exact this.resolve_left hne
  have hBt : Between (masks .any l []) l.toArray l1.length := fun j oj hj hne => by
    have hjl := (Array.getElem?_eq_some_iff.1 hj).1
    have := hb j (by rw [← hsz]; exact hjl) hne
    split at this
    · exact .inr (.inl this)
    · rw [Bool.or_eq_true] at this
      rcases this with h | h
      · exact .inl h
      · refine .inr (.inr ?_)
        rw [show l[j]? = some oj by simpa using hj] at h
        exact h
  have hdc : DC .any l.toArray (Array.replicate l.toArray.size false) := fun k o _ hl => absurd hl (by rw [getD_rep]; exact Bool.false_ne_true)
  have hlen : l1.length < l.length := by rw [hl]; simp
  have hany := wpAnyP_lex (P := P) (r := r) (ro := ro) (md := .any) hms hL hbt.1 hBt (op := op) (l2 := l2) (Q := Q .normal) l1 0 (Array.replicate l.toArray.size false) A st hC hdc (by omega) (fun i _ hi => by
    have := hb i (by omega) (by omega)
    rwa [if_pos hi] at this) (fun j => by rw [← hl]; simp) (by rw [← hl]; simpa [mixBA] using hB) h
  refine wpIn_region_any hm ?_
  rw [← hl] at hany
  rw [hsz] at hany hdc ⊢
  exact wpAnyIn_of_P hms hL hok' _ _ A st a w.drew _ hC hdc (h1.ext he) (h2.drewN 1) hany fun A' st' a' w' q1 q2 q3 q5 => ⟨A', st', q1, q2, he.trans q3, q5⟩
theorem mOpA_mono {f : Bool} {o : Oper} {A : AA} {K K' : AA → St → Prop} (h : ∀ A st, K A st → K' A st) (hh : mOpA P r ro f ops o K A st) : mOpA P r ro f ops o K' A st := by
  unfold mOpA at *
  split
  · rename_i hw
    rw [if_pos hw] at hh
    split
    · rename_i hf
      rw [if_pos hf] at hh
      obtain ⟨d, h1, h2⟩ := hh
      exact ⟨d, h1, h _ _ h2⟩
    · rename_i hf
      rw [if_neg hf] at hh
      obtain ⟨h1, d, st', h2, h3⟩ := hh
      exact ⟨h1.mono fun d st' hk => ⟨hk.1, h _ _ hk.2⟩, d, st', h2, h _ _ h3⟩
  · rename_i hw
    rw [if_neg hw] at hh
    exact h _ _ hh
theorem wpMixA_mono {K K' : AA → St → Prop} (h : ∀ A st, K A st → K' A st) : ∀ (l : List Oper) (A : AA) (st : St), wpMixA P r ro ops K l A st → wpMixA P r ro ops K' l A st
  | [], A, st, hh => h A st hh
  | o :: l, A, st, hh => mOpA_mono (wpMixA_mono h l) hh
def ne1 (b : Nat) : St → Prop
  | [] => True
  | .box b' _ _ :: s => ((b' == b) = false ∧ (b == b') = false) ∧ ne1 b s
  | _ :: s => ne1 b s
def nes : St → Prop
  | [] => True
  | .box b _ _ :: s => ne1 b s ∧ nes s
  | _ :: s => nes s
theorem ne1_of {b : Nat} {x : Res} (hb : x.blk = some b) : ∀ {s : St}, (∀ y ∈ s, Apart x y) → ne1 b s
  | [], _ => trivial
  | y :: s, h => by
    have ht : ne1 b s := ne1_of hb fun z hz => h z (List.mem_cons_of_mem _ hz)
    cases y with
    | box b' ty cs =>
      have hne : b' ≠ b := fun e => h _ (List.mem_cons_self ..) b hb (by rw [← e]; rfl)
      exact ⟨⟨beq_eq_false_iff_ne.2 hne, beq_eq_false_iff_ne.2 hne.symm⟩, ht⟩
    | room => exact ht
    | raw => exact ht
    | know => exact ht
theorem nes_of : ∀ {s : St}, s.Pairwise Apart → nes s
  | [], _ => trivial
  | y :: s, h => by
    have h' := List.pairwise_cons.1 h
    have ht := nes_of h'.2
    cases y with
    | box b ty cs => exact ⟨ne1_of rfl h'.1, ht⟩
    | room => exact ht
    | raw => exact ht
    | know => exact ht
theorem tr_nes {N : Nat} {c : Code} {A : AA} {Q : Exit → AA → St → Prop} (h : nes st → Tr P N r c A st Q) : Tr P N r c A st Q := fun a w ha hh => h (nes_of hh.1) a w ha hh
theorem w_drawQ {N : Nat} {id : Nat} {l : List Oper} {A : AA} {Q : Exit → AA → St → Prop} (ro : Ro) (n : Nat) {t1 t2 : List Oper} (hm : P.follows .mixedOrders = true) (hB : mixBA .any l.toArray = true) (hok : opsOk N l = true) (hbt : betweenB l n = true) (h1 : l.take (n + 1) = t1) (h2 : l.drop (n + 1) = t2) (hC : Keep (some ro) st)
    (h : nes st → W P r (some ro) l.toArray (fun A' st' => ∃ ro2, Keep (some ro2) st' ∧ W P r (some ro2) l.toArray (Q .normal) t2 A' st') t1 A st) : Tr P N r (.region id l.toArray true) A st Q := by
  refine tr_nes fun hne => ?_
  subst h1 h2
  by_cases hn : n < l.length
  · have hl : l = l.take n ++ l[n] :: l.drop (n + 1) := by rw [List.getElem_cons_drop, List.take_append_drop]
    have hlen : (l.take n).length = n := by rw [List.length_take]; omega
    refine tr_drawP ro (l.take n) l[n] (l.drop (n + 1)) hl hm hB hok (by rw [hlen]; exact hbt) hC ?_
    rw [show l.take n ++ [l[n]] = l.take (n + 1) from (List.take_succ_eq_append_getElem hn).symm]
    exact wpMixA_mono (fun A' st' ⟨ro2, k1, k2⟩ => ⟨ro2, k1, k2⟩) _ _ _ (h hne)
  · rw [List.take_of_length_le (by omega), List.drop_of_length_le (by omega)] at h
    exact tr_draw ro hm hB hok hC (wpMixA_mono (fun A' st' ⟨ro2, k1, k2⟩ => k2) _ _ _ (h hne))
theorem w_drawN {N : Nat} {id : Nat} {l : List Oper} {A : AA} {Q : Exit → AA → St → Prop} (ro : Ro) (hm : P.follows .mixedOrders = true) (hB : mixBA .any l.toArray = true) (hok : opsOk N l = true) (hC : Keep (some ro) st)
    (h : nes st → W P r (some ro) l.toArray (Q .normal) l A st) : Tr P N r (.region id l.toArray true) A st Q := tr_nes fun hne => w_draw ro hm hB hok hC (h hne)
end
end Go.Proofs.Ytooaagmhgakhgaa
end

section
namespace Go.Proofs.Ytooaagmhgakhgaa
set_option linter.unusedSimpArgs false
open Go.RowKit
section
variable {P : Program} {f : FuncId} {args : List D} {st : St} {R : D → St → Prop} {w : World} {A : AA}
def oneA (P : Program) (r : ResultVar) (A : AA) (st : St) (d : D) : Prop :=
  match r with
  | .tmp t => A.e t = d
  | .cell t T => cellA t T P A st d
def twoA (P : Program) (r1 r2 : ResultVar) (A : AA) (st : St) (d : D) : Prop := ∃ d1 d2, d = .tup [d1, d2] ∧ oneA P r1 A st d1 ∧ oneA P r2 A st d2
def readOne (tmps : Array Value) : ResultVar → Sem Value
  | .tmp t => pure (tmps.getD t undef)
  | .cell a t => do loadVar t (← asAddr (tmps.getD a undef))
theorem res_one {r : ResultVar} {a : Act} {N : Nat} {d : D} (h1 : RelA N (OwnS st) w a A) (h2 : Holds st w) (h3 : oneA P r A st d) : ∃ v, (readOne a.tmps r).run P w = .ok v w ∧ Rep (OwnS st) w v d := by
  cases r with
  | tmp t =>
    have : A.e t = d := h3
    exact ⟨_, rfl, this ▸ h1.2.2 t⟩
  | cell t T =>
    obtain ⟨b, off, ty, cs, ti, k1, k2, k3, k4⟩ := h3
    have hp := h1.2.2 t
    rw [k1] at hp
    have hv : a.tmps.getD t undef = .pointer (some ⟨b, off, none⟩) := by
      generalize a.tmps.getD t undef = v at hp
      cases hp; rfl
    obtain ⟨v, q1, q2⟩ := run_loadBox h2 k2 k3 k4
    refine ⟨v, ?_, q2⟩
    have q3 : (loadVar T ⟨b, off, none⟩).run P w = .ok v w := by
      simpa [Instr.loadAt, Instr.sureAddr] using q1
    show ((do loadVar T (← asAddr (a.tmps.getD t undef))) : Sem Value).run P w = _
    rw [hv]
    simp [asAddr, q3]
theorem res_two {fn : Func} {r1 r2 : ResultVar} (hr : fn.results = #[r1, r2]) {a : Act} {N : Nat} {d : D} (h1 : RelA N (OwnS st) w a A) (h2 : Holds st w) (h3 : twoA P r1 r2 A st d) : ∃ v, (results fn a.tmps).run P w = .ok v w ∧ Rep (OwnS st) w v d := by
  obtain ⟨d1, d2, rfl, k1, k2⟩ := h3
  obtain ⟨v1, q1, p1⟩ := res_one h1 h2 k1
  obtain ⟨v2, q2, p2⟩ := res_one h1 h2 k2
  refine ⟨.tuple #[v1, v2], ?_, ?_⟩
  · have hm : results fn a.tmps = (do
        let vs ← fn.results.mapM (readOne a.tmps)
        pure (if h : vs.size = 1 then vs[0] else .tuple vs)) := by
      unfold results
      congr 2
    rw [hm, hr]
    simp only [Array.mapM_eq_mapM_toList, List.mapM_cons, List.mapM_nil, Sem.run_bind, q1, q2, Result.andThen_ok, Sem.run_pure, map_eq_pure_bind]
    rfl
  · exact .tup [v1, v2] [d1, d2] rfl (RepL.cons p1 (RepL.cons p2 .nil)).2
def retG (G : AA → St → D → Prop) (R : D → St → Prop) : Exit → AA → St → Prop
  | .normal, A, st | .ret, A, st => ∃ (rs : List Nat) (d0 d : D) (s2 st' : St), A.df = rs.map mark ∧ st.Perm (rs.map markR ++ s2) ∧ G A s2 d0 ∧ st'.Sublist s2 ∧ LE d0 d ∧ R d st'
  | _, _, _ => False
theorem leaves_marksG {fn : Func} {tmps : Array Value} {Rw : Ending → World → Prop} : ∀ (rs : List Nat) (w : World), rs.Nodup → (∀ r ∈ rs, w.heap[r]? = some (.deferred (some []))) →
    (∀ w', w'.os = w.os → w'.tape = w.tape → w'.output = w.output → w'.heap.size = w.heap.size → (∀ b, b ∉ rs → w'.heap[b]? = w.heap[b]?) → ∃ v, (results fn tmps).run P w' = .ok v w' ∧ Rw (.returned v) w') → LeavesInM Fence.wide 0 P fn tmps Rw (rs.map mark) .returning w
  | [], w, _, _, hw => by
    obtain ⟨v, h1, h2⟩ := hw w rfl rfl rfl rfl fun _ _ => rfl
    show LeavesIn Fence.wide 0 P fn tmps Rw [] .returning w
    exact ⟨v, h1, h2⟩
  | r :: rs, w, hn, hb, hw => by
    have hr := hb r (List.mem_cons_self ..)
    have hlt := (Array.getElem?_eq_some_iff.1 hr).1
    refine ⟨(by intro h; cases h), .inl ⟨r, _, rfl, run_takeDeferred hr, leaves_marksG rs _ (List.nodup_cons.1 hn).2 (fun x hx => ?_) fun w' h1 h2 h3 h4 h5 => ?_⟩⟩
    · rw [World.putObj_heap_other (by intro e; subst e; exact (List.nodup_cons.1 hn).1 hx)]
      exact hb x (List.mem_cons_of_mem _ hx)
    · refine hw w' h1 h2 h3 (by rw [h4]; simp) fun b hb => ?_
      rw [h5 b fun h => hb (List.mem_cons_of_mem _ h)]
      exact World.putObj_heap_other fun e => hb (e ▸ List.mem_cons_self ..)
theorem trF_enterG {fn : Func} {c : Code} {G : AA → St → D → Prop} (hf : P.funcs[f]? = some fn) (hb : fn.body = some c) (hn : args.length ≤ fn.ntmps) (hres : ∀ {a A w st d}, RelA fn.ntmps (OwnS st) w a A → Holds st w → G A st d → ∃ v, (results fn a.tmps).run P w = .ok v w ∧ Rep (OwnS st) w v d)
    (h : Tr P fn.ntmps none c ⟨initE args, []⟩ st (retG G R)) : TrF P f args st R := by
  intro vs w hv hw
  refine (callsIn_wide (n := 0)).1 (callsIn_of_wp_marks hf hb trivial ?_ rfl)
  have hvl : vs.size = args.length := by rw [← Array.length_toList]; exact hv.1
  have hrel : RelA fn.ntmps (OwnS st) w { tmps := vs ++ Array.replicate (fn.ntmps - vs.size) undef, defers := [] } ⟨initE args, []⟩ := by
    refine ⟨by simp [hvl]; omega, rfl, fun t => ?_⟩
    show Rep _ _ _ (args.getD t D.un)
    simp only [Array.getD_eq_getD_getElem?, List.getD_eq_getElem?_getD]
    rcases Nat.lt_or_ge t args.length with ht | ht
    · have h1 : t < vs.toList.length := by simp; omega
      have := hv.2 t h1 ht
      rw [Array.getElem?_append_left (by omega), List.getElem?_eq_getElem ht, Array.getElem?_eq_getElem (by omega)]
      simpa using this
    · rw [Array.getElem?_append_right (by omega), List.getElem?_eq_none ht]
      simp only [Option.getD_none]
      by_cases h2 : t - vs.size < fn.ntmps - vs.size
      · rw [Array.getElem?_replicate, if_pos h2]
        exact .s undef rfl
      · rw [Array.getElem?_replicate, if_neg h2]
        exact .s undef rfl
  refine wpIn_mono (h _ w hrel hw) fun ex a' w' ⟨A', st', k1, k2, k3, k4⟩ => ?_
  have main : (∃ (rs : List Nat) (d0 d : D) (s2 st'' : St), A'.df = rs.map mark ∧ st'.Perm (rs.map markR ++ s2) ∧ G A' s2 d0 ∧ st''.Sublist s2 ∧ LE d0 d ∧ R d st'') → LeavesInM (FR none) 0 P fn a'.tmps (fun e w' => ∃ v, e = .returned v ∧ PostV st w R v w') a'.defers .returning w' := by
    rintro ⟨rs, d0, d, s2, st'', q1, q2, qg, qs, q3, q4⟩
    rw [k1.2.1, q1]
    have hh := k2.perm q2
    have hnd : rs.Nodup := by
      have := List.Pairwise.sublist (List.sublist_append_left _ _) hh.1
      rw [List.pairwise_map] at this
      exact this.imp fun {a b} hab e => hab a rfl (by rw [e]; rfl)
    have hblk : ∀ r ∈ rs, w'.heap[r]? = some (.deferred (some [])) := fun r hr => hh.2 (markR r) (List.mem_append_left _ (List.mem_map_of_mem hr))
    refine leaves_marksG rs w' hnd hblk fun w'' e1 e2 e3 e4 e5 => ?_
    have hown : ∀ b off, OwnS s2 b off → OwnS st' b off := fun b off ⟨x, hx, ho⟩ => ⟨x, q2.mem_iff.2 (List.mem_append_right _ hx), ho⟩
    have hmk : ∀ r ∈ rs, ∀ off, OwnS st' r off := fun r hr off => ⟨markR r, q2.mem_iff.2 (List.mem_append_left _ (List.mem_map_of_mem hr)), rfl, Nat.zero_le _⟩
    have he : Ext (OwnS st') w' (OwnS s2) w'' := by
      refine ⟨e1, e2, e3, by omega, fun b off _ ho => hown b off ho, fun b hb hno => e5 b fun hr => hno 0 (hmk b hr 0), fun b c E fr hc => ⟨c, fr, ?_, rfl, fun _ _ => rfl⟩⟩
      rw [e5 b fun hr => by rw [hblk b hr] at hc; cases hc]
      exact hc
    have hh2 : Holds s2 w'' := by
      refine ⟨(List.pairwise_append.1 hh.1).2.1, fun x hx => (k2.2 x (q2.mem_iff.2 (List.mem_append_right _ hx))).ext he fun b hb => e5 b fun hr => ?_⟩
      exact (List.pairwise_append.1 hh.1).2.2 (markR b) (List.mem_map_of_mem hr) x hx b rfl hb
    obtain ⟨v, r1, r2⟩ := hres (a := a') (A := A') ⟨k1.1, k1.2.1, fun t => (k1.2.2 t).ext he⟩ hh2 qg
    have hd := Ext.drop (st := s2) (st' := st'') (fun _ h => qs.subset h) w''
    exact ⟨v, r1, v, rfl, d, st'', q3 _ _ _ (r2.ext hd), hh2.sub qs, (k3.trans he).trans hd, q4⟩
  cases ex with
  | normal => exact main k4
  | ret => exact main k4
  | exit id => exact k4.elim
  | goto l => exact k4.elim
  | panic c => exact k4.elim
  | outgrown => exact k4.elim
theorem cell_mk {t : Tmp} {T : TypeId} {ti : TI} {b off : Nat} {ty : TypeId} {cs : List D} {d : D} (hp : A.e t = .ptr b off) (hm : Res.box b ty cs ∈ st) (ht : tinfo P T = some ti) (hd : readD ti (cs.drop off) = some d) : cellA t T P A st d := ⟨b, off, ty, cs, ti, hp, hm, ht, hd⟩
theorem retG_mk {G : AA → St → D → Prop} {ex : Exit} {A : AA} {d X : D} {st st0 s2 : St} {rs : List Nat} (hex : ex = .normal ∨ ex = .ret) (hdf : A.df = rs.map mark) (hp : st.Perm (rs.map markR ++ s2)) (hG : G A s2 d) (hs : st0.Sublist s2) (hl : LE d X) (hR : R X st0) : retG G R ex A st := by
  rcases hex with rfl | rfl <;> exact ⟨rs, d, X, s2, st0, hdf, hp, hG, hs, hl, hR⟩
end
end Go.Proofs.Ytooaagmhgakhgaa
end

section
namespace Go.Proofs.Ytooaagmhgakhgaa
set_option linter.unusedSimpArgs false
open Go.RowKit
set_option maxRecDepth 10000
set_option maxHeartbeats 4000000
def FirstR (t : Tm) (st : St) (d : D) (st' : St) : Prop :=
  (Sch.firstV t = none ∧ (d = .tup [.agg [.sl .tight [], .sl .tight []], .b false] ∨ ∃ gs n cS gc m cC, d = .tup [.agg [.ar gs 0 n cS, .ar gc 0 m cC], .b false]) ∧ st' = st) ∨
    ∃ x gs cS zS gc cC zC, Sch.firstV t = some x ∧ VL cS zS cC zC x ∧ d = .tup [.agg [.ar gs 0 x.slots.length cS, .ar gc 0 x.cols.length cC], .b true] ∧ st' = .box gs 26 (slotC x.slots ++ zS) :: .box gc 3 (colC x.cols ++ zC) :: st
theorem firstL_drop {slots : List Sl} {i : Nat} {s : Sl} {x : Vr} (h : slots[i]? = some s) : Sch.firstL (slots.drop i) x = if Sch.sound s = true ∧ Sch.col x s.name < 0 then Sch.firstL (slots.drop (i + 1)) ⟨x.slots ++ [s], x.cols ++ [x.slots.length]⟩ else none := by
  obtain ⟨h1, rfl⟩ := List.getElem?_eq_some_iff.1 h
  rw [List.drop_eq_getElem_cons h1, Sch.firstL]
theorem schFirstF (t : Tm) (hs : ∀ s ∈ t.slots, s.dv.nodes ≤ 1000) (hl : t.slots.length ≤ 1000) (ht : t.steps.length ≤ 1000) (st : St) : TrF Try.prog 71 [.agg t.cells] st (FirstR t st) := by
  have hN := Lib.hid (valIsNameF t.name)
  have hF : Hid (Sch.firstV t = if V.isName t.name.data.toList = true ∧ 1 ≤ t.slots.length ∧ t.slots.length ≤ 8 ∧ t.steps.length ≤ 8 then Sch.firstL t.slots ⟨[], []⟩ else none) := rfl
  unfold FirstR VL
  generalize Sch.firstV t = F at *
  cases t with
  | mk nm slots steps =>
  unfold Tm.cells
  dsimp only at hN hF hs hl ht ⊢
  generalize V.isName nm.data.toList = qn at *
  generalize hTS : steps.map Stp.cells = TS at *
  have hTSl : TS.length = steps.length := by rw [← hTS, List.length_map]
  generalize steps.length = ms at *
  clear hTS
  refine trF_enterG (G := twoA Try.prog (.cell 2 38) (.tmp 3)) Try.func71 rfl (by rw [Try.ntmps71]; exact Nat.le_of_ble_eq_true rfl) (fun h1 h2 h3 => res_two rfl h1 h2 h3) ?_
  simp only [Try.ntmps71]
  by_cases hc : qn = true ∧ 1 ≤ slots.length ∧ slots.length ≤ 8 ∧ ms ≤ 8
  case neg =>
    have hF2 : Hid (F = none) := Lib.hid (by rw [hF.out, if_neg hc])
    have hno : qn = false ∨ (qn = true ∧ (slots.length : Int) < 1) ∨ (qn = true ∧ 1 ≤ (slots.length : Int) ∧ 8 < (slots.length : Int)) ∨ (qn = true ∧ 1 ≤ (slots.length : Int) ∧ (slots.length : Int) ≤ 8 ∧ 8 < (ms : Int)) := by
      cases qn
      · exact .inl rfl
      · refine .inr ?_
        by_cases h1 : 1 ≤ slots.length
        · by_cases h2 : slots.length ≤ 8
          · by_cases h3 : ms ≤ 8
            · exact absurd ⟨rfl, h1, h2, h3⟩ hc
            · exact .inr (.inr ⟨rfl, by omega, by omega, by omega⟩)
          · exact .inr (.inl ⟨rfl, by omega, by omega⟩)
        · exact .inl ⟨rfl, by omega⟩
    clear hc hF
    rcases hno with rfl | ⟨rfl, h1⟩ | ⟨rfl, h1, h2⟩ | ⟨rfl, h1, h2, h3⟩
    all_goals skip
    all_goals (
      repeat' (first | with_reducible refine Go1.go ?_ | ((with_reducible apply ev_go); (focus (try simp (disch := omega) only [push_cast, Nat.reduceEqDiff, reduceCtorEq, ↓reduceIte, Nat.reduceAdd, Nat.reduceMul, Nat.reduceSub, Nat.reduceLT, Nat.reduceLeDiff, Int.reduceToNat, Int.reduceLT, Int.reduceLE, Int.reduceAdd, Int.reduceSub, Int.reduceMul, Int.reduceBEq, Int.reduceBNe, encB, encI, encC, V.cells_mk, V.cells_len, Nat.mul_one, Int.sub_zero, List.map_nil, beq_self_eq_true, List.head?_cons, *]); (try exact rfl); done)) | ((with_reducible refine w_last ?_ ?_ ?_); (focus kernel_rfl); (focus rfl)) | ((with_reducible apply w_stepG); (focus rfl)) | ((with_reducible apply lk_mem); (focus ((repeat (first | exact mm_h | apply mm_t)); done))) | with_reducible refine Go2.go ?_ | ((with_reducible apply sto_go); (focus (intro cs'; repeat (first | exact ra_h | apply ra_t)))) | ((with_reducible refine al_go ?_); intro b) | ((with_reducible refine And.intro ?_ ?_); (focus ((repeat (first | exact keep_none | exact keep_nil | exact keep_ro | refine keep_cons ?_)); done))) | ((with_reducible apply (ck_le Try.call86)); (focus exact LEL.refl _); (focus exact hN.out _)) | ((with_reducible refine s_bi ?_ ?_); (focus rfl)) | with_reducible refine blk_ne rfl ?_ | ((with_reducible refine w_region ?_ ?_); (focus kernel_rfl)) | ((with_reducible refine w_draw [] ?_ ?_ ?_ ?_ ?_); (iterate 3 (focus kernel_rfl)); (focus exact keeps_nil)) | ((with_reducible first | refine gd_d1 ?_ ?_ | refine gd_d0 ?_ ?_); all_goals (intro hb; (first | with_reducible replace hb := nt_t hb | with_reducible replace hb := nt_f hb | skip); (first | replace hb := dc_t hb | replace hb := dc_f hb | have hb1 := eq_b hb | have hb1 := ne_b hb | have hb1 := bne_t hb | have hb1 := bne_f hb | skip); (try (exfalso; first | contradiction | omega)))))
      all_goals ((refine retG_mk (rs := []) (by first | exact .inl rfl | exact .inr rfl) (by first | rfl | assumption) (List.Perm.refl _) ⟨_, _, rfl, cell_mk (by simp (disch := omega) only [push_cast, Nat.reduceEqDiff, reduceCtorEq, ↓reduceIte, Nat.reduceAdd, Nat.reduceMul, Nat.reduceSub, Nat.reduceLT, Nat.reduceLeDiff, Int.reduceToNat, Int.reduceLT, Int.reduceLE, Int.reduceAdd, Int.reduceSub, Int.reduceMul, Int.reduceBEq, Int.reduceBNe, encB, encI, encC, V.cells_mk, V.cells_len, Nat.mul_one, Int.sub_zero, List.map_nil, beq_self_eq_true, List.head?_cons, *]; exact rfl) (by repeat (first | exact mm_h | apply mm_t)) (by simp (disch := omega) only [push_cast, Nat.reduceEqDiff, reduceCtorEq, ↓reduceIte, Nat.reduceAdd, Nat.reduceMul, Nat.reduceSub, Nat.reduceLT, Nat.reduceLeDiff, Int.reduceToNat, Int.reduceLT, Int.reduceLE, Int.reduceAdd, Int.reduceSub, Int.reduceMul, Int.reduceBEq, Int.reduceBNe, encB, encI, encC, V.cells_mk, V.cells_len, Nat.mul_one, Int.sub_zero, List.map_nil, beq_self_eq_true, List.head?_cons, *]; exact rfl) (by (try simp (disch := omega) only [push_cast, Nat.reduceEqDiff, reduceCtorEq, ↓reduceIte, Nat.reduceAdd, Nat.reduceMul, Nat.reduceSub, Nat.reduceLT, Nat.reduceLeDiff, Int.reduceToNat, Int.reduceLT, Int.reduceLE, Int.reduceAdd, Int.reduceSub, Int.reduceMul, Int.reduceBEq, Int.reduceBNe, encB, encI, encC, V.cells_mk, V.cells_len, Nat.mul_one, Int.sub_zero, List.map_nil, beq_self_eq_true, List.head?_cons, *]); (try exact rfl); done), (by show _ = _; (try simp (disch := omega) only [push_cast, Nat.reduceEqDiff, reduceCtorEq, ↓reduceIte, Nat.reduceAdd, Nat.reduceMul, Nat.reduceSub, Nat.reduceLT, Nat.reduceLeDiff, Int.reduceToNat, Int.reduceLT, Int.reduceLE, Int.reduceAdd, Int.reduceSub, Int.reduceMul, Int.reduceBEq, Int.reduceBNe, encB, encI, encC, V.cells_mk, V.cells_len, Nat.mul_one, Int.sub_zero, List.map_nil, beq_self_eq_true, List.head?_cons, *]); (try exact rfl); done)⟩ (by (repeat (first | exact List.Sublist.refl _ | apply List.Sublist.cons))) (LE.refl _) (.inl ⟨hF2.out, (by first | exact .inl rfl | exact .inr ⟨_, _, _, _, _, _, rfl⟩), rfl⟩))))
  case pos =>
    have hF2 : Hid (F = Sch.firstL slots ⟨[], []⟩) := Lib.hid (by rw [hF.out, if_pos hc])
    obtain ⟨rfl, h1, h2, h3⟩ := hc
    clear hF
    obtain ⟨B, hB⟩ : ∃ B, Sch.firstL slots ⟨[], []⟩ = B := ⟨_, rfl⟩
    have HB : Hid (Sch.firstL (slots.drop 0) ⟨[], []⟩ = B) := hB
    rw [hB] at hF2
    clear hB
    have hsN := Lib.hid hs
    clear hs
    repeat' (first | with_reducible refine Go1.go ?_ | ((with_reducible apply ev_go); (focus (try simp (disch := omega) only [push_cast, Nat.reduceEqDiff, reduceCtorEq, ↓reduceIte, Nat.reduceAdd, Nat.reduceMul, Nat.reduceSub, Nat.reduceLT, Nat.reduceLeDiff, Int.reduceToNat, Int.reduceLT, Int.reduceLE, Int.reduceAdd, Int.reduceSub, Int.reduceMul, Int.reduceBEq, Int.reduceBNe, encB, encI, encC, V.cells_mk, V.cells_len, Nat.mul_one, Int.sub_zero, List.map_nil, beq_self_eq_true, List.head?_cons, *]); (try exact rfl); done)) | ((with_reducible refine w_last ?_ ?_ ?_); (focus kernel_rfl); (focus rfl)) | ((with_reducible apply w_stepG); (focus rfl)) | ((with_reducible apply lk_mem); (focus ((repeat (first | exact mm_h | apply mm_t)); done))) | with_reducible refine Go2.go ?_ | ((with_reducible apply sto_go); (focus (intro cs'; repeat (first | exact ra_h | apply ra_t)))) | ((with_reducible refine al_go ?_); intro b) | ((with_reducible refine And.intro ?_ ?_); (focus ((repeat (first | exact keep_none | exact keep_nil | exact keep_ro | refine keep_cons ?_)); done))) | ((with_reducible apply (ck_le Try.call86)); (focus exact LEL.refl _); (focus exact hN.out _)) | ((with_reducible refine s_bi ?_ ?_); (focus rfl)) | with_reducible refine blk_ne rfl ?_ | ((with_reducible refine w_region ?_ ?_); (focus kernel_rfl)) | ((with_reducible refine w_draw [] ?_ ?_ ?_ ?_ ?_); (iterate 3 (focus kernel_rfl)); (focus exact keeps_nil)) | ((with_reducible first | refine gd_d1 ?_ ?_ | refine gd_d0 ?_ ?_); all_goals (intro hb; (first | with_reducible replace hb := nt_t hb | with_reducible replace hb := nt_f hb | skip); (first | replace hb := dc_t hb | replace hb := dc_f hb | have hb1 := eq_b hb | have hb1 := ne_b hb | have hb1 := bne_t hb | have hb1 := bne_f hb | skip); (try (exfalso; first | contradiction | omega)))))
    rename_i b2 _ _
    revert b
    intro b4
    refine tr_loopd (ι := Nat) (fun i A st' => i ≤ slots.length ∧ A.df = [] ∧ A.e 2 = .ptr b2 0 ∧ A.e 4 = .ptr b4 0 ∧ A.e 32 = .sl .shared (slots.map Sl.cells) ∧ A.e 33 = .i slots.length ∧ A.e 34 = .i i ∧ ∃ x : Vr, x.slots.length = i ∧ x.cols.length = i ∧ Hid (Sch.firstL (slots.drop i) x = B) ∧
      ((i = 0 ∧ x = ⟨[], []⟩ ∧ st' = .box b4 38 [.sl .tight [], .sl .tight []] :: .box b2 38 [.sl .tight [], .sl .tight []] :: st) ∨ (0 < i ∧ ∃ gs cS zS gc cC zC, (slotC x.slots ++ zS).length = cS * 7 ∧ (colC x.cols ++ zC).length = cC * 1 ∧ st' = .box gc 3 (colC x.cols ++ zC) :: .box gs 26 (slotC x.slots ++ zS) :: .box b4 38 [.ar gs 0 i cS, .ar gc 0 i cC] :: .box b2 38 [.sl .tight [], .sl .tight []] :: st))) (fun i => slots.length - i) 0 ⟨Nat.zero_le _, by (first | rfl | assumption | omega | (simp (disch := omega) only [push_cast, Nat.reduceEqDiff, reduceCtorEq, ↓reduceIte, Nat.reduceAdd, Nat.reduceMul, Nat.reduceSub, Nat.reduceLT, Nat.reduceLeDiff, Int.reduceToNat, Int.reduceLT, Int.reduceLE, Int.reduceAdd, Int.reduceSub, Int.reduceMul, Int.reduceBEq, Int.reduceBNe, encB, encI, encC, V.cells_mk, V.cells_len, Nat.mul_one, Int.sub_zero, List.map_nil, beq_self_eq_true, List.head?_cons, *]; try omega; done)), by (first | rfl | assumption | omega | (simp (disch := omega) only [push_cast, Nat.reduceEqDiff, reduceCtorEq, ↓reduceIte, Nat.reduceAdd, Nat.reduceMul, Nat.reduceSub, Nat.reduceLT, Nat.reduceLeDiff, Int.reduceToNat, Int.reduceLT, Int.reduceLE, Int.reduceAdd, Int.reduceSub, Int.reduceMul, Int.reduceBEq, Int.reduceBNe, encB, encI, encC, V.cells_mk, V.cells_len, Nat.mul_one, Int.sub_zero, List.map_nil, beq_self_eq_true, List.head?_cons, *]; try omega; done)), by (first | rfl | assumption | omega | (simp (disch := omega) only [push_cast, Nat.reduceEqDiff, reduceCtorEq, ↓reduceIte, Nat.reduceAdd, Nat.reduceMul, Nat.reduceSub, Nat.reduceLT, Nat.reduceLeDiff, Int.reduceToNat, Int.reduceLT, Int.reduceLE, Int.reduceAdd, Int.reduceSub, Int.reduceMul, Int.reduceBEq, Int.reduceBNe, encB, encI, encC, V.cells_mk, V.cells_len, Nat.mul_one, Int.sub_zero, List.map_nil, beq_self_eq_true, List.head?_cons, *]; try omega; done)), by (first | rfl | assumption | omega | (simp (disch := omega) only [push_cast, Nat.reduceEqDiff, reduceCtorEq, ↓reduceIte, Nat.reduceAdd, Nat.reduceMul, Nat.reduceSub, Nat.reduceLT, Nat.reduceLeDiff, Int.reduceToNat, Int.reduceLT, Int.reduceLE, Int.reduceAdd, Int.reduceSub, Int.reduceMul, Int.reduceBEq, Int.reduceBNe, encB, encI, encC, V.cells_mk, V.cells_len, Nat.mul_one, Int.sub_zero, List.map_nil, beq_self_eq_true, List.head?_cons, *]; try omega; done)), by (first | rfl | assumption | omega | (simp (disch := omega) only [push_cast, Nat.reduceEqDiff, reduceCtorEq, ↓reduceIte, Nat.reduceAdd, Nat.reduceMul, Nat.reduceSub, Nat.reduceLT, Nat.reduceLeDiff, Int.reduceToNat, Int.reduceLT, Int.reduceLE, Int.reduceAdd, Int.reduceSub, Int.reduceMul, Int.reduceBEq, Int.reduceBNe, encB, encI, encC, V.cells_mk, V.cells_len, Nat.mul_one, Int.sub_zero, List.map_nil, beq_self_eq_true, List.head?_cons, *]; try omega; done)), by (first | rfl | assumption | omega | (simp (disch := omega) only [push_cast, Nat.reduceEqDiff, reduceCtorEq, ↓reduceIte, Nat.reduceAdd, Nat.reduceMul, Nat.reduceSub, Nat.reduceLT, Nat.reduceLeDiff, Int.reduceToNat, Int.reduceLT, Int.reduceLE, Int.reduceAdd, Int.reduceSub, Int.reduceMul, Int.reduceBEq, Int.reduceBNe, encB, encI, encC, V.cells_mk, V.cells_len, Nat.mul_one, Int.sub_zero, List.map_nil, beq_self_eq_true, List.head?_cons, *]; try omega; done)), ⟨[], []⟩, rfl, rfl, HB, .inl ⟨rfl, rfl, rfl⟩⟩ ?_
    rintro i A st' ⟨hi, hdf, e2, e4, e32, e33, e34, x, hxs, hxc, HT, hcase⟩
    clear HB
    by_cases hlt : i < slots.length
    · obtain ⟨sl, hsl⟩ : ∃ s, slots[i]? = some s := ⟨_, List.getElem?_eq_getElem hlt⟩
      have HE := HT.out
      rw [firstL_drop hsl] at HE
      clear HT
      have hn := hsN.out sl (List.mem_of_getElem? hsl)
      have hS := schSoundF sl (by omega)
      have hC := schColF x.slots x.cols sl.name (by omega) (by omega) []
      have hcl : (slots.map Sl.cells)[i]? = some sl.cells := by rw [List.getElem?_map, hsl]; rfl
      have hml : (slots.map Sl.cells).length = slots.length := List.length_map ..
      clear hsl
      unfold Sch.col at HE
      have g1 := Lib.hid (slotC_add x.slots sl)
      have g2 := Lib.hid (colC_add x.cols x.slots.length)
      have hF3 : Hid (F = B) := hF2
      cases sl with
      | mk snm sty srq sdv =>
      cases sdv with
      | mk sk sn ss sL =>
      rw [Sl.cells_mk] at hS hcl g1
      dsimp only at hS hC HE hn g1
      generalize Sch.sound _ = q at *
      rcases hcase with ⟨rfl, hx0, rfl⟩ | ⟨hi0, gs, cS, zS, gc, cC, zC, hz1, hz2, rfl⟩
      · have hl1 : x.slots = [] := List.eq_nil_of_length_eq_zero hxs
        have hl2 : x.cols = [] := List.eq_nil_of_length_eq_zero hxc
        rw [hl1, hl2, List.map_nil, List.map_nil] at hC
        rw [hl1, hl2] at HE
        rw [Sch.colL] at hC HE
        generalize slots.map Sl.cells = SL at *
        replace hS := Lib.hid hS
        replace hC := Lib.hid hC
        replace hcl := hcl
        cases q with
        | false =>
          rw [if_neg (fun h => Bool.noConfusion h.1)] at HE
          have hF4 : Hid (F = none) := Lib.hid (hF3.out.trans HE.symm)
          clear HE
          repeat' (first | with_reducible refine Go1.go ?_ | ((with_reducible apply ev_go); (focus (try simp (disch := omega) only [push_cast, Nat.reduceEqDiff, reduceCtorEq, ↓reduceIte, Nat.reduceAdd, Nat.reduceMul, Nat.reduceSub, Nat.reduceLT, Nat.reduceLeDiff, Int.reduceToNat, Int.reduceLT, Int.reduceLE, Int.reduceAdd, Int.reduceSub, Int.reduceMul, Int.reduceBEq, Int.reduceBNe, encB, encI, encC, V.cells_mk, V.cells_len, Nat.mul_one, Int.sub_zero, List.map_nil, beq_self_eq_true, List.head?_cons, *]); (try exact rfl); done)) | ((with_reducible refine w_last ?_ ?_ ?_); (focus kernel_rfl); (focus rfl)) | ((with_reducible apply w_stepG); (focus rfl)) | ((with_reducible apply lk_mem); (focus ((repeat (first | exact mm_h | apply mm_t)); done))) | with_reducible refine Go2.go ?_ | ((with_reducible apply sto_go); (focus (intro cs'; repeat (first | exact ra_h | apply ra_t)))) | ((with_reducible refine al_go ?_); intro b) | ((with_reducible refine And.intro ?_ ?_); (focus ((repeat (first | exact keep_none | exact keep_nil | exact keep_ro | refine keep_cons ?_)); done))) | ((with_reducible apply (ck_le Try.call87)); (focus exact LEL.refl _); (focus exact hS.out _)) | ((with_reducible apply (ck_lend Try.call38)); (focus exact hC.out); (focus exact ⟨Lend.agg ⟨Lend.sl _ _, Lend.sl _ _, trivial⟩, Lend.refl _, trivial⟩)) | ((with_reducible refine s_bi ?_ ?_); (focus rfl)) | with_reducible refine blk_ne rfl ?_ | ((with_reducible refine w_region ?_ ?_); (focus kernel_rfl)) | ((with_reducible refine w_draw [] ?_ ?_ ?_ ?_ ?_); (iterate 3 (focus kernel_rfl)); (focus exact keeps_nil)) | ((with_reducible first | refine gd_d1 ?_ ?_ | refine gd_d0 ?_ ?_); all_goals (intro hb; (first | with_reducible replace hb := nt_t hb | with_reducible replace hb := nt_f hb | skip); (first | replace hb := dc_t hb | replace hb := dc_f hb | have hb1 := eq_b hb | have hb1 := ne_b hb | have hb1 := bne_t hb | have hb1 := bne_f hb | skip); (try (exfalso; first | contradiction | omega)))))
          all_goals ((refine retG_mk (rs := []) (by first | exact .inl rfl | exact .inr rfl) (by first | rfl | assumption) (List.Perm.refl _) ⟨_, _, rfl, cell_mk (by simp (disch := omega) only [push_cast, Nat.reduceEqDiff, reduceCtorEq, ↓reduceIte, Nat.reduceAdd, Nat.reduceMul, Nat.reduceSub, Nat.reduceLT, Nat.reduceLeDiff, Int.reduceToNat, Int.reduceLT, Int.reduceLE, Int.reduceAdd, Int.reduceSub, Int.reduceMul, Int.reduceBEq, Int.reduceBNe, encB, encI, encC, V.cells_mk, V.cells_len, Nat.mul_one, Int.sub_zero, List.map_nil, beq_self_eq_true, List.head?_cons, *]; exact rfl) (by repeat (first | exact mm_h | apply mm_t)) (by simp (disch := omega) only [push_cast, Nat.reduceEqDiff, reduceCtorEq, ↓reduceIte, Nat.reduceAdd, Nat.reduceMul, Nat.reduceSub, Nat.reduceLT, Nat.reduceLeDiff, Int.reduceToNat, Int.reduceLT, Int.reduceLE, Int.reduceAdd, Int.reduceSub, Int.reduceMul, Int.reduceBEq, Int.reduceBNe, encB, encI, encC, V.cells_mk, V.cells_len, Nat.mul_one, Int.sub_zero, List.map_nil, beq_self_eq_true, List.head?_cons, *]; exact rfl) (by (try simp (disch := omega) only [push_cast, Nat.reduceEqDiff, reduceCtorEq, ↓reduceIte, Nat.reduceAdd, Nat.reduceMul, Nat.reduceSub, Nat.reduceLT, Nat.reduceLeDiff, Int.reduceToNat, Int.reduceLT, Int.reduceLE, Int.reduceAdd, Int.reduceSub, Int.reduceMul, Int.reduceBEq, Int.reduceBNe, encB, encI, encC, V.cells_mk, V.cells_len, Nat.mul_one, Int.sub_zero, List.map_nil, beq_self_eq_true, List.head?_cons, *]); (try exact rfl); done), (by show _ = _; (try simp (disch := omega) only [push_cast, Nat.reduceEqDiff, reduceCtorEq, ↓reduceIte, Nat.reduceAdd, Nat.reduceMul, Nat.reduceSub, Nat.reduceLT, Nat.reduceLeDiff, Int.reduceToNat, Int.reduceLT, Int.reduceLE, Int.reduceAdd, Int.reduceSub, Int.reduceMul, Int.reduceBEq, Int.reduceBNe, encB, encI, encC, V.cells_mk, V.cells_len, Nat.mul_one, Int.sub_zero, List.map_nil, beq_self_eq_true, List.head?_cons, *]); (try exact rfl); done)⟩ (by (repeat (first | exact List.Sublist.refl _ | apply List.Sublist.cons))) (LE.refl _) (.inl ⟨hF4.out, (by first | exact .inl rfl | exact .inr ⟨_, _, _, _, _, _, rfl⟩), rfl⟩)))
        | true =>
          rw [if_pos ⟨rfl, by decide⟩] at HE
          replace HE := Lib.hid HE
          repeat' (first | with_reducible refine Go1.go ?_ | ((with_reducible apply ev_go); (focus (try simp (disch := omega) only [push_cast, Nat.reduceEqDiff, reduceCtorEq, ↓reduceIte, Nat.reduceAdd, Nat.reduceMul, Nat.reduceSub, Nat.reduceLT, Nat.reduceLeDiff, Int.reduceToNat, Int.reduceLT, Int.reduceLE, Int.reduceAdd, Int.reduceSub, Int.reduceMul, Int.reduceBEq, Int.reduceBNe, encB, encI, encC, V.cells_mk, V.cells_len, Nat.mul_one, Int.sub_zero, List.map_nil, beq_self_eq_true, List.head?_cons, *]); (try exact rfl); done)) | ((with_reducible apply (w_drawQ [(b4, [.sl .tight [], .sl .tight []]), (b, [.str snm, .i sty, .b srq, .i sk, .i sn, .str ss, .sl .shared (sL.map V.cells)])] 9)); (iterate 4 (focus kernel_rfl)); (focus (simp only [List.take_succ_cons, List.take_zero]; exact rfl)); (focus (simp only [List.drop_succ_cons, List.drop_zero]; exact rfl)); (focus ((repeat (first | exact keep_nil | refine keep_more (by (repeat (first | exact mm_h | apply mm_t)); done) ?_)); done)); intro hne; simp only [nes, ne1, and_assoc] at hne; repeat (have hq := hne.1; replace hne := hne.2)) | ((with_reducible refine Exists.intro [] ?_); (with_reducible refine And.intro ?_ ?_); (focus ((repeat (first | exact keep_nil | refine keep_more (by (repeat (first | exact mm_h | apply mm_t)); done) ?_)); done))) | ((with_reducible refine And.intro ?_ ?_); (focus ((repeat (first | exact keep_nil | refine keep_more (by (repeat (first | exact mm_h | apply mm_t)); done) ?_)); done))) | with_reducible refine s_appN ?_ | with_reducible refine rn_go ?_ | ((with_reducible apply rn2_go); (focus (simp only [List.length_cons, List.length_nil]; omega)); (focus exact len_one rfl); (focus (simp only [List.length_cons, List.length_nil]; omega)); (focus (simp only [List.length_cons, List.length_nil]; omega)); intro g' c' z' hc' hl') | ((with_reducible refine w_last ?_ ?_ ?_); (focus kernel_rfl); (focus rfl)) | ((with_reducible apply w_stepG); (focus rfl)) | ((with_reducible apply lk_mem); (focus ((repeat (first | exact mm_h | apply mm_t)); done))) | with_reducible refine Go2.go ?_ | ((with_reducible apply sto_go); (focus (intro cs'; repeat (first | exact ra_h | apply ra_t)))) | ((with_reducible refine al_go ?_); intro b) | ((with_reducible refine And.intro ?_ ?_); (focus ((repeat (first | exact keep_none | exact keep_nil | exact keep_ro | refine keep_cons ?_)); done))) | ((with_reducible apply (ck_le Try.call87)); (focus exact LEL.refl _); (focus exact hS.out _)) | ((with_reducible apply (ck_lend Try.call38)); (focus exact hC.out); (focus exact ⟨Lend.agg ⟨Lend.sl _ _, Lend.sl _ _, trivial⟩, Lend.refl _, trivial⟩)) | ((with_reducible refine s_bi ?_ ?_); (focus rfl)) | with_reducible refine blk_ne rfl ?_ | ((with_reducible refine w_region ?_ ?_); (focus kernel_rfl)) | ((with_reducible refine w_draw [] ?_ ?_ ?_ ?_ ?_); (iterate 3 (focus kernel_rfl)); (focus exact keeps_nil)) | ((with_reducible first | refine gd_d1 ?_ ?_ | refine gd_d0 ?_ ?_); all_goals (intro hb; (first | with_reducible replace hb := nt_t hb | with_reducible replace hb := nt_f hb | skip); (first | replace hb := dc_t hb | replace hb := dc_f hb | have hb1 := eq_b hb | have hb1 := ne_b hb | have hb1 := bne_t hb | have hb1 := bne_f hb | skip); (try (exfalso; first | contradiction | omega)))))
          rename_i gs' cS' zS' hcs' hls'
          refine ⟨1, .box g' 3 ([[D.i 0]].flatten ++ z') :: .box gs' 26 ([[.str snm, .i sty, .b srq, .i sk, .i sn, .str ss, .sl .shared (sL.map V.cells)]].flatten ++ zS') :: .box b4 38 [.ar gs' 0 1 cS', .ar g' 0 1 c'] :: .box b2 38 [.sl .tight [], .sl .tight []] :: st, ?_, ⟨hlt, ?_, ?_, ?_, ?_, ?_, ?_, ⟨[] ++ [.mk snm sty srq (.mk sk sn ss sL)], [] ++ [([] : List Sl).length]⟩, rfl, rfl, HE, .inr ⟨Nat.zero_lt_one, gs', cS', zS', g', c', z', ?_, ?_, ?_⟩⟩, ?_⟩
          · (repeat (first | exact List.Sublist.refl _ | with_reducible apply List.Sublist.cons_cons | apply List.Sublist.cons))
          iterate 6 (focus (first | rfl | assumption | omega | (simp (disch := omega) only [push_cast, Nat.reduceEqDiff, reduceCtorEq, ↓reduceIte, Nat.reduceAdd, Nat.reduceMul, Nat.reduceSub, Nat.reduceLT, Nat.reduceLeDiff, Int.reduceToNat, Int.reduceLT, Int.reduceLE, Int.reduceAdd, Int.reduceSub, Int.reduceMul, Int.reduceBEq, Int.reduceBNe, encB, encI, encC, V.cells_mk, V.cells_len, Nat.mul_one, Int.sub_zero, List.map_nil, beq_self_eq_true, List.head?_cons, *]; try omega; done)))
          · rw [show slotC ([] ++ [Sl.mk snm sty srq (.mk sk sn ss sL)]) = [(Sl.mk snm sty srq (.mk sk sn ss sL)).cells].flatten from rfl, Sl.cells_mk]
            exact hls'
          · exact hl'
          · rw [show slotC ([] ++ [Sl.mk snm sty srq (.mk sk sn ss sL)]) = [(Sl.mk snm sty srq (.mk sk sn ss sL)).cells].flatten from rfl, Sl.cells_mk]
            rfl
          · omega
      · have hr1 := slotC_len x.slots
        have hr2 := colC_len x.cols
        have e1 := Lib.hid (slots_each x.slots)
        have e2 := Lib.hid (cols_each x.cols)
        have f1 := Lib.hid (slotC_flat x)
        have f2 := Lib.hid (colC_flat x)
        have l1 : Hid ((x.slots.map Sl.cells).length = i) := Lib.hid (by rw [List.length_map, hxs])
        have l2 : Hid ((x.cols.map encC).length = i) := Lib.hid (by rw [List.length_map, hxc])
        rw [hxs] at hr1 HE g2
        rw [hxc] at hr2
        generalize Sch.colL x.slots snm x.cols = cv at *
        obtain ⟨S1, hS1⟩ : ∃ S1, slotC x.slots = S1 := ⟨_, rfl⟩
        obtain ⟨C1, hC1⟩ : ∃ C1, colC x.cols = C1 := ⟨_, rfl⟩
        rw [hS1] at hz1 hr1 f1 g1
        rw [hC1] at hz2 hr2 f2 g2
        rw [hS1, hC1]
        clear hS1 hC1
        generalize x.slots.map Sl.cells = L1 at *
        generalize x.cols.map encC = L2 at *
        generalize slots.map Sl.cells = SL at *
        replace hS := Lib.hid hS
        replace hC := Lib.hid hC
        by_cases hqc : q = true ∧ cv < 0
        · obtain ⟨rfl, hcv⟩ := hqc
          rw [if_pos ⟨rfl, hcv⟩] at HE
          replace HE := Lib.hid HE
          replace hxs := Lib.hid hxs
          replace hxc := Lib.hid hxc
          repeat' (first | with_reducible refine Go1.go ?_ | ((with_reducible apply ev_go); (focus (try simp (disch := omega) only [push_cast, Nat.reduceEqDiff, reduceCtorEq, ↓reduceIte, Nat.reduceAdd, Nat.reduceMul, Nat.reduceSub, Nat.reduceLT, Nat.reduceLeDiff, Int.reduceToNat, Int.reduceLT, Int.reduceLE, Int.reduceAdd, Int.reduceSub, Int.reduceMul, Int.reduceBEq, Int.reduceBNe, encB, encI, encC, V.cells_mk, V.cells_len, Nat.mul_one, Int.sub_zero, List.map_nil, beq_self_eq_true, List.head?_cons, *]); (try exact rfl); done)) | ((with_reducible apply (w_drawQ [(b4, [.ar gs 0 i cS, .ar gc 0 i cC]), (b, [.str snm, .i sty, .b srq, .i sk, .i sn, .str ss, .sl .shared (sL.map V.cells)])] 9)); (iterate 4 (focus kernel_rfl)); (focus (simp only [List.take_succ_cons, List.take_zero]; exact rfl)); (focus (simp only [List.drop_succ_cons, List.drop_zero]; exact rfl)); (focus ((repeat (first | exact keep_nil | refine keep_more (by (repeat (first | exact mm_h | apply mm_t)); done) ?_)); done)); intro hne; simp only [nes, ne1, and_assoc] at hne; repeat (have hq := hne.1; replace hne := hne.2)) | ((with_reducible refine Exists.intro [] ?_); (with_reducible refine And.intro ?_ ?_); (focus ((repeat (first | exact keep_nil | refine keep_more (by (repeat (first | exact mm_h | apply mm_t)); done) ?_)); done))) | ((with_reducible refine And.intro ?_ ?_); (focus ((repeat (first | exact keep_nil | refine keep_more (by (repeat (first | exact mm_h | apply mm_t)); done) ?_)); done))) | with_reducible refine s_appR ?_ | with_reducible refine rk_go ?_ | ((with_reducible apply (r2_go hr1 hz1)); (focus (intro g' cs'; repeat (first | exact ra_h | apply ra_t))); (focus exact len_one rfl); (focus (simp only [List.length_cons, List.length_nil]; omega)); (focus (simp only [List.length_cons, List.length_nil]; omega)); intro gs' cS' zS' hcs hls) | ((with_reducible apply (r2_go hr2 hz2)); (focus (intro g' cs'; repeat (first | exact ra_h | apply ra_t))); (focus exact len_one rfl); (focus (simp only [List.length_cons, List.length_nil]; omega)); (focus (simp only [List.length_cons, List.length_nil]; omega)); intro gc' cC' zC' hcc hlc) | ((with_reducible refine w_last ?_ ?_ ?_); (focus kernel_rfl); (focus rfl)) | ((with_reducible apply w_stepG); (focus rfl)) | ((with_reducible apply lk_mem); (focus ((repeat (first | exact mm_h | apply mm_t)); done))) | with_reducible refine Go2.go ?_ | ((with_reducible apply sto_go); (focus (intro cs'; repeat (first | exact ra_h | apply ra_t)))) | ((with_reducible refine al_go ?_); intro b) | ((with_reducible refine And.intro ?_ ?_); (focus ((repeat (first | exact keep_none | exact keep_nil | exact keep_ro | refine keep_cons ?_)); done))) | ((with_reducible apply (ck_le Try.call87)); (focus exact LEL.refl _); (focus exact hS.out _)) | ((with_reducible apply (ck_lend Try.call38)); (focus exact hC.out); (focus exact ⟨Lend.agg ⟨Lend.rowE (by repeat (first | exact mm_h | apply mm_t)) f1.out (by decide) e1.out l1.out, Lend.rowE (by repeat (first | exact mm_h | apply mm_t)) f2.out (by decide) e2.out l2.out, trivial⟩, Lend.refl _, trivial⟩)) | ((with_reducible refine s_bi ?_ ?_); (focus rfl)) | with_reducible refine blk_ne rfl ?_ | ((with_reducible refine w_region ?_ ?_); (focus kernel_rfl)) | ((with_reducible refine w_draw [] ?_ ?_ ?_ ?_ ?_); (iterate 3 (focus kernel_rfl)); (focus exact keeps_nil)) | ((with_reducible first | refine gd_d1 ?_ ?_ | refine gd_d0 ?_ ?_); all_goals (intro hb; (first | with_reducible replace hb := nt_t hb | with_reducible replace hb := nt_f hb | skip); (first | replace hb := dc_t hb | replace hb := dc_f hb | have hb1 := eq_b hb | have hb1 := ne_b hb | have hb1 := bne_t hb | have hb1 := bne_f hb | skip); (try (exfalso; first | contradiction | omega)))))
          refine ⟨i + 1, .box gc' 3 (C1 ++ [[D.i i]].flatten ++ zC') :: .box gs' 26 (S1 ++ [[.str snm, .i sty, .b srq, .i sk, .i sn, .str ss, .sl .shared (sL.map V.cells)]].flatten ++ zS') :: .box b4 38 [.ar gs' 0 (i + 1) cS', .ar gc' 0 (i + 1) cC'] :: .box b2 38 [.sl .tight [], .sl .tight []] :: st, ?_, ⟨hlt, ?_, ?_, ?_, ?_, ?_, ?_, ⟨x.slots ++ [.mk snm sty srq (.mk sk sn ss sL)], x.cols ++ [i]⟩, ?_, ?_, HE, .inr ⟨Nat.succ_pos _, gs', cS', zS', gc', cC', zC', ?_, ?_, ?_⟩⟩, ?_⟩
          · (repeat (first | exact List.Sublist.refl _ | with_reducible apply List.Sublist.cons_cons | apply List.Sublist.cons))
          iterate 6 (focus (first | rfl | assumption | omega | (simp (disch := omega) only [push_cast, Nat.reduceEqDiff, reduceCtorEq, ↓reduceIte, Nat.reduceAdd, Nat.reduceMul, Nat.reduceSub, Nat.reduceLT, Nat.reduceLeDiff, Int.reduceToNat, Int.reduceLT, Int.reduceLE, Int.reduceAdd, Int.reduceSub, Int.reduceMul, Int.reduceBEq, Int.reduceBNe, encB, encI, encC, V.cells_mk, V.cells_len, Nat.mul_one, Int.sub_zero, List.map_nil, beq_self_eq_true, List.head?_cons, *]; try omega; done)))
          · rw [List.length_append, hxs.out]; rfl
          · rw [List.length_append, hxc.out]; rfl
          · rw [g1.out]; exact hls
          · rw [g2.out]; exact hlc
          · rw [g1.out, g2.out]
          · omega
        · rw [if_neg hqc] at HE
          have hF4 : Hid (F = none) := Lib.hid (hF3.out.trans HE.symm)
          clear HE
          have hno : q = false ∨ (q = true ∧ 0 ≤ cv) := by
            cases q
            · exact .inl rfl
            · exact .inr ⟨rfl, by
                have : ¬ cv < 0 := fun h => hqc ⟨rfl, h⟩
                omega⟩
          clear hqc
          rcases hno with rfl | ⟨rfl, hcv⟩
          all_goals skip
          all_goals (
            repeat' (first | with_reducible refine Go1.go ?_ | ((with_reducible apply ev_go); (focus (try simp (disch := omega) only [push_cast, Nat.reduceEqDiff, reduceCtorEq, ↓reduceIte, Nat.reduceAdd, Nat.reduceMul, Nat.reduceSub, Nat.reduceLT, Nat.reduceLeDiff, Int.reduceToNat, Int.reduceLT, Int.reduceLE, Int.reduceAdd, Int.reduceSub, Int.reduceMul, Int.reduceBEq, Int.reduceBNe, encB, encI, encC, V.cells_mk, V.cells_len, Nat.mul_one, Int.sub_zero, List.map_nil, beq_self_eq_true, List.head?_cons, *]); (try exact rfl); done)) | ((with_reducible refine w_last ?_ ?_ ?_); (focus kernel_rfl); (focus rfl)) | ((with_reducible apply w_stepG); (focus rfl)) | ((with_reducible apply lk_mem); (focus ((repeat (first | exact mm_h | apply mm_t)); done))) | with_reducible refine Go2.go ?_ | ((with_reducible apply sto_go); (focus (intro cs'; repeat (first | exact ra_h | apply ra_t)))) | ((with_reducible refine al_go ?_); intro b) | ((with_reducible refine And.intro ?_ ?_); (focus ((repeat (first | exact keep_none | exact keep_nil | exact keep_ro | refine keep_cons ?_)); done))) | ((with_reducible apply (ck_le Try.call87)); (focus exact LEL.refl _); (focus exact hS.out _)) | ((with_reducible apply (ck_lend Try.call38)); (focus exact hC.out); (focus exact ⟨Lend.agg ⟨Lend.rowE (by repeat (first | exact mm_h | apply mm_t)) f1.out (by decide) e1.out l1.out, Lend.rowE (by repeat (first | exact mm_h | apply mm_t)) f2.out (by decide) e2.out l2.out, trivial⟩, Lend.refl _, trivial⟩)) | ((with_reducible refine s_bi ?_ ?_); (focus rfl)) | with_reducible refine blk_ne rfl ?_ | ((with_reducible refine w_region ?_ ?_); (focus kernel_rfl)) | ((with_reducible refine w_draw [] ?_ ?_ ?_ ?_ ?_); (iterate 3 (focus kernel_rfl)); (focus exact keeps_nil)) | ((with_reducible first | refine gd_d1 ?_ ?_ | refine gd_d0 ?_ ?_); all_goals (intro hb; (first | with_reducible replace hb := nt_t hb | with_reducible replace hb := nt_f hb | skip); (first | replace hb := dc_t hb | replace hb := dc_f hb | have hb1 := eq_b hb | have hb1 := ne_b hb | have hb1 := bne_t hb | have hb1 := bne_f hb | skip); (try (exfalso; first | contradiction | omega)))))
            all_goals ((refine retG_mk (rs := []) (by first | exact .inl rfl | exact .inr rfl) (by first | rfl | assumption) (List.Perm.refl _) ⟨_, _, rfl, cell_mk (by simp (disch := omega) only [push_cast, Nat.reduceEqDiff, reduceCtorEq, ↓reduceIte, Nat.reduceAdd, Nat.reduceMul, Nat.reduceSub, Nat.reduceLT, Nat.reduceLeDiff, Int.reduceToNat, Int.reduceLT, Int.reduceLE, Int.reduceAdd, Int.reduceSub, Int.reduceMul, Int.reduceBEq, Int.reduceBNe, encB, encI, encC, V.cells_mk, V.cells_len, Nat.mul_one, Int.sub_zero, List.map_nil, beq_self_eq_true, List.head?_cons, *]; exact rfl) (by repeat (first | exact mm_h | apply mm_t)) (by simp (disch := omega) only [push_cast, Nat.reduceEqDiff, reduceCtorEq, ↓reduceIte, Nat.reduceAdd, Nat.reduceMul, Nat.reduceSub, Nat.reduceLT, Nat.reduceLeDiff, Int.reduceToNat, Int.reduceLT, Int.reduceLE, Int.reduceAdd, Int.reduceSub, Int.reduceMul, Int.reduceBEq, Int.reduceBNe, encB, encI, encC, V.cells_mk, V.cells_len, Nat.mul_one, Int.sub_zero, List.map_nil, beq_self_eq_true, List.head?_cons, *]; exact rfl) (by (try simp (disch := omega) only [push_cast, Nat.reduceEqDiff, reduceCtorEq, ↓reduceIte, Nat.reduceAdd, Nat.reduceMul, Nat.reduceSub, Nat.reduceLT, Nat.reduceLeDiff, Int.reduceToNat, Int.reduceLT, Int.reduceLE, Int.reduceAdd, Int.reduceSub, Int.reduceMul, Int.reduceBEq, Int.reduceBNe, encB, encI, encC, V.cells_mk, V.cells_len, Nat.mul_one, Int.sub_zero, List.map_nil, beq_self_eq_true, List.head?_cons, *]); (try exact rfl); done), (by show _ = _; (try simp (disch := omega) only [push_cast, Nat.reduceEqDiff, reduceCtorEq, ↓reduceIte, Nat.reduceAdd, Nat.reduceMul, Nat.reduceSub, Nat.reduceLT, Nat.reduceLeDiff, Int.reduceToNat, Int.reduceLT, Int.reduceLE, Int.reduceAdd, Int.reduceSub, Int.reduceMul, Int.reduceBEq, Int.reduceBNe, encB, encI, encC, V.cells_mk, V.cells_len, Nat.mul_one, Int.sub_zero, List.map_nil, beq_self_eq_true, List.head?_cons, *]); (try exact rfl); done)⟩ (by (repeat (first | exact List.Sublist.refl _ | apply List.Sublist.cons))) (LE.refl _) (.inl ⟨hF4.out, (by first | exact .inl rfl | exact .inr ⟨_, _, _, _, _, _, rfl⟩), rfl⟩))))
    · have HE := HT.out
      rw [List.drop_of_length_le (by omega), Sch.firstL] at HE
      clear HT
      have hil : Hid (i = slots.length) := Lib.hid (by omega)
      rcases hcase with ⟨rfl, hx0, rfl⟩ | ⟨hi0, gs, cS, zS, gc, cC, zC, hz1, hz2, rfl⟩
      · have := hil.out
        omega
      · obtain ⟨S1, hS1⟩ : ∃ S1, slotC x.slots = S1 := ⟨_, rfl⟩
        obtain ⟨C1, hC1⟩ : ∃ C1, colC x.cols = C1 := ⟨_, rfl⟩
        rw [hS1, hC1]
        generalize slots.map Sl.cells = SL at *
        replace hS1 := Lib.hid hS1
        replace hC1 := Lib.hid hC1
        replace HE := Lib.hid HE
        replace hxs := Lib.hid hxs
        replace hxc := Lib.hid hxc
        repeat' (first | with_reducible refine Go1.go ?_ | ((with_reducible apply ev_go); (focus (try simp (disch := omega) only [push_cast, Nat.reduceEqDiff, reduceCtorEq, ↓reduceIte, Nat.reduceAdd, Nat.reduceMul, Nat.reduceSub, Nat.reduceLT, Nat.reduceLeDiff, Int.reduceToNat, Int.reduceLT, Int.reduceLE, Int.reduceAdd, Int.reduceSub, Int.reduceMul, Int.reduceBEq, Int.reduceBNe, encB, encI, encC, V.cells_mk, V.cells_len, Nat.mul_one, Int.sub_zero, List.map_nil, beq_self_eq_true, List.head?_cons, *]); (try exact rfl); done)) | ((with_reducible refine w_last ?_ ?_ ?_); (focus kernel_rfl); (focus rfl)) | ((with_reducible apply w_stepG); (focus rfl)) | ((with_reducible apply lk_mem); (focus ((repeat (first | exact mm_h | apply mm_t)); done))) | with_reducible refine Go2.go ?_ | ((with_reducible apply sto_go); (focus (intro cs'; repeat (first | exact ra_h | apply ra_t)))) | ((with_reducible refine al_go ?_); intro b) | ((with_reducible refine And.intro ?_ ?_); (focus ((repeat (first | exact keep_none | exact keep_nil | exact keep_ro | refine keep_cons ?_)); done))) | ((with_reducible refine s_bi ?_ ?_); (focus rfl)) | with_reducible refine blk_ne rfl ?_ | ((with_reducible refine w_region ?_ ?_); (focus kernel_rfl)) | ((with_reducible refine w_draw [] ?_ ?_ ?_ ?_ ?_); (iterate 3 (focus kernel_rfl)); (focus exact keeps_nil)) | ((with_reducible first | refine gd_d1 ?_ ?_ | refine gd_d0 ?_ ?_); all_goals (intro hb; (first | with_reducible replace hb := nt_t hb | with_reducible replace hb := nt_f hb | skip); (first | replace hb := dc_t hb | replace hb := dc_f hb | have hb1 := eq_b hb | have hb1 := ne_b hb | have hb1 := bne_t hb | have hb1 := bne_f hb | skip); (try (exfalso; first | contradiction | omega)))))
        replace HE := HE.out
        replace hxs := hxs.out
        replace hxc := hxc.out
        all_goals ((refine retG_mk (rs := []) (s2 := .box gs 26 (S1 ++ zS) :: .box gc 3 (C1 ++ zC) :: .box b4 38 [.ar gs 0 i cS, .ar gc 0 i cC] :: .box b2 38 [.ar gs 0 i cS, .ar gc 0 i cC] :: st) (st0 := .box gs 26 (S1 ++ zS) :: .box gc 3 (C1 ++ zC) :: st) (by first | exact .inl rfl | exact .inr rfl) (by first | rfl | assumption) (.swap _ _ _) ⟨_, _, rfl, cell_mk (by simp (disch := omega) only [push_cast, Nat.reduceEqDiff, reduceCtorEq, ↓reduceIte, Nat.reduceAdd, Nat.reduceMul, Nat.reduceSub, Nat.reduceLT, Nat.reduceLeDiff, Int.reduceToNat, Int.reduceLT, Int.reduceLE, Int.reduceAdd, Int.reduceSub, Int.reduceMul, Int.reduceBEq, Int.reduceBNe, encB, encI, encC, V.cells_mk, V.cells_len, Nat.mul_one, Int.sub_zero, List.map_nil, beq_self_eq_true, List.head?_cons, *]; exact rfl) (by repeat (first | exact mm_h | apply mm_t)) (by simp (disch := omega) only [push_cast, Nat.reduceEqDiff, reduceCtorEq, ↓reduceIte, Nat.reduceAdd, Nat.reduceMul, Nat.reduceSub, Nat.reduceLT, Nat.reduceLeDiff, Int.reduceToNat, Int.reduceLT, Int.reduceLE, Int.reduceAdd, Int.reduceSub, Int.reduceMul, Int.reduceBEq, Int.reduceBNe, encB, encI, encC, V.cells_mk, V.cells_len, Nat.mul_one, Int.sub_zero, List.map_nil, beq_self_eq_true, List.head?_cons, *]; exact rfl) (by (try simp (disch := omega) only [push_cast, Nat.reduceEqDiff, reduceCtorEq, ↓reduceIte, Nat.reduceAdd, Nat.reduceMul, Nat.reduceSub, Nat.reduceLT, Nat.reduceLeDiff, Int.reduceToNat, Int.reduceLT, Int.reduceLE, Int.reduceAdd, Int.reduceSub, Int.reduceMul, Int.reduceBEq, Int.reduceBNe, encB, encI, encC, V.cells_mk, V.cells_len, Nat.mul_one, Int.sub_zero, List.map_nil, beq_self_eq_true, List.head?_cons, *]); (try exact rfl); done), (by show _ = _; (try simp (disch := omega) only [push_cast, Nat.reduceEqDiff, reduceCtorEq, ↓reduceIte, Nat.reduceAdd, Nat.reduceMul, Nat.reduceSub, Nat.reduceLT, Nat.reduceLeDiff, Int.reduceToNat, Int.reduceLT, Int.reduceLE, Int.reduceAdd, Int.reduceSub, Int.reduceMul, Int.reduceBEq, Int.reduceBNe, encB, encI, encC, V.cells_mk, V.cells_len, Nat.mul_one, Int.sub_zero, List.map_nil, beq_self_eq_true, List.head?_cons, *]); (try exact rfl); done)⟩ (((List.Sublist.refl _).cons _).cons _ |>.cons_cons _ |>.cons_cons _) (LE.refl _) (.inr ⟨x, gs, cS, zS, gc, cC, zC, by rw [hF2.out, ← HE], ⟨?_, ?_⟩, by rw [hxs, hxc], ?_⟩)); (focus exact hz1); (focus exact hz2); (focus (rw [hS1.out, hC1.out])))
end Go.Proofs.Ytooaagmhgakhgaa
end

section
namespace Go.Proofs.Ytooaagmhgakhgaa
set_option linter.unusedSimpArgs false
open Go.RowKit
structure TOk (t : Tm) : Prop where
  ls : t.slots.length ≤ 1000
  lt : t.steps.length ≤ 1000
  os : ∀ s ∈ t.slots, s.dv.nodes ≤ 1000
  ot : ∀ s ∈ t.steps, s.Ok
namespace Sch
structure VI (n : Nat) (x : Vr) : Prop where
  ls : x.slots.length ≤ n
  lp : 1 ≤ x.slots.length
  cp : 1 ≤ x.cols.length
  lc : x.cols.length ≤ 8
  cs : ∀ c ∈ x.cols, c < x.slots.length
theorem VI.vw {n : Nat} {x : Vr} (h : VI n x) (hn : n ≤ 1000) : VW x := ⟨by have := h.ls; omega, h.lc, h.cs⟩
theorem VI.mono {n m : Nat} {x : Vr} (h : VI n x) (hn : n ≤ m) : VI m x := ⟨by have := h.ls; omega, h.lp, h.cp, h.lc, h.cs⟩
theorem reo_sub {cols : List Nat} : ∀ (l : List Int) (out r : List Nat), reo cols l out = some r → (∀ c ∈ out, c ∈ cols) → (∀ c ∈ r, c ∈ cols) ∧ r.length = out.length + l.length
  | [], out, r, h, ho => by cases h; exact ⟨ho, rfl⟩
  | k :: l, out, r, h, ho => by
    rw [reo] at h
    split at h
    · rename_i hk
      have hc : cols.getD k.toNat 0 ∈ cols := by
        have : k.toNat < cols.length := by omega
        rw [List.getD_eq_getElem?_getD, List.getElem?_eq_getElem this]
        exact List.getElem_mem this
      obtain ⟨h1, h2⟩ := reo_sub l _ r h (by
        intro c hc'
        rcases List.mem_append.1 hc' with h | h
        · exact ho c h
        · rw [List.mem_singleton] at h
          subst h; exact hc)
      refine ⟨h1, ?_⟩
      rw [h2, List.length_append, List.length_cons, List.length_cons, List.length_nil]; omega
    · cases h
theorem step_vi {n : Nat} {x y : Vr} {s : Stp} (hx : VI n x) (h : stepV x s = some y) : VI (n + 1) y := by
  obtain ⟨h1, h2, h3, h4, h5⟩ := hx
  unfold stepV at h
  split at h
  · unfold addS at h
    split at h
    · rename_i hc
      cases h
      refine ⟨by simp; omega, by simp, by simp, by simp; omega, fun c hc' => ?_⟩
      rcases List.mem_append.1 hc' with h | h
      · have := h5 c h; simp; omega
      · rw [List.mem_singleton] at h
        subst h; simp
    · cases h
  · split at h
    · unfold loseS at h
      split at h
      · rename_i hc
        cases h
        have hi : s.col.toNat < x.cols.length := by
          have := hc.1
          unfold column at this
          simp at this; omega
        refine ⟨by simp; omega, by simp; omega, ?_, ?_, fun c hc' => h5 c (List.mem_of_mem_eraseIdx hc')⟩
        · show 1 ≤ (x.cols.eraseIdx _).length
          rw [List.length_eraseIdx_of_lt hi]; omega
        · show (x.cols.eraseIdx _).length ≤ 8
          rw [List.length_eraseIdx_of_lt hi]; omega
      · cases h
    · split at h
      · unfold renameS at h
        split at h
        · cases h
          exact ⟨by simp; omega, by simp; omega, h3, h4, fun c hc' => by have := h5 c hc'; simpa using this⟩
        · cases h
      · split at h
        · unfold widenS at h
          split at h
          · cases h
            exact ⟨by simp; omega, by simp; omega, h3, h4, fun c hc' => by have := h5 c hc'; simpa using this⟩
          · cases h
        · split at h
          · unfold reorderS at h
            split at h
            · rename_i hc
              cases hr : reo x.cols s.order [] with
              | none => rw [hr] at h; cases h
              | some r =>
                rw [hr] at h
                cases h
                obtain ⟨k1, k2⟩ := reo_sub _ _ _ hr (fun c h => by cases h)
                have hl : r.length = x.cols.length := by rw [k2]; simp; omega
                exact ⟨by show x.slots.length ≤ _; omega, h2, by show 1 ≤ r.length; omega, by show r.length ≤ 8; omega, fun c hc' => h5 c (k1 c hc')⟩
            · cases h
          · cases h
theorem firstL_vi : ∀ (l : List Sl) (x y : Vr), (∀ c ∈ x.cols, c < x.slots.length) → x.cols.length = x.slots.length → firstL l x = some y → (∀ c ∈ y.cols, c < y.slots.length) ∧ y.cols.length = y.slots.length ∧ y.slots = x.slots ++ l
  | [], x, y, h1, h2, h => by cases h; exact ⟨h1, h2, (List.append_nil _).symm⟩
  | s :: l, x, y, h1, h2, h => by
    rw [firstL] at h
    split at h
    · obtain ⟨k1, k2, k3⟩ := firstL_vi l _ y (fun c hc => by
        rcases List.mem_append.1 hc with h | h
        · have := h1 c h; simp; omega
        · rw [List.mem_singleton] at h
          subst h; simp) (by simp; omega) h
      refine ⟨k1, k2, ?_⟩
      rw [k3, List.append_assoc]; rfl
    · cases h
theorem first_vi {t : Tm} {x : Vr} (h : firstV t = some x) : VI 8 x ∧ x.slots = t.slots ∧ t.steps.length ≤ 8 := by
  unfold firstV at h
  split at h
  · rename_i hc
    obtain ⟨k1, k2, k3⟩ := firstL_vi _ _ _ (fun c h => by cases h) rfl h
    rw [List.nil_append] at k3
    have hl : x.slots.length = t.slots.length := by rw [k3]
    exact ⟨⟨by omega, by omega, by omega, by omega, k1⟩, k3, hc.2.2.2⟩
  · cases h
theorem versL_drop {x : Vr} {l : List Stp} {i : Nat} {s : Stp} (h : l[i]? = some s) : versL x (l.drop i) = match stepV x s with
    | none => []
    | some y => y :: versL y (l.drop (i + 1)) := by
  obtain ⟨h1, rfl⟩ := List.getElem?_eq_some_iff.1 h
  rw [List.drop_eq_getElem_cons h1, versL]
  cases stepV x l[i] <;> rfl
theorem versL_vi : ∀ (l : List Stp) (n : Nat) (x : Vr), VI n x → ∀ y ∈ versL x l, VI (n + l.length) y
  | [], _, _, _, y, hy => by cases hy
  | s :: l, n, x, hx, y, hy => by
    rw [versL] at hy
    cases hs : stepV x s with
    | none => rw [hs] at hy; cases hy
    | some z =>
      rw [hs] at hy
      have hz := step_vi hx hs
      rcases List.mem_cons.1 hy with rfl | hy
      · exact hz.mono (by rw [List.length_cons]; omega)
      · exact (versL_vi l _ z hz y hy).mono (by rw [List.length_cons]; omega)
theorem versL_len : ∀ (l : List Stp) (x : Vr), (versL x l).length ≤ l.length
  | [], _ => Nat.le_refl _
  | s :: l, x => by
    rw [versL]
    split
    · exact Nat.zero_le _
    · rename_i y hy
      have := versL_len l y
      rw [List.length_cons, List.length_cons]; omega
theorem vers_vi {t : Tm} {y : Vr} (h : y ∈ vers t) : VI 16 y := by
  unfold vers at h
  split at h
  · cases h
  · rename_i x hx
    obtain ⟨k1, -, k2⟩ := first_vi hx
    rcases List.mem_cons.1 h with rfl | h
    · exact k1.mono (by omega)
    · exact (versL_vi _ _ _ k1 y h).mono (by omega)
theorem vers_len (t : Tm) : (vers t).length ≤ t.steps.length + 1 ∧ (vers t).length ≤ 9 := by
  unfold vers
  split
  · exact ⟨Nat.zero_le _, Nat.zero_le _⟩
  · rename_i x hx
    have := versL_len t.steps x
    have := (first_vi hx).2.2
    rw [List.length_cons]; omega
end Sch
end Go.Proofs.Ytooaagmhgakhgaa
end

section
namespace Go.Proofs.Ytooaagmhgakhgaa
set_option linter.unusedSimpArgs false
open Go.RowKit
set_option maxRecDepth 10000
set_option maxHeartbeats 4000000
def doTab : List D := [.s .nilFunc, .fn (.func 90) [] [], .fn (.func 91) [] [], .fn (.func 92) [] [], .fn (.func 93) [] [], .fn (.func 94) [] []]
theorem stepR_of {F G : Vr → Stp → Option Vr} {x : Vr} {stp : Stp} {bx : Nat} {s : St} (h : F x stp = G x stp) : StepR F x stp bx s = StepR G x stp bx s := by
  unfold StepR; rw [h]
theorem doTabF (x : Vr) (stp : Stp) (hx : VW x) (hc1 : 1 ≤ x.cols.length) (hs : stp.Ok) (hk : 1 ≤ stp.kind ∧ stp.kind ≤ 5) : ∃ (n : Nat) (f : FuncId), stp.kind = n ∧ n ≤ 5 ∧ (∃ tl, doTab.drop n = .fn (.func f) [] [] :: tl) ∧ (∀ args w, (callFunc f args).run Try.prog w = .ok (.enter f args) w) ∧
    ∀ (bx gs cS gc cC : Nat) (zS zC : List D), VL cS zS cC zC x → ∀ s, TrF Try.prog f [.ptr bx 0, .agg stp.cells] (VB bx gs cS zS gc cC zC x s) (StepR Sch.stepV x stp bx s) := by
  have hk' : stp.kind = 1 ∨ stp.kind = 2 ∨ stp.kind = 3 ∨ stp.kind = 4 ∨ stp.kind = 5 := by omega
  rcases hk' with h | h | h | h | h
  · exact ⟨1, _, h, by decide, ⟨_, rfl⟩, Try.call90, fun bx gs cS gc cC zS zC hz s => stepR_of (G := Sch.stepV) (by unfold Sch.stepV; rw [if_pos h]) ▸ schAddF bx gs cS gc cC zS zC x stp hx hs hz s⟩
  · exact ⟨2, _, h, by decide, ⟨_, rfl⟩, Try.call91, fun bx gs cS gc cC zS zC hz s => stepR_of (G := Sch.stepV) (by unfold Sch.stepV; rw [if_neg (show ¬ stp.kind = 1 by omega), if_pos h]) ▸ schLoseF bx gs cS gc cC zS zC x stp hx hs hz s⟩
  · exact ⟨3, _, h, by decide, ⟨_, rfl⟩, Try.call92, fun bx gs cS gc cC zS zC hz s => stepR_of (G := Sch.stepV) (by unfold Sch.stepV; rw [if_neg (show ¬ stp.kind = 1 by omega), if_neg (show ¬ stp.kind = 2 by omega), if_pos h]) ▸ schRenameF bx gs cS gc cC zS zC x stp hx hs hz s⟩
  · exact ⟨4, _, h, by decide, ⟨_, rfl⟩, Try.call93, fun bx gs cS gc cC zS zC hz s => stepR_of (G := Sch.stepV) (by unfold Sch.stepV; rw [if_neg (show ¬ stp.kind = 1 by omega), if_neg (show ¬ stp.kind = 2 by omega), if_neg (show ¬ stp.kind = 3 by omega), if_pos h]) ▸ schWidenF bx gs cS gc cC zS zC x stp hx hs hz s⟩
  · exact ⟨5, _, h, by decide, ⟨_, rfl⟩, Try.call94, fun bx gs cS gc cC zS zC hz s => stepR_of (G := Sch.stepV) (by unfold Sch.stepV; rw [if_neg (show ¬ stp.kind = 1 by omega), if_neg (show ¬ stp.kind = 2 by omega), if_neg (show ¬ stp.kind = 3 by omega), if_neg (show ¬ stp.kind = 4 by omega), if_pos h]) ▸ schReorderF bx gs cS gc cC zS zC x stp hx hc1 hs hz s⟩
theorem firstR_ex (t : Tm) (st : St) : ∃ d st', FirstR t st d st' := by
  unfold FirstR
  cases h : Sch.firstV t with
  | none => exact ⟨_, _, .inl ⟨rfl, .inl rfl, rfl⟩⟩
  | some x => exact ⟨_, _, .inr ⟨x, 0, x.slots.length, [], 0, x.cols.length, [], rfl, ⟨by rw [List.append_nil, slotC_len], by rw [List.append_nil, colC_len]⟩, rfl, rfl⟩⟩
theorem stepR_ex (x : Vr) (stp : Stp) (bx : Nat) (s : St) : ∃ d st', StepR Sch.stepV x stp bx s d st' := by
  unfold StepR
  cases h : Sch.stepV x stp with
  | none => exact ⟨_, _, .inl ⟨rfl, rfl, rfl⟩⟩
  | some y => exact ⟨_, _, .inr ⟨y, 0, y.slots.length, [], 0, y.cols.length, [], rfl, ⟨by rw [List.append_nil, slotC_len], by rw [List.append_nil, colC_len]⟩, rfl, rfl⟩⟩
def verD (p : Vr × Nat) : List D := [.i p.2, .agg p.1.cells]
theorem versF (t : Tm) (st : St) : TrF Try.prog 45 [.agg t.cells] st fun d st' => ∃ tb, d = .fn (.func 70) [] [.ptr tb 0] ∧ st' = .box tb 33 t.cells :: st := by
  unfold Tm.cells
  generalize t.slots.map Sl.cells = SL
  generalize t.steps.map Stp.cells = TL
  refine trF_enter (ts := [2]) Try.func45 rfl (by rw [Try.ntmps45]; exact Nat.le_of_ble_eq_true rfl) (fun tmps w => by simp [results, Try.results45, go_sem, resVal]) ?_
  simp only [Try.ntmps45]
  repeat' (first | with_reducible refine Go1.go ?_ | ((with_reducible apply ev_go); (focus (try simp (disch := omega) only [push_cast, Nat.reduceEqDiff, reduceCtorEq, ↓reduceIte, Nat.reduceAdd, Nat.reduceMul, Nat.reduceSub, Nat.reduceLT, Nat.reduceLeDiff, Int.reduceToNat, Int.reduceLT, Int.reduceLE, Int.reduceAdd, Int.reduceSub, Int.reduceMul, Int.reduceBEq, Int.reduceBNe, encB, encI, encC, V.cells_mk, V.cells_len, Nat.mul_one, Int.sub_zero, List.map_nil, beq_self_eq_true, List.head?_cons, *]); (try exact rfl); done)) | with_reducible refine s_boxP ?_ | ((with_reducible refine w_last ?_ ?_ ?_); (focus kernel_rfl); (focus rfl)) | ((with_reducible apply w_stepG); (focus rfl)) | ((with_reducible apply lk_mem); (focus ((repeat (first | exact mm_h | apply mm_t)); done))) | with_reducible refine Go2.go ?_ | ((with_reducible apply sto_go); (focus (intro cs'; repeat (first | exact ra_h | apply ra_t)))) | ((with_reducible refine al_go ?_); intro b) | ((with_reducible refine And.intro ?_ ?_); (focus ((repeat (first | exact keep_none | exact keep_nil | exact keep_ro | refine keep_cons ?_)); done))) | ((with_reducible refine s_bi ?_ ?_); (focus rfl)) | with_reducible refine blk_ne rfl ?_ | ((with_reducible refine w_region ?_ ?_); (focus kernel_rfl)) | ((with_reducible refine w_draw [] ?_ ?_ ?_ ?_ ?_); (iterate 3 (focus kernel_rfl)); (focus exact keeps_nil)) | ((with_reducible first | refine gd_d1 ?_ ?_ | refine gd_d0 ?_ ?_); all_goals (intro hb; (first | with_reducible replace hb := nt_t hb | with_reducible replace hb := nt_f hb | skip); (first | replace hb := dc_t hb | replace hb := dc_f hb | have hb1 := eq_b hb | have hb1 := ne_b hb | have hb1 := bne_t hb | have hb1 := bne_f hb | skip); (try (exfalso; first | contradiction | omega)))))
  all_goals exact retA_mk (by first | exact .inl rfl | exact .inr rfl) rfl (by (repeat (first | exact List.Sublist.refl _ | apply List.Sublist.cons))) (LE.of_eq (by (try simp (disch := omega) only [push_cast, Nat.reduceEqDiff, reduceCtorEq, ↓reduceIte, Nat.reduceAdd, Nat.reduceMul, Nat.reduceSub, Nat.reduceLT, Nat.reduceLeDiff, Int.reduceToNat, Int.reduceLT, Int.reduceLE, Int.reduceAdd, Int.reduceSub, Int.reduceMul, Int.reduceBEq, Int.reduceBNe, encB, encI, encC, V.cells_mk, V.cells_len, Nat.mul_one, Int.sub_zero, List.map_nil, beq_self_eq_true, List.head?_cons, *]); (try exact rfl); done)) ⟨_, rfl, rfl⟩
theorem versIter (tb : Nat) (t : Tm) (ht : TOk t) : IterC Try.prog 70 [.ptr tb 0] verD ((Sch.vers t).zipIdx 1) [.box tb 33 t.cells] (fun K => K = [.box tb 33 t.cells]) (fun _ K => K = [.box tb 33 t.cells]) := by
  intro l C J Jx hY hJ
  have HY := Lib.hid hY
  have HJ := Lib.hid hJ
  clear hY hJ
  have hFi := Lib.hid (schFirstF t ht.os ht.ls ht.lt)
  have hot := Lib.hid ht.ot
  have hcells : Hid (t.cells = [.str t.name, .sl .shared (t.slots.map Sl.cells), .sl .shared (t.steps.map Stp.cells)]) := rfl
  obtain ⟨Vs, hVs⟩ : ∃ Vs, Sch.vers t = Vs := ⟨_, rfl⟩
  have hV : Hid (Vs = match Sch.firstV t with | none => [] | some x => x :: Sch.versL x t.steps) := hVs.symm
  have hvi : Hid (∀ y ∈ Vs, Sch.VI 16 y) := Lib.hid (by rw [← hVs]; exact fun y => Sch.vers_vi)
  rw [hVs] at HY ⊢
  clear hVs
  have hLl : (Vs.zipIdx 1).length = Vs.length := List.length_zipIdx
  have hget : Hid (∀ i x, Vs[i]? = some x → (Vs.zipIdx 1)[i]? = some (x, 1 + i)) := fun i x h => by rw [List.getElem?_zipIdx, h]; rfl
  generalize Vs.zipIdx 1 = L at *
  unfold FirstR at hFi
  have hex := Lib.hid (firstR_ex t)
  unfold FirstR at hex
  generalize hTC : t.cells = TC at *
  have hTC2 := hcells.out
  subst hTC2
  generalize t.slots.map Sl.cells = SL at *
  generalize hSt : t.steps.map Stp.cells = TL at *
  replace hSt := Lib.hid hSt
  replace hTC := Lib.hid hTC
  refine trF_enter (ts := []) Try.func70 rfl (by rw [Try.ntmps70]; exact Nat.le_of_ble_eq_true rfl) (fun tmps w => by simp [results, Try.results70, go_sem, resVal]) ?_
  simp only [Try.ntmps70]
  refine tr_perm (st' := .box tb 33 [.str t.name, .sl .shared SL, .sl .shared TL] :: C) (.refl _) ?_
  repeat' (first | with_reducible refine Go1.go ?_ | ((with_reducible apply ev_go); (focus (try simp (disch := omega) only [push_cast, Nat.reduceEqDiff, reduceCtorEq, ↓reduceIte, Nat.reduceAdd, Nat.reduceMul, Nat.reduceSub, Nat.reduceLT, Nat.reduceLeDiff, Int.reduceToNat, Int.reduceLT, Int.reduceLE, Int.reduceAdd, Int.reduceSub, Int.reduceMul, Int.reduceBEq, Int.reduceBNe, encB, encI, encC, V.cells_mk, V.cells_len, Nat.mul_one, Int.sub_zero, List.map_nil, beq_self_eq_true, List.head?_cons, *]); (try exact rfl); done)) | ((with_reducible refine w_last ?_ ?_ ?_); (focus kernel_rfl); (focus rfl)) | ((with_reducible apply w_stepG); (focus rfl)) | ((with_reducible apply lk_mem); (focus ((repeat (first | exact mm_h | apply mm_t)); done))) | with_reducible refine Go2.go ?_ | ((with_reducible apply sto_go); (focus (intro cs'; repeat (first | exact ra_h | apply ra_t)))) | ((with_reducible refine al_go ?_); intro b) | ((with_reducible refine And.intro ?_ ?_); (focus ((repeat (first | exact keep_none | exact keep_nil | exact keep_ro | refine keep_cons ?_)); done))) | ((with_reducible apply (ck_gen Try.call71)); (focus exact List.Perm.refl _); (focus exact hFi.out _); (focus exact LEL.refl _); (focus exact hex.out _); (rintro d st' (⟨hn, rfl | ⟨gs, n1, cS, gc, n2, cC, rfl⟩, rfl⟩ | ⟨x, gs, cS, zS, gc, cC, zC, hx, hz, rfl, rfl⟩))) | ((with_reducible refine s_bi ?_ ?_); (focus rfl)) | with_reducible refine blk_ne rfl ?_ | ((with_reducible refine w_region ?_ ?_); (focus kernel_rfl)) | ((with_reducible refine w_draw [] ?_ ?_ ?_ ?_ ?_); (iterate 3 (focus kernel_rfl)); (focus exact keeps_nil)) | ((with_reducible first | refine gd_d1 ?_ ?_ | refine gd_d0 ?_ ?_); all_goals (intro hb; (first | with_reducible replace hb := nt_t hb | with_reducible replace hb := nt_f hb | skip); (first | replace hb := dc_t hb | replace hb := dc_f hb | have hb1 := eq_b hb | have hb1 := ne_b hb | have hb1 := bne_t hb | have hb1 := bne_f hb | skip); (try (exfalso; first | contradiction | omega)))))
  · have hL0 : L.length = 0 := by rw [hLl, hV.out, hn]; rfl
    exact retA_mk (by first | exact .inl rfl | exact .inr rfl) rfl (by (repeat (first | exact List.Sublist.refl _ | apply List.Sublist.cons))) (LE.refl _) ⟨[_], C, rfl, .inl ⟨rfl, by rw [hL0]; exact HJ.out⟩⟩
  · have hL0 : L.length = 0 := by rw [hLl, hV.out, hn]; rfl
    exact retA_mk (by first | exact .inl rfl | exact .inr rfl) rfl (by (repeat (first | exact List.Sublist.refl _ | apply List.Sublist.cons))) (LE.refl _) ⟨[_], C, rfl, .inl ⟨rfl, by rw [hL0]; exact HJ.out⟩⟩
  have hV1 : Vs = x :: Sch.versL x t.steps := by rw [hV.out, hx]
  have hx0 : Vs[0]? = some x := by rw [hV1]; rfl
  have hT0 : Hid (Sch.versL x (t.steps.drop 0) = Vs.drop 1) := Lib.hid (by rw [hV1]; rfl)
  have hVx := hvi.out x (List.mem_of_getElem? hx0)
  have hg0 := hget.out 0 x hx0
  replace hx0 := Lib.hid hx0
  have hdoF := schDoersF
  have hLl2 := Lib.hid hLl
  clear hV hV1 hex hFi hx hLl
  obtain ⟨b3, rfl⟩ : ∃ q, q = b := ⟨_, rfl⟩
  have hcp := Lib.hid (schCopiedF gs cS gc cC zS zC x (fun h => by have := hVx.lp; rw [h] at this; simp at this) (fun h => by have := hVx.cp; rw [h] at this; simp at this) (hVx.vw (by omega)))
  obtain ⟨TB, hTB⟩ : ∃ TB, TB = doTab := ⟨_, rfl⟩
  have hdo : Hid (∀ st, TrF Try.prog 73 [] st fun d st' => d = .agg TB ∧ st' = st) := by rw [hTB]; exact hdoF
  have hTBl : TB.length = 6 := by rw [hTB]; rfl
  have hTBa : TB.all D.leaf = true := by rw [hTB]; rfl
  replace hTB := Lib.hid hTB
  clear hdoF
  repeat' (first | with_reducible refine Go1.go ?_ | ((with_reducible apply ev_go); (focus (try simp (disch := omega) only [push_cast, Nat.reduceEqDiff, reduceCtorEq, ↓reduceIte, Nat.reduceAdd, Nat.reduceMul, Nat.reduceSub, Nat.reduceLT, Nat.reduceLeDiff, Int.reduceToNat, Int.reduceLT, Int.reduceLE, Int.reduceAdd, Int.reduceSub, Int.reduceMul, Int.reduceBEq, Int.reduceBNe, encB, encI, encC, V.cells_mk, V.cells_len, Nat.mul_one, Int.sub_zero, List.map_nil, beq_self_eq_true, List.head?_cons, *]); (try exact rfl); done)) | ((with_reducible apply (s_yield HY.out HJ.out hg0)); (focus ((try simp (disch := omega) only [push_cast, Nat.reduceEqDiff, reduceCtorEq, ↓reduceIte, Nat.reduceAdd, Nat.reduceMul, Nat.reduceSub, Nat.reduceLT, Nat.reduceLeDiff, Int.reduceToNat, Int.reduceLT, Int.reduceLE, Int.reduceAdd, Int.reduceSub, Int.reduceMul, Int.reduceBEq, Int.reduceBNe, encB, encI, encC, V.cells_mk, V.cells_len, Nat.mul_one, Int.sub_zero, List.map_nil, beq_self_eq_true, List.head?_cons, *]); (try exact rfl); done)); (focus ((try simp (disch := omega) only [push_cast, Nat.reduceEqDiff, reduceCtorEq, ↓reduceIte, Nat.reduceAdd, Nat.reduceMul, Nat.reduceSub, Nat.reduceLT, Nat.reduceLeDiff, Int.reduceToNat, Int.reduceLT, Int.reduceLE, Int.reduceAdd, Int.reduceSub, Int.reduceMul, Int.reduceBEq, Int.reduceBNe, encB, encI, encC, V.cells_mk, V.cells_len, Nat.mul_one, Int.sub_zero, List.map_nil, beq_self_eq_true, List.head?_cons, *]); (try exact rfl); done)); (focus first | exact LEL.refl _ | ((repeat' (first | exact LEL.nil | refine LEL.cons ?_ ?_ | exact LE.refl _ | exact LE.sl _ _ | refine LE.agg ?_)); done)); (focus (repeat (first | exact tl_nil | apply tl_cons)); done); all_goals (intro C' hC')) | ((with_reducible refine w_last ?_ ?_ ?_); (focus kernel_rfl); (focus rfl)) | ((with_reducible apply w_stepG); (focus rfl)) | ((with_reducible apply lk_mem); (focus ((repeat (first | exact mm_h | apply mm_t)); done))) | with_reducible refine Go2.go ?_ | ((with_reducible apply sto_go); (focus (intro cs'; repeat (first | exact ra_h | apply ra_t)))) | ((with_reducible refine al_go ?_); intro b) | ((with_reducible refine And.intro ?_ ?_); (focus ((repeat (first | exact keep_none | exact keep_nil | exact keep_ro | refine keep_cons ?_)); done))) | ((with_reducible apply (ck_le Try.call72)); (focus exact LEL.refl _); (focus exact hcp.out _ (by repeat (first | exact mm_h | apply mm_t)) (by repeat (first | exact mm_h | apply mm_t)))) | ((with_reducible apply (ck_le Try.call73)); (focus exact LEL.refl _); (focus exact hdo.out _)) | ((with_reducible refine s_bi ?_ ?_); (focus rfl)) | with_reducible refine blk_ne rfl ?_ | ((with_reducible refine w_region ?_ ?_); (focus kernel_rfl)) | ((with_reducible refine w_draw [] ?_ ?_ ?_ ?_ ?_); (iterate 3 (focus kernel_rfl)); (focus exact keeps_nil)) | ((with_reducible first | refine gd_d1 ?_ ?_ | refine gd_d0 ?_ ?_); all_goals (intro hb; (first | with_reducible replace hb := nt_t hb | with_reducible replace hb := nt_f hb | skip); (first | replace hb := dc_t hb | replace hb := dc_f hb | have hb1 := eq_b hb | have hb1 := ne_b hb | have hb1 := bne_t hb | have hb1 := bne_f hb | skip); (try (exfalso; first | contradiction | omega)))))
  rotate_left
  · exact retA_mk (by first | exact .inl rfl | exact .inr rfl) (by first | rfl | assumption) (by (repeat (first | exact List.Sublist.refl _ | apply List.Sublist.cons))) (LE.refl _) ⟨[_], C', rfl, .inr ⟨_, rfl, hC'⟩⟩
  obtain ⟨b5, rfl⟩ : ∃ q, q = b := ⟨_, rfl⟩
  refine tr_perm (st' := .box b3 38 [.ar gs 0 x.slots.length cS, .ar gc 0 x.cols.length cC] :: .box gs 26 (slotC x.slots ++ zS) :: .box gc 3 (colC x.cols ++ zC) :: .box b5 97 TB :: .box tb 33 [.str t.name, .sl .shared SL, .sl .shared TL] :: C') (by (repeat (first | exact List.Perm.refl _ | refine perm_cons_out (by repeat (first | exact out_here | apply out_there)) ?_))) ?_
  have hJ0 := Lib.hid hC'
  have hTl : TL.length = t.steps.length := by rw [← hSt.out, List.length_map]
  have hms := ht.lt
  clear hg0 hcp
  refine tr_loopd (ι := Nat) (fun i A st' => ∃ x gs cS zS gc cC zC C', i ≤ TL.length ∧ VL cS zS cC zC x ∧ Hid (Vs[i]? = some x) ∧ Hid (Sch.versL x (t.steps.drop i) = Vs.drop (i + 1)) ∧ Hid (J (i + 1) C') ∧ A.df = [] ∧ A.e 0 = .fn (.yield l) [] [] ∧ A.e 1 = .ptr tb 0 ∧ A.e 3 = .ptr b3 0 ∧ A.e 5 = .ptr b5 0 ∧ A.e 24 = .sl .shared TL ∧ A.e 25 = .i TL.length ∧ A.e 26 = .i i ∧
    st' = .box b3 38 [.ar gs 0 x.slots.length cS, .ar gc 0 x.cols.length cC] :: .box gs 26 (slotC x.slots ++ zS) :: .box gc 3 (colC x.cols ++ zC) :: .box b5 97 TB :: .box tb 33 [.str t.name, .sl .shared SL, .sl .shared TL] :: C') (fun i => TL.length - i) 0 ⟨x, gs, cS, zS, gc, cC, zC, C', Nat.zero_le _, hz, hx0, hT0, hJ0, by (first | rfl | assumption | omega | (simp (disch := omega) only [push_cast, Nat.reduceEqDiff, reduceCtorEq, ↓reduceIte, Nat.reduceAdd, Nat.reduceMul, Nat.reduceSub, Nat.reduceLT, Nat.reduceLeDiff, Int.reduceToNat, Int.reduceLT, Int.reduceLE, Int.reduceAdd, Int.reduceSub, Int.reduceMul, Int.reduceBEq, Int.reduceBNe, encB, encI, encC, V.cells_mk, V.cells_len, Nat.mul_one, Int.sub_zero, List.map_nil, beq_self_eq_true, List.head?_cons, *]; try omega; done)), by (first | rfl | assumption | omega | (simp (disch := omega) only [push_cast, Nat.reduceEqDiff, reduceCtorEq, ↓reduceIte, Nat.reduceAdd, Nat.reduceMul, Nat.reduceSub, Nat.reduceLT, Nat.reduceLeDiff, Int.reduceToNat, Int.reduceLT, Int.reduceLE, Int.reduceAdd, Int.reduceSub, Int.reduceMul, Int.reduceBEq, Int.reduceBNe, encB, encI, encC, V.cells_mk, V.cells_len, Nat.mul_one, Int.sub_zero, List.map_nil, beq_self_eq_true, List.head?_cons, *]; try omega; done)), by (first | rfl | assumption | omega | (simp (disch := omega) only [push_cast, Nat.reduceEqDiff, reduceCtorEq, ↓reduceIte, Nat.reduceAdd, Nat.reduceMul, Nat.reduceSub, Nat.reduceLT, Nat.reduceLeDiff, Int.reduceToNat, Int.reduceLT, Int.reduceLE, Int.reduceAdd, Int.reduceSub, Int.reduceMul, Int.reduceBEq, Int.reduceBNe, encB, encI, encC, V.cells_mk, V.cells_len, Nat.mul_one, Int.sub_zero, List.map_nil, beq_self_eq_true, List.head?_cons, *]; try omega; done)), by (first | rfl | assumption | omega | (simp (disch := omega) only [push_cast, Nat.reduceEqDiff, reduceCtorEq, ↓reduceIte, Nat.reduceAdd, Nat.reduceMul, Nat.reduceSub, Nat.reduceLT, Nat.reduceLeDiff, Int.reduceToNat, Int.reduceLT, Int.reduceLE, Int.reduceAdd, Int.reduceSub, Int.reduceMul, Int.reduceBEq, Int.reduceBNe, encB, encI, encC, V.cells_mk, V.cells_len, Nat.mul_one, Int.sub_zero, List.map_nil, beq_self_eq_true, List.head?_cons, *]; try omega; done)), by (first | rfl | assumption | omega | (simp (disch := omega) only [push_cast, Nat.reduceEqDiff, reduceCtorEq, ↓reduceIte, Nat.reduceAdd, Nat.reduceMul, Nat.reduceSub, Nat.reduceLT, Nat.reduceLeDiff, Int.reduceToNat, Int.reduceLT, Int.reduceLE, Int.reduceAdd, Int.reduceSub, Int.reduceMul, Int.reduceBEq, Int.reduceBNe, encB, encI, encC, V.cells_mk, V.cells_len, Nat.mul_one, Int.sub_zero, List.map_nil, beq_self_eq_true, List.head?_cons, *]; try omega; done)), by (first | rfl | assumption | omega | (simp (disch := omega) only [push_cast, Nat.reduceEqDiff, reduceCtorEq, ↓reduceIte, Nat.reduceAdd, Nat.reduceMul, Nat.reduceSub, Nat.reduceLT, Nat.reduceLeDiff, Int.reduceToNat, Int.reduceLT, Int.reduceLE, Int.reduceAdd, Int.reduceSub, Int.reduceMul, Int.reduceBEq, Int.reduceBNe, encB, encI, encC, V.cells_mk, V.cells_len, Nat.mul_one, Int.sub_zero, List.map_nil, beq_self_eq_true, List.head?_cons, *]; try omega; done)), by (first | rfl | assumption | omega | (simp (disch := omega) only [push_cast, Nat.reduceEqDiff, reduceCtorEq, ↓reduceIte, Nat.reduceAdd, Nat.reduceMul, Nat.reduceSub, Nat.reduceLT, Nat.reduceLeDiff, Int.reduceToNat, Int.reduceLT, Int.reduceLE, Int.reduceAdd, Int.reduceSub, Int.reduceMul, Int.reduceBEq, Int.reduceBNe, encB, encI, encC, V.cells_mk, V.cells_len, Nat.mul_one, Int.sub_zero, List.map_nil, beq_self_eq_true, List.head?_cons, *]; try omega; done)), by (first | rfl | assumption | omega | (simp (disch := omega) only [push_cast, Nat.reduceEqDiff, reduceCtorEq, ↓reduceIte, Nat.reduceAdd, Nat.reduceMul, Nat.reduceSub, Nat.reduceLT, Nat.reduceLeDiff, Int.reduceToNat, Int.reduceLT, Int.reduceLE, Int.reduceAdd, Int.reduceSub, Int.reduceMul, Int.reduceBEq, Int.reduceBNe, encB, encI, encC, V.cells_mk, V.cells_len, Nat.mul_one, Int.sub_zero, List.map_nil, beq_self_eq_true, List.head?_cons, *]; try omega; done)), rfl⟩ ?_
  clear hx0 hT0 hJ0 hz hVx hC' HJ
  rintro i A st' ⟨x, gs, cS, zS, gc, cC, zC, C', hi, hz, hxi, hTi, hJi, hdf, e0, e1, e3, e5, e24, e25, e26, rfl⟩
  have hVx := hvi.out x (List.mem_of_getElem? hxi.out)
  by_cases hlt : i < TL.length
  · obtain ⟨stp, hstp⟩ : ∃ s, t.steps[i]? = some s := ⟨_, List.getElem?_eq_getElem (by omega)⟩
    have hso := hot.out stp (List.mem_of_getElem? hstp)
    have hTd := hTi.out
    rw [Sch.versL_drop hstp] at hTd
    have hcl : TL[i]? = some stp.cells := by rw [← hSt.out, List.getElem?_map, hstp]; rfl
    have hin : i < Vs.length := (List.getElem?_eq_some_iff.1 hxi.out).1
    by_cases hk : 1 ≤ stp.kind ∧ stp.kind ≤ 5
    · obtain ⟨nk, f, hkn, hn5, ⟨tl, htl⟩, hent, hTr⟩ := doTabF x stp (hVx.vw (by omega)) hVx.cp hso hk
      have hTr2 := Lib.hid (hTr b3 gs cS gc cC zS zC hz)
      have hSR := Lib.hid (stepR_ex x stp b3)
      obtain ⟨hk1, hk2⟩ := hk
      clear hTr hTi
      rw [← hTB.out] at htl
      unfold StepR VB at hTr2 hSR
      have hvw : Hid (∀ y, Sch.stepV x stp = some y → Vs[i + 1]? = some y ∧ Sch.versL y (t.steps.drop (i + 1)) = Vs.drop (i + 1 + 1)) := fun y hy => by
        rw [hy] at hTd
        have h1 : Vs[i + 1]? = some y := by
          have : (Vs.drop (i + 1))[0]? = some y := by rw [← hTd]; rfl
          rwa [List.getElem?_drop, Nat.add_zero] at this
        refine ⟨h1, ?_⟩
        rw [V.drop_cons h1] at hTd
        exact (List.cons.inj hTd).2
      have hvn : Hid (Sch.stepV x stp = none → Vs.length = i + 1) := fun h => by
        rw [h] at hTd
        have := congrArg List.length hTd
        rw [List.length_drop, List.length_nil] at this
        omega
      obtain ⟨n2, hn2⟩ : ∃ n2 : Nat, 1 + (i + 1) = n2 := ⟨_, rfl⟩
      have hn3 : (i : Int) + 2 = (n2 : Int) := by omega
      have hgY : Hid (∀ y, Sch.stepV x stp = some y → L[i + 1]? = some (y, n2)) := fun y hy => by rw [← hn2]; exact hget.out _ _ (hvw.out y hy).1
      have hcp : Hid (∀ y, Sch.stepV x stp = some y → ∀ (gs cS gc cC : Nat) (zS zC : List D) (st : St), Res.box gs 26 (slotC y.slots ++ zS) ∈ st → Res.box gc 3 (colC y.cols ++ zC) ∈ st → TrF Try.prog 72 [.agg [.ar gs 0 y.slots.length cS, .ar gc 0 y.cols.length cC]] st fun d st' => d = .agg y.cells ∧ st' = st) := fun y hy gs cS gc cC zS zC st m1 m2 => by
        have hVy := hvi.out y (List.mem_of_getElem? (hvw.out y hy).1)
        exact schCopiedF gs cS gc cC zS zC y (fun h => by have := hVy.lp; rw [h] at this; simp at this) (fun h => by have := hVy.cp; rw [h] at this; simp at this) (hVy.vw (by omega)) st m1 m2
      have hn2b : n2 ≤ 2000 ∧ i ≤ 2000 ∧ TL.length ≤ 2000 := by omega
      obtain ⟨hb1, hb2, hb3⟩ := hn2b
      replace hn2 := Lib.hid hn2
      clear hTd hstp hxi hVx
      generalize Sch.stepV x stp = F at *
      cases stp with
      | mk kd col slot order =>
      cases slot with
      | mk nm ty rq dv =>
      cases dv with
      | mk k n sv lv =>
      unfold Stp.cells at hcl hTr2
      rw [Sl.cells_mk] at hcl hTr2
      dsimp only [List.cons_append, List.nil_append] at hcl hTr2 hkn hk1 hk2
      subst hkn
      replace hcl := hcl
      have hentH := Lib.hid hent
      clear hent
      replace hin := Lib.hid hin
      replace hLl2 := Lib.hid hLl2
      replace hTl := Lib.hid hTl
      repeat' (first | with_reducible refine Go1.go ?_ | ((with_reducible apply ev_go); (focus (try simp (disch := omega) only [push_cast, Nat.reduceEqDiff, reduceCtorEq, ↓reduceIte, Nat.reduceAdd, Nat.reduceMul, Nat.reduceSub, Nat.reduceLT, Nat.reduceLeDiff, Int.reduceToNat, Int.reduceLT, Int.reduceLE, Int.reduceAdd, Int.reduceSub, Int.reduceMul, Int.reduceBEq, Int.reduceBNe, encB, encI, encC, V.cells_mk, V.cells_len, Nat.mul_one, Int.sub_zero, List.map_nil, beq_self_eq_true, List.head?_cons, *]); (try exact rfl); done)) | ((with_reducible apply (s_yield HY.out hJi.out hgy.out)); (focus ((try simp (disch := omega) only [push_cast, Nat.reduceEqDiff, reduceCtorEq, ↓reduceIte, Nat.reduceAdd, Nat.reduceMul, Nat.reduceSub, Nat.reduceLT, Nat.reduceLeDiff, Int.reduceToNat, Int.reduceLT, Int.reduceLE, Int.reduceAdd, Int.reduceSub, Int.reduceMul, Int.reduceBEq, Int.reduceBNe, encB, encI, encC, V.cells_mk, V.cells_len, Nat.mul_one, Int.sub_zero, List.map_nil, beq_self_eq_true, List.head?_cons, *]); (try exact rfl); done)); (focus ((try simp (disch := omega) only [push_cast, Nat.reduceEqDiff, reduceCtorEq, ↓reduceIte, Nat.reduceAdd, Nat.reduceMul, Nat.reduceSub, Nat.reduceLT, Nat.reduceLeDiff, Int.reduceToNat, Int.reduceLT, Int.reduceLE, Int.reduceAdd, Int.reduceSub, Int.reduceMul, Int.reduceBEq, Int.reduceBNe, encB, encI, encC, V.cells_mk, V.cells_len, Nat.mul_one, Int.sub_zero, List.map_nil, beq_self_eq_true, List.head?_cons, *]); (try exact rfl); done)); (focus first | exact LEL.refl _ | ((repeat' (first | exact LEL.nil | refine LEL.cons ?_ ?_ | exact LE.refl _ | exact LE.sl _ _ | refine LE.agg ?_)); done)); (focus (repeat (first | exact tl_nil | apply tl_cons)); done); all_goals (intro C' hC')) | ((with_reducible apply (w_drawQ [(b5, TB), (b, [.i nk, .i col, .str nm, .i ty, .b rq, .i k, .i n, .str sv, .sl .shared (lv.map V.cells), .sl .shared (order.map encI)])] 14)); (iterate 4 (focus kernel_rfl)); (focus (simp only [List.take_succ_cons, List.take_zero]; exact rfl)); (focus (simp only [List.drop_succ_cons, List.drop_zero]; exact rfl)); (focus ((repeat (first | exact keep_nil | refine keep_more (by (repeat (first | exact mm_h | apply mm_t)); done) ?_)); done)); intro hne; simp only [nes, ne1, and_assoc] at hne; repeat (have hq := hne.1; replace hne := hne.2)) | ((with_reducible refine Exists.intro [(b3, [.ar gs1 0 y.slots.length cS1, .ar gc1 0 y.cols.length cC1])] ?_); (with_reducible refine And.intro ?_ ?_); (focus ((repeat (first | exact keep_nil | refine keep_more (by (repeat (first | exact mm_h | apply mm_t)); done) ?_)); done))) | ((with_reducible refine And.intro ?_ ?_); (focus ((repeat (first | exact keep_nil | refine keep_more (by (repeat (first | exact mm_h | apply mm_t)); done) ?_)); done))) | ((with_reducible refine Exists.intro [] ?_); (with_reducible refine And.intro ?_ ?_); (focus exact keep_nil)) | ((with_reducible refine w_last ?_ ?_ ?_); (focus kernel_rfl); (focus rfl)) | ((with_reducible apply w_stepG); (focus rfl)) | ((with_reducible apply lk_mem); (focus ((repeat (first | exact mm_h | apply mm_t)); done))) | with_reducible refine Go2.go ?_ | ((with_reducible apply sto_go); (focus (intro cs'; repeat (first | exact ra_h | apply ra_t)))) | ((with_reducible refine al_go ?_); intro b) | ((with_reducible refine And.intro ?_ ?_); (focus ((repeat (first | exact keep_none | exact keep_nil | exact keep_ro | refine keep_cons ?_)); done))) | ((with_reducible apply (ck_gen hentH.out)); (focus (show List.Perm _ (VB b3 gs cS zS gc cC zC x (.box b 74 [.i nk, .i col, .str nm, .i ty, .b rq, .i k, .i n, .str sv, .sl .shared (lv.map V.cells), .sl .shared (order.map encI)] :: .box b5 97 TB :: .box tb 33 [.str t.name, .sl .shared SL, .sl .shared TL] :: C')); (repeat (first | exact List.Perm.refl _ | refine perm_cons_out (by repeat (first | exact out_here | apply out_there)) ?_)); done)); (focus exact hTr2.out _); (focus exact LEL.refl _); (focus exact hSR.out _); (rintro d st' (⟨hn1, rfl, rfl⟩ | ⟨y, gs1, cS1, zS1, gc1, cC1, zC1, hy, hz1, rfl, rfl⟩) <;> (try (have hgy := Lib.hid (hgY.out y hy); have hcy := Lib.hid (hcp.out y hy gs1 cS1 gc1 cC1 zS1 zC1); replace hy := Lib.hid hy)))) | ((with_reducible apply (ck_le Try.call72)); (focus exact LEL.refl _); (focus exact hcy.out _ (by repeat (first | exact mm_h | apply mm_t)) (by repeat (first | exact mm_h | apply mm_t)))) | ((with_reducible refine s_bi ?_ ?_); (focus rfl)) | with_reducible refine blk_ne rfl ?_ | ((with_reducible refine w_region ?_ ?_); (focus kernel_rfl)) | ((with_reducible refine w_draw [] ?_ ?_ ?_ ?_ ?_); (iterate 3 (focus kernel_rfl)); (focus exact keeps_nil)) | ((with_reducible first | refine gd_d1 ?_ ?_ | refine gd_d0 ?_ ?_); all_goals (intro hb; (first | with_reducible replace hb := nt_t hb | with_reducible replace hb := nt_f hb | skip); (first | replace hb := dc_t hb | replace hb := dc_f hb | have hb1 := eq_b hb | have hb1 := ne_b hb | have hb1 := bne_t hb | have hb1 := bne_f hb | skip); (try (exfalso; first | contradiction | omega)))))
      · have hL1 : L.length = i + 1 := by rw [hLl2.out.out, hvn.out hn1]
        exact retA_mk (by first | exact .inl rfl | exact .inr rfl) (by first | rfl | assumption) (by (repeat (first | exact List.Sublist.refl _ | with_reducible apply List.Sublist.cons_cons | apply List.Sublist.cons))) (LE.refl _) ⟨[_], C', rfl, .inl ⟨rfl, by rw [hL1]; exact hJi.out⟩⟩
      · obtain ⟨q1, q2⟩ := hvw.out y hy.out
        refine ⟨i + 1, .box b3 38 [.ar gs1 0 y.slots.length cS1, .ar gc1 0 y.cols.length cC1] :: .box gs1 26 (slotC y.slots ++ zS1) :: .box gc1 3 (colC y.cols ++ zC1) :: .box b5 97 TB :: .box tb 33 [.str t.name, .sl .shared SL, .sl .shared TL] :: C', ?_, ⟨y, gs1, cS1, zS1, gc1, cC1, zC1, C', hlt, hz1, q1, q2, hC', ?_, ?_, ?_, ?_, ?_, ?_, ?_, ?_, rfl⟩, ?_⟩
        · (repeat (first | exact List.Sublist.refl _ | with_reducible apply List.Sublist.cons_cons | apply List.Sublist.cons))
        iterate 8 (focus (first | rfl | assumption | omega | (simp (disch := omega) only [push_cast, Nat.reduceEqDiff, reduceCtorEq, ↓reduceIte, Nat.reduceAdd, Nat.reduceMul, Nat.reduceSub, Nat.reduceLT, Nat.reduceLeDiff, Int.reduceToNat, Int.reduceLT, Int.reduceLE, Int.reduceAdd, Int.reduceSub, Int.reduceMul, Int.reduceBEq, Int.reduceBNe, encB, encI, encC, V.cells_mk, V.cells_len, Nat.mul_one, Int.sub_zero, List.map_nil, beq_self_eq_true, List.head?_cons, *]; try omega; done)))
        · omega
      · exact retA_mk (by first | exact .inl rfl | exact .inr rfl) (by first | rfl | assumption) (by (repeat (first | exact List.Sublist.refl _ | with_reducible apply List.Sublist.cons_cons | apply List.Sublist.cons))) (LE.refl _) ⟨[_], C', rfl, .inr ⟨_, rfl, hC'⟩⟩
    · have hn1 : Sch.stepV x stp = none := by
        unfold Sch.stepV
        rw [if_neg (by omega), if_neg (by omega), if_neg (by omega), if_neg (by omega), if_neg (by omega)]
      rw [hn1] at hTd
      have hL1 : L.length = i + 1 := by
        rw [hLl2.out]
        have := congrArg List.length hTd
        rw [List.length_drop, List.length_nil] at this
        omega
      have hk' : stp.kind < 1 ∨ (1 ≤ stp.kind ∧ 5 < stp.kind) := by omega
      clear hTd hstp hk hn1 hTi hxi
      replace hL1 := Lib.hid hL1
      cases stp with
      | mk kd col slot order =>
      cases slot with
      | mk nm ty rq dv =>
      cases dv with
      | mk k n sv lv =>
      unfold Stp.cells at hcl
      rw [Sl.cells_mk] at hcl
      dsimp only [List.cons_append, List.nil_append] at hcl hk'
      have hb3 : TL.length ≤ 2000 ∧ i ≤ 2000 := by omega
      obtain ⟨hb3, hb4⟩ := hb3
      replace hTl := Lib.hid hTl
      replace hLl2 := Lib.hid hLl2
      replace hin := Lib.hid hin
      rcases hk' with hk1 | ⟨hk1, hk2⟩
      all_goals skip
      all_goals (
        repeat' (first | with_reducible refine Go1.go ?_ | ((with_reducible apply ev_go); (focus (try simp (disch := omega) only [push_cast, Nat.reduceEqDiff, reduceCtorEq, ↓reduceIte, Nat.reduceAdd, Nat.reduceMul, Nat.reduceSub, Nat.reduceLT, Nat.reduceLeDiff, Int.reduceToNat, Int.reduceLT, Int.reduceLE, Int.reduceAdd, Int.reduceSub, Int.reduceMul, Int.reduceBEq, Int.reduceBNe, encB, encI, encC, V.cells_mk, V.cells_len, Nat.mul_one, Int.sub_zero, List.map_nil, beq_self_eq_true, List.head?_cons, *]); (try exact rfl); done)) | ((with_reducible apply (w_drawN [(b, [.i kd, .i col, .str nm, .i ty, .b rq, .i k, .i n, .str sv, .sl .shared (lv.map V.cells), .sl .shared (order.map encI)])])); (iterate 3 (focus kernel_rfl)); (focus ((repeat (first | exact keep_nil | refine keep_more (by (repeat (first | exact mm_h | apply mm_t)); done) ?_)); done)); intro hne; simp only [nes, ne1, and_assoc] at hne; repeat (have hq := hne.1; replace hne := hne.2)) | ((with_reducible refine And.intro ?_ ?_); (focus ((repeat (first | exact keep_nil | refine keep_more (by (repeat (first | exact mm_h | apply mm_t)); done) ?_)); done))) | ((with_reducible refine w_last ?_ ?_ ?_); (focus kernel_rfl); (focus rfl)) | ((with_reducible apply w_stepG); (focus rfl)) | ((with_reducible apply lk_mem); (focus ((repeat (first | exact mm_h | apply mm_t)); done))) | with_reducible refine Go2.go ?_ | ((with_reducible apply sto_go); (focus (intro cs'; repeat (first | exact ra_h | apply ra_t)))) | ((with_reducible refine al_go ?_); intro b) | ((with_reducible refine And.intro ?_ ?_); (focus ((repeat (first | exact keep_none | exact keep_nil | exact keep_ro | refine keep_cons ?_)); done))) | ((with_reducible refine s_bi ?_ ?_); (focus rfl)) | with_reducible refine blk_ne rfl ?_ | ((with_reducible refine w_region ?_ ?_); (focus kernel_rfl)) | ((with_reducible refine w_draw [] ?_ ?_ ?_ ?_ ?_); (iterate 3 (focus kernel_rfl)); (focus exact keeps_nil)) | ((with_reducible first | refine gd_d1 ?_ ?_ | refine gd_d0 ?_ ?_); all_goals (intro hb; (first | with_reducible replace hb := nt_t hb | with_reducible replace hb := nt_f hb | skip); (first | replace hb := dc_t hb | replace hb := dc_f hb | have hb1 := eq_b hb | have hb1 := ne_b hb | have hb1 := bne_t hb | have hb1 := bne_f hb | skip); (try (exfalso; first | contradiction | omega)))))
        all_goals exact retA_mk (by first | exact .inl rfl | exact .inr rfl) (by first | rfl | assumption) (by (repeat (first | exact List.Sublist.refl _ | with_reducible apply List.Sublist.cons_cons | apply List.Sublist.cons))) (LE.refl _) ⟨[_], C', rfl, .inl ⟨rfl, by rw [hL1.out]; exact hJi.out⟩⟩)
  · have hL1 : L.length = i + 1 := by
      have h1 := hTi.out
      rw [List.drop_of_length_le (by omega), Sch.versL] at h1
      have := congrArg List.length h1
      rw [List.length_drop, List.length_nil] at this
      have hin : i < Vs.length := (List.getElem?_eq_some_iff.1 hxi.out).1
      rw [hLl2.out]; omega
    replace hL1 := Lib.hid hL1
    replace hTl := Lib.hid hTl
    replace hLl2 := Lib.hid hLl2
    repeat' (first | with_reducible refine Go1.go ?_ | ((with_reducible apply ev_go); (focus (try simp (disch := omega) only [push_cast, Nat.reduceEqDiff, reduceCtorEq, ↓reduceIte, Nat.reduceAdd, Nat.reduceMul, Nat.reduceSub, Nat.reduceLT, Nat.reduceLeDiff, Int.reduceToNat, Int.reduceLT, Int.reduceLE, Int.reduceAdd, Int.reduceSub, Int.reduceMul, Int.reduceBEq, Int.reduceBNe, encB, encI, encC, V.cells_mk, V.cells_len, Nat.mul_one, Int.sub_zero, List.map_nil, beq_self_eq_true, List.head?_cons, *]); (try exact rfl); done)) | ((with_reducible refine w_last ?_ ?_ ?_); (focus kernel_rfl); (focus rfl)) | ((with_reducible apply w_stepG); (focus rfl)) | ((with_reducible apply lk_mem); (focus ((repeat (first | exact mm_h | apply mm_t)); done))) | with_reducible refine Go2.go ?_ | ((with_reducible apply sto_go); (focus (intro cs'; repeat (first | exact ra_h | apply ra_t)))) | ((with_reducible refine al_go ?_); intro b) | ((with_reducible refine And.intro ?_ ?_); (focus ((repeat (first | exact keep_none | exact keep_nil | exact keep_ro | refine keep_cons ?_)); done))) | ((with_reducible refine s_bi ?_ ?_); (focus rfl)) | with_reducible refine blk_ne rfl ?_ | ((with_reducible refine w_region ?_ ?_); (focus kernel_rfl)) | ((with_reducible refine w_draw [] ?_ ?_ ?_ ?_ ?_); (iterate 3 (focus kernel_rfl)); (focus exact keeps_nil)) | ((with_reducible first | refine gd_d1 ?_ ?_ | refine gd_d0 ?_ ?_); all_goals (intro hb; (first | with_reducible replace hb := nt_t hb | with_reducible replace hb := nt_f hb | skip); (first | replace hb := dc_t hb | replace hb := dc_f hb | have hb1 := eq_b hb | have hb1 := ne_b hb | have hb1 := bne_t hb | have hb1 := bne_f hb | skip); (try (exfalso; first | contradiction | omega)))))
    all_goals exact retA_mk (by first | exact .inl rfl | exact .inr rfl) (by first | rfl | assumption) (by (repeat (first | exact List.Sublist.refl _ | with_reducible apply List.Sublist.cons_cons | apply List.Sublist.cons))) (LE.refl _) ⟨[_], C', rfl, .inl ⟨rfl, by rw [hL1.out]; exact hJi.out⟩⟩
end Go.Proofs.Ytooaagmhgakhgaa
end

section
namespace Go.Proofs.Ytooaagmhgakhgaa
set_option linter.unusedSimpArgs false
open Go.RowKit
set_option maxRecDepth 10000
set_option maxHeartbeats 4000000
theorem versF' (t : Tm) (st : St) : TrF Try.prog 45 [.agg t.cells] st fun d st' => ∃ tb : Nat, True ∧ d = .fn (.func 70) [] [.ptr tb 0] ∧ st' = .box tb 33 t.cells :: st :=
  (versF t st).mono fun _ _ ⟨tb, h1, h2⟩ => ⟨tb, trivial, h1, h2⟩
theorem schLastF (t : Tm) (ht : TOk t) (st : St) : TrF Try.prog 17 [.agg t.cells] st fun d st' => d = .i (Sch.last t) ∧ st' = st := by
  have hVF := Lib.hid (versF' t)
  have hIt := Lib.hid fun tb => versIter tb t ht
  have hLl : Hid (((Sch.vers t).zipIdx 1).length = (Sch.vers t).length) := Lib.hid List.length_zipIdx
  have hget : Hid (∀ i x, ((Sch.vers t).zipIdx 1)[i]? = some x → x.2 = i + 1) := fun i x h => by
    rw [List.getElem?_zipIdx] at h
    cases hv : (Sch.vers t)[i]? with
    | none => rw [hv] at h; cases h
    | some y => rw [hv] at h; cases h; exact Nat.add_comm 1 i
  have hlast : Hid (Sch.last t = if (Sch.vers t).length = t.steps.length + 1 then t.steps.length + 1 else 0) := rfl
  have hvl := (Sch.vers_len t).1
  have hms := ht.lt
  generalize Sch.last t = LT at *
  generalize (Sch.vers t).zipIdx 1 = L at *
  generalize (Sch.vers t).length = vl at *
  have hTL : (t.steps.map Stp.cells).length = t.steps.length := List.length_map ..
  unfold Tm.cells at hVF hIt ⊢
  generalize t.slots.map Sl.cells = SL at *
  generalize t.steps.map Stp.cells = TL at *
  generalize t.steps.length = ms at *
  generalize t.name = nm at *
  refine trF_enter (ts := [2]) Try.func17 rfl (by rw [Try.ntmps17]; exact Nat.le_of_ble_eq_true rfl) (fun tmps w => by simp [results, Try.results17, go_sem, resVal]) ?_
  simp only [Try.ntmps17]
  repeat' (first | with_reducible refine Go1.go ?_ | ((with_reducible apply ev_go); (focus (try simp (disch := omega) only [push_cast, Nat.reduceEqDiff, reduceCtorEq, ↓reduceIte, Nat.reduceAdd, Nat.reduceMul, Nat.reduceSub, Nat.reduceLT, Nat.reduceLeDiff, Int.reduceToNat, Int.reduceLT, Int.reduceLE, Int.reduceAdd, Int.reduceSub, Int.reduceMul, Int.reduceBEq, Int.reduceBNe, encB, encI, encC, V.cells_mk, V.cells_len, Nat.mul_one, Int.sub_zero, List.map_nil, beq_self_eq_true, List.head?_cons, *]); (try exact rfl); done)) | with_reducible refine s_boxP ?_ | ((with_reducible refine w_last ?_ ?_ ?_); (focus kernel_rfl); (focus rfl)) | ((with_reducible apply w_stepG); (focus rfl)) | ((with_reducible apply lk_mem); (focus ((repeat (first | exact mm_h | apply mm_t)); done))) | with_reducible refine Go2.go ?_ | ((with_reducible apply sto_go); (focus (intro cs'; repeat (first | exact ra_h | apply ra_t)))) | ((with_reducible refine al_go ?_); intro b) | ((with_reducible refine And.intro ?_ ?_); (focus ((repeat (first | exact keep_none | exact keep_nil | exact keep_ro | refine keep_cons ?_)); done))) | ((with_reducible apply (ck_ex Try.call45)); (focus exact LEL.refl _); (focus exact hVF.out _); (focus exact ⟨0, trivial⟩); intro tb htb) | ((with_reducible refine s_bi ?_ ?_); (focus rfl)) | with_reducible refine blk_ne rfl ?_ | ((with_reducible refine w_region ?_ ?_); (focus kernel_rfl)) | ((with_reducible refine w_draw [] ?_ ?_ ?_ ?_ ?_); (iterate 3 (focus kernel_rfl)); (focus exact keeps_nil)) | ((with_reducible first | refine gd_d1 ?_ ?_ | refine gd_d0 ?_ ?_); all_goals (intro hb; (first | with_reducible replace hb := nt_t hb | with_reducible replace hb := nt_f hb | skip); (first | replace hb := dc_t hb | replace hb := dc_f hb | have hb1 := eq_b hb | have hb1 := ne_b hb | have hb1 := bne_t hb | have hb1 := bne_f hb | skip); (try (exfalso; first | contradiction | omega)))))
  rename_i b1
  refine tr_perm (st' := [.box tb 33 [.str nm, .sl .shared SL, .sl .shared TL]] ++ (.box b 3 [.i 0] :: .box b1 33 [.str nm, .sl .shared SL, .sl .shared TL] :: st)) (.refl _) ?_
  refine tr_range (hIt.out tb) Try.call70 (by (try simp (disch := omega) only [push_cast, Nat.reduceEqDiff, reduceCtorEq, ↓reduceIte, Nat.reduceAdd, Nat.reduceMul, Nat.reduceSub, Nat.reduceLT, Nat.reduceLeDiff, Int.reduceToNat, Int.reduceLT, Int.reduceLE, Int.reduceAdd, Int.reduceSub, Int.reduceMul, Int.reduceBEq, Int.reduceBNe, encB, encI, encC, V.cells_mk, V.cells_len, Nat.mul_one, Int.sub_zero, List.map_nil, beq_self_eq_true, List.head?_cons, *]); (try exact rfl); done) (fun _ => rfl) rfl (fun i C => C = .box b 3 [.i i] :: .box b1 33 [.str nm, .sl .shared SL, .sl .shared TL] :: st) (fun _ _ _ => False) rfl (fun i _ => ⟨_, rfl⟩) ?_ ?_ (fun _ _ _ _ _ _ h => h.elim)
  · rintro l i ⟨y, v⟩ C K hx rfl
    have hv : v = i + 1 := hget.out i _ hx
    subst hv
    have hil : i < L.length := (List.getElem?_eq_some_iff.1 hx).1
    have hib : i ≤ 2000 := by have := hLl.out; omega
    clear hx hil
    refine (?_ : Tr _ _ _ _ (AA.put (AA.put ⟨_, []⟩ (some 7) (.i ((i + 1 : Nat) : Int))) (some 8) (.agg y.cells)) (.box b 3 [.i i] :: .box b1 33 [.str nm, .sl .shared SL, .sl .shared TL] :: (st ++ K)) _)
    repeat' (first | with_reducible refine Go1.go ?_ | ((with_reducible apply ev_go); (focus (try simp (disch := omega) only [push_cast, Nat.reduceEqDiff, reduceCtorEq, ↓reduceIte, Nat.reduceAdd, Nat.reduceMul, Nat.reduceSub, Nat.reduceLT, Nat.reduceLeDiff, Int.reduceToNat, Int.reduceLT, Int.reduceLE, Int.reduceAdd, Int.reduceSub, Int.reduceMul, Int.reduceBEq, Int.reduceBNe, encB, encI, encC, V.cells_mk, V.cells_len, Nat.mul_one, Int.sub_zero, List.map_nil, beq_self_eq_true, List.head?_cons, *]); (try exact rfl); done)) | ((with_reducible refine w_last ?_ ?_ ?_); (focus kernel_rfl); (focus rfl)) | ((with_reducible apply w_stepG); (focus rfl)) | ((with_reducible apply lk_mem); (focus ((repeat (first | exact mm_h | apply mm_t)); done))) | with_reducible refine Go2.go ?_ | ((with_reducible apply sto_go); (focus (intro cs'; repeat (first | exact ra_h | apply ra_t)))) | ((with_reducible refine al_go ?_); intro b) | ((with_reducible refine And.intro ?_ ?_); (focus ((repeat (first | exact keep_none | exact keep_nil | exact keep_ro | refine keep_cons ?_)); done))) | ((with_reducible refine s_bi ?_ ?_); (focus rfl)) | with_reducible refine blk_ne rfl ?_ | ((with_reducible refine w_region ?_ ?_); (focus kernel_rfl)) | ((with_reducible refine w_draw [] ?_ ?_ ?_ ?_ ?_); (iterate 3 (focus kernel_rfl)); (focus exact keeps_nil)) | ((with_reducible first | refine gd_d1 ?_ ?_ | refine gd_d0 ?_ ?_); all_goals (intro hb; (first | with_reducible replace hb := nt_t hb | with_reducible replace hb := nt_f hb | skip); (first | replace hb := dc_t hb | replace hb := dc_f hb | have hb1 := eq_b hb | have hb1 := ne_b hb | have hb1 := bne_t hb | have hb1 := bne_f hb | skip); (try (exfalso; first | contradiction | omega)))))
    refine ⟨.box b 3 [.i i] :: .box b1 33 [.str nm, .sl .shared SL, .sl .shared TL] :: st, List.Sublist.refl _, fun K' => ?_⟩
    refine (?_ : Tr _ _ _ _ _ (.box b 3 [.i i] :: .box b1 33 [.str nm, .sl .shared SL, .sl .shared TL] :: (st ++ K')) _)
    repeat' (first | with_reducible refine Go1.go ?_ | ((with_reducible apply ev_go); (focus (try simp (disch := omega) only [push_cast, Nat.reduceEqDiff, reduceCtorEq, ↓reduceIte, Nat.reduceAdd, Nat.reduceMul, Nat.reduceSub, Nat.reduceLT, Nat.reduceLeDiff, Int.reduceToNat, Int.reduceLT, Int.reduceLE, Int.reduceAdd, Int.reduceSub, Int.reduceMul, Int.reduceBEq, Int.reduceBNe, encB, encI, encC, V.cells_mk, V.cells_len, Nat.mul_one, Int.sub_zero, List.map_nil, beq_self_eq_true, List.head?_cons, *]); (try exact rfl); done)) | ((with_reducible refine w_last ?_ ?_ ?_); (focus kernel_rfl); (focus rfl)) | ((with_reducible apply w_stepG); (focus rfl)) | ((with_reducible apply lk_mem); (focus ((repeat (first | exact mm_h | apply mm_t)); done))) | with_reducible refine Go2.go ?_ | ((with_reducible apply sto_go); (focus (intro cs'; repeat (first | exact ra_h | apply ra_t)))) | ((with_reducible refine al_go ?_); intro b) | ((with_reducible refine And.intro ?_ ?_); (focus ((repeat (first | exact keep_none | exact keep_nil | exact keep_ro | refine keep_cons ?_)); done))) | ((with_reducible refine s_bi ?_ ?_); (focus rfl)) | with_reducible refine blk_ne rfl ?_ | ((with_reducible refine w_region ?_ ?_); (focus kernel_rfl)) | ((with_reducible refine w_draw [] ?_ ?_ ?_ ?_ ?_); (iterate 3 (focus kernel_rfl)); (focus exact keeps_nil)) | ((with_reducible first | refine gd_d1 ?_ ?_ | refine gd_d0 ?_ ?_); all_goals (intro hb; (first | with_reducible replace hb := nt_t hb | with_reducible replace hb := nt_f hb | skip); (first | replace hb := dc_t hb | replace hb := dc_f hb | have hb1 := eq_b hb | have hb1 := ne_b hb | have hb1 := bne_t hb | have hb1 := bne_f hb | skip); (try (exfalso; first | contradiction | omega)))))
    exact ⟨_, List.Sublist.refl _, rfl⟩
  · rintro d K1 C' rfl rfl
    rw [hLl.out]
    clear hIt
    change Tr _ _ _ _ _ _ _
    by_cases hc : vl = ms + 1
    · have hL2 : LT = vl := by rw [hlast.out, if_pos hc, hc]
      clear hlast
      have hc2 : (vl : Int) = (ms : Int) + 1 := by omega
      clear hc
      refine tr_perm (st' := .box b 3 [.i vl] :: .box b1 33 [.str nm, .sl .shared SL, .sl .shared TL] :: markR d :: .box tb 33 [.str nm, .sl .shared SL, .sl .shared TL] :: st) (by show List.Perm (markR d :: .box tb 33 [.str nm, .sl .shared SL, .sl .shared TL] :: .box b 3 [.i vl] :: .box b1 33 [.str nm, .sl .shared SL, .sl .shared TL] :: st) _; (repeat (first | exact List.Perm.refl _ | refine perm_cons_out (by repeat (first | exact out_here | apply out_there)) ?_))) ?_
      repeat' (first | with_reducible refine Go1.go ?_ | ((with_reducible apply ev_go); (focus (try simp (disch := omega) only [push_cast, Nat.reduceEqDiff, reduceCtorEq, ↓reduceIte, Nat.reduceAdd, Nat.reduceMul, Nat.reduceSub, Nat.reduceLT, Nat.reduceLeDiff, Int.reduceToNat, Int.reduceLT, Int.reduceLE, Int.reduceAdd, Int.reduceSub, Int.reduceMul, Int.reduceBEq, Int.reduceBNe, encB, encI, encC, V.cells_mk, V.cells_len, Nat.mul_one, Int.sub_zero, List.map_nil, beq_self_eq_true, List.head?_cons, *]); (try exact rfl); done)) | ((with_reducible refine w_last ?_ ?_ ?_); (focus kernel_rfl); (focus rfl)) | ((with_reducible apply w_stepG); (focus rfl)) | ((with_reducible apply lk_mem); (focus ((repeat (first | exact mm_h | apply mm_t)); done))) | with_reducible refine Go2.go ?_ | ((with_reducible apply sto_go); (focus (intro cs'; repeat (first | exact ra_h | apply ra_t)))) | ((with_reducible refine al_go ?_); intro b) | ((with_reducible refine And.intro ?_ ?_); (focus ((repeat (first | exact keep_none | exact keep_nil | exact keep_ro | refine keep_cons ?_)); done))) | ((with_reducible refine s_bi ?_ ?_); (focus rfl)) | with_reducible refine blk_ne rfl ?_ | ((with_reducible refine w_region ?_ ?_); (focus kernel_rfl)) | ((with_reducible refine w_draw [] ?_ ?_ ?_ ?_ ?_); (iterate 3 (focus kernel_rfl)); (focus exact keeps_nil)) | ((with_reducible first | refine gd_d1 ?_ ?_ | refine gd_d0 ?_ ?_); all_goals (intro hb; (first | with_reducible replace hb := nt_t hb | with_reducible replace hb := nt_f hb | skip); (first | replace hb := dc_t hb | replace hb := dc_f hb | have hb1 := eq_b hb | have hb1 := ne_b hb | have hb1 := bne_t hb | have hb1 := bne_f hb | skip); (try (exfalso; first | contradiction | omega)))))
      all_goals (refine retA_mark (by first | exact .inl rfl | exact .inr rfl) (by first | rfl | assumption) (by repeat (first | exact out_here | apply out_there)) (by (repeat (first | exact List.Sublist.refl _ | apply List.Sublist.cons))) ?_ ⟨rfl, rfl⟩; (try simp (disch := omega) only [push_cast, Nat.reduceEqDiff, reduceCtorEq, ↓reduceIte, Nat.reduceAdd, Nat.reduceMul, Nat.reduceSub, Nat.reduceLT, Nat.reduceLeDiff, Int.reduceToNat, Int.reduceLT, Int.reduceLE, Int.reduceAdd, Int.reduceSub, Int.reduceMul, Int.reduceBEq, Int.reduceBNe, encB, encI, encC, V.cells_mk, V.cells_len, Nat.mul_one, Int.sub_zero, List.map_nil, beq_self_eq_true, List.head?_cons, *]); try (first | exact LE.refl _ | exact LE.sl _ _ | (refine LE.tup ?_; (repeat' (first | exact LEL.nil | refine LEL.cons ?_ ?_ | exact LE.refl _ | exact LE.sl _ _ | refine LE.agg ?_)); done) | (refine LE.agg ?_; (repeat' (first | exact LEL.nil | refine LEL.cons ?_ ?_ | exact LE.refl _ | exact LE.sl _ _)); done) | refine LE.of_eq ?_))
    · have hL2 : LT = 0 := by rw [hlast.out, if_neg hc]
      clear hlast
      have hc2 : ¬ (vl : Int) = (ms : Int) + 1 := by omega
      clear hc
      refine tr_perm (st' := .box b 3 [.i vl] :: .box b1 33 [.str nm, .sl .shared SL, .sl .shared TL] :: markR d :: .box tb 33 [.str nm, .sl .shared SL, .sl .shared TL] :: st) (by show List.Perm (markR d :: .box tb 33 [.str nm, .sl .shared SL, .sl .shared TL] :: .box b 3 [.i vl] :: .box b1 33 [.str nm, .sl .shared SL, .sl .shared TL] :: st) _; (repeat (first | exact List.Perm.refl _ | refine perm_cons_out (by repeat (first | exact out_here | apply out_there)) ?_))) ?_
      repeat' (first | with_reducible refine Go1.go ?_ | ((with_reducible apply ev_go); (focus (try simp (disch := omega) only [push_cast, Nat.reduceEqDiff, reduceCtorEq, ↓reduceIte, Nat.reduceAdd, Nat.reduceMul, Nat.reduceSub, Nat.reduceLT, Nat.reduceLeDiff, Int.reduceToNat, Int.reduceLT, Int.reduceLE, Int.reduceAdd, Int.reduceSub, Int.reduceMul, Int.reduceBEq, Int.reduceBNe, encB, encI, encC, V.cells_mk, V.cells_len, Nat.mul_one, Int.sub_zero, List.map_nil, beq_self_eq_true, List.head?_cons, *]); (try exact rfl); done)) | ((with_reducible refine w_last ?_ ?_ ?_); (focus kernel_rfl); (focus rfl)) | ((with_reducible apply w_stepG); (focus rfl)) | ((with_reducible apply lk_mem); (focus ((repeat (first | exact mm_h | apply mm_t)); done))) | with_reducible refine Go2.go ?_ | ((with_reducible apply sto_go); (focus (intro cs'; repeat (first | exact ra_h | apply ra_t)))) | ((with_reducible refine al_go ?_); intro b) | ((with_reducible refine And.intro ?_ ?_); (focus ((repeat (first | exact keep_none | exact keep_nil | exact keep_ro | refine keep_cons ?_)); done))) | ((with_reducible refine s_bi ?_ ?_); (focus rfl)) | with_reducible refine blk_ne rfl ?_ | ((with_reducible refine w_region ?_ ?_); (focus kernel_rfl)) | ((with_reducible refine w_draw [] ?_ ?_ ?_ ?_ ?_); (iterate 3 (focus kernel_rfl)); (focus exact keeps_nil)) | ((with_reducible first | refine gd_d1 ?_ ?_ | refine gd_d0 ?_ ?_); all_goals (intro hb; (first | with_reducible replace hb := nt_t hb | with_reducible replace hb := nt_f hb | skip); (first | replace hb := dc_t hb | replace hb := dc_f hb | have hb1 := eq_b hb | have hb1 := ne_b hb | have hb1 := bne_t hb | have hb1 := bne_f hb | skip); (try (exfalso; first | contradiction | omega)))))
      all_goals (refine retA_mark (by first | exact .inl rfl | exact .inr rfl) (by first | rfl | assumption) (by repeat (first | exact out_here | apply out_there)) (by (repeat (first | exact List.Sublist.refl _ | apply List.Sublist.cons))) ?_ ⟨rfl, rfl⟩; (try simp (disch := omega) only [push_cast, Nat.reduceEqDiff, reduceCtorEq, ↓reduceIte, Nat.reduceAdd, Nat.reduceMul, Nat.reduceSub, Nat.reduceLT, Nat.reduceLeDiff, Int.reduceToNat, Int.reduceLT, Int.reduceLE, Int.reduceAdd, Int.reduceSub, Int.reduceMul, Int.reduceBEq, Int.reduceBNe, encB, encI, encC, V.cells_mk, V.cells_len, Nat.mul_one, Int.sub_zero, List.map_nil, beq_self_eq_true, List.head?_cons, *]); try (first | exact LE.refl _ | exact LE.sl _ _ | (refine LE.tup ?_; (repeat' (first | exact LEL.nil | refine LEL.cons ?_ ?_ | exact LE.refl _ | exact LE.sl _ _ | refine LE.agg ?_)); done) | (refine LE.agg ?_; (repeat' (first | exact LEL.nil | refine LEL.cons ?_ ?_ | exact LE.refl _ | exact LE.sl _ _)); done) | refine LE.of_eq ?_))
theorem schRightF (t : Tm) (ht : TOk t) (st : St) : TrF Try.prog 16 [.agg t.cells] st fun d st' => d = .b (decide (0 < Sch.last t)) ∧ st' = st := by
  have hL := Lib.hid (schLastF t ht)
  generalize Sch.last t = n at *
  unfold Tm.cells at *
  generalize t.slots.map Sl.cells = SL at *
  generalize t.steps.map Stp.cells = TL at *
  refine trF_enter (ts := [2]) Try.func16 rfl (by rw [Try.ntmps16]; exact Nat.le_of_ble_eq_true rfl) (fun tmps w => by simp [results, Try.results16, go_sem, resVal]) ?_
  simp only [Try.ntmps16]
  repeat' (first | with_reducible refine Go1.go ?_ | ((with_reducible apply ev_go); (focus (try simp (disch := omega) only [push_cast, Nat.reduceEqDiff, reduceCtorEq, ↓reduceIte, Nat.reduceAdd, Nat.reduceMul, Nat.reduceSub, Nat.reduceLT, Nat.reduceLeDiff, Int.reduceToNat, Int.reduceLT, Int.reduceLE, Int.reduceAdd, Int.reduceSub, Int.reduceMul, Int.reduceBEq, Int.reduceBNe, encB, encI, encC, V.cells_mk, V.cells_len, Nat.mul_one, Int.sub_zero, List.map_nil, beq_self_eq_true, List.head?_cons, *]); (try exact rfl); done)) | with_reducible refine s_boxP ?_ | ((with_reducible refine w_last ?_ ?_ ?_); (focus kernel_rfl); (focus rfl)) | ((with_reducible apply w_stepG); (focus rfl)) | ((with_reducible apply lk_mem); (focus ((repeat (first | exact mm_h | apply mm_t)); done))) | with_reducible refine Go2.go ?_ | ((with_reducible apply sto_go); (focus (intro cs'; repeat (first | exact ra_h | apply ra_t)))) | ((with_reducible refine al_go ?_); intro b) | ((with_reducible refine And.intro ?_ ?_); (focus ((repeat (first | exact keep_none | exact keep_nil | exact keep_ro | refine keep_cons ?_)); done))) | ((with_reducible apply (ck_le Try.call17)); (focus exact LEL.refl _); (focus exact hL.out _)) | ((with_reducible refine s_bi ?_ ?_); (focus rfl)) | with_reducible refine blk_ne rfl ?_ | ((with_reducible refine w_region ?_ ?_); (focus kernel_rfl)) | ((with_reducible refine w_draw [] ?_ ?_ ?_ ?_ ?_); (iterate 3 (focus kernel_rfl)); (focus exact keeps_nil)) | ((with_reducible first | refine gd_d1 ?_ ?_ | refine gd_d0 ?_ ?_); all_goals (intro hb; (first | with_reducible replace hb := nt_t hb | with_reducible replace hb := nt_f hb | skip); (first | replace hb := dc_t hb | replace hb := dc_f hb | have hb1 := eq_b hb | have hb1 := ne_b hb | have hb1 := bne_t hb | have hb1 := bne_f hb | skip); (try (exfalso; first | contradiction | omega)))))
  all_goals (refine ret_eq (by first | exact .inl rfl | exact .inr rfl) (by first | rfl | assumption) (by (repeat (first | exact List.Sublist.refl _ | apply List.Sublist.cons))) ?_; (try simp (disch := omega) only [push_cast, Nat.reduceEqDiff, reduceCtorEq, ↓reduceIte, Nat.reduceAdd, Nat.reduceMul, Nat.reduceSub, Nat.reduceLT, Nat.reduceLeDiff, Int.reduceToNat, Int.reduceLT, Int.reduceLE, Int.reduceAdd, Int.reduceSub, Int.reduceMul, Int.reduceBEq, Int.reduceBNe, encB, encI, encC, V.cells_mk, V.cells_len, Nat.mul_one, Int.sub_zero, List.map_nil, beq_self_eq_true, List.head?_cons, *]); try (first | exact LE.refl _ | exact LE.sl _ _ | (refine LE.tup ?_; (repeat' (first | exact LEL.nil | refine LEL.cons ?_ ?_ | exact LE.refl _ | exact LE.sl _ _ | refine LE.agg ?_)); done) | (refine LE.agg ?_; (repeat' (first | exact LEL.nil | refine LEL.cons ?_ ?_ | exact LE.refl _ | exact LE.sl _ _)); done) | refine LE.of_eq ?_))
  all_goals (refine congrArg D.b (decide_eq_decide.2 ?_); omega)
def Sch.verX (t : Tm) (v : Int) : Vr := (Sch.ver t v).getD ⟨[], []⟩
def Sch.verB (t : Tm) (v : Int) : Bool := (Sch.ver t v).isSome
theorem schAtF (t : Tm) (ht : TOk t) (v : Int) (st : St) : TrF Try.prog 18 [.agg t.cells, .i v] st fun d st' => d = .tup [.agg (Sch.verX t v).cells, .b (Sch.verB t v)] ∧ st' = st := by
  have hVF := Lib.hid (versF' t)
  have hRi := schRightF t ht
  have hIt := Lib.hid fun tb => versIter tb t ht
  have hLl : Hid (((Sch.vers t).zipIdx 1).length = (Sch.vers t).length) := Lib.hid List.length_zipIdx
  have hget : Hid (∀ i x, ((Sch.vers t).zipIdx 1)[i]? = some x → x.2 = i + 1 ∧ (Sch.vers t)[i]? = some x.1) := fun i x h => by
    rw [List.getElem?_zipIdx] at h
    cases hv : (Sch.vers t)[i]? with
    | none => rw [hv] at h; cases h
    | some y => rw [hv] at h; cases h; exact ⟨Nat.add_comm 1 i, rfl⟩
  have hver : Hid (Sch.ver t v = if 0 < Sch.last t ∧ 1 ≤ v then (Sch.vers t)[(v - 1).toNat]? else none) := rfl
  have hvl := (Sch.vers_len t).1
  have hms := ht.lt
  have hvl2 : Hid ((Sch.vers t).length ≤ 2000) := Lib.hid (by omega)
  unfold Sch.verX Sch.verB
  generalize Sch.ver t v = VT at *
  generalize (Sch.vers t).zipIdx 1 = L at *
  generalize Sch.vers t = Vs at *
  clear hvl hms
  unfold Tm.cells at hVF hIt hRi ⊢
  generalize t.slots.map Sl.cells = SL at *
  generalize t.steps.map Stp.cells = TL at *
  generalize t.name = nm at *
  refine trF_enterG (G := twoA Try.prog (.cell 4 38) (.cell 5 4)) Try.func18 rfl (by rw [Try.ntmps18]; exact Nat.le_of_ble_eq_true rfl) (fun h1 h2 h3 => res_two rfl h1 h2 h3) ?_
  simp only [Try.ntmps18]
  by_cases hr : 0 < Sch.last t
  · rw [decide_eq_true hr] at hRi
    replace hRi := Lib.hid hRi
    have hver2 : Hid (VT = if 1 ≤ v then Vs[(v - 1).toNat]? else none) := Lib.hid (by rw [hver.out]; simp [hr])
    clear hver
    repeat' (first | with_reducible refine Go1.go ?_ | ((with_reducible apply ev_go); (focus (try simp (disch := omega) only [push_cast, Nat.reduceEqDiff, reduceCtorEq, ↓reduceIte, Nat.reduceAdd, Nat.reduceMul, Nat.reduceSub, Nat.reduceLT, Nat.reduceLeDiff, Int.reduceToNat, Int.reduceLT, Int.reduceLE, Int.reduceAdd, Int.reduceSub, Int.reduceMul, Int.reduceBEq, Int.reduceBNe, encB, encI, encC, V.cells_mk, V.cells_len, Nat.mul_one, Int.sub_zero, List.map_nil, beq_self_eq_true, List.head?_cons, *]); (try exact rfl); done)) | with_reducible refine s_boxP ?_ | ((with_reducible refine w_last ?_ ?_ ?_); (focus kernel_rfl); (focus rfl)) | ((with_reducible apply w_stepG); (focus rfl)) | ((with_reducible apply lk_mem); (focus ((repeat (first | exact mm_h | apply mm_t)); done))) | with_reducible refine Go2.go ?_ | ((with_reducible apply sto_go); (focus (intro cs'; repeat (first | exact ra_h | apply ra_t)))) | ((with_reducible refine al_go ?_); intro b) | ((with_reducible refine And.intro ?_ ?_); (focus ((repeat (first | exact keep_none | exact keep_nil | exact keep_ro | refine keep_cons ?_)); done))) | ((with_reducible apply (ck_le Try.call16)); (focus exact LEL.refl _); (focus exact hRi.out _)) | ((with_reducible apply (ck_ex Try.call45)); (focus exact LEL.refl _); (focus exact hVF.out _); (focus exact ⟨0, trivial⟩); intro tb htb) | ((with_reducible refine s_bi ?_ ?_); (focus rfl)) | with_reducible refine blk_ne rfl ?_ | ((with_reducible refine w_region ?_ ?_); (focus kernel_rfl)) | ((with_reducible refine w_draw [] ?_ ?_ ?_ ?_ ?_); (iterate 3 (focus kernel_rfl)); (focus exact keeps_nil)) | ((with_reducible first | refine gd_d1 ?_ ?_ | refine gd_d0 ?_ ?_); all_goals (intro hb; (first | with_reducible replace hb := nt_t hb | with_reducible replace hb := nt_f hb | skip); (first | replace hb := dc_t hb | replace hb := dc_f hb | have hb1 := eq_b hb | have hb1 := ne_b hb | have hb1 := bne_t hb | have hb1 := bne_f hb | skip); (try (exfalso; first | contradiction | omega)))))
    rename_i b2 b3 b4
    obtain ⟨b5, rfl⟩ : ∃ q, q = b := ⟨_, rfl⟩
    clear hRi
    refine tr_perm (st' := [.box tb 33 [.str nm, .sl .shared SL, .sl .shared TL]] ++ (.box b5 4 [.s (.bool false)] :: .box b4 38 [.sl .tight [], .sl .tight []] :: .box b3 3 [.i v] :: .box b2 33 [.str nm, .sl .shared SL, .sl .shared TL] :: st)) (.refl _) ?_
    refine tr_rangeS (hIt.out tb) Try.call70 (by (try simp (disch := omega) only [push_cast, Nat.reduceEqDiff, reduceCtorEq, ↓reduceIte, Nat.reduceAdd, Nat.reduceMul, Nat.reduceSub, Nat.reduceLT, Nat.reduceLeDiff, Int.reduceToNat, Int.reduceLT, Int.reduceLE, Int.reduceAdd, Int.reduceSub, Int.reduceMul, Int.reduceBEq, Int.reduceBNe, encB, encI, encC, V.cells_mk, V.cells_len, Nat.mul_one, Int.sub_zero, List.map_nil, beq_self_eq_true, List.head?_cons, *]); (try exact rfl); done) (fun _ => rfl) rfl (fun i C => Hid (∀ j, j < i → (j : Int) + 1 ≠ v) ∧ C = .box b5 4 [.s (.bool false)] :: .box b4 38 [.sl .tight [], .sl .tight []] :: .box b3 3 [.i v] :: .box b2 33 [.str nm, .sl .shared SL, .sl .shared TL] :: st) (fun c i C => ∃ x : Vr, c = .ret ∧ Hid (VT = some x) ∧ C = .box b5 4 [.s (.bool true)] :: .box b4 38 x.cells :: .box b3 3 [.i v] :: .box b2 33 [.str nm, .sl .shared SL, .sl .shared TL] :: st)
      ⟨fun j hj => absurd hj (Nat.not_lt_zero _), rfl⟩ ?_ ?_ ?_ ?_
    · rintro i ⟨x, k⟩ C hx ⟨hj, rfl⟩
      obtain ⟨h1, h2⟩ := hget.out i _ hx
      by_cases hv : (i : Int) + 1 = v
      · exact .inr ⟨.ret, _, x, rfl, by rw [hver2.out, if_pos (by omega), show (v - 1).toNat = i by omega]; exact h2, rfl⟩
      · refine .inl ⟨_, fun j hj' => ?_, rfl⟩
        by_cases hji : j = i
        · subst hji; exact hv
        · exact hj.out j (by omega)
    · rintro l i ⟨x, k⟩ C K hx ⟨hj, rfl⟩
      obtain ⟨h1, h2⟩ := hget.out i _ hx
      dsimp only at h1 h2
      subst h1
      have hib : i ≤ 2000 := by
        have := (List.getElem?_eq_some_iff.1 hx).1
        have := hLl.out
        have := hvl2.out
        omega
      have hvx : Hid ((i : Int) + 1 = v → VT = some x) := fun hv => by rw [hver2.out, if_pos (by omega), show (v - 1).toNat = i by omega]; exact h2
      have hnx : Hid ((i : Int) + 1 ≠ v → ∀ j, j < i + 1 → (j : Int) + 1 ≠ v) := fun hv j hj' => by
        by_cases hji : j = i
        · subst hji; exact hv
        · exact hj.out j (by omega)
      clear hx h2 hj hIt
      dsimp only [verD, Vr.cells]
      generalize hX1 : x.slots.map Sl.cells = X1 at *
      generalize hX2 : x.cols.map encC = X2 at *
      replace hX1 := Lib.hid hX1
      replace hX2 := Lib.hid hX2
      refine (?_ : Tr _ _ _ _ (AA.put (AA.put ⟨_, []⟩ (some 14) (.i ((i + 1 : Nat) : Int))) (some 15) (.agg [.sl .shared X1, .sl .shared X2])) (.box b5 4 [.s (.bool false)] :: .box b4 38 [.sl .tight [], .sl .tight []] :: .box b3 3 [.i v] :: .box b2 33 [.str nm, .sl .shared SL, .sl .shared TL] :: (st ++ K)) _)
      repeat' (first | with_reducible refine Go1.go ?_ | ((with_reducible apply ev_go); (focus (try simp (disch := omega) only [push_cast, Nat.reduceEqDiff, reduceCtorEq, ↓reduceIte, Nat.reduceAdd, Nat.reduceMul, Nat.reduceSub, Nat.reduceLT, Nat.reduceLeDiff, Int.reduceToNat, Int.reduceLT, Int.reduceLE, Int.reduceAdd, Int.reduceSub, Int.reduceMul, Int.reduceBEq, Int.reduceBNe, encB, encI, encC, V.cells_mk, V.cells_len, Nat.mul_one, Int.sub_zero, List.map_nil, beq_self_eq_true, List.head?_cons, *]); (try exact rfl); done)) | ((with_reducible refine w_last ?_ ?_ ?_); (focus kernel_rfl); (focus rfl)) | ((with_reducible apply w_stepG); (focus rfl)) | ((with_reducible apply lk_mem); (focus ((repeat (first | exact mm_h | apply mm_t)); done))) | with_reducible refine Go2.go ?_ | ((with_reducible apply sto_go); (focus (intro cs'; repeat (first | exact ra_h | apply ra_t)))) | ((with_reducible refine al_go ?_); intro b) | ((with_reducible refine And.intro ?_ ?_); (focus ((repeat (first | exact keep_none | exact keep_nil | exact keep_ro | refine keep_cons ?_)); done))) | ((with_reducible refine s_bi ?_ ?_); (focus rfl)) | with_reducible refine blk_ne rfl ?_ | ((with_reducible refine w_region ?_ ?_); (focus kernel_rfl)) | ((with_reducible refine w_draw [] ?_ ?_ ?_ ?_ ?_); (iterate 3 (focus kernel_rfl)); (focus exact keeps_nil)) | ((with_reducible first | refine gd_d1 ?_ ?_ | refine gd_d0 ?_ ?_); all_goals (intro hb; (first | with_reducible replace hb := nt_t hb | with_reducible replace hb := nt_f hb | skip); (first | replace hb := dc_t hb | replace hb := dc_f hb | have hb1 := eq_b hb | have hb1 := ne_b hb | have hb1 := bne_t hb | have hb1 := bne_f hb | skip); (try (exfalso; first | contradiction | omega)))))
      obtain ⟨b7, rfl⟩ : ∃ q, q = b := ⟨_, rfl⟩
      refine ⟨.box b7 38 [.sl .shared X1, .sl .shared X2] :: .box b5 4 [.s (.bool false)] :: .box b4 38 [.sl .tight [], .sl .tight []] :: .box b3 3 [.i v] :: .box b2 33 [.str nm, .sl .shared SL, .sl .shared TL] :: st, List.Sublist.refl _, fun K' => ?_⟩
      refine (?_ : Tr _ _ _ _ _ (.box b7 38 [.sl .shared X1, .sl .shared X2] :: .box b5 4 [.s (.bool false)] :: .box b4 38 [.sl .tight [], .sl .tight []] :: .box b3 3 [.i v] :: .box b2 33 [.str nm, .sl .shared SL, .sl .shared TL] :: (st ++ K')) _)
      repeat' (first | with_reducible refine Go1.go ?_ | ((with_reducible apply ev_go); (focus (try simp (disch := omega) only [push_cast, Nat.reduceEqDiff, reduceCtorEq, ↓reduceIte, Nat.reduceAdd, Nat.reduceMul, Nat.reduceSub, Nat.reduceLT, Nat.reduceLeDiff, Int.reduceToNat, Int.reduceLT, Int.reduceLE, Int.reduceAdd, Int.reduceSub, Int.reduceMul, Int.reduceBEq, Int.reduceBNe, encB, encI, encC, V.cells_mk, V.cells_len, Nat.mul_one, Int.sub_zero, List.map_nil, beq_self_eq_true, List.head?_cons, *]); (try exact rfl); done)) | ((with_reducible refine w_last ?_ ?_ ?_); (focus kernel_rfl); (focus rfl)) | ((with_reducible apply w_stepG); (focus rfl)) | ((with_reducible apply lk_mem); (focus ((repeat (first | exact mm_h | apply mm_t)); done))) | with_reducible refine Go2.go ?_ | ((with_reducible apply sto_go); (focus (intro cs'; repeat (first | exact ra_h | apply ra_t)))) | ((with_reducible refine al_go ?_); intro b) | ((with_reducible refine And.intro ?_ ?_); (focus ((repeat (first | exact keep_none | exact keep_nil | exact keep_ro | refine keep_cons ?_)); done))) | ((with_reducible refine s_bi ?_ ?_); (focus rfl)) | with_reducible refine blk_ne rfl ?_ | ((with_reducible refine w_region ?_ ?_); (focus kernel_rfl)) | ((with_reducible refine w_draw [] ?_ ?_ ?_ ?_ ?_); (iterate 3 (focus kernel_rfl)); (focus exact keeps_nil)) | ((with_reducible first | refine gd_d1 ?_ ?_ | refine gd_d0 ?_ ?_); all_goals (intro hb; (first | with_reducible replace hb := nt_t hb | with_reducible replace hb := nt_f hb | skip); (first | replace hb := dc_t hb | replace hb := dc_f hb | have hb1 := eq_b hb | have hb1 := ne_b hb | have hb1 := bne_t hb | have hb1 := bne_f hb | skip); (try (exfalso; first | contradiction | omega)))))
      · exact ⟨.box b5 4 [.s (.bool true)] :: .box b4 38 [.sl .shared X1, .sl .shared X2] :: .box b3 3 [.i v] :: .box b2 33 [.str nm, .sl .shared SL, .sl .shared TL] :: st, .cons _ (.refl _), ⟨x, rfl, hvx.out hb, by rw [hX1.out, hX2.out]⟩⟩
      · exact ⟨.box b5 4 [.s (.bool false)] :: .box b4 38 [.sl .tight [], .sl .tight []] :: .box b3 3 [.i v] :: .box b2 33 [.str nm, .sl .shared SL, .sl .shared TL] :: st, .cons _ (.refl _), hnx.out hb, rfl⟩
    · rintro d K1 C' rfl ⟨hj, rfl⟩
      have hVN : VT = none := by
        rw [hver2.out]
        split
        · rename_i h1
          refine List.getElem?_eq_none ?_
          have hl := hLl.out
          refine Nat.le_of_not_lt fun hlt => ?_
          exact hj.out (v - 1).toNat (by omega) (by omega)
        · rfl
      subst hVN
      clear hIt hj hver2
      change Tr _ _ _ _ _ _ _
      repeat' (first | with_reducible refine Go1.go ?_ | ((with_reducible apply ev_go); (focus (try simp (disch := omega) only [push_cast, Nat.reduceEqDiff, reduceCtorEq, ↓reduceIte, Nat.reduceAdd, Nat.reduceMul, Nat.reduceSub, Nat.reduceLT, Nat.reduceLeDiff, Int.reduceToNat, Int.reduceLT, Int.reduceLE, Int.reduceAdd, Int.reduceSub, Int.reduceMul, Int.reduceBEq, Int.reduceBNe, encB, encI, encC, V.cells_mk, V.cells_len, Nat.mul_one, Int.sub_zero, List.map_nil, beq_self_eq_true, List.head?_cons, *]); (try exact rfl); done)) | ((with_reducible refine w_last ?_ ?_ ?_); (focus kernel_rfl); (focus rfl)) | ((with_reducible apply w_stepG); (focus rfl)) | ((with_reducible apply lk_mem); (focus ((repeat (first | exact mm_h | apply mm_t)); done))) | with_reducible refine Go2.go ?_ | ((with_reducible apply sto_go); (focus (intro cs'; repeat (first | exact ra_h | apply ra_t)))) | ((with_reducible refine al_go ?_); intro b) | ((with_reducible refine And.intro ?_ ?_); (focus ((repeat (first | exact keep_none | exact keep_nil | exact keep_ro | refine keep_cons ?_)); done))) | ((with_reducible refine s_bi ?_ ?_); (focus rfl)) | with_reducible refine blk_ne rfl ?_ | ((with_reducible refine w_region ?_ ?_); (focus kernel_rfl)) | ((with_reducible refine w_draw [] ?_ ?_ ?_ ?_ ?_); (iterate 3 (focus kernel_rfl)); (focus exact keeps_nil)) | ((with_reducible first | refine gd_d1 ?_ ?_ | refine gd_d0 ?_ ?_); all_goals (intro hb; (first | with_reducible replace hb := nt_t hb | with_reducible replace hb := nt_f hb | skip); (first | replace hb := dc_t hb | replace hb := dc_f hb | have hb1 := eq_b hb | have hb1 := ne_b hb | have hb1 := bne_t hb | have hb1 := bne_f hb | skip); (try (exfalso; first | contradiction | omega)))))
      all_goals exact retG_mk (rs := [d]) (s2 := .box tb 33 [.str nm, .sl .shared SL, .sl .shared TL] :: .box b5 4 [.s (.bool false)] :: .box b4 38 [.sl .tight [], .sl .tight []] :: .box b3 3 [.i v] :: .box b2 33 [.str nm, .sl .shared SL, .sl .shared TL] :: st) (by first | exact .inl rfl | exact .inr rfl) rfl (List.Perm.refl _) ⟨_, _, rfl, cell_mk (by simp (disch := omega) only [push_cast, Nat.reduceEqDiff, reduceCtorEq, ↓reduceIte, Nat.reduceAdd, Nat.reduceMul, Nat.reduceSub, Nat.reduceLT, Nat.reduceLeDiff, Int.reduceToNat, Int.reduceLT, Int.reduceLE, Int.reduceAdd, Int.reduceSub, Int.reduceMul, Int.reduceBEq, Int.reduceBNe, encB, encI, encC, V.cells_mk, V.cells_len, Nat.mul_one, Int.sub_zero, List.map_nil, beq_self_eq_true, List.head?_cons, *]; exact rfl) (by repeat (first | exact mm_h | apply mm_t)) (by simp (disch := omega) only [push_cast, Nat.reduceEqDiff, reduceCtorEq, ↓reduceIte, Nat.reduceAdd, Nat.reduceMul, Nat.reduceSub, Nat.reduceLT, Nat.reduceLeDiff, Int.reduceToNat, Int.reduceLT, Int.reduceLE, Int.reduceAdd, Int.reduceSub, Int.reduceMul, Int.reduceBEq, Int.reduceBNe, encB, encI, encC, V.cells_mk, V.cells_len, Nat.mul_one, Int.sub_zero, List.map_nil, beq_self_eq_true, List.head?_cons, *]; exact rfl) (by (try simp (disch := omega) only [push_cast, Nat.reduceEqDiff, reduceCtorEq, ↓reduceIte, Nat.reduceAdd, Nat.reduceMul, Nat.reduceSub, Nat.reduceLT, Nat.reduceLeDiff, Int.reduceToNat, Int.reduceLT, Int.reduceLE, Int.reduceAdd, Int.reduceSub, Int.reduceMul, Int.reduceBEq, Int.reduceBNe, encB, encI, encC, V.cells_mk, V.cells_len, Nat.mul_one, Int.sub_zero, List.map_nil, beq_self_eq_true, List.head?_cons, *]); (try exact rfl); done), cell_mk (by simp (disch := omega) only [push_cast, Nat.reduceEqDiff, reduceCtorEq, ↓reduceIte, Nat.reduceAdd, Nat.reduceMul, Nat.reduceSub, Nat.reduceLT, Nat.reduceLeDiff, Int.reduceToNat, Int.reduceLT, Int.reduceLE, Int.reduceAdd, Int.reduceSub, Int.reduceMul, Int.reduceBEq, Int.reduceBNe, encB, encI, encC, V.cells_mk, V.cells_len, Nat.mul_one, Int.sub_zero, List.map_nil, beq_self_eq_true, List.head?_cons, *]; exact rfl) (by repeat (first | exact mm_h | apply mm_t)) (by simp (disch := omega) only [push_cast, Nat.reduceEqDiff, reduceCtorEq, ↓reduceIte, Nat.reduceAdd, Nat.reduceMul, Nat.reduceSub, Nat.reduceLT, Nat.reduceLeDiff, Int.reduceToNat, Int.reduceLT, Int.reduceLE, Int.reduceAdd, Int.reduceSub, Int.reduceMul, Int.reduceBEq, Int.reduceBNe, encB, encI, encC, V.cells_mk, V.cells_len, Nat.mul_one, Int.sub_zero, List.map_nil, beq_self_eq_true, List.head?_cons, *]; exact rfl) (by (try simp (disch := omega) only [push_cast, Nat.reduceEqDiff, reduceCtorEq, ↓reduceIte, Nat.reduceAdd, Nat.reduceMul, Nat.reduceSub, Nat.reduceLT, Nat.reduceLeDiff, Int.reduceToNat, Int.reduceLT, Int.reduceLE, Int.reduceAdd, Int.reduceSub, Int.reduceMul, Int.reduceBEq, Int.reduceBNe, encB, encI, encC, V.cells_mk, V.cells_len, Nat.mul_one, Int.sub_zero, List.map_nil, beq_self_eq_true, List.head?_cons, *]); (try exact rfl); done)⟩ (by (repeat (first | exact List.Sublist.refl _ | with_reducible apply List.Sublist.cons_cons | apply List.Sublist.cons))) (LE.tup (l' := [.agg [.sl .shared [], .sl .shared []], .b false]) ⟨LE.agg (l := [.sl .tight [], .sl .tight []]) ⟨LE.sl _ _, LE.sl _ _, trivial⟩, LE.refl _, trivial⟩) ⟨rfl, rfl⟩
    · rintro c d i K1 C' rfl ⟨x, rfl, hx, rfl⟩
      have hVS := hx.out
      subst hVS
      clear hIt hver2
      repeat' (first | with_reducible refine Go1.go ?_ | ((with_reducible apply ev_go); (focus (try simp (disch := omega) only [push_cast, Nat.reduceEqDiff, reduceCtorEq, ↓reduceIte, Nat.reduceAdd, Nat.reduceMul, Nat.reduceSub, Nat.reduceLT, Nat.reduceLeDiff, Int.reduceToNat, Int.reduceLT, Int.reduceLE, Int.reduceAdd, Int.reduceSub, Int.reduceMul, Int.reduceBEq, Int.reduceBNe, encB, encI, encC, V.cells_mk, V.cells_len, Nat.mul_one, Int.sub_zero, List.map_nil, beq_self_eq_true, List.head?_cons, *]); (try exact rfl); done)) | ((with_reducible refine w_last ?_ ?_ ?_); (focus kernel_rfl); (focus rfl)) | ((with_reducible apply w_stepG); (focus rfl)) | ((with_reducible apply lk_mem); (focus ((repeat (first | exact mm_h | apply mm_t)); done))) | with_reducible refine Go2.go ?_ | ((with_reducible apply sto_go); (focus (intro cs'; repeat (first | exact ra_h | apply ra_t)))) | ((with_reducible refine al_go ?_); intro b) | ((with_reducible refine And.intro ?_ ?_); (focus ((repeat (first | exact keep_none | exact keep_nil | exact keep_ro | refine keep_cons ?_)); done))) | ((with_reducible refine s_bi ?_ ?_); (focus rfl)) | with_reducible refine blk_ne rfl ?_ | ((with_reducible refine w_region ?_ ?_); (focus kernel_rfl)) | ((with_reducible refine w_draw [] ?_ ?_ ?_ ?_ ?_); (iterate 3 (focus kernel_rfl)); (focus exact keeps_nil)) | ((with_reducible first | refine gd_d1 ?_ ?_ | refine gd_d0 ?_ ?_); all_goals (intro hb; (first | with_reducible replace hb := nt_t hb | with_reducible replace hb := nt_f hb | skip); (first | replace hb := dc_t hb | replace hb := dc_f hb | have hb1 := eq_b hb | have hb1 := ne_b hb | have hb1 := bne_t hb | have hb1 := bne_f hb | skip); (try (exfalso; first | contradiction | omega)))))
      all_goals exact retG_mk (rs := [d]) (s2 := .box tb 33 [.str nm, .sl .shared SL, .sl .shared TL] :: .box b5 4 [.s (.bool true)] :: .box b4 38 x.cells :: .box b3 3 [.i v] :: .box b2 33 [.str nm, .sl .shared SL, .sl .shared TL] :: st) (by first | exact .inl rfl | exact .inr rfl) rfl (List.Perm.refl _) ⟨_, _, rfl, cell_mk (by simp (disch := omega) only [push_cast, Nat.reduceEqDiff, reduceCtorEq, ↓reduceIte, Nat.reduceAdd, Nat.reduceMul, Nat.reduceSub, Nat.reduceLT, Nat.reduceLeDiff, Int.reduceToNat, Int.reduceLT, Int.reduceLE, Int.reduceAdd, Int.reduceSub, Int.reduceMul, Int.reduceBEq, Int.reduceBNe, encB, encI, encC, V.cells_mk, V.cells_len, Nat.mul_one, Int.sub_zero, List.map_nil, beq_self_eq_true, List.head?_cons, *]; exact rfl) (by repeat (first | exact mm_h | apply mm_t)) (by simp (disch := omega) only [push_cast, Nat.reduceEqDiff, reduceCtorEq, ↓reduceIte, Nat.reduceAdd, Nat.reduceMul, Nat.reduceSub, Nat.reduceLT, Nat.reduceLeDiff, Int.reduceToNat, Int.reduceLT, Int.reduceLE, Int.reduceAdd, Int.reduceSub, Int.reduceMul, Int.reduceBEq, Int.reduceBNe, encB, encI, encC, V.cells_mk, V.cells_len, Nat.mul_one, Int.sub_zero, List.map_nil, beq_self_eq_true, List.head?_cons, *]; exact rfl) (by (try simp (disch := omega) only [push_cast, Nat.reduceEqDiff, reduceCtorEq, ↓reduceIte, Nat.reduceAdd, Nat.reduceMul, Nat.reduceSub, Nat.reduceLT, Nat.reduceLeDiff, Int.reduceToNat, Int.reduceLT, Int.reduceLE, Int.reduceAdd, Int.reduceSub, Int.reduceMul, Int.reduceBEq, Int.reduceBNe, encB, encI, encC, V.cells_mk, V.cells_len, Nat.mul_one, Int.sub_zero, List.map_nil, beq_self_eq_true, List.head?_cons, *]); (try exact rfl); done), cell_mk (by simp (disch := omega) only [push_cast, Nat.reduceEqDiff, reduceCtorEq, ↓reduceIte, Nat.reduceAdd, Nat.reduceMul, Nat.reduceSub, Nat.reduceLT, Nat.reduceLeDiff, Int.reduceToNat, Int.reduceLT, Int.reduceLE, Int.reduceAdd, Int.reduceSub, Int.reduceMul, Int.reduceBEq, Int.reduceBNe, encB, encI, encC, V.cells_mk, V.cells_len, Nat.mul_one, Int.sub_zero, List.map_nil, beq_self_eq_true, List.head?_cons, *]; exact rfl) (by repeat (first | exact mm_h | apply mm_t)) (by simp (disch := omega) only [push_cast, Nat.reduceEqDiff, reduceCtorEq, ↓reduceIte, Nat.reduceAdd, Nat.reduceMul, Nat.reduceSub, Nat.reduceLT, Nat.reduceLeDiff, Int.reduceToNat, Int.reduceLT, Int.reduceLE, Int.reduceAdd, Int.reduceSub, Int.reduceMul, Int.reduceBEq, Int.reduceBNe, encB, encI, encC, V.cells_mk, V.cells_len, Nat.mul_one, Int.sub_zero, List.map_nil, beq_self_eq_true, List.head?_cons, *]; exact rfl) (by (try simp (disch := omega) only [push_cast, Nat.reduceEqDiff, reduceCtorEq, ↓reduceIte, Nat.reduceAdd, Nat.reduceMul, Nat.reduceSub, Nat.reduceLT, Nat.reduceLeDiff, Int.reduceToNat, Int.reduceLT, Int.reduceLE, Int.reduceAdd, Int.reduceSub, Int.reduceMul, Int.reduceBEq, Int.reduceBNe, encB, encI, encC, V.cells_mk, V.cells_len, Nat.mul_one, Int.sub_zero, List.map_nil, beq_self_eq_true, List.head?_cons, *]); (try exact rfl); done)⟩ (by (repeat (first | exact List.Sublist.refl _ | with_reducible apply List.Sublist.cons_cons | apply List.Sublist.cons))) (LE.refl _) ⟨rfl, rfl⟩
  · rw [decide_eq_false hr] at hRi
    replace hRi := Lib.hid hRi
    have hver2 : VT = none := by rw [hver.out]; simp [hr]
    subst hver2
    repeat' (first | with_reducible refine Go1.go ?_ | ((with_reducible apply ev_go); (focus (try simp (disch := omega) only [push_cast, Nat.reduceEqDiff, reduceCtorEq, ↓reduceIte, Nat.reduceAdd, Nat.reduceMul, Nat.reduceSub, Nat.reduceLT, Nat.reduceLeDiff, Int.reduceToNat, Int.reduceLT, Int.reduceLE, Int.reduceAdd, Int.reduceSub, Int.reduceMul, Int.reduceBEq, Int.reduceBNe, encB, encI, encC, V.cells_mk, V.cells_len, Nat.mul_one, Int.sub_zero, List.map_nil, beq_self_eq_true, List.head?_cons, *]); (try exact rfl); done)) | with_reducible refine s_boxP ?_ | ((with_reducible refine w_last ?_ ?_ ?_); (focus kernel_rfl); (focus rfl)) | ((with_reducible apply w_stepG); (focus rfl)) | ((with_reducible apply lk_mem); (focus ((repeat (first | exact mm_h | apply mm_t)); done))) | with_reducible refine Go2.go ?_ | ((with_reducible apply sto_go); (focus (intro cs'; repeat (first | exact ra_h | apply ra_t)))) | ((with_reducible refine al_go ?_); intro b) | ((with_reducible refine And.intro ?_ ?_); (focus ((repeat (first | exact keep_none | exact keep_nil | exact keep_ro | refine keep_cons ?_)); done))) | ((with_reducible apply (ck_le Try.call16)); (focus exact LEL.refl _); (focus exact hRi.out _)) | ((with_reducible apply (ck_ex Try.call45)); (focus exact LEL.refl _); (focus exact hVF.out _); (focus exact ⟨0, trivial⟩); intro tb htb) | ((with_reducible refine s_bi ?_ ?_); (focus rfl)) | with_reducible refine blk_ne rfl ?_ | ((with_reducible refine w_region ?_ ?_); (focus kernel_rfl)) | ((with_reducible refine w_draw [] ?_ ?_ ?_ ?_ ?_); (iterate 3 (focus kernel_rfl)); (focus exact keeps_nil)) | ((with_reducible first | refine gd_d1 ?_ ?_ | refine gd_d0 ?_ ?_); all_goals (intro hb; (first | with_reducible replace hb := nt_t hb | with_reducible replace hb := nt_f hb | skip); (first | replace hb := dc_t hb | replace hb := dc_f hb | have hb1 := eq_b hb | have hb1 := ne_b hb | have hb1 := bne_t hb | have hb1 := bne_f hb | skip); (try (exfalso; first | contradiction | omega)))))
    all_goals exact retG_mk (rs := []) (by first | exact .inl rfl | exact .inr rfl) (by first | rfl | assumption) (List.Perm.refl _) ⟨_, _, rfl, cell_mk (by simp (disch := omega) only [push_cast, Nat.reduceEqDiff, reduceCtorEq, ↓reduceIte, Nat.reduceAdd, Nat.reduceMul, Nat.reduceSub, Nat.reduceLT, Nat.reduceLeDiff, Int.reduceToNat, Int.reduceLT, Int.reduceLE, Int.reduceAdd, Int.reduceSub, Int.reduceMul, Int.reduceBEq, Int.reduceBNe, encB, encI, encC, V.cells_mk, V.cells_len, Nat.mul_one, Int.sub_zero, List.map_nil, beq_self_eq_true, List.head?_cons, *]; exact rfl) (by repeat (first | exact mm_h | apply mm_t)) (by simp (disch := omega) only [push_cast, Nat.reduceEqDiff, reduceCtorEq, ↓reduceIte, Nat.reduceAdd, Nat.reduceMul, Nat.reduceSub, Nat.reduceLT, Nat.reduceLeDiff, Int.reduceToNat, Int.reduceLT, Int.reduceLE, Int.reduceAdd, Int.reduceSub, Int.reduceMul, Int.reduceBEq, Int.reduceBNe, encB, encI, encC, V.cells_mk, V.cells_len, Nat.mul_one, Int.sub_zero, List.map_nil, beq_self_eq_true, List.head?_cons, *]; exact rfl) (by (try simp (disch := omega) only [push_cast, Nat.reduceEqDiff, reduceCtorEq, ↓reduceIte, Nat.reduceAdd, Nat.reduceMul, Nat.reduceSub, Nat.reduceLT, Nat.reduceLeDiff, Int.reduceToNat, Int.reduceLT, Int.reduceLE, Int.reduceAdd, Int.reduceSub, Int.reduceMul, Int.reduceBEq, Int.reduceBNe, encB, encI, encC, V.cells_mk, V.cells_len, Nat.mul_one, Int.sub_zero, List.map_nil, beq_self_eq_true, List.head?_cons, *]); (try exact rfl); done), cell_mk (by simp (disch := omega) only [push_cast, Nat.reduceEqDiff, reduceCtorEq, ↓reduceIte, Nat.reduceAdd, Nat.reduceMul, Nat.reduceSub, Nat.reduceLT, Nat.reduceLeDiff, Int.reduceToNat, Int.reduceLT, Int.reduceLE, Int.reduceAdd, Int.reduceSub, Int.reduceMul, Int.reduceBEq, Int.reduceBNe, encB, encI, encC, V.cells_mk, V.cells_len, Nat.mul_one, Int.sub_zero, List.map_nil, beq_self_eq_true, List.head?_cons, *]; exact rfl) (by repeat (first | exact mm_h | apply mm_t)) (by simp (disch := omega) only [push_cast, Nat.reduceEqDiff, reduceCtorEq, ↓reduceIte, Nat.reduceAdd, Nat.reduceMul, Nat.reduceSub, Nat.reduceLT, Nat.reduceLeDiff, Int.reduceToNat, Int.reduceLT, Int.reduceLE, Int.reduceAdd, Int.reduceSub, Int.reduceMul, Int.reduceBEq, Int.reduceBNe, encB, encI, encC, V.cells_mk, V.cells_len, Nat.mul_one, Int.sub_zero, List.map_nil, beq_self_eq_true, List.head?_cons, *]; exact rfl) (by (try simp (disch := omega) only [push_cast, Nat.reduceEqDiff, reduceCtorEq, ↓reduceIte, Nat.reduceAdd, Nat.reduceMul, Nat.reduceSub, Nat.reduceLT, Nat.reduceLeDiff, Int.reduceToNat, Int.reduceLT, Int.reduceLE, Int.reduceAdd, Int.reduceSub, Int.reduceMul, Int.reduceBEq, Int.reduceBNe, encB, encI, encC, V.cells_mk, V.cells_len, Nat.mul_one, Int.sub_zero, List.map_nil, beq_self_eq_true, List.head?_cons, *]); (try exact rfl); done)⟩ (by (repeat (first | exact List.Sublist.refl _ | with_reducible apply List.Sublist.cons_cons | apply List.Sublist.cons))) (LE.tup (l' := [.agg [.sl .shared [], .sl .shared []], .b false]) ⟨LE.agg (l := [.sl .tight [], .sl .tight []]) ⟨LE.sl _ _, LE.sl _ _, trivial⟩, LE.refl _, trivial⟩) ⟨rfl, rfl⟩
end Go.Proofs.Ytooaagmhgakhgaa
end

section
namespace Go.Proofs.Ytooaagmhgakhgaa
set_option linter.unusedSimpArgs false
open Go.RowKit
theorem w_drawRN {P : Program} {r : Option Nat} {st : St} {N : Nat} {id : Nat} {l : List Oper} {A : AA} {Q : Exit → AA → St → Prop} (hm : P.follows .mixedOrders = true) (hB : mixBA .any l.toArray = true) (hok : opsOk N l = true)
    (h : nes st → W P r (some (roOf st)) l.toArray (Q .normal) l A st) : Tr P N r (.region id l.toArray true) A st Q := tr_nes fun hne => w_draw (roOf st) hm hB hok (keeps_roOf st) (h hne)
end Go.Proofs.Ytooaagmhgakhgaa
end

section
namespace Go.Proofs.Ytooaagmhgakhgaa
set_option linter.unusedSimpArgs false
open Go.RowKit
set_option maxRecDepth 10000
set_option maxHeartbeats 4000000
theorem refIntsI (o o' : Own) (a b : List Int) (st : St) : TrF Try.prog 20 [.sl o (a.map encI), .sl o' (b.map encI)] st fun d st' => d = .b (decide (a = b)) ∧ st' = st :=
  trF_pure fun vs w hv => by
    obtain ⟨v, v', rfl, h1, h2⟩ := args2 hv
    exact ⟨_, fun _ _ => .s _ rfl, (ints_any v v' a b w (sees_of_rep (f := iv) h1) (sees_of_rep (f := iv) h2)).mono fun _ _ ⟨h, n, e⟩ => ⟨h, by subst e; exact ⟨rfl, rfl, rfl, Nat.le_refl _, fun _ _ => rfl⟩⟩⟩
theorem encC_I (l : List Nat) : l.map encC = (l.map fun n : Nat => (n : Int)).map encI := by
  rw [List.map_map]; rfl
theorem natInt_inj {a b : List Nat} : (a.map fun n : Nat => (n : Int)) = (b.map fun n : Nat => (n : Int)) ↔ a = b :=
  ⟨fun h => by
    induction a generalizing b with
    | nil => cases b with
      | nil => rfl
      | cons y b => simp at h
    | cons x a ih => cases b with
      | nil => simp at h
      | cons y b =>
        simp only [List.map_cons, List.cons.injEq] at h
        rw [show x = y by omega, ih h.2], fun h => by rw [h]⟩
theorem refIntsF (o o' : Own) (a b : List Nat) (st : St) : TrF Try.prog 20 [.sl o (a.map encC), .sl o' (b.map encC)] st fun d st' => d = .b (decide (a = b)) ∧ st' = st := by
  have h := refIntsI o o' (a.map fun n : Nat => (n : Int)) (b.map fun n : Nat => (n : Int)) st
  rw [encC_I, encC_I, ← decide_eq_decide.2 (natInt_inj (a := a) (b := b))]
  exact h
def twoT : Tm := ⟨⟨#[116]⟩, [⟨⟨#[97]⟩, 4, false, .mk 2 0 ⟨#[]⟩ []⟩, ⟨⟨#[98]⟩, 4, true, .mk 2 0 ⟨#[]⟩ []⟩], [⟨2, 0, ⟨⟨#[]⟩, 0, false, .mk 0 0 ⟨#[]⟩ []⟩, []⟩, ⟨1, 0, ⟨⟨#[99]⟩, 5, false, .mk 0 0 ⟨#[]⟩ []⟩, []⟩]⟩
theorem twoC : twoT.cells = [.str ⟨#[116]⟩, .sl .shared [[.str ⟨#[97]⟩, .i 4, .b false, .i 2, .i 0, .str ⟨#[]⟩, .sl .shared []], [.str ⟨#[98]⟩, .i 4, .b true, .i 2, .i 0, .str ⟨#[]⟩, .sl .shared []]],
    .sl .shared [[.i 2, .i 0, .str ⟨#[]⟩, .i 0, .b false, .i 0, .i 0, .str ⟨#[]⟩, .sl .shared [], .sl .shared []], [.i 1, .i 0, .str ⟨#[99]⟩, .i 5, .b false, .i 0, .i 0, .str ⟨#[]⟩, .sl .shared [], .sl .shared []]]] := by
  unfold twoT Tm.cells
  simp only [List.map_cons, List.map_nil, Stp.cells, Sl.cells_mk, List.cons_append, List.nil_append]
theorem refInt10F (n : Int) (st : St) : TrF Try.prog 39 [.i n] st fun x st' => x = .agg (V.mk 2 n ⟨#[]⟩ []).cells ∧ st' = st := by
  refine trF_enterC (G := cellA 2 24 Try.prog) Try.func39 rfl (by rw [Try.ntmps39]; exact Nat.le_of_ble_eq_true rfl) (fun h1 h2 h3 => res_cell rfl h1 h2 h3) ?_
  simp only [Try.ntmps39]
  repeat' (first | with_reducible refine Go1.go ?_ | ((with_reducible apply ev_go); (focus (try simp (disch := omega) only [push_cast, Nat.reduceEqDiff, reduceCtorEq, ↓reduceIte, Nat.reduceAdd, Nat.reduceMul, Nat.reduceSub, Nat.reduceLT, Nat.reduceLeDiff, Int.reduceToNat, Int.reduceLT, Int.reduceLE, Int.reduceAdd, Int.reduceSub, Int.reduceMul, Int.reduceBEq, Int.reduceBNe, encB, encI, encC, V.cells_mk, V.cells_len, Nat.mul_one, Int.sub_zero, List.map_nil, beq_self_eq_true, List.head?_cons, *]); (try exact rfl); done)) | ((with_reducible refine w_last ?_ ?_ ?_); (focus kernel_rfl); (focus rfl)) | ((with_reducible apply w_stepG); (focus rfl)) | ((with_reducible apply lk_mem); (focus ((repeat (first | exact mm_h | apply mm_t)); done))) | with_reducible refine Go2.go ?_ | ((with_reducible apply sto_go); (focus (intro cs'; repeat (first | exact ra_h | apply ra_t)))) | ((with_reducible refine al_go ?_); intro b) | ((with_reducible refine And.intro ?_ ?_); (focus ((repeat (first | exact keep_none | exact keep_nil | exact keep_ro | refine keep_cons ?_)); done))) | ((with_reducible refine s_bi ?_ ?_); (focus rfl)) | with_reducible refine blk_ne rfl ?_ | ((with_reducible refine w_region ?_ ?_); (focus kernel_rfl)) | ((with_reducible refine w_draw [] ?_ ?_ ?_ ?_ ?_); (iterate 3 (focus kernel_rfl)); (focus exact keeps_nil)) | ((with_reducible first | refine gd_d1 ?_ ?_ | refine gd_d0 ?_ ?_); all_goals (intro hb; (first | with_reducible replace hb := nt_t hb | with_reducible replace hb := nt_f hb | skip); (first | replace hb := dc_t hb | replace hb := dc_f hb | have hb1 := eq_b hb | have hb1 := ne_b hb | have hb1 := bne_t hb | have hb1 := bne_f hb | skip); (try (exfalso; first | contradiction | omega)))))
  all_goals (refine retC_cell (by first | exact .inl rfl | exact .inr rfl) (by first | rfl | assumption) (by simp (disch := omega) only [push_cast, Nat.reduceEqDiff, reduceCtorEq, ↓reduceIte, Nat.reduceAdd, Nat.reduceMul, Nat.reduceSub, Nat.reduceLT, Nat.reduceLeDiff, Int.reduceToNat, Int.reduceLT, Int.reduceLE, Int.reduceAdd, Int.reduceSub, Int.reduceMul, Int.reduceBEq, Int.reduceBNe, encB, encI, encC, V.cells_mk, V.cells_len, Nat.mul_one, Int.sub_zero, List.map_nil, beq_self_eq_true, List.head?_cons, *]; exact rfl) (by repeat (first | exact mm_h | apply mm_t)) (by simp (disch := omega) only [push_cast, Nat.reduceEqDiff, reduceCtorEq, ↓reduceIte, Nat.reduceAdd, Nat.reduceMul, Nat.reduceSub, Nat.reduceLT, Nat.reduceLeDiff, Int.reduceToNat, Int.reduceLT, Int.reduceLE, Int.reduceAdd, Int.reduceSub, Int.reduceMul, Int.reduceBEq, Int.reduceBNe, encB, encI, encC, V.cells_mk, V.cells_len, Nat.mul_one, Int.sub_zero, List.map_nil, beq_self_eq_true, List.head?_cons, *]; exact rfl) (by (try simp (disch := omega) only [push_cast, Nat.reduceEqDiff, reduceCtorEq, ↓reduceIte, Nat.reduceAdd, Nat.reduceMul, Nat.reduceSub, Nat.reduceLT, Nat.reduceLeDiff, Int.reduceToNat, Int.reduceLT, Int.reduceLE, Int.reduceAdd, Int.reduceSub, Int.reduceMul, Int.reduceBEq, Int.reduceBNe, encB, encI, encC, V.cells_mk, V.cells_len, Nat.mul_one, Int.sub_zero, List.map_nil, beq_self_eq_true, List.head?_cons, *]); (try exact rfl); done) (by (repeat (first | exact List.Sublist.refl _ | apply List.Sublist.cons))) ?_ ⟨rfl, rfl⟩; (try simp (disch := omega) only [push_cast, Nat.reduceEqDiff, reduceCtorEq, ↓reduceIte, Nat.reduceAdd, Nat.reduceMul, Nat.reduceSub, Nat.reduceLT, Nat.reduceLeDiff, Int.reduceToNat, Int.reduceLT, Int.reduceLE, Int.reduceAdd, Int.reduceSub, Int.reduceMul, Int.reduceBEq, Int.reduceBNe, encB, encI, encC, V.cells_mk, V.cells_len, Nat.mul_one, Int.sub_zero, List.map_nil, beq_self_eq_true, List.head?_cons, *]); try (first | exact LE.refl _ | exact LE.sl _ _ | (refine LE.tup ?_; (repeat' (first | exact LEL.nil | refine LEL.cons ?_ ?_ | exact LE.refl _ | exact LE.sl _ _ | refine LE.agg ?_)); done) | (refine LE.agg ?_; (repeat' (first | exact LEL.nil | refine LEL.cons ?_ ?_ | exact LE.refl _ | exact LE.sl _ _)); done) | refine LE.of_eq ?_))
theorem twoOk : TOk twoT := by
  refine ⟨by decide, by decide, ?_, ?_⟩
  · intro s hs
    simp only [twoT, List.mem_cons, List.not_mem_nil, or_false] at hs
    rcases hs with rfl | rfl <;> decide
  · intro s hs
    have hb : ∀ k n : Int, (V.mk k n ⟨#[]⟩ []).Bg := fun _ _ => .mk (Nat.zero_le _) (Nat.zero_le _) fun x h => by cases h
    simp only [twoT, List.mem_cons, List.not_mem_nil, or_false] at hs
    rcases hs with rfl | rfl <;> exact ⟨by decide, hb _ _, by decide⟩
theorem two2 : Sch.verX twoT 2 = ⟨[⟨⟨#[97]⟩, 4, false, .mk 2 0 ⟨#[]⟩ []⟩, ⟨⟨#[98]⟩, 4, true, .mk 2 0 ⟨#[]⟩ []⟩], [1]⟩ ∧ Sch.verB twoT 2 = true := by
  constructor <;> kernel_rfl
theorem two3 : Sch.verX twoT 3 = ⟨[⟨⟨#[97]⟩, 4, false, .mk 2 0 ⟨#[]⟩ []⟩, ⟨⟨#[98]⟩, 4, true, .mk 2 0 ⟨#[]⟩ []⟩, ⟨⟨#[99]⟩, 5, false, .mk 0 0 ⟨#[]⟩ []⟩], [1, 2]⟩ ∧ Sch.verB twoT 3 = true := by
  constructor <;> kernel_rfl
theorem two4 : Sch.verB twoT 4 = false := by kernel_rfl
theorem twoL : Sch.last twoT = 3 := by kernel_rfl
abbrev sA : List D := [.str ⟨#[97]⟩, .i 4, .b false, .i 2, .i 0, .str ⟨#[]⟩, .sl .shared []]
abbrev sB : List D := [.str ⟨#[98]⟩, .i 4, .b true, .i 2, .i 0, .str ⟨#[]⟩, .sl .shared []]
abbrev sC : List D := [.str ⟨#[99]⟩, .i 5, .b false, .i 0, .i 0, .str ⟨#[]⟩, .sl .shared []]
theorem twoF (st : St) : TrF Try.prog 37 [] st fun d st' => d = .agg twoT.cells ∧ st' = st := by
  have hI := refInt10F 0
  rw [V.cells_mk] at hI
  rw [twoC]
  replace hI := Lib.hid hI
  refine trF_enterC (G := cellA 0 33 Try.prog) Try.func37 rfl (by rw [Try.ntmps37]; exact Nat.le_of_ble_eq_true rfl) (fun h1 h2 h3 => res_cell rfl h1 h2 h3) ?_
  simp only [Try.ntmps37]
  repeat' (first | with_reducible refine Go1.go ?_ | ((with_reducible apply ev_go); (focus (try simp (disch := omega) only [push_cast, Nat.reduceEqDiff, reduceCtorEq, ↓reduceIte, Nat.reduceAdd, Nat.reduceMul, Nat.reduceSub, Nat.reduceLT, Nat.reduceLeDiff, Int.reduceToNat, Int.reduceLT, Int.reduceLE, Int.reduceAdd, Int.reduceSub, Int.reduceMul, Int.reduceBEq, Int.reduceBNe, encB, encI, encC, V.cells_mk, V.cells_len, Nat.mul_one, Int.sub_zero, List.map_nil, beq_self_eq_true, List.head?_cons, *]); (try exact rfl); done)) | ((with_reducible refine w_last ?_ ?_ ?_); (focus kernel_rfl); (focus rfl)) | ((with_reducible apply w_stepG); (focus rfl)) | ((with_reducible apply lk_mem); (focus ((repeat (first | exact mm_h | apply mm_t)); done))) | with_reducible refine Go2.go ?_ | ((with_reducible apply sto_go); (focus (intro cs'; repeat (first | exact ra_h | apply ra_t)))) | ((with_reducible refine al_go ?_); intro b) | ((with_reducible refine And.intro ?_ ?_); (focus ((repeat (first | exact keep_none | exact keep_nil | exact keep_ro | refine keep_cons ?_)); done))) | ((with_reducible apply (ck_le Try.call39)); (focus exact LEL.refl _); (focus exact hI.out _)) | ((with_reducible refine s_bi ?_ ?_); (focus rfl)) | with_reducible refine blk_ne rfl ?_ | ((with_reducible refine w_region ?_ ?_); (focus kernel_rfl)) | ((with_reducible refine w_draw [] ?_ ?_ ?_ ?_ ?_); (iterate 3 (focus kernel_rfl)); (focus exact keeps_nil)) | ((with_reducible first | refine gd_d1 ?_ ?_ | refine gd_d0 ?_ ?_); all_goals (intro hb; (first | with_reducible replace hb := nt_t hb | with_reducible replace hb := nt_f hb | skip); (first | replace hb := dc_t hb | replace hb := dc_f hb | have hb1 := eq_b hb | have hb1 := ne_b hb | have hb1 := bne_t hb | have hb1 := bne_f hb | skip); (try (exfalso; first | contradiction | omega)))))
  all_goals (refine retC_cell (by first | exact .inl rfl | exact .inr rfl) (by first | rfl | assumption) (by simp (disch := omega) only [push_cast, Nat.reduceEqDiff, reduceCtorEq, ↓reduceIte, Nat.reduceAdd, Nat.reduceMul, Nat.reduceSub, Nat.reduceLT, Nat.reduceLeDiff, Int.reduceToNat, Int.reduceLT, Int.reduceLE, Int.reduceAdd, Int.reduceSub, Int.reduceMul, Int.reduceBEq, Int.reduceBNe, encB, encI, encC, V.cells_mk, V.cells_len, Nat.mul_one, Int.sub_zero, List.map_nil, beq_self_eq_true, List.head?_cons, *]; exact rfl) (by repeat (first | exact mm_h | apply mm_t)) (by simp (disch := omega) only [push_cast, Nat.reduceEqDiff, reduceCtorEq, ↓reduceIte, Nat.reduceAdd, Nat.reduceMul, Nat.reduceSub, Nat.reduceLT, Nat.reduceLeDiff, Int.reduceToNat, Int.reduceLT, Int.reduceLE, Int.reduceAdd, Int.reduceSub, Int.reduceMul, Int.reduceBEq, Int.reduceBNe, encB, encI, encC, V.cells_mk, V.cells_len, Nat.mul_one, Int.sub_zero, List.map_nil, beq_self_eq_true, List.head?_cons, *]; exact rfl) (by (try simp (disch := omega) only [push_cast, Nat.reduceEqDiff, reduceCtorEq, ↓reduceIte, Nat.reduceAdd, Nat.reduceMul, Nat.reduceSub, Nat.reduceLT, Nat.reduceLeDiff, Int.reduceToNat, Int.reduceLT, Int.reduceLE, Int.reduceAdd, Int.reduceSub, Int.reduceMul, Int.reduceBEq, Int.reduceBNe, encB, encI, encC, V.cells_mk, V.cells_len, Nat.mul_one, Int.sub_zero, List.map_nil, beq_self_eq_true, List.head?_cons, *]); (try exact rfl); done) (by (repeat (first | exact List.Sublist.refl _ | apply List.Sublist.cons))) ?_ ⟨rfl, rfl⟩; (try simp (disch := omega) only [push_cast, Nat.reduceEqDiff, reduceCtorEq, ↓reduceIte, Nat.reduceAdd, Nat.reduceMul, Nat.reduceSub, Nat.reduceLT, Nat.reduceLeDiff, Int.reduceToNat, Int.reduceLT, Int.reduceLE, Int.reduceAdd, Int.reduceSub, Int.reduceMul, Int.reduceBEq, Int.reduceBNe, encB, encI, encC, V.cells_mk, V.cells_len, Nat.mul_one, Int.sub_zero, List.map_nil, beq_self_eq_true, List.head?_cons, *]); try (first | exact LE.refl _ | exact LE.sl _ _ | (refine LE.tup ?_; (repeat' (first | exact LEL.nil | refine LEL.cons ?_ ?_ | exact LE.refl _ | exact LE.sl _ _ | refine LE.agg ?_)); done) | (refine LE.agg ?_; (repeat' (first | exact LEL.nil | refine LEL.cons ?_ ?_ | exact LE.refl _ | exact LE.sl _ _)); done) | refine LE.of_eq ?_))
theorem sch10AliveF (st : St) : TrF Try.prog 11 [] st fun d st' => d = .b true ∧ st' = st := by
  have hT := twoF
  have hA := schAtF twoT twoOk
  have h2 := hA 2
  have h3 := hA 3
  have h4 := hA 4
  clear hA
  have hR := schRightF twoT twoOk
  have hL := schLastF twoT twoOk
  rw [two2.1, two2.2] at h2
  rw [two3.1, two3.2] at h3
  rw [two4] at h4
  rw [twoL] at hR hL
  have hI1 := Lib.hid (refIntsF .shared .tight [1] [1])
  have hI2 := Lib.hid (refIntsF .shared .tight [1, 2] [1, 2])
  have hC := schColF (Sch.verX twoT 3).slots (Sch.verX twoT 3).cols ⟨#[99]⟩ (by rw [two3.1]; decide) (by rw [two3.1]; decide)
  rw [two3.1] at hC
  have hcv : Sch.colL [⟨⟨#[97]⟩, 4, false, .mk 2 0 ⟨#[]⟩ []⟩, ⟨⟨#[98]⟩, 4, true, .mk 2 0 ⟨#[]⟩ []⟩, ⟨⟨#[99]⟩, 5, false, .mk 0 0 ⟨#[]⟩ []⟩] ⟨#[99]⟩ [1, 2] = 2 := by kernel_rfl
  rw [hcv] at hC
  have hF1 := schFitsF ⟨#[97]⟩ 4 false (.mk 2 0 ⟨#[]⟩ []) (.mk 2 5 ⟨#[]⟩ []) (by decide)
  have hF2 := schFitsF ⟨#[97]⟩ 4 false (.mk 2 0 ⟨#[]⟩ []) (.mk 0 0 ⟨#[]⟩ []) (by decide)
  have hf1 : Sch.fits ⟨⟨#[97]⟩, 4, false, .mk 2 0 ⟨#[]⟩ []⟩ (.mk 2 5 ⟨#[]⟩ []) = true := by kernel_rfl
  have hf2 : Sch.fits ⟨⟨#[97]⟩, 4, false, .mk 2 0 ⟨#[]⟩ []⟩ (.mk 0 0 ⟨#[]⟩ []) = false := by kernel_rfl
  have hI := refInt10F 5
  rw [hf1] at hF1
  rw [hf2] at hF2
  obtain ⟨x4, hx4⟩ : ∃ x, (Sch.verX twoT 4).cells = x := ⟨_, rfl⟩
  have hx4b : ∃ a b, x4 = [.sl .shared a, .sl .shared b] := ⟨_, _, hx4.symm⟩
  rw [hx4] at h4
  clear hx4
  obtain ⟨xa, xb, rfl⟩ := hx4b
  simp only [Vr.cells, List.map_cons, List.map_nil, Sl.cells_mk, encC, V.cells_mk] at h2 h3 hC hF1 hF2 hI
  rw [twoC] at hT h2 h3 h4 hR hL
  replace hT := Lib.hid hT
  replace h2 := Lib.hid h2
  replace h3 := Lib.hid h3
  replace h4 := Lib.hid h4
  replace hR := Lib.hid hR
  replace hL := Lib.hid hL
  replace hC := Lib.hid hC
  replace hF1 := Lib.hid hF1
  replace hF2 := Lib.hid hF2
  replace hI := Lib.hid hI
  refine trF_enter (ts := [0]) Try.func11 rfl (by rw [Try.ntmps11]; exact Nat.le_of_ble_eq_true rfl) (fun tmps w => by simp [results, Try.results11, go_sem, resVal]) ?_
  simp only [Try.ntmps11]
  repeat' (first | with_reducible refine Go1.go ?_ | ((with_reducible apply ev_go); (focus (try simp (disch := omega) only [push_cast, Nat.reduceEqDiff, reduceCtorEq, ↓reduceIte, Nat.reduceAdd, Nat.reduceMul, Nat.reduceSub, Nat.reduceLT, Nat.reduceLeDiff, Int.reduceToNat, Int.reduceLT, Int.reduceLE, Int.reduceAdd, Int.reduceSub, Int.reduceMul, Int.reduceBEq, Int.reduceBNe, encB, encI, encC, V.cells_mk, V.cells_len, Nat.mul_one, Int.sub_zero, List.map_nil, beq_self_eq_true, List.head?_cons, *]); (try exact rfl); done)) | ((with_reducible refine w_drawRN ?_ ?_ ?_ ?_); (iterate 3 (focus kernel_rfl)); intro hne; simp only [nes, ne1, and_assoc] at hne; repeat (have hq := hne.1; replace hne := hne.2)) | ((with_reducible refine w_last ?_ ?_ ?_); (focus kernel_rfl); (focus rfl)) | ((with_reducible apply w_stepG); (focus rfl)) | ((with_reducible apply lk_mem); (focus ((repeat (first | exact mm_h | apply mm_t)); done))) | with_reducible refine Go2.go ?_ | ((with_reducible apply sto_go); (focus (intro cs'; repeat (first | exact ra_h | apply ra_t)))) | ((with_reducible refine al_go ?_); intro b) | ((with_reducible refine And.intro ?_ ?_); (focus ((repeat (first | exact keep_none | exact keep_nil | exact keep_ro | refine keep_cons ?_)); done))) | ((with_reducible apply (ck_le Try.call37)); (focus exact LEL.refl _); (focus exact hT.out _)) | ((with_reducible apply (ck_le Try.call18)); (focus exact LEL.refl _); (focus exact h2.out _)) | ((with_reducible apply (ck_le Try.call18)); (focus exact LEL.refl _); (focus exact h3.out _)) | ((with_reducible apply (ck_le Try.call18)); (focus exact LEL.refl _); (focus exact h4.out _)) | ((with_reducible apply (ck_le Try.call16)); (focus exact LEL.refl _); (focus exact hR.out _)) | ((with_reducible apply (ck_le Try.call17)); (focus exact LEL.refl _); (focus exact hL.out _)) | ((with_reducible apply (ck_le Try.call20)); (focus exact LEL.refl _); (focus exact hI1.out _)) | ((with_reducible apply (ck_le Try.call20)); (focus exact LEL.refl _); (focus exact hI2.out _)) | ((with_reducible apply (ck_le Try.call38)); (focus exact LEL.refl _); (focus exact hC.out _)) | ((with_reducible apply (ck_le Try.call39)); (focus exact LEL.refl _); (focus exact hI.out _)) | ((with_reducible apply (ck_el Try.call13)); (focus exact hF1.out _); (focus ((repeat' (first | exact LEL.nil | refine LEL.cons ?_ ?_ | exact LE.refl _ | exact LE.sl _ _ | refine LE.agg ?_)); done))) | ((with_reducible apply (ck_el Try.call13)); (focus exact hF2.out _); (focus ((repeat' (first | exact LEL.nil | refine LEL.cons ?_ ?_ | exact LE.refl _ | exact LE.sl _ _ | refine LE.agg ?_)); done))) | ((with_reducible refine s_bi ?_ ?_); (focus rfl)) | with_reducible refine blk_ne rfl ?_ | ((with_reducible refine w_region ?_ ?_); (focus kernel_rfl)) | ((with_reducible refine w_draw [] ?_ ?_ ?_ ?_ ?_); (iterate 3 (focus kernel_rfl)); (focus exact keeps_nil)) | ((with_reducible first | refine gd_d1 ?_ ?_ | refine gd_d0 ?_ ?_); all_goals (intro hb; (first | with_reducible replace hb := nt_t hb | with_reducible replace hb := nt_f hb | skip); (first | replace hb := dc_t hb | replace hb := dc_f hb | have hb1 := eq_b hb | have hb1 := ne_b hb | have hb1 := bne_t hb | have hb1 := bne_f hb | skip); (try (exfalso; first | contradiction | omega)))))
  all_goals (refine ret_eq (by first | exact .inl rfl | exact .inr rfl) (by first | rfl | assumption) (by (repeat (first | exact List.Sublist.refl _ | apply List.Sublist.cons))) ?_; (try simp (disch := omega) only [push_cast, Nat.reduceEqDiff, reduceCtorEq, ↓reduceIte, Nat.reduceAdd, Nat.reduceMul, Nat.reduceSub, Nat.reduceLT, Nat.reduceLeDiff, Int.reduceToNat, Int.reduceLT, Int.reduceLE, Int.reduceAdd, Int.reduceSub, Int.reduceMul, Int.reduceBEq, Int.reduceBNe, encB, encI, encC, V.cells_mk, V.cells_len, Nat.mul_one, Int.sub_zero, List.map_nil, beq_self_eq_true, List.head?_cons, *]); try (first | exact LE.refl _ | exact LE.sl _ _ | (refine LE.tup ?_; (repeat' (first | exact LEL.nil | refine LEL.cons ?_ ?_ | exact LE.refl _ | exact LE.sl _ _ | refine LE.agg ?_)); done) | (refine LE.agg ?_; (repeat' (first | exact LEL.nil | refine LEL.cons ?_ ?_ | exact LE.refl _ | exact LE.sl _ _)); done) | refine LE.of_eq ?_))
end Go.Proofs.Ytooaagmhgakhgaa
end

section
namespace Go.Proofs.Ytooaagmhgakhgaa
set_option linter.unusedSimpArgs false
open Go.RowKit
set_option maxRecDepth 10000
set_option maxHeartbeats 4000000
namespace V
theorem sgn_self (a : Int) : sgn a a = 0 := by unfold sgn; rw [if_neg (by omega), if_neg (by omega)]
theorem sgn_lt {a b : Int} (h : a < b) : sgn a b = -1 := by unfold sgn; rw [if_pos h]
theorem sgn_gt {a b : Int} (h : b < a) : sgn a b = 1 := by unfold sgn; rw [if_neg (by omega), if_pos h]
theorem sgn_zero {a b : Int} : sgn a b = 0 ↔ a = b := by
  unfold sgn
  split
  · omega
  · split <;> omega
theorem ors_cons {x : Int} {l : List Int} (h : x ≠ 0) : ors (x :: l) = x := by rw [ors, if_neg h]
theorem ors_zero {l : List Int} : ors (0 :: l) = ors l := by rw [ors, if_pos rfl]
theorem ors_one {x : Int} : ors [x] = x := by
  rw [ors]; split
  · rename_i h; rw [h]; rfl
  · rfl
end V
open V in
theorem refCompareF : ∀ (N : Nat) (a b : V), a.nodes ≤ N → a.Ok → ∀ st, TrF Try.prog 51 [.agg a.cells, .agg b.cells] st fun x st' => x = .i (a.cmp b) ∧ st' = st
  | 0, a, b, h, _ => by have := a.nodes_pos; omega
  | N + 1, .mk k n s l, .mk k' n' s' l', hN, hok => by
    intro st
    obtain ⟨hk, hn, hs, hl, hall⟩ := hok
    unfold maxLen at hs hl
    have IH := Lib.hid fun x (hx : x ∈ l) y => refCompareF N x y (by have := nodes_lt (k := k) (n := n) (s := s) hx; omega) (hall x hx)
    rw [V.cells_mk, V.cells_mk, show (V.mk k n s l).cmp (V.mk k' n' s' l') = ors [sgn k k', sgn n n', cmpB s.data.toList s'.data.toList, cmpL l l'] from cmp.eq_1 ..]
    clear hall hN hk hn
    have hSL : s.data.toList.length = s.size := by simp
    have hSL' : s'.data.toList.length = s'.size := by simp
    have hCL : Hid (cmpL (l.drop 0) (l'.drop 0) = cmpL l l') := rfl
    have hCB : Hid (cmpB (s.data.toList.drop 0) (s'.data.toList.drop 0) = cmpB s.data.toList s'.data.toList) := rfl
    generalize cmpL l l' = c4 at *
    generalize cmpB s.data.toList s'.data.toList = c3 at *
    refine trF_enter (ts := [4]) Try.func51 rfl (by rw [Try.ntmps51]; exact Nat.le_of_ble_eq_true rfl) (fun tmps w => by simp [results, Try.results51, go_sem, resVal]) ?_
    simp only [Try.ntmps51]
    by_cases hk : k = k'
    case neg =>
      rw [ors_cons (fun h => hk (sgn_zero.1 h))]
      have hk1 : (k != k') = true := by simpa using hk
      clear hSL hSL'
      repeat' (first | with_reducible refine Go1.go ?_ | ((with_reducible apply ev_go); (focus (try simp (disch := omega) only [push_cast, Nat.reduceEqDiff, reduceCtorEq, ↓reduceIte, Nat.reduceAdd, Nat.reduceMul, Nat.reduceSub, Nat.reduceLT, Nat.reduceLeDiff, Int.reduceToNat, Int.reduceLT, Int.reduceLE, Int.reduceAdd, Int.reduceSub, Int.reduceMul, Int.reduceBEq, Int.reduceBNe, encB, encI, V.cells_mk, V.cells_take, V.cells_len, isE_eq, *]); (try exact rfl); done)) | ((with_reducible refine w_last ?_ ?_ ?_); (focus kernel_rfl); (focus rfl)) | ((with_reducible apply w_stepG); (focus rfl)) | ((with_reducible apply lk_mem); (focus ((repeat (first | exact mm_h | apply mm_t)); done))) | with_reducible refine Go2.go ?_ | ((with_reducible apply sto_go); (focus (intro cs'; repeat (first | exact ra_h | apply ra_t)))) | ((with_reducible refine al_go ?_); intro b) | ((with_reducible refine And.intro ?_ ?_); (focus ((repeat (first | exact keep_none | exact keep_nil | exact keep_ro | refine keep_cons ?_)); done))) | ((with_reducible refine s_bi ?_ ?_); (focus rfl)) | with_reducible refine blk_ne rfl ?_ | ((with_reducible refine w_region ?_ ?_); (focus kernel_rfl)) | ((with_reducible refine w_draw [] ?_ ?_ ?_ ?_ ?_); (iterate 3 (focus kernel_rfl)); (focus exact keeps_nil)) | ((with_reducible first | refine gd_d1 ?_ ?_ | refine gd_d0 ?_ ?_); all_goals (intro hb; (first | with_reducible replace hb := nt_t hb | with_reducible replace hb := nt_f hb | skip); (first | replace hb := dc_t hb | replace hb := dc_f hb | have hb1 := eq_b hb | have hb1 := ne_b hb | have hb1 := bne_t hb | have hb1 := bne_f hb | skip); (try (exfalso; first | contradiction | omega)))))
      all_goals (refine ret_eq (by first | exact .inl rfl | exact .inr rfl) (by first | rfl | assumption) (by (repeat (first | exact List.Sublist.refl _ | apply List.Sublist.cons))) ?_; (try simp (disch := omega) only [push_cast, Nat.reduceEqDiff, reduceCtorEq, ↓reduceIte, Nat.reduceAdd, Nat.reduceMul, Nat.reduceSub, Nat.reduceLT, Nat.reduceLeDiff, Int.reduceToNat, Int.reduceLT, Int.reduceLE, Int.reduceAdd, Int.reduceSub, Int.reduceMul, Int.reduceBEq, Int.reduceBNe, encB, encI, V.cells_mk, V.cells_take, V.cells_len, isE_eq, *]); try (first | exact LE.refl _ | exact LE.sl _ _ | (refine LE.tup ?_; (repeat' (first | exact LEL.nil | refine LEL.cons ?_ ?_ | exact LE.refl _ | exact LE.sl _ _ | refine LE.agg ?_)); done) | (refine LE.agg ?_; (repeat' (first | exact LEL.nil | refine LEL.cons ?_ ?_ | exact LE.refl _ | exact LE.sl _ _)); done) | refine LE.of_eq ?_))
      · rw [sgn_lt (by assumption)]
      · rw [sgn_gt (by omega)]
    subst hk
    rw [sgn_self, ors_zero]
    by_cases hn : n = n'
    case neg =>
      rw [ors_cons (fun h => hn (sgn_zero.1 h))]
      have hn1 : (n != n') = true := by simpa using hn
      have hkk : (k != k) = false := by simp
      clear hSL hSL'
      repeat' (first | with_reducible refine Go1.go ?_ | ((with_reducible apply ev_go); (focus (try simp (disch := omega) only [push_cast, Nat.reduceEqDiff, reduceCtorEq, ↓reduceIte, Nat.reduceAdd, Nat.reduceMul, Nat.reduceSub, Nat.reduceLT, Nat.reduceLeDiff, Int.reduceToNat, Int.reduceLT, Int.reduceLE, Int.reduceAdd, Int.reduceSub, Int.reduceMul, Int.reduceBEq, Int.reduceBNe, encB, encI, V.cells_mk, V.cells_take, V.cells_len, isE_eq, *]); (try exact rfl); done)) | ((with_reducible refine w_last ?_ ?_ ?_); (focus kernel_rfl); (focus rfl)) | ((with_reducible apply w_stepG); (focus rfl)) | ((with_reducible apply lk_mem); (focus ((repeat (first | exact mm_h | apply mm_t)); done))) | with_reducible refine Go2.go ?_ | ((with_reducible apply sto_go); (focus (intro cs'; repeat (first | exact ra_h | apply ra_t)))) | ((with_reducible refine al_go ?_); intro b) | ((with_reducible refine And.intro ?_ ?_); (focus ((repeat (first | exact keep_none | exact keep_nil | exact keep_ro | refine keep_cons ?_)); done))) | ((with_reducible refine s_bi ?_ ?_); (focus rfl)) | with_reducible refine blk_ne rfl ?_ | ((with_reducible refine w_region ?_ ?_); (focus kernel_rfl)) | ((with_reducible refine w_draw [] ?_ ?_ ?_ ?_ ?_); (iterate 3 (focus kernel_rfl)); (focus exact keeps_nil)) | ((with_reducible first | refine gd_d1 ?_ ?_ | refine gd_d0 ?_ ?_); all_goals (intro hb; (first | with_reducible replace hb := nt_t hb | with_reducible replace hb := nt_f hb | skip); (first | replace hb := dc_t hb | replace hb := dc_f hb | have hb1 := eq_b hb | have hb1 := ne_b hb | have hb1 := bne_t hb | have hb1 := bne_f hb | skip); (try (exfalso; first | contradiction | omega)))))
      all_goals (refine ret_eq (by first | exact .inl rfl | exact .inr rfl) (by first | rfl | assumption) (by (repeat (first | exact List.Sublist.refl _ | apply List.Sublist.cons))) ?_; (try simp (disch := omega) only [push_cast, Nat.reduceEqDiff, reduceCtorEq, ↓reduceIte, Nat.reduceAdd, Nat.reduceMul, Nat.reduceSub, Nat.reduceLT, Nat.reduceLeDiff, Int.reduceToNat, Int.reduceLT, Int.reduceLE, Int.reduceAdd, Int.reduceSub, Int.reduceMul, Int.reduceBEq, Int.reduceBNe, encB, encI, V.cells_mk, V.cells_take, V.cells_len, isE_eq, *]); try (first | exact LE.refl _ | exact LE.sl _ _ | (refine LE.tup ?_; (repeat' (first | exact LEL.nil | refine LEL.cons ?_ ?_ | exact LE.refl _ | exact LE.sl _ _ | refine LE.agg ?_)); done) | (refine LE.agg ?_; (repeat' (first | exact LEL.nil | refine LEL.cons ?_ ?_ | exact LE.refl _ | exact LE.sl _ _)); done) | refine LE.of_eq ?_))
      · rw [sgn_lt (by assumption)]
      · rw [sgn_gt (by omega)]
    subst hn
    rw [sgn_self, ors_zero]
    have hkk : (k != k) = false := by simp
    have hnn : (n != n) = false := by simp
    repeat' (first | with_reducible refine Go1.go ?_ | ((with_reducible apply ev_go); (focus (try simp (disch := omega) only [push_cast, Nat.reduceEqDiff, reduceCtorEq, ↓reduceIte, Nat.reduceAdd, Nat.reduceMul, Nat.reduceSub, Nat.reduceLT, Nat.reduceLeDiff, Int.reduceToNat, Int.reduceLT, Int.reduceLE, Int.reduceAdd, Int.reduceSub, Int.reduceMul, Int.reduceBEq, Int.reduceBNe, encB, encI, V.cells_mk, V.cells_take, V.cells_len, isE_eq, *]); (try exact rfl); done)) | ((with_reducible refine w_last ?_ ?_ ?_); (focus kernel_rfl); (focus rfl)) | ((with_reducible apply w_stepG); (focus rfl)) | ((with_reducible apply lk_mem); (focus ((repeat (first | exact mm_h | apply mm_t)); done))) | with_reducible refine Go2.go ?_ | ((with_reducible apply sto_go); (focus (intro cs'; repeat (first | exact ra_h | apply ra_t)))) | ((with_reducible refine al_go ?_); intro b) | ((with_reducible refine And.intro ?_ ?_); (focus ((repeat (first | exact keep_none | exact keep_nil | exact keep_ro | refine keep_cons ?_)); done))) | ((with_reducible refine s_bi ?_ ?_); (focus rfl)) | with_reducible refine blk_ne rfl ?_ | ((with_reducible refine w_region ?_ ?_); (focus kernel_rfl)) | ((with_reducible refine w_draw [] ?_ ?_ ?_ ?_ ?_); (iterate 3 (focus kernel_rfl)); (focus exact keeps_nil)) | ((with_reducible first | refine gd_d1 ?_ ?_ | refine gd_d0 ?_ ?_); all_goals (intro hb; (first | with_reducible replace hb := nt_t hb | with_reducible replace hb := nt_f hb | skip); (first | replace hb := dc_t hb | replace hb := dc_f hb | have hb1 := eq_b hb | have hb1 := ne_b hb | have hb1 := bne_t hb | have hb1 := bne_f hb | skip); (try (exfalso; first | contradiction | omega)))))
    refine tr_loop (ι := Nat) (fun i A st' => i ≤ s.size ∧ i ≤ s'.size ∧ Hid (cmpB (s.data.toList.drop i) (s'.data.toList.drop i) = c3) ∧ A.df = [] ∧ A.e 2 = .ip [.i k, .i n, .str s, .sl .shared (l.map V.cells)] ∧ A.e 3 = .ip [.i k, .i n, .str s', .sl .shared (l'.map V.cells)] ∧ A.e 5 = .i i ∧ st = st') (fun i => s.size - i) 0 ⟨Nat.zero_le _, Nat.zero_le _, hCB, ?_, ?_, ?_, ?_, rfl⟩ ?_
    iterate 4 (focus (first | rfl | assumption | omega | (simp (disch := omega) only [push_cast, Nat.reduceEqDiff, reduceCtorEq, ↓reduceIte, Nat.reduceAdd, Nat.reduceMul, Nat.reduceSub, Nat.reduceLT, Nat.reduceLeDiff, Int.reduceToNat, Int.reduceLT, Int.reduceLE, Int.reduceAdd, Int.reduceSub, Int.reduceMul, Int.reduceBEq, Int.reduceBNe, encB, encI, V.cells_mk, V.cells_take, V.cells_len, isE_eq, *]; try omega; done)))
    clear hkk hnn hCB
    rintro i A st' ⟨hi, hi', HT, hdf, e2, e3, e5, rfl⟩
    by_cases hlt : (i : Int) < s.size ∧ (i : Int) < s'.size
    · obtain ⟨hlt, hlt'⟩ := hlt
      obtain ⟨x, hx⟩ : ∃ x, s.data.toList[i]? = some x := ⟨_, List.getElem?_eq_getElem (by omega)⟩
      obtain ⟨y, hy⟩ : ∃ y, s'.data.toList[i]? = some y := ⟨_, List.getElem?_eq_getElem (by omega)⟩
      have HE := HT.out
      rw [V.drop_cons hx, V.drop_cons hy, cmpB] at HE
      clear HT
      by_cases h1 : (x.toNat : Int) < y.toNat
      · rw [sgn_lt h1, if_neg (by decide)] at HE
        rw [← HE, ors_cons (by decide)]
        clear HE
        repeat' (first | with_reducible refine Go1.go ?_ | ((with_reducible apply ev_go); (focus (try simp (disch := omega) only [push_cast, Nat.reduceEqDiff, reduceCtorEq, ↓reduceIte, Nat.reduceAdd, Nat.reduceMul, Nat.reduceSub, Nat.reduceLT, Nat.reduceLeDiff, Int.reduceToNat, Int.reduceLT, Int.reduceLE, Int.reduceAdd, Int.reduceSub, Int.reduceMul, Int.reduceBEq, Int.reduceBNe, encB, encI, V.cells_mk, V.cells_take, V.cells_len, isE_eq, *]); (try exact rfl); done)) | ((with_reducible refine w_last ?_ ?_ ?_); (focus kernel_rfl); (focus rfl)) | ((with_reducible apply w_stepG); (focus rfl)) | ((with_reducible apply lk_mem); (focus ((repeat (first | exact mm_h | apply mm_t)); done))) | with_reducible refine Go2.go ?_ | ((with_reducible apply sto_go); (focus (intro cs'; repeat (first | exact ra_h | apply ra_t)))) | ((with_reducible refine al_go ?_); intro b) | ((with_reducible refine And.intro ?_ ?_); (focus ((repeat (first | exact keep_none | exact keep_nil | exact keep_ro | refine keep_cons ?_)); done))) | ((with_reducible refine s_bi ?_ ?_); (focus rfl)) | with_reducible refine blk_ne rfl ?_ | ((with_reducible refine w_region ?_ ?_); (focus kernel_rfl)) | ((with_reducible refine w_draw [] ?_ ?_ ?_ ?_ ?_); (iterate 3 (focus kernel_rfl)); (focus exact keeps_nil)) | ((with_reducible first | refine gd_d1 ?_ ?_ | refine gd_d0 ?_ ?_); all_goals (intro hb; (first | with_reducible replace hb := nt_t hb | with_reducible replace hb := nt_f hb | skip); (first | replace hb := dc_t hb | replace hb := dc_f hb | have hb1 := eq_b hb | have hb1 := ne_b hb | have hb1 := bne_t hb | have hb1 := bne_f hb | skip); (try (exfalso; first | contradiction | omega)))))
        all_goals (refine ret_eq (by first | exact .inl rfl | exact .inr rfl) (by first | rfl | assumption) (by (repeat (first | exact List.Sublist.refl _ | apply List.Sublist.cons))) ?_; (try simp (disch := omega) only [push_cast, Nat.reduceEqDiff, reduceCtorEq, ↓reduceIte, Nat.reduceAdd, Nat.reduceMul, Nat.reduceSub, Nat.reduceLT, Nat.reduceLeDiff, Int.reduceToNat, Int.reduceLT, Int.reduceLE, Int.reduceAdd, Int.reduceSub, Int.reduceMul, Int.reduceBEq, Int.reduceBNe, encB, encI, V.cells_mk, V.cells_take, V.cells_len, isE_eq, *]); try (first | exact LE.refl _ | exact LE.sl _ _ | (refine LE.tup ?_; (repeat' (first | exact LEL.nil | refine LEL.cons ?_ ?_ | exact LE.refl _ | exact LE.sl _ _ | refine LE.agg ?_)); done) | (refine LE.agg ?_; (repeat' (first | exact LEL.nil | refine LEL.cons ?_ ?_ | exact LE.refl _ | exact LE.sl _ _)); done) | refine LE.of_eq ?_))
      by_cases h2 : (y.toNat : Int) < x.toNat
      · rw [sgn_gt h2, if_neg (by decide)] at HE
        rw [← HE, ors_cons (by decide)]
        clear HE
        repeat' (first | with_reducible refine Go1.go ?_ | ((with_reducible apply ev_go); (focus (try simp (disch := omega) only [push_cast, Nat.reduceEqDiff, reduceCtorEq, ↓reduceIte, Nat.reduceAdd, Nat.reduceMul, Nat.reduceSub, Nat.reduceLT, Nat.reduceLeDiff, Int.reduceToNat, Int.reduceLT, Int.reduceLE, Int.reduceAdd, Int.reduceSub, Int.reduceMul, Int.reduceBEq, Int.reduceBNe, encB, encI, V.cells_mk, V.cells_take, V.cells_len, isE_eq, *]); (try exact rfl); done)) | ((with_reducible refine w_last ?_ ?_ ?_); (focus kernel_rfl); (focus rfl)) | ((with_reducible apply w_stepG); (focus rfl)) | ((with_reducible apply lk_mem); (focus ((repeat (first | exact mm_h | apply mm_t)); done))) | with_reducible refine Go2.go ?_ | ((with_reducible apply sto_go); (focus (intro cs'; repeat (first | exact ra_h | apply ra_t)))) | ((with_reducible refine al_go ?_); intro b) | ((with_reducible refine And.intro ?_ ?_); (focus ((repeat (first | exact keep_none | exact keep_nil | exact keep_ro | refine keep_cons ?_)); done))) | ((with_reducible refine s_bi ?_ ?_); (focus rfl)) | with_reducible refine blk_ne rfl ?_ | ((with_reducible refine w_region ?_ ?_); (focus kernel_rfl)) | ((with_reducible refine w_draw [] ?_ ?_ ?_ ?_ ?_); (iterate 3 (focus kernel_rfl)); (focus exact keeps_nil)) | ((with_reducible first | refine gd_d1 ?_ ?_ | refine gd_d0 ?_ ?_); all_goals (intro hb; (first | with_reducible replace hb := nt_t hb | with_reducible replace hb := nt_f hb | skip); (first | replace hb := dc_t hb | replace hb := dc_f hb | have hb1 := eq_b hb | have hb1 := ne_b hb | have hb1 := bne_t hb | have hb1 := bne_f hb | skip); (try (exfalso; first | contradiction | omega)))))
        all_goals (refine ret_eq (by first | exact .inl rfl | exact .inr rfl) (by first | rfl | assumption) (by (repeat (first | exact List.Sublist.refl _ | apply List.Sublist.cons))) ?_; (try simp (disch := omega) only [push_cast, Nat.reduceEqDiff, reduceCtorEq, ↓reduceIte, Nat.reduceAdd, Nat.reduceMul, Nat.reduceSub, Nat.reduceLT, Nat.reduceLeDiff, Int.reduceToNat, Int.reduceLT, Int.reduceLE, Int.reduceAdd, Int.reduceSub, Int.reduceMul, Int.reduceBEq, Int.reduceBNe, encB, encI, V.cells_mk, V.cells_take, V.cells_len, isE_eq, *]); try (first | exact LE.refl _ | exact LE.sl _ _ | (refine LE.tup ?_; (repeat' (first | exact LEL.nil | refine LEL.cons ?_ ?_ | exact LE.refl _ | exact LE.sl _ _ | refine LE.agg ?_)); done) | (refine LE.agg ?_; (repeat' (first | exact LEL.nil | refine LEL.cons ?_ ?_ | exact LE.refl _ | exact LE.sl _ _)); done) | refine LE.of_eq ?_))
      rw [show sgn (x.toNat : Int) y.toNat = 0 from sgn_zero.2 (by omega), if_pos rfl] at HE
      have HE := Lib.hid HE
      repeat' (first | with_reducible refine Go1.go ?_ | ((with_reducible apply ev_go); (focus (try simp (disch := omega) only [push_cast, Nat.reduceEqDiff, reduceCtorEq, ↓reduceIte, Nat.reduceAdd, Nat.reduceMul, Nat.reduceSub, Nat.reduceLT, Nat.reduceLeDiff, Int.reduceToNat, Int.reduceLT, Int.reduceLE, Int.reduceAdd, Int.reduceSub, Int.reduceMul, Int.reduceBEq, Int.reduceBNe, encB, encI, V.cells_mk, V.cells_take, V.cells_len, isE_eq, *]); (try exact rfl); done)) | ((with_reducible refine w_last ?_ ?_ ?_); (focus kernel_rfl); (focus rfl)) | ((with_reducible apply w_stepG); (focus rfl)) | ((with_reducible apply lk_mem); (focus ((repeat (first | exact mm_h | apply mm_t)); done))) | with_reducible refine Go2.go ?_ | ((with_reducible apply sto_go); (focus (intro cs'; repeat (first | exact ra_h | apply ra_t)))) | ((with_reducible refine al_go ?_); intro b) | ((with_reducible refine And.intro ?_ ?_); (focus ((repeat (first | exact keep_none | exact keep_nil | exact keep_ro | refine keep_cons ?_)); done))) | ((with_reducible refine s_bi ?_ ?_); (focus rfl)) | with_reducible refine blk_ne rfl ?_ | ((with_reducible refine w_region ?_ ?_); (focus kernel_rfl)) | ((with_reducible refine w_draw [] ?_ ?_ ?_ ?_ ?_); (iterate 3 (focus kernel_rfl)); (focus exact keeps_nil)) | ((with_reducible first | refine gd_d1 ?_ ?_ | refine gd_d0 ?_ ?_); all_goals (intro hb; (first | with_reducible replace hb := nt_t hb | with_reducible replace hb := nt_f hb | skip); (first | replace hb := dc_t hb | replace hb := dc_f hb | have hb1 := eq_b hb | have hb1 := ne_b hb | have hb1 := bne_t hb | have hb1 := bne_f hb | skip); (try (exfalso; first | contradiction | omega)))))
      refine ⟨i + 1, ⟨by omega, by omega, HE, ?_, ?_, ?_, ?_, rfl⟩, ?_⟩
      all_goals (first | rfl | assumption | omega | (simp (disch := omega) only [push_cast, Nat.reduceEqDiff, reduceCtorEq, ↓reduceIte, Nat.reduceAdd, Nat.reduceMul, Nat.reduceSub, Nat.reduceLT, Nat.reduceLeDiff, Int.reduceToNat, Int.reduceLT, Int.reduceLE, Int.reduceAdd, Int.reduceSub, Int.reduceMul, Int.reduceBEq, Int.reduceBNe, encB, encI, V.cells_mk, V.cells_take, V.cells_len, isE_eq, *]; try omega; done))
    · have HE := HT.out
      rw [cmpB_end _ _ i (by omega) (by omega) (by omega), hSL, hSL'] at HE
      clear HT hSL hSL'
      by_cases h1 : (s.size : Int) < s'.size
      · rw [sgn_lt h1] at HE
        rw [← HE, ors_cons (by decide)]
        clear HE
        have h3 : ((s.size : Int) != s'.size) = true := by simp; omega
        have hlt : ¬ (i : Int) < s.size := by omega
        repeat' (first | with_reducible refine Go1.go ?_ | ((with_reducible apply ev_go); (focus (try simp (disch := omega) only [push_cast, Nat.reduceEqDiff, reduceCtorEq, ↓reduceIte, Nat.reduceAdd, Nat.reduceMul, Nat.reduceSub, Nat.reduceLT, Nat.reduceLeDiff, Int.reduceToNat, Int.reduceLT, Int.reduceLE, Int.reduceAdd, Int.reduceSub, Int.reduceMul, Int.reduceBEq, Int.reduceBNe, encB, encI, V.cells_mk, V.cells_take, V.cells_len, isE_eq, *]); (try exact rfl); done)) | ((with_reducible refine w_last ?_ ?_ ?_); (focus kernel_rfl); (focus rfl)) | ((with_reducible apply w_stepG); (focus rfl)) | ((with_reducible apply lk_mem); (focus ((repeat (first | exact mm_h | apply mm_t)); done))) | with_reducible refine Go2.go ?_ | ((with_reducible apply sto_go); (focus (intro cs'; repeat (first | exact ra_h | apply ra_t)))) | ((with_reducible refine al_go ?_); intro b) | ((with_reducible refine And.intro ?_ ?_); (focus ((repeat (first | exact keep_none | exact keep_nil | exact keep_ro | refine keep_cons ?_)); done))) | ((with_reducible refine s_bi ?_ ?_); (focus rfl)) | with_reducible refine blk_ne rfl ?_ | ((with_reducible refine w_region ?_ ?_); (focus kernel_rfl)) | ((with_reducible refine w_draw [] ?_ ?_ ?_ ?_ ?_); (iterate 3 (focus kernel_rfl)); (focus exact keeps_nil)) | ((with_reducible first | refine gd_d1 ?_ ?_ | refine gd_d0 ?_ ?_); all_goals (intro hb; (first | with_reducible replace hb := nt_t hb | with_reducible replace hb := nt_f hb | skip); (first | replace hb := dc_t hb | replace hb := dc_f hb | have hb1 := eq_b hb | have hb1 := ne_b hb | have hb1 := bne_t hb | have hb1 := bne_f hb | skip); (try (exfalso; first | contradiction | omega)))))
        all_goals (refine ret_eq (by first | exact .inl rfl | exact .inr rfl) (by first | rfl | assumption) (by (repeat (first | exact List.Sublist.refl _ | apply List.Sublist.cons))) ?_; (try simp (disch := omega) only [push_cast, Nat.reduceEqDiff, reduceCtorEq, ↓reduceIte, Nat.reduceAdd, Nat.reduceMul, Nat.reduceSub, Nat.reduceLT, Nat.reduceLeDiff, Int.reduceToNat, Int.reduceLT, Int.reduceLE, Int.reduceAdd, Int.reduceSub, Int.reduceMul, Int.reduceBEq, Int.reduceBNe, encB, encI, V.cells_mk, V.cells_take, V.cells_len, isE_eq, *]); try (first | exact LE.refl _ | exact LE.sl _ _ | (refine LE.tup ?_; (repeat' (first | exact LEL.nil | refine LEL.cons ?_ ?_ | exact LE.refl _ | exact LE.sl _ _ | refine LE.agg ?_)); done) | (refine LE.agg ?_; (repeat' (first | exact LEL.nil | refine LEL.cons ?_ ?_ | exact LE.refl _ | exact LE.sl _ _)); done) | refine LE.of_eq ?_))
      by_cases h2 : (s'.size : Int) < s.size
      · rw [sgn_gt h2] at HE
        rw [← HE, ors_cons (by decide)]
        clear HE
        have h3 : ((s.size : Int) != s'.size) = true := by simp; omega
        have hlt : ¬ (i : Int) < s'.size := by omega
        repeat' (first | with_reducible refine Go1.go ?_ | ((with_reducible apply ev_go); (focus (try simp (disch := omega) only [push_cast, Nat.reduceEqDiff, reduceCtorEq, ↓reduceIte, Nat.reduceAdd, Nat.reduceMul, Nat.reduceSub, Nat.reduceLT, Nat.reduceLeDiff, Int.reduceToNat, Int.reduceLT, Int.reduceLE, Int.reduceAdd, Int.reduceSub, Int.reduceMul, Int.reduceBEq, Int.reduceBNe, encB, encI, V.cells_mk, V.cells_take, V.cells_len, isE_eq, *]); (try exact rfl); done)) | ((with_reducible refine w_last ?_ ?_ ?_); (focus kernel_rfl); (focus rfl)) | ((with_reducible apply w_stepG); (focus rfl)) | ((with_reducible apply lk_mem); (focus ((repeat (first | exact mm_h | apply mm_t)); done))) | with_reducible refine Go2.go ?_ | ((with_reducible apply sto_go); (focus (intro cs'; repeat (first | exact ra_h | apply ra_t)))) | ((with_reducible refine al_go ?_); intro b) | ((with_reducible refine And.intro ?_ ?_); (focus ((repeat (first | exact keep_none | exact keep_nil | exact keep_ro | refine keep_cons ?_)); done))) | ((with_reducible refine s_bi ?_ ?_); (focus rfl)) | with_reducible refine blk_ne rfl ?_ | ((with_reducible refine w_region ?_ ?_); (focus kernel_rfl)) | ((with_reducible refine w_draw [] ?_ ?_ ?_ ?_ ?_); (iterate 3 (focus kernel_rfl)); (focus exact keeps_nil)) | ((with_reducible first | refine gd_d1 ?_ ?_ | refine gd_d0 ?_ ?_); all_goals (intro hb; (first | with_reducible replace hb := nt_t hb | with_reducible replace hb := nt_f hb | skip); (first | replace hb := dc_t hb | replace hb := dc_f hb | have hb1 := eq_b hb | have hb1 := ne_b hb | have hb1 := bne_t hb | have hb1 := bne_f hb | skip); (try (exfalso; first | contradiction | omega)))))
        all_goals (refine ret_eq (by first | exact .inl rfl | exact .inr rfl) (by first | rfl | assumption) (by (repeat (first | exact List.Sublist.refl _ | apply List.Sublist.cons))) ?_; (try simp (disch := omega) only [push_cast, Nat.reduceEqDiff, reduceCtorEq, ↓reduceIte, Nat.reduceAdd, Nat.reduceMul, Nat.reduceSub, Nat.reduceLT, Nat.reduceLeDiff, Int.reduceToNat, Int.reduceLT, Int.reduceLE, Int.reduceAdd, Int.reduceSub, Int.reduceMul, Int.reduceBEq, Int.reduceBNe, encB, encI, V.cells_mk, V.cells_take, V.cells_len, isE_eq, *]); try (first | exact LE.refl _ | exact LE.sl _ _ | (refine LE.tup ?_; (repeat' (first | exact LEL.nil | refine LEL.cons ?_ ?_ | exact LE.refl _ | exact LE.sl _ _ | refine LE.agg ?_)); done) | (refine LE.agg ?_; (repeat' (first | exact LEL.nil | refine LEL.cons ?_ ?_ | exact LE.refl _ | exact LE.sl _ _)); done) | refine LE.of_eq ?_))
      rw [show sgn (s.size : Int) s'.size = 0 from sgn_zero.2 (by omega)] at HE
      rw [← HE, ors_zero, ors_one]
      have h3 : ((s.size : Int) != s'.size) = false := by simp; omega
      have hlt2 : ¬ (i : Int) < s.size := by omega
      clear HE hlt h1 h2
      repeat' (first | with_reducible refine Go1.go ?_ | ((with_reducible apply ev_go); (focus (try simp (disch := omega) only [push_cast, Nat.reduceEqDiff, reduceCtorEq, ↓reduceIte, Nat.reduceAdd, Nat.reduceMul, Nat.reduceSub, Nat.reduceLT, Nat.reduceLeDiff, Int.reduceToNat, Int.reduceLT, Int.reduceLE, Int.reduceAdd, Int.reduceSub, Int.reduceMul, Int.reduceBEq, Int.reduceBNe, encB, encI, V.cells_mk, V.cells_take, V.cells_len, isE_eq, *]); (try exact rfl); done)) | ((with_reducible refine w_last ?_ ?_ ?_); (focus kernel_rfl); (focus rfl)) | ((with_reducible apply w_stepG); (focus rfl)) | ((with_reducible apply lk_mem); (focus ((repeat (first | exact mm_h | apply mm_t)); done))) | with_reducible refine Go2.go ?_ | ((with_reducible apply sto_go); (focus (intro cs'; repeat (first | exact ra_h | apply ra_t)))) | ((with_reducible refine al_go ?_); intro b) | ((with_reducible refine And.intro ?_ ?_); (focus ((repeat (first | exact keep_none | exact keep_nil | exact keep_ro | refine keep_cons ?_)); done))) | ((with_reducible refine s_bi ?_ ?_); (focus rfl)) | with_reducible refine blk_ne rfl ?_ | ((with_reducible refine w_region ?_ ?_); (focus kernel_rfl)) | ((with_reducible refine w_draw [] ?_ ?_ ?_ ?_ ?_); (iterate 3 (focus kernel_rfl)); (focus exact keeps_nil)) | ((with_reducible first | refine gd_d1 ?_ ?_ | refine gd_d0 ?_ ?_); all_goals (intro hb; (first | with_reducible replace hb := nt_t hb | with_reducible replace hb := nt_f hb | skip); (first | replace hb := dc_t hb | replace hb := dc_f hb | have hb1 := eq_b hb | have hb1 := ne_b hb | have hb1 := bne_t hb | have hb1 := bne_f hb | skip); (try (exfalso; first | contradiction | omega)))))
      refine tr_loop (ι := Nat) (fun i A st' => i ≤ l.length ∧ i ≤ l'.length ∧ Hid (cmpL (l.drop i) (l'.drop i) = c4) ∧ A.df = [] ∧ A.e 2 = .ip [.i k, .i n, .str s, .sl .shared (l.map V.cells)] ∧ A.e 3 = .ip [.i k, .i n, .str s', .sl .shared (l'.map V.cells)] ∧ A.e 6 = .i i ∧ st = st') (fun i => l.length - i) 0 ⟨Nat.zero_le _, Nat.zero_le _, hCL, ?_, ?_, ?_, ?_, rfl⟩ ?_
      iterate 4 (focus (first | rfl | assumption | omega | (simp (disch := omega) only [push_cast, Nat.reduceEqDiff, reduceCtorEq, ↓reduceIte, Nat.reduceAdd, Nat.reduceMul, Nat.reduceSub, Nat.reduceLT, Nat.reduceLeDiff, Int.reduceToNat, Int.reduceLT, Int.reduceLE, Int.reduceAdd, Int.reduceSub, Int.reduceMul, Int.reduceBEq, Int.reduceBNe, encB, encI, V.cells_mk, V.cells_take, V.cells_len, isE_eq, *]; try omega; done)))
      clear h3 hlt2 hi hi' hdf e2 e3 e5 hCL i A
      rintro i A st' ⟨hi, hi', HT, hdf, e2, e3, e6, rfl⟩
      by_cases hlt : (i : Int) < l.length ∧ (i : Int) < l'.length
      · obtain ⟨hlt, hlt'⟩ := hlt
        obtain ⟨x, hx⟩ : ∃ x, l[i]? = some x := ⟨_, List.getElem?_eq_getElem (by omega)⟩
        obtain ⟨y, hy⟩ : ∃ y, l'[i]? = some y := ⟨_, List.getElem?_eq_getElem (by omega)⟩
        have HE := HT.out
        rw [V.drop_cons hx, V.drop_cons hy, cmpL] at HE
        have hC := IH.out x (mem_of hx) y
        clear HT IH
        cases x with
        | mk k1 n1 s1 l1 =>
        cases y with
        | mk k2 n2 s2 l2 =>
        rw [V.cells_mk, V.cells_mk] at hC
        generalize V.cmp _ _ = q at *
        have hC := Lib.hid hC
        by_cases h0 : q = 0
        · rw [if_pos h0] at HE
          have HE := Lib.hid HE
          subst h0
          repeat' (first | with_reducible refine Go1.go ?_ | ((with_reducible apply ev_go); (focus (try simp (disch := omega) only [push_cast, Nat.reduceEqDiff, reduceCtorEq, ↓reduceIte, Nat.reduceAdd, Nat.reduceMul, Nat.reduceSub, Nat.reduceLT, Nat.reduceLeDiff, Int.reduceToNat, Int.reduceLT, Int.reduceLE, Int.reduceAdd, Int.reduceSub, Int.reduceMul, Int.reduceBEq, Int.reduceBNe, encB, encI, V.cells_mk, V.cells_take, V.cells_len, isE_eq, *]); (try exact rfl); done)) | ((with_reducible refine w_last ?_ ?_ ?_); (focus kernel_rfl); (focus rfl)) | ((with_reducible apply w_stepG); (focus rfl)) | ((with_reducible apply lk_mem); (focus ((repeat (first | exact mm_h | apply mm_t)); done))) | with_reducible refine Go2.go ?_ | ((with_reducible apply sto_go); (focus (intro cs'; repeat (first | exact ra_h | apply ra_t)))) | ((with_reducible refine al_go ?_); intro b) | ((with_reducible refine And.intro ?_ ?_); (focus ((repeat (first | exact keep_none | exact keep_nil | exact keep_ro | refine keep_cons ?_)); done))) | ((with_reducible apply (ck_le Try.call51)); (focus exact LEL.refl _); (focus exact hC.out _)) | ((with_reducible refine s_bi ?_ ?_); (focus rfl)) | with_reducible refine blk_ne rfl ?_ | ((with_reducible refine w_region ?_ ?_); (focus kernel_rfl)) | ((with_reducible refine w_draw [] ?_ ?_ ?_ ?_ ?_); (iterate 3 (focus kernel_rfl)); (focus exact keeps_nil)) | ((with_reducible first | refine gd_d1 ?_ ?_ | refine gd_d0 ?_ ?_); all_goals (intro hb; (first | with_reducible replace hb := nt_t hb | with_reducible replace hb := nt_f hb | skip); (first | replace hb := dc_t hb | replace hb := dc_f hb | have hb1 := eq_b hb | have hb1 := ne_b hb | have hb1 := bne_t hb | have hb1 := bne_f hb | skip); (try (exfalso; first | contradiction | omega)))))
          refine ⟨i + 1, ⟨by omega, by omega, HE, ?_, ?_, ?_, ?_, rfl⟩, ?_⟩
          all_goals (first | rfl | assumption | omega | (simp (disch := omega) only [push_cast, Nat.reduceEqDiff, reduceCtorEq, ↓reduceIte, Nat.reduceAdd, Nat.reduceMul, Nat.reduceSub, Nat.reduceLT, Nat.reduceLeDiff, Int.reduceToNat, Int.reduceLT, Int.reduceLE, Int.reduceAdd, Int.reduceSub, Int.reduceMul, Int.reduceBEq, Int.reduceBNe, encB, encI, V.cells_mk, V.cells_take, V.cells_len, isE_eq, *]; try omega; done))
        · rw [if_neg h0] at HE
          rw [← HE]
          clear HE
          have h0' : (q != 0) = true := by simpa using h0
          repeat' (first | with_reducible refine Go1.go ?_ | ((with_reducible apply ev_go); (focus (try simp (disch := omega) only [push_cast, Nat.reduceEqDiff, reduceCtorEq, ↓reduceIte, Nat.reduceAdd, Nat.reduceMul, Nat.reduceSub, Nat.reduceLT, Nat.reduceLeDiff, Int.reduceToNat, Int.reduceLT, Int.reduceLE, Int.reduceAdd, Int.reduceSub, Int.reduceMul, Int.reduceBEq, Int.reduceBNe, encB, encI, V.cells_mk, V.cells_take, V.cells_len, isE_eq, *]); (try exact rfl); done)) | ((with_reducible refine w_last ?_ ?_ ?_); (focus kernel_rfl); (focus rfl)) | ((with_reducible apply w_stepG); (focus rfl)) | ((with_reducible apply lk_mem); (focus ((repeat (first | exact mm_h | apply mm_t)); done))) | with_reducible refine Go2.go ?_ | ((with_reducible apply sto_go); (focus (intro cs'; repeat (first | exact ra_h | apply ra_t)))) | ((with_reducible refine al_go ?_); intro b) | ((with_reducible refine And.intro ?_ ?_); (focus ((repeat (first | exact keep_none | exact keep_nil | exact keep_ro | refine keep_cons ?_)); done))) | ((with_reducible apply (ck_le Try.call51)); (focus exact LEL.refl _); (focus exact hC.out _)) | ((with_reducible refine s_bi ?_ ?_); (focus rfl)) | with_reducible refine blk_ne rfl ?_ | ((with_reducible refine w_region ?_ ?_); (focus kernel_rfl)) | ((with_reducible refine w_draw [] ?_ ?_ ?_ ?_ ?_); (iterate 3 (focus kernel_rfl)); (focus exact keeps_nil)) | ((with_reducible first | refine gd_d1 ?_ ?_ | refine gd_d0 ?_ ?_); all_goals (intro hb; (first | with_reducible replace hb := nt_t hb | with_reducible replace hb := nt_f hb | skip); (first | replace hb := dc_t hb | replace hb := dc_f hb | have hb1 := eq_b hb | have hb1 := ne_b hb | have hb1 := bne_t hb | have hb1 := bne_f hb | skip); (try (exfalso; first | contradiction | omega)))))
          all_goals (refine ret_eq (by first | exact .inl rfl | exact .inr rfl) (by first | rfl | assumption) (by (repeat (first | exact List.Sublist.refl _ | apply List.Sublist.cons))) ?_; (try simp (disch := omega) only [push_cast, Nat.reduceEqDiff, reduceCtorEq, ↓reduceIte, Nat.reduceAdd, Nat.reduceMul, Nat.reduceSub, Nat.reduceLT, Nat.reduceLeDiff, Int.reduceToNat, Int.reduceLT, Int.reduceLE, Int.reduceAdd, Int.reduceSub, Int.reduceMul, Int.reduceBEq, Int.reduceBNe, encB, encI, V.cells_mk, V.cells_take, V.cells_len, isE_eq, *]); try (first | exact LE.refl _ | exact LE.sl _ _ | (refine LE.tup ?_; (repeat' (first | exact LEL.nil | refine LEL.cons ?_ ?_ | exact LE.refl _ | exact LE.sl _ _ | refine LE.agg ?_)); done) | (refine LE.agg ?_; (repeat' (first | exact LEL.nil | refine LEL.cons ?_ ?_ | exact LE.refl _ | exact LE.sl _ _)); done) | refine LE.of_eq ?_))
      · have HE := HT.out
        rw [cmpL_end _ _ i (by omega) (by omega) (by omega)] at HE
        clear HT IH
        rw [← HE]
        clear HE
        by_cases h1 : (l.length : Int) < l'.length
        · rw [sgn_lt h1]
          have hlt : ¬ (i : Int) < l.length := by omega
          repeat' (first | with_reducible refine Go1.go ?_ | ((with_reducible apply ev_go); (focus (try simp (disch := omega) only [push_cast, Nat.reduceEqDiff, reduceCtorEq, ↓reduceIte, Nat.reduceAdd, Nat.reduceMul, Nat.reduceSub, Nat.reduceLT, Nat.reduceLeDiff, Int.reduceToNat, Int.reduceLT, Int.reduceLE, Int.reduceAdd, Int.reduceSub, Int.reduceMul, Int.reduceBEq, Int.reduceBNe, encB, encI, V.cells_mk, V.cells_take, V.cells_len, isE_eq, *]); (try exact rfl); done)) | ((with_reducible refine w_last ?_ ?_ ?_); (focus kernel_rfl); (focus rfl)) | ((with_reducible apply w_stepG); (focus rfl)) | ((with_reducible apply lk_mem); (focus ((repeat (first | exact mm_h | apply mm_t)); done))) | with_reducible refine Go2.go ?_ | ((with_reducible apply sto_go); (focus (intro cs'; repeat (first | exact ra_h | apply ra_t)))) | ((with_reducible refine al_go ?_); intro b) | ((with_reducible refine And.intro ?_ ?_); (focus ((repeat (first | exact keep_none | exact keep_nil | exact keep_ro | refine keep_cons ?_)); done))) | ((with_reducible refine s_bi ?_ ?_); (focus rfl)) | with_reducible refine blk_ne rfl ?_ | ((with_reducible refine w_region ?_ ?_); (focus kernel_rfl)) | ((with_reducible refine w_draw [] ?_ ?_ ?_ ?_ ?_); (iterate 3 (focus kernel_rfl)); (focus exact keeps_nil)) | ((with_reducible first | refine gd_d1 ?_ ?_ | refine gd_d0 ?_ ?_); all_goals (intro hb; (first | with_reducible replace hb := nt_t hb | with_reducible replace hb := nt_f hb | skip); (first | replace hb := dc_t hb | replace hb := dc_f hb | have hb1 := eq_b hb | have hb1 := ne_b hb | have hb1 := bne_t hb | have hb1 := bne_f hb | skip); (try (exfalso; first | contradiction | omega)))))
          all_goals (refine ret_eq (by first | exact .inl rfl | exact .inr rfl) (by first | rfl | assumption) (by (repeat (first | exact List.Sublist.refl _ | apply List.Sublist.cons))) ?_; (try simp (disch := omega) only [push_cast, Nat.reduceEqDiff, reduceCtorEq, ↓reduceIte, Nat.reduceAdd, Nat.reduceMul, Nat.reduceSub, Nat.reduceLT, Nat.reduceLeDiff, Int.reduceToNat, Int.reduceLT, Int.reduceLE, Int.reduceAdd, Int.reduceSub, Int.reduceMul, Int.reduceBEq, Int.reduceBNe, encB, encI, V.cells_mk, V.cells_take, V.cells_len, isE_eq, *]); try (first | exact LE.refl _ | exact LE.sl _ _ | (refine LE.tup ?_; (repeat' (first | exact LEL.nil | refine LEL.cons ?_ ?_ | exact LE.refl _ | exact LE.sl _ _ | refine LE.agg ?_)); done) | (refine LE.agg ?_; (repeat' (first | exact LEL.nil | refine LEL.cons ?_ ?_ | exact LE.refl _ | exact LE.sl _ _)); done) | refine LE.of_eq ?_))
        by_cases h2 : (l'.length : Int) < l.length
        · rw [sgn_gt h2]
          have hlt : ¬ (i : Int) < l'.length := by omega
          repeat' (first | with_reducible refine Go1.go ?_ | ((with_reducible apply ev_go); (focus (try simp (disch := omega) only [push_cast, Nat.reduceEqDiff, reduceCtorEq, ↓reduceIte, Nat.reduceAdd, Nat.reduceMul, Nat.reduceSub, Nat.reduceLT, Nat.reduceLeDiff, Int.reduceToNat, Int.reduceLT, Int.reduceLE, Int.reduceAdd, Int.reduceSub, Int.reduceMul, Int.reduceBEq, Int.reduceBNe, encB, encI, V.cells_mk, V.cells_take, V.cells_len, isE_eq, *]); (try exact rfl); done)) | ((with_reducible refine w_last ?_ ?_ ?_); (focus kernel_rfl); (focus rfl)) | ((with_reducible apply w_stepG); (focus rfl)) | ((with_reducible apply lk_mem); (focus ((repeat (first | exact mm_h | apply mm_t)); done))) | with_reducible refine Go2.go ?_ | ((with_reducible apply sto_go); (focus (intro cs'; repeat (first | exact ra_h | apply ra_t)))) | ((with_reducible refine al_go ?_); intro b) | ((with_reducible refine And.intro ?_ ?_); (focus ((repeat (first | exact keep_none | exact keep_nil | exact keep_ro | refine keep_cons ?_)); done))) | ((with_reducible refine s_bi ?_ ?_); (focus rfl)) | with_reducible refine blk_ne rfl ?_ | ((with_reducible refine w_region ?_ ?_); (focus kernel_rfl)) | ((with_reducible refine w_draw [] ?_ ?_ ?_ ?_ ?_); (iterate 3 (focus kernel_rfl)); (focus exact keeps_nil)) | ((with_reducible first | refine gd_d1 ?_ ?_ | refine gd_d0 ?_ ?_); all_goals (intro hb; (first | with_reducible replace hb := nt_t hb | with_reducible replace hb := nt_f hb | skip); (first | replace hb := dc_t hb | replace hb := dc_f hb | have hb1 := eq_b hb | have hb1 := ne_b hb | have hb1 := bne_t hb | have hb1 := bne_f hb | skip); (try (exfalso; first | contradiction | omega)))))
          all_goals (refine ret_eq (by first | exact .inl rfl | exact .inr rfl) (by first | rfl | assumption) (by (repeat (first | exact List.Sublist.refl _ | apply List.Sublist.cons))) ?_; (try simp (disch := omega) only [push_cast, Nat.reduceEqDiff, reduceCtorEq, ↓reduceIte, Nat.reduceAdd, Nat.reduceMul, Nat.reduceSub, Nat.reduceLT, Nat.reduceLeDiff, Int.reduceToNat, Int.reduceLT, Int.reduceLE, Int.reduceAdd, Int.reduceSub, Int.reduceMul, Int.reduceBEq, Int.reduceBNe, encB, encI, V.cells_mk, V.cells_take, V.cells_len, isE_eq, *]); try (first | exact LE.refl _ | exact LE.sl _ _ | (refine LE.tup ?_; (repeat' (first | exact LEL.nil | refine LEL.cons ?_ ?_ | exact LE.refl _ | exact LE.sl _ _ | refine LE.agg ?_)); done) | (refine LE.agg ?_; (repeat' (first | exact LEL.nil | refine LEL.cons ?_ ?_ | exact LE.refl _ | exact LE.sl _ _)); done) | refine LE.of_eq ?_))
        rw [show sgn (l.length : Int) l'.length = 0 from sgn_zero.2 (by omega)]
        have hlt : ¬ (i : Int) < l.length := by omega
        repeat' (first | with_reducible refine Go1.go ?_ | ((with_reducible apply ev_go); (focus (try simp (disch := omega) only [push_cast, Nat.reduceEqDiff, reduceCtorEq, ↓reduceIte, Nat.reduceAdd, Nat.reduceMul, Nat.reduceSub, Nat.reduceLT, Nat.reduceLeDiff, Int.reduceToNat, Int.reduceLT, Int.reduceLE, Int.reduceAdd, Int.reduceSub, Int.reduceMul, Int.reduceBEq, Int.reduceBNe, encB, encI, V.cells_mk, V.cells_take, V.cells_len, isE_eq, *]); (try exact rfl); done)) | ((with_reducible refine w_last ?_ ?_ ?_); (focus kernel_rfl); (focus rfl)) | ((with_reducible apply w_stepG); (focus rfl)) | ((with_reducible apply lk_mem); (focus ((repeat (first | exact mm_h | apply mm_t)); done))) | with_reducible refine Go2.go ?_ | ((with_reducible apply sto_go); (focus (intro cs'; repeat (first | exact ra_h | apply ra_t)))) | ((with_reducible refine al_go ?_); intro b) | ((with_reducible refine And.intro ?_ ?_); (focus ((repeat (first | exact keep_none | exact keep_nil | exact keep_ro | refine keep_cons ?_)); done))) | ((with_reducible refine s_bi ?_ ?_); (focus rfl)) | with_reducible refine blk_ne rfl ?_ | ((with_reducible refine w_region ?_ ?_); (focus kernel_rfl)) | ((with_reducible refine w_draw [] ?_ ?_ ?_ ?_ ?_); (iterate 3 (focus kernel_rfl)); (focus exact keeps_nil)) | ((with_reducible first | refine gd_d1 ?_ ?_ | refine gd_d0 ?_ ?_); all_goals (intro hb; (first | with_reducible replace hb := nt_t hb | with_reducible replace hb := nt_f hb | skip); (first | replace hb := dc_t hb | replace hb := dc_f hb | have hb1 := eq_b hb | have hb1 := ne_b hb | have hb1 := bne_t hb | have hb1 := bne_f hb | skip); (try (exfalso; first | contradiction | omega)))))
        all_goals (refine ret_eq (by first | exact .inl rfl | exact .inr rfl) (by first | rfl | assumption) (by (repeat (first | exact List.Sublist.refl _ | apply List.Sublist.cons))) ?_; (try simp (disch := omega) only [push_cast, Nat.reduceEqDiff, reduceCtorEq, ↓reduceIte, Nat.reduceAdd, Nat.reduceMul, Nat.reduceSub, Nat.reduceLT, Nat.reduceLeDiff, Int.reduceToNat, Int.reduceLT, Int.reduceLE, Int.reduceAdd, Int.reduceSub, Int.reduceMul, Int.reduceBEq, Int.reduceBNe, encB, encI, V.cells_mk, V.cells_take, V.cells_len, isE_eq, *]); try (first | exact LE.refl _ | exact LE.sl _ _ | (refine LE.tup ?_; (repeat' (first | exact LEL.nil | refine LEL.cons ?_ ?_ | exact LE.refl _ | exact LE.sl _ _ | refine LE.agg ?_)); done) | (refine LE.agg ?_; (repeat' (first | exact LEL.nil | refine LEL.cons ?_ ?_ | exact LE.refl _ | exact LE.sl _ _)); done) | refine LE.of_eq ?_))
open V in
theorem refSameF (a b : V) (ha : a.Ok) (st : St) : TrF Try.prog 28 [.agg a.cells, .agg b.cells] st fun x st' => x = .b (a.cmp b == 0) ∧ st' = st := by
  have hC := Lib.hid (refCompareF a.nodes a b (Nat.le_refl _) ha)
  cases a with
  | mk k n s l =>
  cases b with
  | mk k' n' s' l' =>
  rw [V.cells_mk, V.cells_mk] at *
  generalize V.cmp _ _ = q at *
  refine trF_enter (ts := [4]) Try.func28 rfl (by rw [Try.ntmps28]; exact Nat.le_of_ble_eq_true rfl) (fun tmps w => by simp [results, Try.results28, go_sem, resVal]) ?_
  simp only [Try.ntmps28]
  repeat' (first | with_reducible refine Go1.go ?_ | ((with_reducible apply ev_go); (focus (try simp (disch := omega) only [push_cast, Nat.reduceEqDiff, reduceCtorEq, ↓reduceIte, Nat.reduceAdd, Nat.reduceMul, Nat.reduceSub, Nat.reduceLT, Nat.reduceLeDiff, Int.reduceToNat, Int.reduceLT, Int.reduceLE, Int.reduceAdd, Int.reduceSub, Int.reduceMul, Int.reduceBEq, Int.reduceBNe, encB, encI, V.cells_mk, V.cells_take, V.cells_len, isE_eq, *]); (try exact rfl); done)) | ((with_reducible refine w_last ?_ ?_ ?_); (focus kernel_rfl); (focus rfl)) | ((with_reducible apply w_stepG); (focus rfl)) | ((with_reducible apply lk_mem); (focus ((repeat (first | exact mm_h | apply mm_t)); done))) | with_reducible refine Go2.go ?_ | ((with_reducible apply sto_go); (focus (intro cs'; repeat (first | exact ra_h | apply ra_t)))) | ((with_reducible refine al_go ?_); intro b) | ((with_reducible refine And.intro ?_ ?_); (focus ((repeat (first | exact keep_none | exact keep_nil | exact keep_ro | refine keep_cons ?_)); done))) | ((with_reducible apply (ck_le Try.call51)); (focus exact LEL.refl _); (focus exact hC.out _)) | ((with_reducible refine s_bi ?_ ?_); (focus rfl)) | with_reducible refine blk_ne rfl ?_ | ((with_reducible refine w_region ?_ ?_); (focus kernel_rfl)) | ((with_reducible refine w_draw [] ?_ ?_ ?_ ?_ ?_); (iterate 3 (focus kernel_rfl)); (focus exact keeps_nil)) | ((with_reducible first | refine gd_d1 ?_ ?_ | refine gd_d0 ?_ ?_); all_goals (intro hb; (first | with_reducible replace hb := nt_t hb | with_reducible replace hb := nt_f hb | skip); (first | replace hb := dc_t hb | replace hb := dc_f hb | have hb1 := eq_b hb | have hb1 := ne_b hb | have hb1 := bne_t hb | have hb1 := bne_f hb | skip); (try (exfalso; first | contradiction | omega)))))
  all_goals (refine ret_eq (by first | exact .inl rfl | exact .inr rfl) (by first | rfl | assumption) (by (repeat (first | exact List.Sublist.refl _ | apply List.Sublist.cons))) ?_; (try simp (disch := omega) only [push_cast, Nat.reduceEqDiff, reduceCtorEq, ↓reduceIte, Nat.reduceAdd, Nat.reduceMul, Nat.reduceSub, Nat.reduceLT, Nat.reduceLeDiff, Int.reduceToNat, Int.reduceLT, Int.reduceLE, Int.reduceAdd, Int.reduceSub, Int.reduceMul, Int.reduceBEq, Int.reduceBNe, encB, encI, V.cells_mk, V.cells_take, V.cells_len, isE_eq, *]); try (first | exact LE.refl _ | exact LE.sl _ _ | (refine LE.tup ?_; (repeat' (first | exact LEL.nil | refine LEL.cons ?_ ?_ | exact LE.refl _ | exact LE.sl _ _ | refine LE.agg ?_)); done) | (refine LE.agg ?_; (repeat' (first | exact LEL.nil | refine LEL.cons ?_ ?_ | exact LE.refl _ | exact LE.sl _ _)); done) | refine LE.of_eq ?_))
end Go.Proofs.Ytooaagmhgakhgaa
end

section
namespace Go.Proofs.Ytooaagmhgakhgaa
set_option linter.unusedSimpArgs false
open Go.RowKit
set_option maxRecDepth 10000
set_option maxHeartbeats 4000000
end Go.Proofs.Ytooaagmhgakhgaa
end

section
namespace Go.Proofs.Ytooaagmhgakhgaa
set_option linter.unusedSimpArgs false
open Go.RowKit
set_option maxRecDepth 10000
set_option maxHeartbeats 4000000
def Sch.has (t k : Nat) : Bool := t / 2 ^ k % 2 == 1
end Go.Proofs.Ytooaagmhgakhgaa
end

section
namespace Go.Proofs.Ytooaagmhgakhgaa
set_option linter.unusedSimpArgs false
open Go.RowKit
namespace Sch
theorem versL_take : ∀ (l : List Stp) (x : Vr) (k : Nat), versL x (l.take k) = (versL x l).take k
  | [], x, k => by simp [versL]
  | s :: l, x, 0 => by simp [versL]
  | s :: l, x, k + 1 => by
    rw [List.take_succ_cons, versL, versL]
    cases stepV x s with
    | none => simp
    | some y => simp [versL_take l y k]
def cut (t : Tm) (k : Nat) : Tm := ⟨t.name, t.slots, t.steps.take k⟩
theorem first_cut {t : Tm} {k : Nat} {x : Vr} (h : firstV t = some x) : firstV (cut t k) = some x := by
  unfold firstV at h ⊢
  split at h
  · rename_i hc
    rw [if_pos (by
      obtain ⟨h1, h2, h3, h4⟩ := hc
      refine ⟨h1, h2, h3, ?_⟩
      show (t.steps.take k).length ≤ 8
      rw [List.length_take]; omega)]
    exact h
  · cases h
theorem vers_cut {t : Tm} {k : Nat} (h : 0 < last t) : vers (cut t k) = (vers t).take (k + 1) := by
  unfold last at h
  split at h
  · rename_i hl
    cases hf : firstV t with
    | none =>
      unfold vers at hl
      rw [hf] at hl
      simp at hl
    | some x =>
      have := first_cut (k := k) hf
      unfold vers
      rw [hf, this, List.take_succ_cons]
      show x :: versL x (t.steps.take k) = _
      rw [versL_take]
  · omega
theorem last_len {t : Tm} (h : 0 < last t) : (vers t).length = t.steps.length + 1 ∧ last t = t.steps.length + 1 := by
  unfold last at h ⊢
  split at h
  · rename_i hl
    rw [if_pos hl]; exact ⟨hl, rfl⟩
  · omega
theorem last_cut {t : Tm} {k : Nat} (h : 0 < last t) (hk : k ≤ t.steps.length) : last (cut t k) = k + 1 := by
  have h1 := (last_len h).1
  have h2 : (cut t k).steps.length = k := by
    show (t.steps.take k).length = k
    rw [List.length_take]; omega
  unfold last
  rw [vers_cut h, h2, if_pos (by rw [List.length_take]; omega)]
theorem ver_eq {t : Tm} {v : Int} (h : 0 < last t) (h1 : 1 ≤ v) (h2 : v ≤ last t) : ∃ x, ver t v = some x ∧ (vers t)[(v - 1).toNat]? = some x := by
  have hl := last_len h
  have : (v - 1).toNat < (vers t).length := by omega
  refine ⟨(vers t)[(v - 1).toNat], ?_, List.getElem?_eq_getElem this⟩
  unfold ver
  rw [if_pos ⟨h, h1⟩, List.getElem?_eq_getElem this]
theorem ver_cut {t : Tm} {k : Nat} {v : Int} (h : 0 < last t) (hk : k ≤ t.steps.length) (h1 : 1 ≤ v) (h2 : v ≤ k + 1) : ∃ x, ver t v = some x ∧ ver (cut t k) v = some x ∧ x ∈ vers t := by
  have hl := last_len h
  obtain ⟨x, h3, h4⟩ := ver_eq h h1 (by omega)
  refine ⟨x, h3, ?_, List.mem_of_getElem? h4⟩
  unfold ver
  rw [if_pos ⟨by rw [last_cut h hk]; omega, h1⟩, vers_cut h, List.getElem?_take]
  rw [if_pos (by omega)]; exact h4
theorem modify_get {α : Type} {l : List α} {f : α → α} {i j : Nat} {y : α} (h : l[j]? = some y) : (l.modify i f)[j]? = some (if i = j then f y else y) := by
  rw [List.getElem?_modify, h]
  split <;> rfl
theorem step_dv {Q : V → Prop} {x y : Vr} {s : Stp} (hx : ∀ z ∈ x.slots, Q z.dv) (hs : Q s.slot.dv) (h : stepV x s = some y) : ∀ z ∈ y.slots, Q z.dv := by
  have hmod : ∀ (l : List Sl) (f : Sl → Sl) (i : Nat), (∀ z, (f z).dv = z.dv) → (∀ z ∈ l, Q z.dv) → ∀ z ∈ l.modify i f, Q z.dv := by
    intro l f i hf hl z hz
    obtain ⟨j, hj⟩ := List.getElem?_of_mem hz
    cases hlj : l[j]? with
    | none => rw [List.getElem?_modify, hlj] at hj; simp at hj
    | some w =>
      rw [modify_get hlj] at hj
      have hw := hl w (List.mem_of_getElem? hlj)
      cases hj
      split
      · rw [hf]; exact hw
      · exact hw
  unfold stepV at h
  split at h
  · unfold addS at h
    split at h
    · cases h
      intro z hz
      rcases List.mem_append.1 hz with h | h
      · exact hx z h
      · rw [List.mem_singleton] at h
        subst h; exact hs
    · cases h
  · split at h
    · unfold loseS at h
      split at h
      · cases h; exact hx
      · cases h
    · split at h
      · unfold renameS at h
        split at h
        · cases h; exact hmod _ _ _ (fun _ => rfl) hx
        · cases h
      · split at h
        · unfold widenS at h
          split at h
          · cases h; exact hmod _ _ _ (fun _ => rfl) hx
          · cases h
        · split at h
          · unfold reorderS at h
            split at h
            · cases hr : reo x.cols s.order [] with
              | none => rw [hr] at h; cases h
              | some r => rw [hr] at h; cases h; exact hx
            · cases h
          · cases h
theorem versL_dv {Q : V → Prop} : ∀ (l : List Stp) (x : Vr), (∀ z ∈ x.slots, Q z.dv) → (∀ s ∈ l, Q s.slot.dv) → ∀ y ∈ versL x l, ∀ z ∈ y.slots, Q z.dv
  | [], _, _, _, y, hy => by cases hy
  | s :: l, x, hx, hl, y, hy => by
    rw [versL] at hy
    cases hs : stepV x s with
    | none => rw [hs] at hy; cases hy
    | some z =>
      rw [hs] at hy
      have hz := step_dv hx (hl s (List.mem_cons_self ..)) hs
      rcases List.mem_cons.1 hy with rfl | hy
      · exact hz
      · exact versL_dv l z hz (fun s hs => hl s (List.mem_cons_of_mem _ hs)) y hy
theorem vers_dv {Q : V → Prop} {t : Tm} (hs : ∀ s ∈ t.slots, Q s.dv) (ht : ∀ s ∈ t.steps, Q s.slot.dv) : ∀ y ∈ vers t, ∀ z ∈ y.slots, Q z.dv := by
  intro y hy
  unfold vers at hy
  split at hy
  · cases hy
  · rename_i x hx
    obtain ⟨-, k3, -⟩ := first_vi hx
    rcases List.mem_cons.1 hy with rfl | hy
    · rw [k3]; exact hs
    · exact versL_dv _ _ (by rw [k3]; exact hs) ht y hy
end Sch
end Go.Proofs.Ytooaagmhgakhgaa
end

section
namespace Go.Proofs.Ytooaagmhgakhgaa
set_option linter.unusedSimpArgs false
open Go.RowKit
theorem readsIs : Reads Try.prog 36 (fun l : List Int => [D.sl .shared (l.map encI)]) fun l => (∀ x ∈ l, (Lit.int .i64 x).wf = true) ∧ l.length ≤ maxLen :=
  reads_slice' (sz := 1) Try.underlying36 (by kernel_rfl) (by omega) (reads_int (k := .i64) Try.underlying3) (fun _ => rfl) fun _ d hd => by
    rw [show ∀ x : Int, encI x = [D.i x] from fun _ => rfl, List.mem_singleton] at hd; subst hd; rfl
theorem Sl.cells_leaf (s : Sl) : ∀ d ∈ s.cells, d.leaf = true := by
  intro d hd
  unfold Sl.cells at hd
  simp only [List.mem_cons] at hd
  rcases hd with rfl | rfl | rfl | hd
  · rfl
  · rfl
  · rfl
  · exact V.cells_leaf _ d hd
theorem readsSl : Reads Try.prog 26 Sl.cells Sl.Ok := by
  intro n H enc W fuel cs x hf h
  obtain ⟨xs, m, rfl, -, hl, hn, hx⟩ := DataW.trod_struct Try.underlying26 h
  have hl7 : cs.length = 7 := hl.trans (by kernel_rfl)
  obtain ⟨a, a1, a2⟩ := struct_field (i := 0) (n := m) (f := fun a : ByteArray => [D.str a]) hx hn rfl (k := 1) (by kernel_rfl) (reads_string Try.underlying9 _) (Nat.le_refl _)
  obtain ⟨b, b1, b2⟩ := struct_field (i := 1) (n := m) (f := fun a : Int => [D.i a]) hx hn rfl (k := 1) (by kernel_rfl) (reads_int (k := .i64) Try.underlying3 _) (Nat.le_refl _)
  obtain ⟨c, c1, -⟩ := struct_field (i := 2) (n := m) (f := fun a : Bool => [D.b a]) hx hn rfl (k := 1) (by kernel_rfl) (reads_bool Try.underlying4 _) (Nat.le_refl _)
  obtain ⟨d, d1, d2⟩ := struct_field (i := 3) (n := m) (f := V.cells) hx hn rfl (k := 4) (by kernel_rfl) (readsV _) (Nat.le_refl _)
  refine ⟨⟨a, b, c, d⟩, ?_, a2, i64_bounds b2, d2⟩
  have := RepL.glue a1 (RepL.glue b1 (RepL.glue c1 (RepL.glue d1 (RepL.glue_end hl7))))
  rw [List.append_nil] at this
  exact this
def Stp.Wf (s : Stp) : Prop := (-9223372036854775808 ≤ s.kind ∧ s.kind ≤ 9223372036854775807) ∧ (-9223372036854775808 ≤ s.col ∧ s.col ≤ 9223372036854775807) ∧ s.slot.Ok ∧ s.order.length ≤ maxLen
theorem Stp.cells_len (s : Stp) : s.cells.length = 10 := by
  unfold Stp.cells
  rw [List.length_cons, List.length_cons, List.length_append, Sl.cells_len]; rfl
theorem Stp.cells_leaf (s : Stp) : ∀ d ∈ s.cells, d.leaf = true := by
  intro d hd
  unfold Stp.cells at hd
  simp only [List.mem_cons, List.mem_append, List.not_mem_nil, or_false] at hd
  rcases hd with rfl | rfl | hd | rfl
  · rfl
  · rfl
  · exact Sl.cells_leaf _ d hd
  · rfl
theorem readsStp : Reads Try.prog 74 Stp.cells Stp.Wf := by
  intro n H enc W fuel cs x hf h
  obtain ⟨xs, m, rfl, -, hl, hn, hx⟩ := DataW.trod_struct Try.underlying74 h
  have hl10 : cs.length = 10 := hl.trans (by kernel_rfl)
  obtain ⟨a, a1, a2⟩ := struct_field (i := 0) (n := m) (f := fun a : Int => [D.i a]) hx hn rfl (k := 1) (by kernel_rfl) (reads_int (k := .i64) Try.underlying3 _) (Nat.le_refl _)
  obtain ⟨b, b1, b2⟩ := struct_field (i := 1) (n := m) (f := fun a : Int => [D.i a]) hx hn rfl (k := 1) (by kernel_rfl) (reads_int (k := .i64) Try.underlying3 _) (Nat.le_refl _)
  obtain ⟨c, c1, c2⟩ := struct_field (i := 2) (n := m) (f := Sl.cells) hx hn rfl (k := 7) (by kernel_rfl) (readsSl _) (Nat.le_refl _)
  obtain ⟨d, d1, -, d2⟩ := struct_field (i := 3) (n := m) (f := fun l : List Int => [D.sl .shared (l.map encI)]) hx hn rfl (k := 1) (by kernel_rfl) (readsIs _) (Nat.le_refl _)
  refine ⟨⟨a, b, c, d⟩, ?_, i64_bounds a2, i64_bounds b2, c2, d2⟩
  have := RepL.glue a1 (RepL.glue b1 (RepL.glue c1 (RepL.glue d1 (RepL.glue_end hl10))))
  rw [List.append_nil] at this
  exact this
structure Tm.Wf (t : Tm) : Prop where
  nm : t.name.size ≤ maxLen
  ss : ∀ s ∈ t.slots, s.Ok
  sl : t.slots.length ≤ maxLen
  ps : ∀ s ∈ t.steps, s.Wf
  pl : t.steps.length ≤ maxLen
theorem readsSls : Reads Try.prog 30 (fun l : List Sl => [D.sl .shared (l.map Sl.cells)]) fun l => (∀ x ∈ l, x.Ok) ∧ l.length ≤ maxLen :=
  reads_slice' (sz := 7) Try.underlying30 (by kernel_rfl) (by omega) readsSl Sl.cells_len Sl.cells_leaf
theorem readsStps : Reads Try.prog 31 (fun l : List Stp => [D.sl .shared (l.map Stp.cells)]) fun l => (∀ x ∈ l, x.Wf) ∧ l.length ≤ maxLen :=
  reads_slice' (sz := 10) Try.underlying31 (by kernel_rfl) (by omega) readsStp Stp.cells_len Stp.cells_leaf
theorem readsTm : Reads Try.prog 33 Tm.cells Tm.Wf := by
  intro n H enc W fuel cs x hf h
  obtain ⟨xs, m, rfl, -, hl, hn, hx⟩ := DataW.trod_struct Try.underlying33 h
  have hl3 : cs.length = 3 := hl.trans (by kernel_rfl)
  obtain ⟨a, a1, a2⟩ := struct_field (i := 0) (n := m) (f := fun a : ByteArray => [D.str a]) hx hn rfl (k := 1) (by kernel_rfl) (reads_string Try.underlying9 _) (Nat.le_refl _)
  obtain ⟨b, b1, b2, b3⟩ := struct_field (i := 1) (n := m) (f := fun l : List Sl => [D.sl .shared (l.map Sl.cells)]) hx hn rfl (k := 1) (by kernel_rfl) (readsSls _) (Nat.le_refl _)
  obtain ⟨c, c1, c2, c3⟩ := struct_field (i := 2) (n := m) (f := fun l : List Stp => [D.sl .shared (l.map Stp.cells)]) hx hn rfl (k := 1) (by kernel_rfl) (readsStps _) (Nat.le_refl _)
  refine ⟨⟨a, b, c⟩, ?_, ⟨a2, b2, b3, c2, c3⟩⟩
  exact RepL.glue a1 (RepL.glue b1 (RepL.glue c1 (RepL.glue_end hl3)))
end Go.Proofs.Ytooaagmhgakhgaa
end

section
namespace Go.Proofs.Ytooaagmhgakhgaa
set_option linter.unusedSimpArgs false
open Go.RowKit
namespace V
theorem cmpB_self : ∀ l : List UInt8, cmpB l l = 0
  | [] => rfl
  | x :: l => by rw [cmpB, sgn_self, if_pos rfl, cmpB_self l]
theorem ors_all {a b c d : Int} : ors [a, b, c, d] = 0 ↔ a = 0 ∧ b = 0 ∧ c = 0 ∧ d = 0 := by
  unfold ors ors ors ors ors
  constructor
  · intro h
    by_cases ha : a = 0
    · rw [if_pos ha] at h
      by_cases hb : b = 0
      · rw [if_pos hb] at h
        by_cases hc : c = 0
        · rw [if_pos hc] at h
          by_cases hd : d = 0
          · exact ⟨ha, hb, hc, hd⟩
          · rw [if_neg hd] at h; exact absurd h hd
        · rw [if_neg hc] at h; exact absurd h hc
      · rw [if_neg hb] at h; exact absurd h hb
    · rw [if_neg ha] at h; exact absurd h ha
  · rintro ⟨rfl, rfl, rfl, rfl⟩; rfl
mutual
theorem cmp_self : ∀ v : V, v.cmp v = 0
  | .mk k n s l => by rw [cmp, ors_all]; exact ⟨sgn_self k, sgn_self n, cmpB_self _, cmpL_self l⟩
theorem cmpL_self : ∀ l : List V, cmpL l l = 0
  | [] => by rw [cmpL]
  | x :: l => by rw [cmpL, cmp_self x, if_pos rfl, cmpL_self l]
end
theorem cmpB_eq : ∀ a b : List UInt8, cmpB a b = 0 → a = b
  | [], [], _ => rfl
  | [], _ :: _, h => by rw [cmpB] at h; omega
  | _ :: _, [], h => by rw [cmpB] at h; omega
  | x :: a, y :: b, h => by
    rw [cmpB] at h
    split at h
    · rename_i h0
      have hxy : x.toNat = y.toNat := by have := sgn_zero.1 h0; omega
      rw [UInt8.toNat_inj.1 hxy, cmpB_eq a b h]
    · rename_i h0; exact absurd h h0
mutual
theorem cmp_eq : ∀ a b : V, a.cmp b = 0 → a = b
  | .mk k n s l, .mk k' n' s' l', h => by
    rw [cmp, ors_all] at h
    obtain ⟨h1, h2, h3, h4⟩ := h
    have hs : s = s' := by
      apply ByteArray.ext
      apply Array.ext'
      exact cmpB_eq _ _ h3
    rw [sgn_zero.1 h1, sgn_zero.1 h2, hs, cmpL_eq l l' h4]
theorem cmpL_eq : ∀ a b : List V, cmpL a b = 0 → a = b
  | [], [], _ => rfl
  | [], _ :: _, h => by rw [cmpL] at h; omega
  | _ :: _, [], h => by rw [cmpL] at h; omega
  | x :: a, y :: b, h => by
    rw [cmpL] at h
    split at h
    · rename_i h0
      rw [cmp_eq x y h0, cmpL_eq a b h]
    · rename_i h0; exact absurd h h0
end
end V
end Go.Proofs.Ytooaagmhgakhgaa
end
