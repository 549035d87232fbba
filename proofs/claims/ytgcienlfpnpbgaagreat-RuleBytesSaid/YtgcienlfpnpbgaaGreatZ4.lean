/- Texts put together: AmPivot, AmPivot2, AmDrawT, AmRow, AmRow2, Slices, SchA, SchB, SchC, SchD, SchE, SchF, SchG, SchH, AmRes, SchI, SchL, SchJ, SchK, SchTw, RegA, Bin06a, Bin06d, Bin06e, Bin06b, Bin06c, Bin06f. No statement is proved here. -/
import Derived.Test.YtgcienlfpnpbgaaGreatShelf
import Derived.Deep.QuietTactic
import Derived.BigQuiet
import Derived.Laws.BitsAllLaws
import Derived.Test.YtgcienlfpnpbgaaGreatZ3
set_option linter.all false
section
namespace Go.Proofs.YtgcienlfpnpbgaaGreat
set_option linter.unusedSimpArgs false
open Go.RowKit
section
variable {P : Program} {r : Option Nat} {ro : Ro} {ops : Array Oper} {md : Region.Mode} {st : St}
def wpAnyP (P : Program) (r : Option Nat) (ro : Ro) (md : Region.Mode) (ops : Array Oper) (p : Nat) (Q : AA → St → Prop) : Nat → Array Bool → AA → St → Prop
 | 0, _, _, _ => False
 | fuel + 1, listed, A, st => Region.ready md ops listed ≠ [] ∧ ∀ i ∈ Region.ready md ops listed, ∀ o, ops[i]? = some o →
  if i = p then mOpA P r ro true ops o (fun A' st' => ∃ ro2, Keeps ro2 st' ∧ wpAnyA P r ro2 md ops Q fuel (listed.setIfInBounds i true) A' st') A st
  else mOpA P r ro false ops o (wpAnyP P r ro md ops p Q fuel (listed.setIfInBounds i true)) A st
def pureA (o : Oper) : Bool := freeA o && match o.op with
 | .load _ _ => false
 | _ => true
theorem frC_pure {ro ro' : Ro} {o : Oper} {e : Nat → D} (h : pureA o = true) : frC P ro o e = frC P ro' o e := by
 unfold pureA at h
 unfold frC
 split
 · rename_i t x hop
   rw [hop] at h
   simp at h
 · rfl
def Between (ms : List Nat) (ops : Array Oper) (p : Nat) : Prop := ∀ j oj, ops[j]? = some oj → j ≠ p → waitsT ms j p = true ∨ waitsT ms p j = true ∨ pureA oj = true
theorem wpAnyP_pivot {ms : List Nat} (hms : MOk md ops.toList ms) {p : Nat} (hB : Between ms ops p) {Q : AA → St → Prop} {op : Oper} (hp : ops[p]? = some op) : ∀ (fuel : Nat) (listed : Array Bool) (A : AA) (st : St), Keeps ro st → DC md ops listed →
 (∀ j oj, ops[j]? = some oj → j ≠ p → listed.getD j true = false → waitsT ms j p = false → op.apart ops oj = true) → p ∈ Region.ready md ops listed →
 mOpA P r ro true ops op (fun A' st' => ∃ ro2, Keeps ro2 st' ∧ wpAnyA P r ro2 md ops Q fuel (listed.setIfInBounds p true) A' st') A st → wpAnyP P r ro md ops p Q (fuel + 1) listed A st := by
 intro fuel
 induction fuel with
 | zero =>
  intro listed A st hw hdc hfree hr H
  refine ⟨fun h => (by rw [h] at hr; cases hr), fun i hi oi hoi => ?_⟩
  by_cases hip : i = p
  · subst hip
    rw [hp] at hoi; cases hoi
    rw [if_pos rfl]; exact H
  · exfalso
    obtain ⟨v, w', _, ro2, _, h1⟩ := mOpA_some hw H
    have h2 := ready_mono hi hip
    rw [h1.1] at h2
    cases h2
 | succ fuel ih =>
  intro listed A st hw hdc hfree hr H
  refine ⟨fun h => (by rw [h] at hr; cases hr), fun j hj oj hoj => ?_⟩
  by_cases hjp : j = p
  · subst hjp
    rw [hp] at hoj; cases hoj
    rw [if_pos rfl]; exact H
  · rw [if_neg hjp]
    have h1 := hdc.ready hms (ready_unlisted hr) hj
    have h2 := hdc.ready hms (ready_unlisted hj) hr
    have hpu : pureA oj = true := by
     rcases hB j oj hoj hjp with h | h | h
     · rw [h1] at h; cases h
     · rw [h2] at h; cases h
     · exact h
    have hfj : freeA oj = true := by
     unfold pureA at hpu
     rw [Bool.and_eq_true] at hpu
     exact hpu.1
    have hdc' := hdc.step hj
    obtain ⟨hjun, -⟩ := mem_ready.1 hj
    have hap := hfree j oj hoj hjp hjun h1
    obtain ⟨d1, d2, d3⟩ := Oper.apart_spec hap
    have hri := ready_mono hr (Ne.symm hjp)
    have hcomm : (listed.setIfInBounds j true).setIfInBounds p true = (listed.setIfInBounds p true).setIfInBounds j true := Array.setIfInBounds_comm _ _ hjp
    have hfree' : ∀ k ok, ops[k]? = some ok → k ≠ p → (listed.setIfInBounds j true).getD k true = false → waitsT ms k p = false → op.apart ops ok = true := fun k ok hk hkp hun hno => by
     refine hfree k ok hk hkp ?_ hno
     by_cases hjk : j = k
     · subst hjk; exact hjun
     · rw [getD_set_ne true hjk] at hun; exact hun
    have hij : ∀ v st' ro2, wpAnyA P r ro2 md ops Q (fuel + 1) (listed.setIfInBounds p true) (A.put op.dst v) st' →
     mOpA P r ro2 (decide (j + 1 = ops.size) && lastAll ops) ops oj (wpAnyA P r ro2 md ops Q fuel ((listed.setIfInBounds j true).setIfInBounds p true)) (A.put op.dst v) st' := fun v st' ro2 h => by
     have := h.2 j (ready_mono hj hjp) oj hoj
     rw [hcomm]; exact this
    have hjw : ∀ v, wantedA ops oj (A.put op.dst v).e = wantedA ops oj A.e := fun v => wantedA_far d1
    have hje : ∀ v ro2, frC P ro2 oj (A.put op.dst v).e = frC P ro oj A.e := fun v ro2 => (frC_congr (ev_far d1)).trans (frC_pure hpu)
    by_cases hwj : wantedA ops oj A.e = true
    · obtain ⟨v1, w1, hc1, ro1, q1, k1⟩ := mOpA_some hw H
      have k2 := hij v1 w1 ro1 k1
      unfold mOpA at k2
      rw [hjw v1, if_pos hwj, if_pos hfj, hje v1] at k2
      obtain ⟨u, hu, _⟩ := k2
      have hstep : mOpA P r ro true ops op (fun A' st' => ∃ ro2, Keeps ro2 st' ∧ wpAnyA P r ro2 md ops Q fuel ((listed.setIfInBounds j true).setIfInBounds p true) A' st') (A.put oj.dst u) st := by
       refine mOpA_far hap (mOpA_put hw (fun v w' hc ⟨ro2, g1, g2⟩ => ⟨ro2, g1, ?_⟩) H)
       have k3 := hij v w' ro2 g2
       unfold mOpA at k3
       rw [hjw v, if_pos hwj, if_pos hfj, hje v] at k3
       obtain ⟨u', hu', k4⟩ := k3
       rw [hu] at hu'
       cases hu'
       exact k4
      unfold mOpA
      rw [if_pos hwj, if_pos hfj]
      exact ⟨u, hu, ih _ _ _ hw hdc' hfree' hri hstep⟩
    · have hstep : mOpA P r ro true ops op (fun A' st' => ∃ ro2, Keeps ro2 st' ∧ wpAnyA P r ro2 md ops Q fuel ((listed.setIfInBounds j true).setIfInBounds p true) A' st') (A.put oj.dst D.un) st := by
       refine mOpA_far hap (mOpA_put hw (fun v w' hc ⟨ro2, g1, g2⟩ => ⟨ro2, g1, ?_⟩) H)
       have k3 := hij v w' ro2 g2
       unfold mOpA at k3
       rw [hjw v, if_neg hwj] at k3
       exact k3
      unfold mOpA
      rw [if_neg hwj]
      exact ih _ _ _ hw hdc' hfree' hri hstep
theorem wpAnyP_first {ms : List Nat} (hms : MOk md ops.toList ms) {p : Nat} {Q : AA → St → Prop} {i : Nat} {oi : Oper} (hi : ops[i]? = some oi) (hip : i ≠ p) (hpi : waitsT ms p i = true) :
 ∀ (fuel : Nat) (listed : Array Bool) (A : AA) (st : St), Keeps ro st → DC md ops listed →
  (∀ j oj, ops[j]? = some oj → j ≠ i → listed.getD j true = false → waitsT ms j i = false → oi.apart ops oj = true ∧ (freeA oi = true ∨ freeA oj = true)) →
  i ∈ Region.ready md ops listed →
  mOpA P r ro false ops oi (wpAnyP P r ro md ops p Q fuel (listed.setIfInBounds i true)) A st → wpAnyP P r ro md ops p Q (fuel + 1) listed A st := by
 intro fuel
 induction fuel with
 | zero =>
  intro listed A st hw _ _ hr H
  obtain ⟨v, w', _, h1⟩ := mOpA_some hw H
  exact h1.elim
 | succ fuel ih =>
  intro listed A st hw hdc hfree hr H
  refine ⟨fun h => (by rw [h] at hr; cases hr), fun j hj oj hoj => ?_⟩
  by_cases hji : j = i
  · subst hji
    rw [hi] at hoj; cases hoj
    rw [if_neg hip]; exact H
  · obtain ⟨hjun, oj', hoj', hall⟩ := mem_ready.1 hj
    rw [hoj] at hoj'; cases hoj'
    have hnot := hdc.ready hms (ready_unlisted hr) hj
    have hjp : j ≠ p := fun e => by
     subst e
     rw [hpi] at hnot; cases hnot
    rw [if_neg hjp]
    have hdc' := hdc.step hj
    obtain ⟨hap, hfk⟩ := hfree j oj hoj hji hjun hnot
    obtain ⟨d1, d2, d3⟩ := Oper.apart_spec hap
    have hfree' : ∀ k ok, ops[k]? = some ok → k ≠ i → (listed.setIfInBounds j true).getD k true = false →
     waitsT ms k i = false → oi.apart ops ok = true ∧ (freeA oi = true ∨ freeA ok = true) := fun k ok hk hki hun hno => by
     refine hfree k ok hk hki ?_ hno
     by_cases hjk : j = k
     · subst hjk; exact hjun
     · rw [getD_set_ne true hjk] at hun; exact hun
    have hri := ready_mono hr (Ne.symm hji)
    have hcomm : (listed.setIfInBounds j true).setIfInBounds i true = (listed.setIfInBounds i true).setIfInBounds j true := Array.setIfInBounds_comm _ _ hji
    have hij : ∀ v st', wpAnyP P r ro md ops p Q (fuel + 1) (listed.setIfInBounds i true) (A.put oi.dst v) st' →
     mOpA P r ro false ops oj (wpAnyP P r ro md ops p Q fuel ((listed.setIfInBounds j true).setIfInBounds i true)) (A.put oi.dst v) st' := fun v st' h => by
     have := h.2 j (ready_mono hj hji) oj hoj
     rw [if_neg hjp] at this
     rw [hcomm]; exact this
    have hjw : ∀ v, wantedA ops oj (A.put oi.dst v).e = wantedA ops oj A.e := fun v => wantedA_far d1
    have hje : ∀ v, frC P ro oj (A.put oi.dst v).e = frC P ro oj A.e := fun v => frC_congr (ev_far d1)
    have hput : ∀ v u, (A.put oi.dst v).put oj.dst u = (A.put oj.dst u).put oi.dst v := fun v u => put_comm A v u d2
    by_cases hwj : wantedA ops oj A.e = true
    · by_cases hfj : freeA oj = true
      · obtain ⟨v1, w1, hc1, k1⟩ := mOpA_some hw H
        have k2 := hij v1 w1 k1
        unfold mOpA at k2
        rw [hjw v1, if_pos hwj, if_pos hfj, hje v1] at k2
        obtain ⟨u, hu, _⟩ := k2
        have hstep : mOpA P r ro false ops oi (wpAnyP P r ro md ops p Q fuel ((listed.setIfInBounds j true).setIfInBounds i true)) (A.put oj.dst u) st := by
         refine mOpA_far hap (mOpA_put hw (fun v w' hc h => ?_) H)
         have k3 := hij v w' h
         unfold mOpA at k3
         rw [hjw v, if_pos hwj, if_pos hfj, hje v] at k3
         obtain ⟨u', hu', k4⟩ := k3
         rw [hu] at hu'
         cases hu'
         exact k4
        unfold mOpA
        rw [if_pos hwj, if_pos hfj]
        exact ⟨u, hu, ih _ _ _ hw hdc' hfree' hri hstep⟩
      · have hfi : freeA oi = true := hfk.resolve_right hfj
        have key : ∀ v, wpAnyP P r ro md ops p Q (fuel + 1) (listed.setIfInBounds i true) (A.put oi.dst v) st → (∀ u st', Keeps ro st' → wpAnyP P r ro md ops p Q fuel ((listed.setIfInBounds j true).setIfInBounds i true) ((A.put oj.dst u).put oi.dst v) st' → mOpA P r ro false ops oi (wpAnyP P r ro md ops p Q fuel ((listed.setIfInBounds j true).setIfInBounds i true)) (A.put oj.dst u) st') →
         mOpA P r ro false ops oj (wpAnyP P r ro md ops p Q (fuel + 1) (listed.setIfInBounds j true)) A st := fun v h hback => by
         have k3 := hij v st h
         unfold mOpA at k3 ⊢
         rw [hjw v, if_pos hwj, if_neg hfj] at k3
         rw [if_pos hwj, if_neg hfj]
         obtain ⟨k4, u, st', k5, k6⟩ := k3
         refine ⟨(opC_congr (ev_far d1) k4).mono fun u st' hk => ⟨hk.1, ?_⟩, u, st', k5, ?_⟩
         · have hk2 := hk.2
           rw [hput v u] at hk2
           have hk1 := hk.1.resolve_left Bool.false_ne_true
           exact ih _ _ _ hk1 hdc' hfree' hri (hback u st' hk1 hk2)
         · rw [hput v u] at k6
           have hk1 := k5.resolve_left Bool.false_ne_true
           exact ih _ _ _ hk1 hdc' hfree' hri (hback u st' hk1 k6)
        have hiw : ∀ u, wantedA ops oi (A.put oj.dst u).e = wantedA ops oi A.e := fun u => wantedA_far d3
        have hie : ∀ u, frC P ro oi (A.put oj.dst u).e = frC P ro oi A.e := fun u => frC_congr (ev_far d3)
        unfold mOpA at H
        by_cases hwi : wantedA ops oi A.e = true
        · rw [if_pos hwi, if_pos hfi] at H
          obtain ⟨v, hv, h⟩ := H
          refine key v h fun u w' hc hk => ?_
          unfold mOpA
          rw [hiw u, if_pos hwi, if_pos hfi, hie u]
          exact ⟨v, hv, hk⟩
        · rw [if_neg hwi] at H
          refine key D.un H fun u w' hc hk => ?_
          unfold mOpA
          rw [hiw u, if_neg hwi]
          exact hk
    · have hstep : mOpA P r ro false ops oi (wpAnyP P r ro md ops p Q fuel ((listed.setIfInBounds j true).setIfInBounds i true)) (A.put oj.dst D.un) st := by
       refine mOpA_far hap (mOpA_put hw (fun v w' hc h => ?_) H)
       have k3 := hij v w' h
       unfold mOpA at k3
       rw [hjw v, if_neg hwj] at k3
       exact k3
      unfold mOpA
      rw [if_neg hwj]
      exact ih _ _ _ hw hdc' hfree' hri hstep
theorem wpAnyP_lex {ms : List Nat} (hms : MOk md ops.toList ms) (hL : LastW ms ops) (hall : lastAll ops = true) {p : Nat} (hBt : Between ms ops p) {op : Oper} {l2 : List Oper} {Q : AA → St → Prop} : ∀ (l1 : List Oper) (k : Nat) (listed : Array Bool) (A : AA) (st : St), Keeps ro st → DC md ops listed → k + l1.length = p → (∀ i, k ≤ i → i < p → waitsT ms p i = true) → (∀ j, (l1 ++ op :: l2)[j]? = ops[k + j]?) →
 mixFromA md ms ops (l1 ++ op :: l2).length k listed = true → wpMixA P r ro ops (fun A' st' => ∃ ro2, Keeps ro2 st' ∧ wpMixA P r ro2 ops Q l2 A' st') (l1 ++ [op]) A st → wpAnyP P r ro md ops p Q (l1 ++ op :: l2).length listed A st
 | [], k, listed, A, st, hw, hdc, hk, hwt, hl, hB, h => by
  have hkp : k = p := hk
  subst hkp
  have h0 : ops[k]? = some op := by simpa using (hl 0).symm
  simp only [List.nil_append, List.length_cons, mixFromA, Bool.and_eq_true] at hB
  obtain ⟨⟨hr, hf⟩, hB'⟩ := hB
  have hrk : k ∈ Region.ready md ops listed := by simpa using hr
  refine wpAnyP_pivot hms hBt h0 _ _ _ _ hw hdc (fun j oj hj hne hun hno => (mixFreeA_spec h0 hf j oj hj hne hun hno).1) hrk ?_
  have h : mOpA P r ro (true && lastAll ops) ops op (fun A' st' => ∃ ro2, Keeps ro2 st' ∧ wpMixA P r ro2 ops Q l2 A' st') A st := h
  rw [hall] at h
  refine mOpA_put hw (fun v w' _ ⟨ro2, q1, q2⟩ => ⟨ro2, q1, ?_⟩) h
  exact wpAnyA_lex hms hL l2 (k + 1) _ _ _ q1 (hdc.step hrk) (fun j => by have := hl (j + 1); simpa [Nat.add_assoc, Nat.add_comm 1 j] using this) hB' q2
 | o :: l1, k, listed, A, st, hw, hdc, hk, hwt, hl, hB, h => by
  have h0 : ops[k]? = some o := by simpa using (hl 0).symm
  simp only [List.cons_append, List.length_cons, mixFromA, Bool.and_eq_true] at hB
  obtain ⟨⟨hr, hf⟩, hB'⟩ := hB
  rw [List.length_cons] at hk
  refine wpAnyP_first hms h0 (by omega) (hwt k (Nat.le_refl _) (by omega)) _ listed A st hw hdc (mixFreeA_spec h0 hf) (by simpa using hr) ?_
  have h : mOpA P r ro ((l1 ++ [op]).isEmpty && lastAll ops) ops o (wpMixA P r ro ops (fun A' st' => ∃ ro2, Keeps ro2 st' ∧ wpMixA P r ro2 ops Q l2 A' st') (l1 ++ [op])) A st := h
  have hne : (l1 ++ [op]).isEmpty = false := by simp
  rw [hne, Bool.false_and] at h
  refine mOpA_put hw (fun v w' hc hk' => ?_) h
  exact wpAnyP_lex hms hL hall hBt l1 (k + 1) _ _ _ (hc.resolve_left Bool.false_ne_true) (hdc.step (by simpa using hr)) (by omega) (fun i h1 h2 => hwt i (by omega) h2) (fun j => by have := hl (j + 1); simpa [Nat.add_assoc, Nat.add_comm 1 j] using this) hB' hk'
theorem wpAnyIn_of_P {N : Nat} {ms : List Nat} (hms : MOk md ops.toList ms) (hL : LastW ms ops) {p : Nat} {K : AA → St → Prop} (hok : ∀ (i : Nat) (o : Oper), ops[i]? = some o → dstOk N o.dst = true ∧ guardOk N ops o = true) : ∀ (fuel : Nat) (listed : Array Bool) (A : AA) (st : St) (a : Act) (w : World) (Q : Exit → Act → World → Prop), Keeps ro st → DC md ops listed → RelA N (OwnS st) w a A → Holds st w → wpAnyP P r ro md ops p K fuel listed A st →
 (∀ A' st' a' w', RelA N (OwnS st') w' a' A' → Holds st' w' → Ext (OwnS st) w (OwnS st') w' → K A' st' → Q .normal a' w') → wpAnyIn (FR r) 0 P md ops Q fuel listed a w
 | 0, listed, A, st, a, w, Q, hk, hdc, hr, hh, h, hQ => h.elim
 | fuel + 1, listed, A, st, a, w, Q, hk, hdc, hr, hh, h, hQ => by
  refine ⟨fun h0 => absurd h0 h.1, fun i hi => ?_⟩
  obtain ⟨_, o, ho, _⟩ := mem_ready.1 hi
  obtain ⟨hd, hg⟩ := hok i o ho
  have hm := h.2 i hi o ho
  unfold wpOpIn
  simp only [ho]
  rw [wantedA_eq hr ops o (guardOk_spec hg)]
  by_cases hip : i = p
  · rw [if_pos hip] at hm
    unfold mOpA at hm
    split
    · rename_i hw
      rw [if_pos hw] at hm
      refine wpIn_of_ResC ?_
      have hC : OpC P r o A.e st fun d st' => ∃ ro2, Keeps ro2 st' ∧ wpAnyA P r ro2 md ops K fuel (listed.setIfInBounds i true) (A.put o.dst d) st' := by
       split at hm
       · obtain ⟨d, k1, k2⟩ := hm
         exact (frC_sound hk k1).opC k2
       · exact hm.1.mono fun d st' hkp => hkp.2
      exact (hC a.eval w (hr.repE _) hh).mono fun v w' ⟨d, st', k1, k2, k3, ro2, k4, k5⟩ =>
       wpAnyIn_of_A hms hL hok fuel _ _ st' _ w' Q (.inl k4) (hdc.step hi) ((hr.ext k3).put hd k1) k2 k5 fun A' st'' a' w'' q1 q2 q3 q4 => hQ A' st'' a' w'' q1 q2 (k3.trans q3) q4
    · rename_i hw
      rw [if_neg hw] at hm
      obtain ⟨ro2, k4, k5⟩ := hm
      exact ⟨fun f _ => trivial, wpAnyIn_of_A hms hL hok fuel _ _ st _ w Q (.inl k4) (hdc.step hi) (hr.put hd (.s undef rfl)) hh k5 hQ⟩
  · rw [if_neg hip] at hm
    unfold mOpA at hm
    split
    · rename_i hw
      rw [if_pos hw] at hm
      refine wpIn_of_ResC ?_
      have hC : OpC P r o A.e st fun d st' => Keeps ro st' ∧ wpAnyP P r ro md ops p K fuel (listed.setIfInBounds i true) (A.put o.dst d) st' := by
       split at hm
       · obtain ⟨d, k1, k2⟩ := hm
         exact (frC_sound hk k1).opC ⟨hk, k2⟩
       · exact hm.1.mono fun d st' hkp => ⟨hkp.1.resolve_left Bool.false_ne_true, hkp.2⟩
      exact (hC a.eval w (hr.repE _) hh).mono fun v w' ⟨d, st', k1, k2, k3, k4, k5⟩ =>
       wpAnyIn_of_P hms hL hok fuel _ _ st' _ w' Q k4 (hdc.step hi) ((hr.ext k3).put hd k1) k2 k5 fun A' st'' a' w'' q1 q2 q3 q4 => hQ A' st'' a' w'' q1 q2 (k3.trans q3) q4
    · rename_i hw
      rw [if_neg hw] at hm
      exact ⟨fun f _ => trivial, wpAnyIn_of_P hms hL hok fuel _ _ st _ w Q hk (hdc.step hi) (hr.put hd (.s undef rfl)) hh hm hQ⟩
def betweenB (l : List Oper) (p : Nat) : Bool := lastAll l.toArray && (List.range l.length).all fun j => j == p || (if j < p then waitsT (masks .any l []) p j else waitsT (masks .any l []) j p || ((l[j]?).any pureA))
theorem tr_drawP {N : Nat} {id : Nat} {l : List Oper} {A : AA} {Q : Exit → AA → St → Prop} (ro : Ro) (l1 : List Oper) (op : Oper) (l2 : List Oper) (hl : l = l1 ++ op :: l2) (hm : P.follows .mixedOrders = true) (hB : mixBA .any l.toArray = true) (hok : opsOk N l = true) (hbt : betweenB l l1.length = true) (hC : Keeps ro st)
 (h : wpMixA P r ro l.toArray (fun A' st' => ∃ ro2, Keeps ro2 st' ∧ wpMixA P r ro2 l.toArray (Q .normal) l2 A' st') (l1 ++ [op]) A st) : Tr P N r (.region id l.toArray true) A st Q := by
 intro a w h1 h2
 have hok' : ∀ (i : Nat) (o : Oper), l.toArray[i]? = some o → dstOk N o.dst = true ∧ guardOk N l.toArray o = true := fun i o ho => by
  have := List.all_eq_true.1 hok o (by simp at ho; exact List.mem_of_getElem? ho)
  simpa using this
 have he := Ext.drew (OwnS st) w
 have hms := masks_ok (md := .any) l l [] (by simp) (fun k i h => by simp at h)
 have hL : LastW (masks .any l []) l.toArray := fun h j i hj hi hne => by
  unfold lastAll at h
  have := List.all_eq_true.1 h i (List.mem_range.2 (by omega))
  rw [show l.toArray.size - 1 = j by omega] at this
  exact this
 unfold betweenB at hbt
 rw [Bool.and_eq_true] at hbt
 have hsz : l.toArray.size = l.length := by simp
 have hb : ∀ j, j < l.length → j ≠ l1.length → (if j < l1.length then waitsT (masks .any l []) l1.length j else waitsT (masks .any l []) j l1.length || ((l[j]?).any pureA)) = true := fun j hj hne => by
  have := List.all_eq_true.1 hbt.2 j (List.mem_range.2 hj)
  rw [Bool.or_eq_true, beq_iff_eq] at this
  exact this.resolve_left hne
 have hBt : Between (masks .any l []) l.toArray l1.length := fun j oj hj hne => by
  have hjl := (Array.getElem?_eq_some_iff.1 hj).1
  have := hb j (by rw [← hsz]; exact hjl) hne
  split at this
  · exact .inr (.inl this)
  · rw [Bool.or_eq_true] at this
    rcases this with h | h
    · exact .inl h
    · refine .inr (.inr ?_)
      rw [show l[j]? = some oj by simpa using hj] at h
      exact h
 have hdc : DC .any l.toArray (Array.replicate l.toArray.size false) := fun k o _ hl => absurd hl (by rw [getD_rep]; exact Bool.false_ne_true)
 have hlen : l1.length < l.length := by rw [hl]; simp
 have hany := wpAnyP_lex (P := P) (r := r) (ro := ro) (md := .any) hms hL hbt.1 hBt (op := op) (l2 := l2) (Q := Q .normal) l1 0 (Array.replicate l.toArray.size false) A st hC hdc (by omega) (fun i _ hi => by
  have := hb i (by omega) (by omega)
  rwa [if_pos hi] at this) (fun j => by rw [← hl]; simp) (by rw [← hl]; simpa [mixBA] using hB) h
 refine wpIn_region_any hm ?_
 rw [← hl] at hany
 rw [hsz] at hany hdc ⊢
 exact wpAnyIn_of_P hms hL hok' _ _ A st a w.drew _ hC hdc (h1.ext he) (h2.drewN 1) hany fun A' st' a' w' q1 q2 q3 q5 => ⟨A', st', q1, q2, he.trans q3, q5⟩
theorem mOpA_mono {f : Bool} {o : Oper} {A : AA} {K K' : AA → St → Prop} (h : ∀ A st, K A st → K' A st) (hh : mOpA P r ro f ops o K A st) : mOpA P r ro f ops o K' A st := by
 unfold mOpA at *
 split
 · rename_i hw
   rw [if_pos hw] at hh
   split
   · rename_i hf
     rw [if_pos hf] at hh
     obtain ⟨d, h1, h2⟩ := hh
     exact ⟨d, h1, h _ _ h2⟩
   · rename_i hf
     rw [if_neg hf] at hh
     obtain ⟨h1, d, st', h2, h3⟩ := hh
     exact ⟨h1.mono fun d st' hk => ⟨hk.1, h _ _ hk.2⟩, d, st', h2, h _ _ h3⟩
 · rename_i hw
   rw [if_neg hw] at hh
   exact h _ _ hh
theorem wpMixA_mono {K K' : AA → St → Prop} (h : ∀ A st, K A st → K' A st) : ∀ (l : List Oper) (A : AA) (st : St), wpMixA P r ro ops K l A st → wpMixA P r ro ops K' l A st
 | [], A, st, hh => h A st hh
 | o :: l, A, st, hh => mOpA_mono (wpMixA_mono h l) hh
def ne1 (b : Nat) : St → Prop
 | [] => True
 | .box b' _ _ :: s => ((b' == b) = false ∧ (b == b') = false) ∧ ne1 b s
 | _ :: s => ne1 b s
def nes : St → Prop
 | [] => True
 | .box b _ _ :: s => ne1 b s ∧ nes s
 | _ :: s => nes s
theorem ne1_of {b : Nat} {x : Res} (hb : x.blk = some b) : ∀ {s : St}, (∀ y ∈ s, Apart x y) → ne1 b s
 | [], _ => trivial
 | y :: s, h => by
  have ht : ne1 b s := ne1_of hb fun z hz => h z (List.mem_cons_of_mem _ hz)
  cases y with
  | box b' ty cs =>
   have hne : b' ≠ b := fun e => h _ (List.mem_cons_self ..) b hb (by rw [← e]; rfl)
   exact ⟨⟨beq_eq_false_iff_ne.2 hne, beq_eq_false_iff_ne.2 hne.symm⟩, ht⟩
  | room => exact ht
  | raw => exact ht
  | know => exact ht
theorem nes_of : ∀ {s : St}, s.Pairwise Apart → nes s
 | [], _ => trivial
 | y :: s, h => by
  have h' := List.pairwise_cons.1 h
  have ht := nes_of h'.2
  cases y with
  | box b ty cs => exact ⟨ne1_of rfl h'.1, ht⟩
  | room => exact ht
  | raw => exact ht
  | know => exact ht
theorem tr_nes {N : Nat} {c : Code} {A : AA} {Q : Exit → AA → St → Prop} (h : nes st → Tr P N r c A st Q) : Tr P N r c A st Q := fun a w ha hh => h (nes_of hh.1) a w ha hh
theorem w_drawQ {N : Nat} {id : Nat} {l : List Oper} {A : AA} {Q : Exit → AA → St → Prop} (ro : Ro) (n : Nat) {t1 t2 : List Oper} (hm : P.follows .mixedOrders = true) (hB : mixBA .any l.toArray = true) (hok : opsOk N l = true) (hbt : betweenB l n = true) (h1 : l.take (n + 1) = t1) (h2 : l.drop (n + 1) = t2) (hC : Keep (some ro) st)
 (h : nes st → W P r (some ro) l.toArray (fun A' st' => ∃ ro2, Keep (some ro2) st' ∧ W P r (some ro2) l.toArray (Q .normal) t2 A' st') t1 A st) : Tr P N r (.region id l.toArray true) A st Q := by
 refine tr_nes fun hne => ?_
 subst h1 h2
 by_cases hn : n < l.length
 · have hl : l = l.take n ++ l[n] :: l.drop (n + 1) := by rw [List.getElem_cons_drop, List.take_append_drop]
   have hlen : (l.take n).length = n := by rw [List.length_take]; omega
   refine tr_drawP ro (l.take n) l[n] (l.drop (n + 1)) hl hm hB hok (by rw [hlen]; exact hbt) hC ?_
   rw [show l.take n ++ [l[n]] = l.take (n + 1) from (List.take_succ_eq_append_getElem hn).symm]
   exact wpMixA_mono (fun A' st' ⟨ro2, k1, k2⟩ => ⟨ro2, k1, k2⟩) _ _ _ (h hne)
 · rw [List.take_of_length_le (by omega), List.drop_of_length_le (by omega)] at h
   exact tr_draw ro hm hB hok hC (wpMixA_mono (fun A' st' ⟨ro2, k1, k2⟩ => k2) _ _ _ (h hne))
theorem w_drawN {N : Nat} {id : Nat} {l : List Oper} {A : AA} {Q : Exit → AA → St → Prop} (ro : Ro) (hm : P.follows .mixedOrders = true) (hB : mixBA .any l.toArray = true) (hok : opsOk N l = true) (hC : Keep (some ro) st)
 (h : nes st → W P r (some ro) l.toArray (Q .normal) l A st) : Tr P N r (.region id l.toArray true) A st Q := tr_nes fun hne => w_draw ro hm hB hok hC (h hne)
end
end Go.Proofs.YtgcienlfpnpbgaaGreat
end
section
namespace Go.Proofs.YtgcienlfpnpbgaaGreat
open Go.RowKit
theorem w_drawRN {P : Program} {r : Option Nat} {st : St} {N : Nat} {id : Nat} {l : List Oper} {A : AA} {Q : Exit → AA → St → Prop} (hm : P.follows .mixedOrders = true) (hB : mixBA .any l.toArray = true) (hok : opsOk N l = true)
 (h : nes st → W P r (some (roOf st)) l.toArray (Q .normal) l A st) : Tr P N r (.region id l.toArray true) A st Q := tr_nes fun hne => w_draw (roOf st) hm hB hok (keeps_roOf st) (h hne)
end Go.Proofs.YtgcienlfpnpbgaaGreat
end
section
namespace Go.Proofs.YtgcienlfpnpbgaaGreat
set_option linter.unusedSimpArgs false
open Go.RowKit
section
variable {P : Program} {r : Option Nat} {ro : Ro}
def freeL (ms : List Nat) (l : List Oper) (a c : Nat) (listed : Array Bool) : Bool := (List.range l.length).all fun i => i == a || i == c || listed.getD i false || match l[i]? with
 | some o => freeA o || waitsT ms i a || waitsT ms i c
 | none => true
theorem freeL_spec {ms : List Nat} {l : List Oper} {a c : Nat} {listed : Array Bool} (h : freeL ms l a c listed = true) {i : Nat} {o : Oper} (ho : l[i]? = some o) (ha : i ≠ a) (hc : i ≠ c) (hl : listed.getD i false = false) : freeA o = true ∨ waitsT ms i a = true ∨ waitsT ms i c = true := by
 have := List.all_eq_true.1 h i (List.mem_range.2 (List.getElem?_eq_some_iff.1 ho).1)
 rw [ho] at this
 simpa [ha, hc, hl, or_assoc] using this
theorem any_twoL {ms : List Nat} {l : List Oper} (hms : MOk .any l.toArray.toList ms) {a c : Nat} {Q : AA → St → Prop} (hac : a ≠ c) (hl1 : lastAll (addE l a c).toArray = true → lastAll l.toArray = true) (hl2 : lastAll (addE l c a).toArray = true → lastAll l.toArray = true) : ∀ (fuel : Nat) (listed : Array Bool) (A : AA) (st : St), listed.getD a false = false → listed.getD c false = false → DC .any l.toArray listed →
 (∀ (i : Nat) (o : Oper), l[i]? = some o → i ≠ a → i ≠ c → listed.getD i false = false → freeA o = true ∨ waitsT ms i a = true ∨ waitsT ms i c = true) →
 wpAnyA P r ro .any (addE l a c).toArray Q fuel listed A st → wpAnyA P r ro .any (addE l c a).toArray Q fuel listed A st → wpAnyA P r ro .any l.toArray Q fuel listed A st
 | 0, listed, A, st, ha, hc, hdc, hfr, h1, h2 => by
  refine ⟨List.eq_nil_iff_forall_not_mem.2 fun i hi => ?_, h1.2⟩
  by_cases hia : i = a
  · have := (ready_addE (l := l) (x := c) (y := a)).2 ⟨hi, fun e => absurd (hia.symm.trans e) hac⟩
    rw [h2.1] at this; cases this
  · have := (ready_addE (l := l) (x := a) (y := c)).2 ⟨hi, fun e => absurd e hia⟩
    rw [h1.1] at this; cases this
 | fuel + 1, listed, A, st, ha, hc, hdc, hfr, h1, h2 => by
  refine ⟨fun h0 => h1.1 (List.eq_nil_iff_forall_not_mem.2 fun i hi => ?_), fun i hi o ho => ?_⟩
  · have := (ready_addE.1 hi).1
    rw [h0] at this; cases this
  · have ho' : l[i]? = some o := by simpa using ho
    obtain ⟨o1, ho1, hs1⟩ := addE_same (x := a) (y := c) ho'
    obtain ⟨o2, ho2, hs2⟩ := addE_same (x := c) (y := a) ho'
    by_cases hia : i = a
    · subst hia
      exact mOpA_same hs2 (addE_dst l c i) (flag_addE hl2) (fun A st => any_listed hl2 fuel _ A st (listed_set hi)) (h2.2 i (ready_addE.2 ⟨hi, fun e => absurd e hac⟩) o2 (by simpa using ho2))
    · by_cases hic : i = c
      · subst hic
        exact mOpA_same hs1 (addE_dst l a i) (flag_addE hl1) (fun A st => any_listed hl1 fuel _ A st (listed_set hi)) (h1.2 i (ready_addE.2 ⟨hi, fun e => absurd e hia⟩) o1 (by simpa using ho1))
      · have hil : listed.getD i false = false := by
         have := (mem_ready.1 hi).1
         rw [Array.getD_eq_getD_getElem?] at this ⊢
         cases hg : listed[i]? with
         | none => rw [hg] at this; cases this
         | some b => rw [hg] at this; exact this
        have hfo : freeA o = true := by
         rcases hfr i o ho' hia hic hil with h | h | h
         · exact h
         · rw [hdc.ready hms ha hi] at h; cases h
         · rw [hdc.ready hms hc hi] at h; cases h
        have k1 := mOpA_same (f' := (decide (i + 1 = l.toArray.size) && lastAll l.toArray)) hs1 (addE_dst l a c) (flag_addE hl1) (fun _ _ h => h) (h1.2 i (ready_addE.2 ⟨hi, fun e => absurd e hia⟩) o1 (by simpa using ho1))
        have k2 := mOpA_same (f' := (decide (i + 1 = l.toArray.size) && lastAll l.toArray)) hs2 (addE_dst l c a) (flag_addE hl2) (fun _ _ h => h) (h2.2 i (ready_addE.2 ⟨hi, fun e => absurd e hic⟩) o2 (by simpa using ho2))
        refine mOpA_same (.refl o) (fun _ => rfl) id (fun A st h => ?_) (mOpA_and hfo k1 k2)
        refine any_twoL hms hac hl1 hl2 fuel _ A st (by rw [getD_set_ne false hia]; exact ha) (by rw [getD_set_ne false hic]; exact hc) (hdc.step hi) (fun j o hj h1 h2 h3 => hfr j o hj h1 h2 ?_) h.1 h.2
        cases hj2 : listed.getD j false with
        | false => rfl
        | true => rw [getD_set_true hj2] at h3; cases h3
theorem dc_addE {l : List Oper} {a c : Nat} {listed : Array Bool} (h : DC .any l.toArray listed) (ha : listed.getD a false = false) : DC .any (addE l a c).toArray listed := by
 intro k o ho hk e he hb
 by_cases hka : k = a
 · subst hka
   rw [hk] at ha; cases ha
 · rw [List.getElem?_toArray, addE_get, if_neg hka] at ho
   exact h k o (by rw [List.getElem?_toArray]; exact ho) hk e he hb
def endL (ks : List Nat) (listed : Array Bool) : Array Bool := ks.foldl (fun li k => li.setIfInBounds k true) listed
def preB (ms : List Nat) (ops : Array Oper) : List Nat → Array Bool → Bool
 | [], _ => true
 | k :: ks, listed => (Region.ready .any ops listed).contains k && mixFreeA ms ops listed k && preB ms ops ks (listed.setIfInBounds k true)
def W0 (P : Program) (r : Option Nat) (ro : Ro) (ops : Array Oper) (K : AA → St → Prop) : List Oper → AA → St → Prop
 | [], A, st => K A st
 | o :: l, A, st => mOpA P r ro false ops o (W0 P r ro ops K l) A st
def wpOrd0 (P : Program) (r : Option Nat) (ro : Ro) (ops : Array Oper) (K : AA → St → Prop) : List Nat → AA → St → Prop
 | [], A, st => K A st
 | k :: ks, A, st => ∀ o, ops[k]? = some o → mOpA P r ro false ops o (wpOrd0 P r ro ops K ks) A st
theorem any_pre {ops : Array Oper} {ms : List Nat} (hms : MOk .any ops.toList ms) (hL : LastW ms ops) {Q K : AA → St → Prop} {n : Nat} : ∀ (ks : List Nat) (listed : Array Bool) (A : AA) (st : St), Keeps ro st → DC .any ops listed →
 preB ms ops ks listed = true → (∀ A st, Keeps ro st → DC .any ops (endL ks listed) → K A st → wpAnyA P r ro .any ops Q n (endL ks listed) A st) → wpOrd0 P r ro ops K ks A st → wpAnyA P r ro .any ops Q (ks.length + n) listed A st
 | [], listed, A, st, hw, hdc, _, hk, h => by
  rw [List.length_nil, Nat.zero_add]
  exact hk A st hw hdc h
 | k :: ks, listed, A, st, hw, hdc, hB, hk, h => by
  simp only [preB, Bool.and_eq_true] at hB
  obtain ⟨⟨hr, hf⟩, hB'⟩ := hB
  have hr' : k ∈ Region.ready .any ops listed := by simpa using hr
  obtain ⟨-, o, h0, -⟩ := mem_ready.1 hr'
  rw [List.length_cons, Nat.succ_add]
  refine wpAnyA_first hms hL h0 (ks.length + n) listed A st hw hdc (mixFreeA_spec h0 hf) hr' ?_
  refine mOpA_same (.refl o) (fun _ => rfl) (f := false) (fun q => by cases q) (fun _ _ h => h) (mOpA_put hw (fun v w' hc hq => ?_) (h o h0))
  exact any_pre hms hL ks _ _ _ (hc.resolve_left (by simp)) (hdc.step hr') hB' hk hq
theorem ord0_of {l : List Oper} {ops : Array Oper} (hs : ∀ (i : Nat) (o : Oper), ops[i]? = some o → ∃ o', l[i]? = some o' ∧ SameOp o' o) (hd : ∀ j : Nat, (l.toArray[j]?).bind (fun o : Oper => o.dst) = (ops[j]?).bind (fun o : Oper => o.dst)) {K : AA → St → Prop} : ∀ (ks : List Nat) (A : AA) (st : St),
 W0 P r ro l.toArray K (ks.filterMap fun k => l[k]?) A st → wpOrd0 P r ro ops K ks A st
 | [], A, st, h => h
 | k :: ks, A, st, h => fun o ho => by
  obtain ⟨o', ho', hso⟩ := hs k o ho
  rw [List.filterMap_cons, ho'] at h
  exact mOpA_same hso hd id (fun A st => ord0_of hs hd ks A st) h
theorem w0_yes {ops : Array Oper} {o : Oper} {l : List Oper} {K : AA → St → Prop} {A : AA} {st : St} (hw : wantedA ops o A.e = true) (h : S P r (some ro) o A st fun d st' => W0 P r ro ops K l (A.put o.dst d) st') : W0 P r ro ops K (o :: l) A st := by
 show mOpA P r ro false ops o _ A st
 unfold mOpA
 rw [if_pos hw]
 replace h : if freeA o then ∃ d, frC P ro o A.e = some d ∧ _ else _ := h
 split
 · rename_i hf; rw [if_pos hf] at h; exact h
 · rename_i hf
   rw [if_neg hf] at h
   obtain ⟨h1, d, st', h2, h3⟩ := h
   exact ⟨h1.mono fun d st' hk => ⟨.inr hk.1, hk.2⟩, d, st', .inr h2, h3⟩
instance i_w0_step {ops : Array Oper} {K : AA → St → Prop} {A : AA} {st : St} {dst : Option Tmp} {op : Op} {ty : TypeId} {pos : String} {aft : Array Edge} {l : List Oper} : Go1 (W0 P r ro ops K (⟨dst, op, ty, pos, aft, none⟩ :: l) A st) (S P r (some ro) ⟨dst, op, ty, pos, aft, none⟩ A st fun d st' => W0 P r ro ops K l (A.put dst d) st') := ⟨w0_yes (wanted_none rfl)⟩
instance i_w0_nil {ops : Array Oper} {K : AA → St → Prop} {A : AA} {st : St} : Go1 (W0 P r ro ops K [] A st) (K A st) := ⟨id⟩
inductive Plan where
 | leaf (ks : List Nat)
 | node (ks : List Nat) (a c : Nat) (p q : Plan)
inductive PlanL where
 | leaf (t : List Oper)
 | node (t : List Oper) (p q : PlanL)
def Plan.n : Plan → Nat
 | .leaf ks => ks.length
 | .node ks _ _ p _ => ks.length + p.n
def pickL (l : List Oper) : List Nat → List Oper
 | [] => []
 | k :: ks => match l[k]? with
  | some o => o :: pickL l ks
  | none => pickL l ks
theorem pickL_eq (l : List Oper) : ∀ ks : List Nat, (ks.filterMap fun k => l[k]?) = pickL l ks
 | [] => rfl
 | k :: ks => by
  rw [List.filterMap_cons, pickL, pickL_eq l ks]
  cases l[k]? <;> rfl
def Plan.lists (l : List Oper) : Plan → PlanL
 | .leaf ks => .leaf (pickL l ks)
 | .node ks _ _ p q => .node (pickL l ks) (p.lists l) (q.lists l)
def Both (p q : Prop) : Prop := p ∧ q
theorem both_go {p q : Prop} (h : p) (k : q) : Both p q := ⟨h, k⟩
def wPL (P : Program) (r : Option Nat) (ro : Ro) (ops : Array Oper) (Q : AA → St → Prop) : PlanL → AA → St → Prop
 | .leaf t, A, st => W P r (some ro) ops Q t A st
 | .node t p q, A, st => W0 P r ro ops (fun A st => Both (wPL P r ro ops Q p A st) (wPL P r ro ops Q q A st)) t A st
def planB : Plan → List Oper → Array Bool → Bool
 | .leaf ks, l, listed => ks.all (fun k => decide (k < l.length)) && mixOrdA (masks .any l []) l.toArray ks listed
 | .node ks a c p q, l, listed => ks.all (fun k => decide (k < l.length)) && preB (masks .any l []) l.toArray ks listed && (a != c && !(endL ks listed).getD a false && !(endL ks listed).getD c false && freeL (masks .any l []) l a c (endL ks listed) && (lastAll (addE l a c).toArray == lastAll l.toArray) && (lastAll (addE l c a).toArray == lastAll l.toArray) && decide (p.n = q.n) && planB p (addE l a c) (endL ks listed) && planB q (addE l c a) (endL ks listed))
theorem SameOp.trans {a b c : Oper} (h : SameOp a b) (k : SameOp b c) : SameOp a c := ⟨h.dst.trans k.dst, h.op.trans k.op, h.type.trans k.type, h.pos.trans k.pos, h.guard.trans k.guard⟩
theorem lastw (l : List Oper) : LastW (masks .any l []) l.toArray := fun h j i hj hi hne => by
 unfold lastAll at h
 have := List.all_eq_true.1 h i (List.mem_range.2 (by omega))
 rw [show l.toArray.size - 1 = j by omega] at this
 exact this
theorem plan_any (l0 : List Oper) {Q : AA → St → Prop} : ∀ (T : Plan) (l : List Oper) (listed : Array Bool) (A : AA) (st : St), l.length = l0.length → (∀ (i : Nat) (o : Oper), l[i]? = some o → ∃ o', l0[i]? = some o' ∧ SameOp o' o) → (∀ j : Nat, (l0.toArray[j]?).bind (fun o : Oper => o.dst) = (l.toArray[j]?).bind (fun o : Oper => o.dst)) → (lastAll l0.toArray = lastAll l.toArray) → Keeps ro st → DC .any l.toArray listed → planB T l listed = true →
 wPL P r ro l0.toArray Q (T.lists l0) A st → wpAnyA P r ro .any l.toArray Q T.n listed A st
 | .leaf ks, l, listed, A, st, hlen, hs, hd, hl, hC, hdc, hB, h => by
  simp only [planB, Bool.and_eq_true] at hB
  have hk : ∀ k ∈ ks, k < l0.length := fun k hk => by
   have := List.all_eq_true.1 hB.1 k hk
   rw [← hlen]; exact of_decide_eq_true this
  refine wpAnyA_ord (masks_ok (md := .any) l l [] (by simp) (fun k i h => by simp at h)) (lastw l) ks listed A st hC hdc hB.2 ?_
  refine ord_of_mix (l := l0) (fun i o ho => hs i o (by simpa using ho)) hd (fun h => by rw [← hl]; exact h) ks A st hk ?_
  rw [pickL_eq]
  exact h
 | .node ks a c p q, l, listed, A, st, hlen, hs, hd, hl, hC, hdc, hB, h => by
  simp only [planB, Bool.and_eq_true, Bool.not_eq_true', bne_iff_ne, ne_eq, decide_eq_true_eq, beq_iff_eq] at hB
  obtain ⟨⟨hB0, hB1⟩, ⟨⟨⟨⟨⟨⟨⟨⟨hac, hna⟩, hnc⟩, hfr⟩, hl1⟩, hl2⟩, hn⟩, hBp⟩, hBq⟩⟩ := hB
  have hk : ∀ k ∈ ks, k < l0.length := fun k hk => by
   have := List.all_eq_true.1 hB0 k hk
   rw [← hlen]; exact of_decide_eq_true this
  have hms : MOk .any l.toArray.toList (masks .any l []) := masks_ok (md := .any) l l [] (by simp) (fun k i h => by simp at h)
  have same : ∀ x y, (∀ (i : Nat) (o : Oper), (addE l x y)[i]? = some o → ∃ o', l0[i]? = some o' ∧ SameOp o' o) := fun x y i o ho => by
   have hi : i < l.length := by
    have := (List.getElem?_eq_some_iff.1 ho).1
    simpa [addE_len] using this
   obtain ⟨o1, ho1, hso⟩ := addE_same (x := x) (y := y) (List.getElem?_eq_getElem hi)
   rw [ho1] at ho
   cases ho
   obtain ⟨o', h1, h2⟩ := hs i _ (List.getElem?_eq_getElem hi)
   exact ⟨o', h1, h2.trans hso.symm⟩
  refine any_pre hms (lastw l) (n := p.n) ks listed A st hC hdc hB1 (fun A st hC hdc hK => ?_) (ord0_of (l := l0) (fun i o ho => hs i o (by simpa using ho)) hd ks A st (by rw [pickL_eq]; exact h))
  obtain ⟨hp, hq⟩ := hK
  refine any_twoL hms hac (fun h => by rw [← hl1]; exact h) (fun h => by rw [← hl2]; exact h) p.n _ A st hna hnc hdc (fun i o ho h1 h2 h3 => freeL_spec hfr ho h1 h2 h3) ?_ ?_
  · exact plan_any l0 p (addE l a c) _ A st (by rw [addE_len]; exact hlen) (same a c) (fun j => (hd j).trans (addE_dst l a c j).symm) (by rw [hl, hl1]) hC (dc_addE hdc hna) hBp hp
  · rw [hn]
    exact plan_any l0 q (addE l c a) _ A st (by rw [addE_len]; exact hlen) (same c a) (fun j => (hd j).trans (addE_dst l c a j).symm) (by rw [hl, hl2]) hC (dc_addE hdc hnc) hBq hq
def drawB (T : Plan) (l : List Oper) : Bool := decide (T.n = l.length) && planB T l (Array.replicate l.length false)
theorem w_drawT {N : Nat} {id : Nat} {l : List Oper} {X : PlanL} {A : AA} {st : St} {Q : Exit → AA → St → Prop} (T : Plan) (k : Tmp) (hk : l.head?.bind (fun o => o.dst) = some k) (hm : P.follows .mixedOrders = true) (hB : drawB T l = true) (hok : opsOk N l = true) (hX : T.lists l = X)
 (h : nes st → wPL P r (roOf st) l.toArray (Q .normal) X A st) : Tr P N r (.region id l.toArray true) A st Q := by
 clear hk
 refine tr_nes fun hne => ?_
 intro ac w hr hh
 replace h := h hne
 subst hX
 simp only [drawB, Bool.and_eq_true, decide_eq_true_eq] at hB
 obtain ⟨hn, hB⟩ := hB
 have hok' : ∀ (i : Nat) (o : Oper), l.toArray[i]? = some o → dstOk N o.dst = true ∧ guardOk N l.toArray o = true := fun i o ho => by
  have := List.all_eq_true.1 hok o (by simp at ho; exact List.mem_of_getElem? ho)
  simpa using this
 have he := Ext.drew (OwnS st) w
 have dc : DC .any l.toArray (Array.replicate l.length false) := fun k o _ hl => absurd hl (by rw [getD_rep]; exact Bool.false_ne_true)
 have hany := plan_any (P := P) (r := r) (ro := roOf st) l T l (Array.replicate l.length false) A st rfl (fun i o ho => ⟨o, ho, .refl o⟩) (fun _ => rfl) rfl (keeps_roOf st) dc hB h
 rw [hn] at hany
 refine wpIn_region_any hm ?_
 have hsz : l.toArray.size = l.length := by simp
 rw [hsz]
 exact wpAnyIn_of_A (masks_ok (md := .any) l l [] (by simp) (fun k i h => by simp at h)) (lastw l) hok' _ _ A st ac w.drew _ (.inl (keeps_roOf st)) dc (hr.ext he) (hh.drewN 1) hany fun A' st' a' w' q1 q2 q3 q5 => ⟨A', st', q1, q2, he.trans q3, q5⟩
class AppN (a b : List Oper) (c : outParam (List Oper)) : Prop where
 go : List.append a b = c
instance appN_nil {b : List Oper} : AppN [] b b := ⟨rfl⟩
instance appN_cons {o : Oper} {a b c : List Oper} [h : AppN a b c] : AppN (o :: a) b (o :: c) := ⟨congrArg (List.cons o) h.go⟩
instance i_w_app {m : Option Ro} {ops : Array Oper} {K : AA → St → Prop} {a b c : List Oper} {A : AA} {st : St} [h : AppN a b c] : Go2 (W P r m ops K (List.append a b) A st) (W P r m ops K c A st) := ⟨fun k => by rw [h.go]; exact k⟩
end
end Go.Proofs.YtgcienlfpnpbgaaGreat
end
section
namespace Go.Proofs.YtgcienlfpnpbgaaGreat
set_option linter.unusedSimpArgs false
open Go.RowKit
section
variable {P : Program} {st : St} {w : World}
theorem zero_mem {z : Array Value} {n : Nat} (hz : 0 < z.size) : ∀ v ∈ (Builtin.zeroCells z n).toList, v ∈ z.toList := by
 intro v hv
 unfold Builtin.zeroCells at hv
 rw [Array.toList_map, List.mem_map] at hv
 obtain ⟨i, -, rfl⟩ := hv
 have hlt : i % z.size < z.size := Nat.mod_lt _ hz
 rw [getElem!_pos z _ hlt]
 exact Array.getElem_mem_toList hlt
def zOk (v : Value) : Bool := noAgg v && (leafD v).leaf
theorem zOk_rep {O : Nat → Nat → Prop} {us : List Value} (h : ∀ v ∈ us, zOk v = true) : RepL O w us (us.map leafD) ∧ ∀ d ∈ us.map leafD, d.leaf = true := by
 have h1 : ∀ v ∈ us, noAgg v = true ∧ (leafD v).leaf = true := fun v hv => by
  have := h v hv
  unfold zOk at this
  rwa [Bool.and_eq_true] at this
 refine ⟨?_, fun d hd => ?_⟩
 · have := RepL.map (O := O) (w := w) (l := us) (f := id) (g := leafD) (fun x hx => leafD_rep (h1 x hx).1)
   rwa [List.map_id] at this
 · obtain ⟨v, hv, rfl⟩ := List.mem_map.1 hd
   exact (h1 v hv).2
theorem new_for {g : Nat} {e : TypeId} {cs : List D} {s0 : St} (h : Holds (.box g e cs :: s0) w) {us : List Value} {cs' : List D} (hr : RepL (OwnS (.box g e cs :: s0)) w us cs') (hl : ∀ d ∈ cs', d.leaf = true) :
 Holds (.box w.heap.size e cs' :: s0) (w.drew.alloc (.cells us.toArray e)) ∧ Ext (OwnS (.box g e cs :: s0)) w (OwnS (.box w.heap.size e cs' :: s0)) (w.drew.alloc (.cells us.toArray e)) := by
 have he := Ext.drewN (OwnS (.box g e cs :: s0)) w 1
 have := new_box (h.drewN 1) e (hr.ext he) hl
 have hs : (Res.box w.heap.size e cs' :: s0).Sublist (.box w.heap.size e cs' :: .box g e cs :: s0) := (List.sublist_cons_self _ _).cons₂ _
 exact ⟨this.1.sub hs, (he.trans this.2).trans (Ext.drop (fun _ h => hs.subset h) _)⟩
theorem run_appendRow (T ty e : TypeId) {i : TypeInfo} {zv : Value} (hd : P.underlying T = some (.slice e)) (hi : P.info? e = some i) (hzv : i.zero = some zv) (hzs : zv.cells.size = i.size) (hsz : 0 < i.size) (hz : ∀ v ∈ zv.cells.toList, zOk v = true)
 {g n cap : Nat} {ds zs : List D} {s0 : St} (h : Holds (.box g e (ds ++ zs) :: s0) w) (hn : n ≤ cap) (hc : cap ≤ maxLen) (hds : ds.length = n * i.size) (hl : (ds ++ zs).length = cap * i.size)
 {xad : Addr} {m xcap : Nat} {news : List Value} {yd : List D} (hnl : news.length = m * i.size) (hnews : ∀ j u, news[j]? = some u → w.cell? (xad.add j) = some u) (hrep : RepL (OwnS (.box g e (ds ++ zs) :: s0)) w news yd) (hleaf : ∀ d ∈ yd, d.leaf = true)
 (hb : (n + m) * i.bytes ≤ 140737488355328) (hm : n + m ≤ 140737488355328) :
 ∃ w' g' cap' zs', (Builtin.append_ #[T, T] ty #[.slice (some ⟨g, 0, none⟩) n cap, .slice (some xad) m xcap]).run P w = .ok (.slice (some ⟨g', 0, none⟩) (n + m) cap') w' ∧ n + m ≤ cap' ∧ cap' ≤ maxLen ∧ (ds ++ yd ++ zs').length = cap' * i.size ∧
  Holds (.box g' e (ds ++ yd ++ zs') :: s0) w' ∧ Ext (OwnS (.box g e (ds ++ zs) :: s0)) w (OwnS (.box g' e (ds ++ yd ++ zs') :: s0)) w' := by
 obtain ⟨⟨cur, hg, hr⟩, hlc⟩ := h.2 _ (List.mem_cons_self ..)
 have hcs : cur.toList.length = cap * i.size := hr.1.trans hl
 have hyl : yd.length = m * i.size := hrep.1.symm.trans hnl
 have hmul : n * i.size + m * i.size = (n + m) * i.size := (Nat.add_mul ..).symm
 have htk : RepL (OwnS (.box g e (ds ++ zs) :: s0)) w (cur.toList.take (n * i.size)) ds := by
  have := hr.take (n * i.size)
  rwa [List.take_append_of_le_length (by omega), List.take_of_length_le (l := ds) (by omega)] at this
 have hdl : ∀ d ∈ ds, d.leaf = true := fun d hd => hlc d (List.mem_append_left _ hd)
 have hzl : ∀ d ∈ zs, d.leaf = true := fun d hd => hlc d (List.mem_append_right _ hd)
 by_cases hroom : n + m ≤ cap
 · have hle : (n + m) * i.size ≤ cap * i.size := Nat.mul_le_mul_right _ hroom
   have hrun := run_append_room (P := P) w T ty e i hd hi g n cap cur hg xad m xcap news hnl hnews (hrep.leafOne hleaf) hroom (by rw [← Array.length_toList]; omega)
   have hdr : RepL (OwnS (.box g e (ds ++ zs) :: s0)) w (cur.toList.drop (n * i.size + news.length)) (zs.drop (m * i.size)) := by
    have := hr.drop (n * i.size + news.length)
    rwa [List.drop_append, List.drop_of_length_le (l := ds) (by omega), List.nil_append, show n * i.size + news.length - ds.length = m * i.size by omega] at this
   obtain ⟨q1, q2⟩ := set_row (us' := (cur.toList.take (n * i.size) ++ news ++ cur.toList.drop (n * i.size + news.length)).toArray) h hg (by
    rw [← Array.length_toList, ← Array.length_toList]
    simp only [List.length_append, List.length_take, List.length_drop]
    omega) ((htk.append hrep).append hdr) (fun d hd => by
     rw [List.mem_append, List.mem_append] at hd
     rcases hd with (hd | hd) | hd
     · exact hdl d hd
     · exact hleaf d hd
     · exact hzl d (List.mem_of_mem_drop hd))
   refine ⟨_, g, cap, zs.drop (m * i.size), hrun, hroom, hc, ?_, q1, q2⟩
   simp only [List.length_append, List.length_drop] at hl ⊢
   omega
 · have hrun := run_append_grow (P := P) w T ty e i zv hd hi hzv ⟨g, 0, none⟩ n cap (cur.toList.take (n * i.size)) (by rw [List.length_take]; have : n * i.size ≤ cap * i.size := Nat.mul_le_mul_right _ hn; omega) (fun j v hv => by
    rw [add_lit, Nat.zero_add, cell_of_row w g j cur e (0, 0) hg]
    rw [List.getElem?_take] at hv
    split at hv
    · rw [← hv]; simp
    · cases hv) xad m xcap news hnl hnews (by omega) (by omega) (growslice_fits (by omega) hb)
   have hge := grownCap_ge w (n + m) cap e
   have hcm := grownCap_le_maxLen w (n + m) cap e (by unfold maxLen; omega)
   generalize grownCap w (n + m) cap e = nc at *
   have hzm := zOk_rep (O := OwnS (.box g e (ds ++ zs) :: s0)) (w := w) fun v hv => hz v (zero_mem (n := nc - (n + m)) (by omega) v hv)
   have hq := new_for h ((htk.append hrep).append hzm.1) (fun d hd => by
    rw [List.mem_append, List.mem_append] at hd
    rcases hd with (hd | hd) | hd
    · exact hdl d hd
    · exact hleaf d hd
    · exact hzm.2 d hd)
   have heq : ((cur.toList.take (n * i.size)).toArray ++ news.toArray ++ Builtin.zeroCells zv.cells (nc - (n + m))) = ((cur.toList.take (n * i.size) ++ news) ++ (Builtin.zeroCells zv.cells (nc - (n + m))).toList).toArray := by simp
   rw [heq] at hrun
   refine ⟨_, w.heap.size, nc, _, hrun, hge, hcm, ?_, hq.1, hq.2⟩
   simp only [List.length_append, List.length_map, Array.length_toList, size_zeroCells, hzs]
   rw [hds, hyl, ← Nat.add_mul, ← Nat.add_mul]
   congr 1
   omega
theorem run_appendFirst (T ty e : TypeId) {i : TypeInfo} {zv : Value} (hd : P.underlying T = some (.slice e)) (hi : P.info? e = some i) (hzv : i.zero = some zv) (hzs : zv.cells.size = i.size) (hsz : 0 < i.size) (hz : ∀ v ∈ zv.cells.toList, zOk v = true)
 (h : Holds st w) {x : Value} (hx : Rep (OwnS st) w x (.sl .tight []))
 {xad : Addr} {m xcap : Nat} {news : List Value} {yd : List D} (hnl : news.length = m * i.size) (hnews : ∀ j u, news[j]? = some u → w.cell? (xad.add j) = some u) (hrep : RepL (OwnS st) w news yd) (hleaf : ∀ d ∈ yd, d.leaf = true)
 (hpos : 0 < m) (hb : m * i.bytes ≤ 140737488355328) (hm : m ≤ 140737488355328) :
 ∃ w' g' cap' zs', (Builtin.append_ #[T, T] ty #[x, .slice (some xad) m xcap]).run P w = .ok (.slice (some ⟨g', 0, none⟩) m cap') w' ∧ m ≤ cap' ∧ cap' ≤ maxLen ∧ (yd ++ zs').length = cap' * i.size ∧
  Holds (.box g' e (yd ++ zs') :: st) w' ∧ Ext (OwnS st) w (OwnS (.box g' e (yd ++ zs') :: st)) w' := by
 obtain ⟨a, cap, us, sz, rfl, c1, c2, c3, c4, c5, c6, c7, c8, c9, c10⟩ := calm_src hx
 have hcap : cap = 0 := c10
 subst hcap
 have hyl : yd.length = m * i.size := hrep.1.symm.trans hnl
 have hrun : ∃ old, (Builtin.append_ #[T, T] ty #[.slice a ([] : List (List D)).length 0, .slice (some xad) m xcap]).run P w = .ok (.slice (some ⟨w.heap.size, 0, none⟩) m (grownCap w m old e)) (w.drew.alloc (.cells (news.toArray ++ Builtin.zeroCells zv.cells (grownCap w m old e - m)) e)) := by
  cases a with
  | none => exact ⟨0, run_append_nil (P := P) w T ty e i zv hd hi hzv xad m xcap news hnl hnews hpos (by omega) (by omega)⟩
  | some ad =>
   refine ⟨0, ?_⟩
   have := run_append_grow (P := P) w T ty e i zv hd hi hzv ad 0 0 [] (by simp) (fun j v hv => by simp at hv) xad m xcap news hnl hnews (by omega) (by omega) (growslice_fits (by omega) (by rw [Nat.zero_add]; exact hb))
   simpa using this
 obtain ⟨old, hrun⟩ := hrun
 have hge := grownCap_ge w m old e
 have hcm := grownCap_le_maxLen w m old e (by unfold maxLen; omega)
 generalize grownCap w m old e = nc at *
 have hzm := zOk_rep (O := OwnS st) (w := w) fun v hv => hz v (zero_mem (n := nc - m) (by omega) v hv)
 have he := Ext.drewN (OwnS st) w 1
 have hq := new_box (h.drewN 1) e ((hrep.append hzm.1).ext he) (fun d hd => by
  rw [List.mem_append] at hd
  exact hd.elim (hleaf d) (hzm.2 d))
 have heq : (news.toArray ++ Builtin.zeroCells zv.cells (nc - m)) = (news ++ (Builtin.zeroCells zv.cells (nc - m)).toList).toArray := by simp
 rw [heq] at hrun
 refine ⟨_, w.heap.size, nc, _, hrun, hge, hcm, ?_, hq.1, he.trans hq.2⟩
 simp only [List.length_append, List.length_map, Array.length_toList, size_zeroCells, hzs]
 rw [hyl, ← Nat.add_mul]
 congr 1
 omega
end
section
variable {P : Program} {N : Nat} {r : Option Nat} {A : AA} {st : St} {Q : Exit → AA → St → Prop} {m : Option Ro} {k : D → St → Prop} {dst : Option Tmp} {ty : TypeId} {pos : String} {aft : Array Edge} {gd : Option (Nat × Bool)} {o : Oper} {w : World}
def rowT (P : Program) (t : TypeId) : Option (TypeId × Nat × Nat) := (tinfo P t).bind fun ti => match ti.k with
 | .slice el sz bytes z => if z.all zOk = true then some (el, sz, bytes) else none
 | _ => none
theorem rowT_spec {t el : TypeId} {sz bytes : Nat} (h : rowT P t = some (el, sz, bytes)) : P.underlying t = some (.slice el) ∧ ∃ i zv, P.info? el = some i ∧ i.zero = some zv ∧ zv.cells.size = i.size ∧ 0 < i.size ∧ i.size = sz ∧ i.bytes = bytes ∧ ∀ v ∈ zv.cells.toList, zOk v = true := by
 unfold rowT at h
 cases ht : tinfo P t with
 | none => rw [ht] at h; cases h
 | some ti =>
  rw [ht, Option.bind_some] at h
  split at h
  · rename_i el' sz' bytes' z hk
    split at h
    · rename_i hz
      cases h
      obtain ⟨hu, ii, zv, q1, q2, q3, q4, q5, q6, q7⟩ := (und_of_k ht).2.2.2.2.1 _ _ _ _ hk
      subst q4
      exact ⟨hu, ii, zv, q1, q2, q7, q6, rfl, q5, by rw [q3]; exact List.all_eq_true.1 hz⟩
    · cases h
  · cases h
def RowK (P : Program) (m : Option Ro) (t : TypeId) (p : D × D) (st : St) (k : D → St → Prop) : Prop :=
 ∃ (el : TypeId) (sz bytes : Nat) (g n cap : Nat) (ds zs : List D) (oy : Own) (ys : List (List D)) (s1 : Nat → List D → St), p = (.ar g 0 n cap, .sl oy ys) ∧ rowT P t = some (el, sz, bytes) ∧ (∀ g' cs', ResAt (.box g el (ds ++ zs)) (.box g' el cs') st (s1 g' cs')) ∧ ds.length = n * sz ∧ (ds ++ zs).length = cap * sz ∧ (∀ a ∈ ys, a.length = sz) ∧ (n + ys.length) * bytes ≤ 140737488355328 ∧ n + ys.length ≤ 140737488355328 ∧
  ∀ g' cap' zs', n + ys.length ≤ cap' → (ds ++ ys.flatten ++ zs').length = cap' * sz → Keep m (s1 g' (ds ++ ys.flatten ++ zs')) ∧ k (.ar g' 0 (n + ys.length) cap') (s1 g' (ds ++ ys.flatten ++ zs'))
theorem s_appR {t : TypeId} {x y : Operand} (h : Ev (pairX (ev A.e x) (ev A.e y)) fun p => RowK P m t p st k) : S P r m ⟨dst, .call ⟨.builtin .append, #[x, y], #[t, t]⟩, ty, pos, aft, gd⟩ A st k := by
 obtain ⟨p, h1, el, sz, bytes, g, n, cap, ds, zs, oy, ys, s1, rfl, h2, h3, h4, h5, h6, h7, h8, h9⟩ := h
 unfold pairX at h1
 split at h1
 · rename_i d d' hx hy
   cases h1
   refine s_chain (R := fun d st' => ∃ g' cap' zs', n + ys.length ≤ cap' ∧ (ds ++ ys.flatten ++ zs').length = cap' * sz ∧ d = .ar g' 0 (n + ys.length) cap' ∧ st' = s1 g' (ds ++ ys.flatten ++ zs')) rfl ?_ ⟨_, _, 0, n + ys.length, [], Nat.le_refl _, by rw [List.append_nil, List.length_append, flat_len h6, h4, Nat.add_mul], rfl, rfl⟩ fun d st' ⟨g', cap', zs', ha, hb, e1, e2⟩ => by subst e1 e2; exact h9 g' cap' zs' ha hb
   refine opC_val (by intro c hc; cases hc) fun ρ w hr hh => .inl ?_
   have v1 := hr _ (by simp [Op.operands, Call.operands]) _ hx
   have v2 := hr _ (by simp [Op.operands, Call.operands]) _ hy
   obtain ⟨q1, i, zv, q2, q3, q4, q5, rfl, rfl, q8⟩ := rowT_spec h2
   obtain ⟨s0, p1, -⟩ := (h3 g (ds ++ zs)).perm
   have hown := OwnS.perm p1
   have hh' := hh.perm p1
   unfold execOp
   simp only [resolve, invoke, builtin, Sem.run_bind, Sem.run_pure, Result.andThen_ok, List.map_toArray, List.map_cons, List.map_nil]
   generalize ρ x = xv at v1
   generalize ρ y = yv at v2
   cases v1 with
   | ar _ _ _ _ c1 c2 =>
   rw [hown] at v2
   obtain ⟨xa, xcap, xus, xsz, rfl, x1, x2, x3, x4, x5, x6, x7, x8, x9, -⟩ := calm_src v2
   by_cases hys : ys = []
   · subst hys
     have := run_append_zero (w := w) t ty el i q1 q2 (some ⟨g, 0, none⟩) n cap c1 xa xcap
     rw [show ([] : List (List D)).length = 0 from rfl]
     rw [this]
     obtain ⟨s0', p1', p2'⟩ := (h3 g (ds ++ zs)).perm
     refine ⟨_, w, rfl, _, s1 g (ds ++ zs), .ar g 0 n cap c1 c2, hh.perm (p1'.trans p2'.symm), ?_, g, cap, zs, by simpa using c1, by simpa using h5, by simp, by simp⟩
     rw [OwnS.perm (p1'.trans p2'.symm)]
     exact Ext.refl _ _
   · obtain ⟨xad, rfl⟩ : ∃ ad, xa = some ad := by
      cases xa with
      | none => have := x8 rfl; have : 0 < ys.length := List.length_pos_iff.2 hys; omega
      | some ad => exact ⟨ad, rfl⟩
     obtain ⟨w', g', cap', zs', e1, e2, e3, e4, e5, e6⟩ := run_appendRow t ty el q1 q2 q3 q4 q5 q8 hh' c1 c2 h4 h5 (xcap := xcap) (by rw [x6.1]; exact flat_len h6) (calm_own x9 rfl) x6 x7 h7 h8
     obtain ⟨s0', p1', p2'⟩ := (h3 g' (ds ++ ys.flatten ++ zs')).perm
     have hs : s0.Perm s0' := (List.perm_cons _).1 (p1.symm.trans p1')
     have p3 : (Res.box g' el (ds ++ ys.flatten ++ zs') :: s0).Perm (s1 g' (ds ++ ys.flatten ++ zs')) := (hs.cons _).trans p2'.symm
     rw [e1]
     refine ⟨_, w', rfl, _, _, .ar g' 0 _ cap' e2 e3, e5.perm p3, ?_, g', cap', zs', e2, e4, rfl, rfl⟩
     rw [hown, ← OwnS.perm p3]; exact e6
 · cases h1
def Row2 (m : Option Ro) (q : TypeId × Nat × Nat) (p : D × D) (st : St) (k : D → St → Prop) : Prop :=
 ∃ (g n cap : Nat) (ds zs : List D) (oy : Own) (ys : List (List D)) (s1 : Nat → List D → St), p = (.ar g 0 n cap, .sl oy ys) ∧ (∀ g' cs', ResAt (.box g q.1 (ds ++ zs)) (.box g' q.1 cs') st (s1 g' cs')) ∧ ds.length = n * q.2.1 ∧ (ds ++ zs).length = cap * q.2.1 ∧ (∀ a ∈ ys, a.length = q.2.1) ∧ (n + ys.length) * q.2.2 ≤ 140737488355328 ∧ n + ys.length ≤ 140737488355328 ∧
  ∀ g' cap' zs', n + ys.length ≤ cap' → (ds ++ ys.flatten ++ zs').length = cap' * q.2.1 → Keep m (s1 g' (ds ++ ys.flatten ++ zs')) ∧ k (.ar g' 0 (n + ys.length) cap') (s1 g' (ds ++ ys.flatten ++ zs'))
theorem rk_go {t : TypeId} {p : D × D} (h : Ev (rowT P t) fun q => Row2 m q p st k) : RowK P m t p st k := by
 obtain ⟨⟨el, sz, bytes⟩, h1, g, n, cap, ds, zs, oy, ys, s1, h2, h3, h4, h5, h6, h7, h8, h9⟩ := h
 exact ⟨el, sz, bytes, g, n, cap, ds, zs, oy, ys, s1, h2, h1, h3, h4, h5, h6, h7, h8, h9⟩
theorem r2_go {el : TypeId} {sz bytes g n cap : Nat} {ds zs : List D} {oy : Own} {ys : List (List D)} {s1 : Nat → List D → St} (h4 : ds.length = n * sz) (h5 : (ds ++ zs).length = cap * sz) (h3 : ∀ g' cs', ResAt (.box g el (ds ++ zs)) (.box g' el cs') st (s1 g' cs')) (h6 : ∀ a ∈ ys, a.length = sz) (h7 : (n + ys.length) * bytes ≤ 140737488355328) (h8 : n + ys.length ≤ 140737488355328)
 (h9 : ∀ g' cap' zs', n + ys.length ≤ cap' → (ds ++ ys.flatten ++ zs').length = cap' * sz → Keep m (s1 g' (ds ++ ys.flatten ++ zs')) ∧ k (.ar g' 0 (n + ys.length) cap') (s1 g' (ds ++ ys.flatten ++ zs'))) : Row2 m (el, sz, bytes) (.ar g 0 n cap, .sl oy ys) st k := ⟨g, n, cap, ds, zs, oy, ys, s1, rfl, h3, h4, h5, h6, h7, h8, h9⟩
def RowN (P : Program) (m : Option Ro) (t : TypeId) (p : D × D) (st : St) (k : D → St → Prop) : Prop :=
 ∃ (el : TypeId) (sz bytes : Nat) (oy : Own) (ys : List (List D)), p = (.sl .tight [], .sl oy ys) ∧ rowT P t = some (el, sz, bytes) ∧ 0 < ys.length ∧ (∀ a ∈ ys, a.length = sz) ∧ ys.length * bytes ≤ 140737488355328 ∧ ys.length ≤ 140737488355328 ∧
  ∀ g' cap' zs', ys.length ≤ cap' → (ys.flatten ++ zs').length = cap' * sz → Keep m (.box g' el (ys.flatten ++ zs') :: st) ∧ k (.ar g' 0 ys.length cap') (.box g' el (ys.flatten ++ zs') :: st)
theorem s_appN {t : TypeId} {x y : Operand} (h : Ev (pairX (ev A.e x) (ev A.e y)) fun p => RowN P m t p st k) : S P r m ⟨dst, .call ⟨.builtin .append, #[x, y], #[t, t]⟩, ty, pos, aft, gd⟩ A st k := by
 obtain ⟨p, h1, el, sz, bytes, oy, ys, rfl, h2, hpos, h6, h7, h8, h9⟩ := h
 unfold pairX at h1
 split at h1
 · rename_i d d' hx hy
   cases h1
   refine s_chain (R := fun d st' => ∃ g' cap' zs', ys.length ≤ cap' ∧ (ys.flatten ++ zs').length = cap' * sz ∧ d = .ar g' 0 ys.length cap' ∧ st' = .box g' el (ys.flatten ++ zs') :: st) rfl ?_ ⟨_, _, 0, ys.length, [], Nat.le_refl _, by rw [List.append_nil, flat_len h6], rfl, rfl⟩ fun d st' ⟨g', cap', zs', ha, hb, e1, e2⟩ => by subst e1 e2; exact h9 g' cap' zs' ha hb
   refine opC_val (by intro c hc; cases hc) fun ρ w hr hh => .inl ?_
   have v1 := hr _ (by simp [Op.operands, Call.operands]) _ hx
   have v2 := hr _ (by simp [Op.operands, Call.operands]) _ hy
   obtain ⟨q1, i, zv, q2, q3, q4, q5, rfl, rfl, q8⟩ := rowT_spec h2
   unfold execOp
   simp only [resolve, invoke, builtin, Sem.run_bind, Sem.run_pure, Result.andThen_ok, List.map_toArray, List.map_cons, List.map_nil]
   generalize ρ x = xv at v1
   generalize ρ y = yv at v2
   obtain ⟨xa, xcap, xus, xsz, rfl, x1, x2, x3, x4, x5, x6, x7, x8, x9, -⟩ := calm_src v2
   obtain ⟨xad, rfl⟩ : ∃ ad, xa = some ad := by
    cases xa with
    | none => have := x8 rfl; omega
    | some ad => exact ⟨ad, rfl⟩
   obtain ⟨w', g', cap', zs', e1, e2, e3, e4, e5, e6⟩ := run_appendFirst t ty el q1 q2 q3 q4 q5 q8 hh v1 (xcap := xcap) (by rw [x6.1]; exact flat_len h6) (calm_own x9 rfl) x6 x7 hpos h7 h8
   rw [e1]
   exact ⟨_, w', rfl, _, _, .ar g' 0 _ cap' e2 e3, e5, e6, g', cap', zs', e2, e4, rfl, rfl⟩
 · cases h1
def RowN2 (m : Option Ro) (q : TypeId × Nat × Nat) (p : D × D) (st : St) (k : D → St → Prop) : Prop :=
 ∃ (oy : Own) (ys : List (List D)), p = (.sl .tight [], .sl oy ys) ∧ 0 < ys.length ∧ (∀ a ∈ ys, a.length = q.2.1) ∧ ys.length * q.2.2 ≤ 140737488355328 ∧ ys.length ≤ 140737488355328 ∧
  ∀ g' cap' zs', ys.length ≤ cap' → (ys.flatten ++ zs').length = cap' * q.2.1 → Keep m (.box g' q.1 (ys.flatten ++ zs') :: st) ∧ k (.ar g' 0 ys.length cap') (.box g' q.1 (ys.flatten ++ zs') :: st)
theorem rn_go {t : TypeId} {p : D × D} (h : Ev (rowT P t) fun q => RowN2 m q p st k) : RowN P m t p st k := by
 obtain ⟨⟨el, sz, bytes⟩, h1, oy, ys, h2, h3, h4, h5, h6, h7⟩ := h
 exact ⟨el, sz, bytes, oy, ys, h2, h1, h3, h4, h5, h6, h7⟩
theorem rn2_go {el : TypeId} {sz bytes : Nat} {oy : Own} {ys : List (List D)} (h4 : 0 < ys.length) (h6 : ∀ a ∈ ys, a.length = sz) (h7 : ys.length * bytes ≤ 140737488355328) (h8 : ys.length ≤ 140737488355328)
 (h9 : ∀ g' cap' zs', ys.length ≤ cap' → (ys.flatten ++ zs').length = cap' * sz → Keep m (.box g' el (ys.flatten ++ zs') :: st) ∧ k (.ar g' 0 ys.length cap') (.box g' el (ys.flatten ++ zs') :: st)) : RowN2 m (el, sz, bytes) (.sl .tight [], .sl oy ys) st k := ⟨oy, ys, rfl, h4, h6, h7, h8, h9⟩
end
def Lend (st : St) (d d' : D) : Prop := ∀ w v, Holds st w → Rep (OwnS st) w v d → Rep (OwnS []) w v d'
def LendL (st : St) : List D → List D → Prop
 | [], [] => True
 | d :: l, d' :: l' => Lend st d d' ∧ LendL st l l'
 | _, _ => False
section
variable {st : St} {w : World}
theorem ext_nil (O : Nat → Nat → Prop) (w : World) : Ext O w (OwnS []) w := (Ext.refl O w).less fun b off h => absurd h (OwnS.nil b off)
theorem Lend.refl (d : D) : Lend st d d := fun w _ _ h => h.ext (ext_nil _ w)
theorem Lend.sl (o : Own) (es : List (List D)) : Lend st (.sl o es) (.sl .shared es) := fun w _ _ h => (h.ext (ext_nil _ w)).share
theorem LendL.nil : LendL st [] [] := trivial
theorem LendL.cons {d d' : D} {l l' : List D} (h : Lend st d d') (k : LendL st l l') : LendL st (d :: l) (d' :: l') := ⟨h, k⟩
theorem LendL.repL : ∀ {l l' : List D}, LendL st l l' → Holds st w → ∀ {us : List Value}, RepL (OwnS st) w us l → RepL (OwnS []) w us l'
 | [], [], _, _, us, h => by obtain rfl := h.inv_nil; exact .nil
 | d :: l, d' :: l', ⟨h1, h2⟩, hh, us, h => by
  obtain ⟨u, t, rfl, k1, k2⟩ := h.inv_cons
  exact .cons (h1 w u hh k1) (h2.repL hh k2)
 | [], _ :: _, h, _, _, _ => h.elim
 | _ :: _, [], h, _, _, _ => h.elim
theorem Lend.agg {l l' : List D} (h : LendL st l l') : Lend st (.agg l) (.agg l') := fun w v hh x => by
 cases x with
 | agg us cs h1 h2 => obtain ⟨k1, k2⟩ := h.repL (us := us) hh ⟨h1, h2⟩; exact .agg us l' k1 k2
theorem Lend.row {g : Nat} {el : TypeId} {es : List (List D)} {zs : List D} {sz n cap : Nat} (hm : Res.box g el (es.flatten ++ zs) ∈ st) (hsz : 0 < sz) (hes : ∀ e ∈ es, e.length = sz) (hn : es.length = n) : Lend st (.ar g 0 n cap) (.sl .shared es) := by
 intro w v hh hv
 obtain ⟨⟨us, hb, hr⟩, hlc⟩ := hh.2 _ hm
 cases hv with
 | ar _ _ _ _ h1 h2 =>
 subst hn
 have hfl := flat_len hes
 have hrl : RepL (OwnS st) w (us.toList.take (es.length * sz)) es.flatten := by
  have := hr.take (es.length * sz)
  rwa [List.take_append_of_le_length (by omega), List.take_of_length_le (l := es.flatten) (by omega)] at this
 have hrl := hrl.ext (ext_nil _ w)
 refine .sl .shared es (some ⟨g, 0, none⟩) cap (us.toList.take (es.length * sz)) sz h1 h2 (fun e => by cases e) hsz hes hrl.1 (fun d hd => hlc d (List.mem_append_left _ hd)) (fun i hi => ⟨g, 0, rfl, (Array.getElem?_eq_some_iff.1 hb).1, OwnS.nil _ _, ?_⟩) hrl.2 trivial
 rw [Nat.zero_add, cell_of_row w g i us el (0, 0) hb]
 rw [List.getElem_take]
 simp at hi
 rw [Array.getElem?_eq_getElem (by omega)]
 simp
theorem Lend.rowE {st : St} {g : Nat} {el : TypeId} {es : List (List D)} {R zs : List D} {sz n cap : Nat} (hm : Res.box g el (R ++ zs) ∈ st) (hR : es.flatten = R) (hsz : 0 < sz) (hes : ∀ e ∈ es, e.length = sz) (hn : es.length = n) : Lend st (.ar g 0 n cap) (.sl .shared es) := by
 subst hR
 exact Lend.row hm hsz hes hn
theorem Lend.ptr {b : Nat} {ty : TypeId} {cs cs' : List D} (hm : Res.box b ty cs ∈ st) (hl : LendL st cs cs') (hleaf : ∀ d ∈ cs', d.leaf = true) : Lend st (.ptr b 0) (.ip cs') := by
 intro w v hh hv
 obtain ⟨⟨us, hb, hr⟩, hlc⟩ := hh.2 _ hm
 have hrl := hl.repL hh hr
 generalize hz : (0 : Nat) = z at hv
 cases hv with
 | ptr _ _ =>
 subst hz
 refine .ip b 0 us.toList cs' hrl.1 hleaf (fun i hi => ⟨(Array.getElem?_eq_some_iff.1 hb).1, OwnS.nil _ _, ?_⟩) hrl.2
 rw [Nat.zero_add, cell_of_row w b i us ty (0, 0) hb]
 rw [Array.getElem?_eq_getElem (by simpa using hi)]
 simp
end
section
variable {P : Program} {f : FuncId} {args args' : List D} {st : St} {m : Option Ro} {k : D → St → Prop}
theorem TrF.lend {x : Value} (h : TrF P f args' [] fun d st' => d = .s x ∧ st' = []) (hl : LendL st args args') : TrF P f args st fun d st' => d = .s x ∧ st' = st := by
 intro vs w h1 h2
 have h3 := hl.repL h2 h1
 have h0 : Holds [] w := h2.sub (List.nil_sublist _)
 refine (h vs w h3 h0).mono fun _ w' ⟨v, e, d, s, k1, k2, k3, e1, e2⟩ => ?_
 subst e1 e2
 have he : Ext (OwnS st) w (OwnS st) w' := by
  refine ⟨k3.os, k3.tape, k3.output, k3.size, fun _ _ _ h => h, fun b hb _ => k3.block b hb fun off => OwnS.nil b off, fun b c E fr hc => ?_⟩
  exact ⟨c, fr, (k3.block b (Array.getElem?_eq_some_iff.1 hc).1 fun off => OwnS.nil b off).trans hc, rfl, fun _ _ => rfl⟩
 refine ⟨v, e, .s x, st, ?_, ?_, he, rfl, rfl⟩
 · have := rep_s k1
   subst this
   cases k1 with
   | s _ hx => exact .s _ hx
 · exact ⟨h2.1, fun r hr => (h2.2 r hr).ext he fun b hb => k3.block b ((h2.2 r hr).lt hb) fun off => OwnS.nil b off⟩
theorem ck_lend {ds ds' : List D} {x : Value} (henter : ∀ args w, (callFunc f args).run P w = .ok (.enter f args) w) (h : TrF P f ds' [] fun d st' => d = .s x ∧ st' = []) (hl : LendL st ds ds') (hk : Keep m st ∧ k (.s x) st) : CallK P m (f, ds) st k :=
 ck_eq henter (h.lend hl) hk
end
section
variable {P : Program} {f : FuncId} {ds ds' : List D} {st : St} {m : Option Ro} {k : D → St → Prop}
end
attribute [push_cast] rowT zOk
end Go.Proofs.YtgcienlfpnpbgaaGreat
end
section
namespace Go.Proofs.YtgcienlfpnpbgaaGreat
set_option linter.unusedSimpArgs false
open Go.RowKit
section
variable {P : Program} {st : St} {w w' : World}
theorem set_any {b : Nat} {ty : TypeId} {cs cs' : List D} {us us' : Array Value} (h : Holds (.box b ty cs :: st) w) (hb : w.heap[b]? = some (.cells us ty (0, 0))) (hs : us'.size = us.size)
 (ho : w'.os = w.os) (ht : w'.tape = w.tape) (hout : w'.output = w.output) (hsz : w'.heap.size = w.heap.size) (hb' : w'.heap[b]? = some (.cells us' ty (0, 0))) (hoth : ∀ k, k ≠ b → w'.heap[k]? = w.heap[k]?)
 (hr : RepL (OwnS (.box b ty cs :: st)) w us'.toList cs') (hl : ∀ d ∈ cs', d.leaf = true) :
 Holds (.box b ty cs' :: st) w' ∧ Ext (OwnS (.box b ty cs :: st)) w (OwnS (.box b ty cs' :: st)) w' := by
 have hown : ∀ k off, OwnS (.box b ty cs' :: st) k off → OwnS (.box b ty cs :: st) k off := fun k off ho => by
  rw [OwnS.cons_iff] at ho ⊢
  exact ho
 have he : Ext (OwnS (.box b ty cs :: st)) w (OwnS (.box b ty cs' :: st)) w' := by
  refine ⟨ho, ht, hout, by omega, fun k off _ ho => hown k off ho, fun k hk hn => ?_, fun k c E fr hk => ?_⟩
  · refine hoth k fun e => ?_
    subst e
    exact hn 0 (OwnS.cons_iff.2 (.inl ⟨rfl, Nat.le_refl _⟩))
  · by_cases e : k = b
    · subst e
      rw [hb] at hk
      cases hk
      exact ⟨us', _, hb', hs, fun off hn => absurd (OwnS.cons_iff.2 (.inl ⟨rfl, Nat.zero_le _⟩)) hn⟩
    · exact ⟨c, fr, (hoth k e).trans hk, rfl, fun _ _ => rfl⟩
 refine ⟨h.put he (fun x hx k hk => hoth k fun e => ?_) ⟨⟨us', hb', hr.ext he⟩, hl⟩ (fun x hx => ?_), he⟩
 · subst e
   exact (List.pairwise_cons.1 h.1).1 x hx k rfl hk
 · exact (List.pairwise_cons.1 h.1).1 x hx
theorem chop_row {sz : Nat} (zs : List D) : ∀ es : List (List D), (∀ e ∈ es, e.length = sz) → chop sz es.length (es.flatten ++ zs) = es
 | [], _ => rfl
 | e :: es, h => by
  have he := h e (List.mem_cons_self ..)
  rw [List.length_cons, chop, List.flatten_cons, List.append_assoc, List.take_left' he, List.drop_left' he, chop_row zs es fun x hx => h x (List.mem_cons_of_mem _ hx)]
theorem TrF.freeze {f : FuncId} {args : List D} {el : TypeId} {es : List (List D)} {sz n : Nat} {s0 : St} (h : TrF P f args st fun d st' => ∃ g cap zs, d = .ar g 0 n cap ∧ st' = .box g el (es.flatten ++ zs) :: s0) (hsz : 0 < sz) (hes : ∀ e ∈ es, e.length = sz) (hn : es.length = n) : TrF P f args st fun d st' => d = .sl .shared es ∧ st' = s0 := by
 intro vs w h1 h2
 refine (h vs w h1 h2).mono fun _ w' ⟨v, ev, d, s, k1, k2, k3, g, cap, zs, e1, e2⟩ => ?_
 subst e1 e2
 have hch : chop sz n ((es.flatten ++ zs).drop 0) = es := by
  rw [List.drop_zero, ← hn]
  exact chop_row zs es hes
 have hr := frozen .shared (.inl rfl) (sz := sz) k2 k1 hsz (by rw [List.length_append, flat_len hes, hn]; omega) (by intro h; cases h)
 rw [hch] at hr
 have he := Ext.drop (st := .box g el (es.flatten ++ zs) :: s0) (st' := s0) (fun _ h => List.mem_cons_of_mem _ h) w'
 exact ⟨v, ev, _, s0, hr, k2.sub (List.sublist_cons_self _ _), k3.trans he, rfl, rfl⟩
end
section
variable {P : Program} {N : Nat} {r : Option Nat} {A : AA} {st : St} {Q : Exit → AA → St → Prop} {m : Option Ro} {k : D → St → Prop} {dst : Option Tmp} {ty : TypeId} {pos : String} {aft : Array Edge} {gd : Option (Nat × Bool)} {o : Oper} {w : World}
theorem s_isNilA {t t' : TypeId} {x : Operand} {g off n cap : Nat} {q : TypeId × Nat × Nat} (ht : sliceT P t = some q) (hx : ev A.e x = some (.ar g off n cap)) (hk : k (.b false) st) : S P r none ⟨dst, .binOp .eql t x (.const (.slice none 0 0)) t', ty, pos, aft, gd⟩ A st k := by
 refine opC_val (by intro c hc; cases hc) fun ρ w hr hh => .inl ?_
 have hv1 := hr _ (by simp [Op.operands]) _ hx
 have hv2 := hr.cst (.slice none 0 0)
 obtain ⟨el, sz, bytes⟩ := q
 obtain ⟨ti, z, h10, h11⟩ := sliceT_spec ht
 obtain ⟨hu, -⟩ := (und_of_k h10).2.2.2.2.1 _ _ _ _ h11
 generalize hxv : ρ x = xv at hv1
 cases hv1 with
 | ar _ _ _ _ c1 c2 =>
 refine ⟨.bool false, w, ?_, _, _, .s (.bool false) rfl, hh, Ext.refl _ _, hk⟩
 unfold execOp
 have hrun : (binOp .eql t (.slice (some ⟨g, off, none⟩) n cap) (.slice none 0 0)).run P w = .ok (.bool false) w := by
  simp only [binOp]
  simp [run_equal_slice_nil w t el (some ⟨g, off, none⟩) n cap hu]
 simp only [hxv, hv2, Sem.run_bind, guard_plain .eql t x (.const (.slice none 0 0)) (.slice (some ⟨g, off, none⟩) n cap) (.slice none 0 0) (fun u => by simp) (fun u v => by simp), hrun, Result.andThen_ok, Sem.run_pure]
def RowC (P : Program) (m : Option Ro) (t : TypeId) (p : D × D) (st : St) (k : D → St → Prop) : Prop :=
 ∃ (el : TypeId) (sz bytes : Nat) (g n cap : Nat) (ds zs : List D), p = (.sl .tight [], .ar g 0 n cap) ∧ rowT P t = some (el, sz, bytes) ∧ Res.box g el (ds ++ zs) ∈ st ∧ ds.length = n * sz ∧ 0 < n ∧ n * bytes ≤ 140737488355328 ∧ n ≤ 140737488355328 ∧
  ∀ g' cap' zs', n ≤ cap' → (ds ++ zs').length = cap' * sz → Keep m (.box g' el (ds ++ zs') :: st) ∧ k (.ar g' 0 n cap') (.box g' el (ds ++ zs') :: st)
theorem s_appC {t : TypeId} {x y : Operand} (h : Ev (pairX (ev A.e x) (ev A.e y)) fun p => RowC P m t p st k) : S P r m ⟨dst, .call ⟨.builtin .append, #[x, y], #[t, t]⟩, ty, pos, aft, gd⟩ A st k := by
 obtain ⟨p, h1, el, sz, bytes, g, n, cap, ds, zs, rfl, h2, hm, hds, hpos, h7, h8, h9⟩ := h
 unfold pairX at h1
 split at h1
 · rename_i d d' hx hy
   cases h1
   refine s_chain (R := fun d st' => ∃ g' cap' zs', n ≤ cap' ∧ (ds ++ zs').length = cap' * sz ∧ d = .ar g' 0 n cap' ∧ st' = .box g' el (ds ++ zs') :: st) rfl ?_ ⟨_, _, 0, n, [], Nat.le_refl _, by rw [List.append_nil, hds], rfl, rfl⟩ fun d st' ⟨g', cap', zs', ha, hb, e1, e2⟩ => by subst e1 e2; exact h9 g' cap' zs' ha hb
   refine opC_val (by intro c hc; cases hc) fun ρ w hr hh => .inl ?_
   have v1 := hr _ (by simp [Op.operands, Call.operands]) _ hx
   have v2 := hr _ (by simp [Op.operands, Call.operands]) _ hy
   obtain ⟨q1, i, zv, q2, q3, q4, q5, rfl, rfl, q8⟩ := rowT_spec h2
   unfold execOp
   simp only [resolve, invoke, builtin, Sem.run_bind, Sem.run_pure, Result.andThen_ok, List.map_toArray, List.map_cons, List.map_nil]
   generalize ρ x = xv at v1
   generalize ρ y = yv at v2
   cases v2 with
   | ar _ _ _ _ c1 c2 =>
   obtain ⟨⟨us, hb, hrr⟩, hlc⟩ := hh.2 _ hm
   have hul := hrr.1
   rw [List.length_append] at hul
   have hrep : RepL (OwnS st) w (us.toList.take (n * i.size)) ds := by
    have := hrr.take (n * i.size)
    rwa [List.take_append_of_le_length (by omega), List.take_of_length_le (l := ds) (by omega)] at this
   obtain ⟨w', g', cap', zs', e1, e2, e3, e4, e5, e6⟩ := run_appendFirst (P := P) t ty el q1 q2 q3 q4 q5 q8 hh v1 (xad := ⟨g, 0, none⟩) (m := n) (xcap := cap) (by rw [List.length_take]; omega) (fun j u hu => by
    rw [add_lit, Nat.zero_add, cell_of_row w g j us el (0, 0) hb]
    rw [List.getElem?_take] at hu
    split at hu
    · rw [← hu]; simp
    · cases hu) hrep (fun d hd => hlc d (List.mem_append_left _ hd)) hpos h7 h8
   rw [e1]
   exact ⟨_, w', rfl, _, _, .ar g' 0 _ cap' e2 e3, e5, e6, g', cap', zs', e2, e4, rfl, rfl⟩
 · cases h1
def RowC2 (m : Option Ro) (q : TypeId × Nat × Nat) (p : D × D) (st : St) (k : D → St → Prop) : Prop :=
 ∃ (g n cap : Nat) (ds zs : List D), p = (.sl .tight [], .ar g 0 n cap) ∧ Res.box g q.1 (ds ++ zs) ∈ st ∧ ds.length = n * q.2.1 ∧ 0 < n ∧ n * q.2.2 ≤ 140737488355328 ∧ n ≤ 140737488355328 ∧
  ∀ g' cap' zs', n ≤ cap' → (ds ++ zs').length = cap' * q.2.1 → Keep m (.box g' q.1 (ds ++ zs') :: st) ∧ k (.ar g' 0 n cap') (.box g' q.1 (ds ++ zs') :: st)
theorem rc_go {t : TypeId} {p : D × D} (h : Ev (rowT P t) fun q => RowC2 m q p st k) : RowC P m t p st k := by
 obtain ⟨⟨el, sz, bytes⟩, h1, g, n, cap, ds, zs, h2, h3, h4, h5, h6, h7, h8⟩ := h
 exact ⟨el, sz, bytes, g, n, cap, ds, zs, h2, h1, h3, h4, h5, h6, h7, h8⟩
theorem rc2_go {el : TypeId} {sz bytes g n cap : Nat} {ds zs : List D} (h3 : Res.box g el (ds ++ zs) ∈ st) (h4 : ds.length = n * sz) (h5 : 0 < n) (h6 : n * bytes ≤ 140737488355328) (h7 : n ≤ 140737488355328)
 (h8 : ∀ g' cap' zs', n ≤ cap' → (ds ++ zs').length = cap' * sz → Keep m (.box g' el (ds ++ zs') :: st) ∧ k (.ar g' 0 n cap') (.box g' el (ds ++ zs') :: st)) : RowC2 m (el, sz, bytes) (.sl .tight [], .ar g 0 n cap) st k := ⟨g, n, cap, ds, zs, rfl, h3, h4, h5, h6, h7, h8⟩
end
section
variable {P : Program} {f : FuncId} {ds ds' : List D} {st s1 : St} {m : Option Ro} {k : D → St → Prop}
theorem ck_gen {R : D → St → Prop} (henter : ∀ args w, (callFunc f args).run P w = .ok (.enter f args) w) (hp : st.Perm s1) (h : TrF P f ds' s1 R) (hle : LEL ds ds') (hex : ∃ d st', R d st') (hk : ∀ d st', R d st' → Keep m st' ∧ k d st') : CallK P m (f, ds) st k :=
 ⟨R, henter, (TrF.perm hp h).le hle, hex, hk⟩
end
end Go.Proofs.YtgcienlfpnpbgaaGreat
end
section
namespace Go.Proofs.YtgcienlfpnpbgaaGreat
attribute [local push_cast] encB encI encC V.cells_mk V.cells_len Nat.mul_one Int.sub_zero List.map_nil beq_self_eq_true
open Go.RowKit
set_option maxHeartbeats 4000000
set_option maxRecDepth 10000
def colC (l : List Nat) : List D := (l.map encC).flatten
theorem colC_len (l : List Nat) : (colC l).length = l.length * 1 := by
 unfold colC
 rw [flat_len (sz := 1) fun e he => by
  obtain ⟨x, -, rfl⟩ := List.mem_map.1 he
  rfl, List.length_map]
def slotC (l : List Sl) : List D := (l.map Sl.cells).flatten
theorem slotC_len (l : List Sl) : (slotC l).length = l.length * 7 := by
 unfold slotC
 rw [flat_len (sz := 7) fun e he => by
  obtain ⟨x, -, rfl⟩ := List.mem_map.1 he
  exact Sl.cells_len x, List.length_map]
theorem cloneIF (g cap : Nat) (l : List Nat) (zs : List D) (hl : l ≠ []) (h8 : l.length ≤ 1000000) (st : St) (hm : Res.box g 3 (colC l ++ zs) ∈ st) : TrF Tryz.prog 214 [.ar g 0 l.length cap] st fun d st' => d = .sl .shared (l.map encC) ∧ st' = st := by
 have hcl := colC_len l
 have hpos : 0 < l.length := List.length_pos_iff.2 hl
 refine TrF.freeze (el := 3) (sz := 1) (n := l.length) ?_ (by decide) (fun e he => by
  obtain ⟨x, -, rfl⟩ := List.mem_map.1 he
  rfl) (List.length_map ..)
 show TrF _ _ _ _ fun d st' => ∃ g' cap' zs', d = .ar g' 0 l.length cap' ∧ st' = .box g' _ (colC l ++ zs') :: st
 generalize colC l = R at *
 generalize l.length = n at *
 refine Qin [2] Tryz.func214 Tryz.results214 Tryz.ntmps214 ?_
 repeat' (first | (with_reducible first | refine Q1 ?_ | refine Qe ?_ | fail) | ((with_reducible apply s_isNilA); (focus simp (disch := omega) only [push_cast, simprocAttr, *]; exact rfl); (focus simp (disch := omega) only [push_cast, simprocAttr, *]; exact rfl)) | with_reducible refine s_appC ?_ | with_reducible refine rc_go ?_ | ((with_reducible apply (rc2_go hm)); (focus assumption); (focus assumption); (focus omega); (focus omega); intro g' cap' zs' hc hl') | (with_reducible first | refine QQ ?_ | (refine al_go ?_; intro b) | (refine QD ?_ <;> (try constructor) <;> intro hb <;> try intro hb1) | fail) | fail)
 all_goals (refine retA_mk (by first | exact .inl rfl | exact .inr rfl) rfl (List.Sublist.refl _) (LE.of_eq ?_) ⟨g', cap', zs', rfl, rfl⟩; simp (disch := omega) only [push_cast, simprocAttr, *])
theorem cloneSF (g cap : Nat) (l : List Sl) (zs : List D) (hl : l ≠ []) (h8 : l.length ≤ 1000000) (st : St) (hm : Res.box g 75 (slotC l ++ zs) ∈ st) : TrF Tryz.prog 213 [.ar g 0 l.length cap] st fun d st' => d = .sl .shared (l.map Sl.cells) ∧ st' = st := by
 have hcl := slotC_len l
 have hpos : 0 < l.length := List.length_pos_iff.2 hl
 refine TrF.freeze (el := 75) (sz := 7) (n := l.length) ?_ (by decide) (fun e he => by
  obtain ⟨x, -, rfl⟩ := List.mem_map.1 he
  exact Sl.cells_len x) (List.length_map ..)
 show TrF _ _ _ _ fun d st' => ∃ g' cap' zs', d = .ar g' 0 l.length cap' ∧ st' = .box g' _ (slotC l ++ zs') :: st
 generalize slotC l = R at *
 generalize l.length = n at *
 refine Qin [2] Tryz.func213 Tryz.results213 Tryz.ntmps213 ?_
 repeat' (first | (with_reducible first | refine Q1 ?_ | refine Qe ?_ | fail) | ((with_reducible apply s_isNilA); (focus simp (disch := omega) only [push_cast, simprocAttr, *]; exact rfl); (focus simp (disch := omega) only [push_cast, simprocAttr, *]; exact rfl)) | with_reducible refine s_appC ?_ | with_reducible refine rc_go ?_ | ((with_reducible apply (rc2_go hm)); (focus assumption); (focus assumption); (focus omega); (focus omega); intro g' cap' zs' hc hl') | (with_reducible first | refine QQ ?_ | (refine al_go ?_; intro b) | (refine QD ?_ <;> (try constructor) <;> intro hb <;> try intro hb1) | fail) | fail)
 all_goals (refine retA_mk (by first | exact .inl rfl | exact .inr rfl) rfl (List.Sublist.refl _) (LE.of_eq ?_) ⟨g', cap', zs', rfl, rfl⟩; simp (disch := omega) only [push_cast, simprocAttr, *])
theorem containsF (o : Own) (l : List Nat) (x : Nat) (st : St) : TrF Tryz.prog 229 [.sl o (l.map encC), .i x] st fun d st' => d = .b (decide (x ∈ l)) ∧ st' = st :=
 trF_pure fun vs w hv => by
  obtain ⟨v, v', rfl, h1, h2⟩ := args2 hv
  cases rep_s h2
  have hs : Sees (fun n : Nat => Value.int .i64 n) w v l := sees_of_rep (f := fun n : Nat => Value.int .i64 n) h1
  refine ⟨_, fun _ _ => .s _ rfl, ?_⟩
  obtain ⟨a, cap, rfl, q1, q2, q3, q4⟩ := hs
  cases l with
  | nil =>
   refine (Tryz.slices_Contains_int_empty a cap x w).mono ?_
   rintro e w' ⟨he, rfl⟩
   exact ⟨he, Below.refl _ _⟩
  | cons y r =>
   obtain ⟨b, rfl⟩ : ∃ b, a = some b := by
    cases a with
    | none => have := q3 rfl; simp at q1; omega
    | some b => exact ⟨b, rfl⟩
   obtain ⟨e1, e2, e3⟩ := q4 b rfl (by simp)
   obtain ⟨bk, off, sp⟩ := b
   dsimp only at e1 e2 e3
   subst e1
   have hc := Tryz.slices_Contains_int bk off (y :: r).length cap ((y :: r).map Int.ofNat) x w (by simp) (by unfold maxLen at q2; omega) (fun j hj => by
    rw [List.length_map] at hj
    rw [e3 j hj, List.getD_eq_getElem?_getD, List.getElem?_map, List.getElem?_eq_getElem hj]; rfl)
   refine hc.mono ?_
   rintro e w' ⟨he, rfl⟩
   refine ⟨?_, Below.refl _ _⟩
   rw [he]
   congr 2
   rw [List.take_of_length_le (by simp), Bool.eq_iff_iff, List.contains_iff_mem, decide_eq_true_eq, List.mem_map]
   constructor
   · rintro ⟨a, h1, h2⟩
     have : a = x := Int.ofNat.inj h2
     exact this ▸ h1
   · intro h; exact ⟨x, h, rfl⟩
theorem deleteF (g cap i : Nat) (l : List Nat) (zs : List D) (hi : i < l.length) (hzs : (colC l ++ zs).length = cap * 1) (st : St) : TrF Tryz.prog 228 [.ar g 0 l.length cap, .i i, .i ((i : Int) + 1)] (.box g 3 (colC l ++ zs) :: st) fun d st' => d = .ar g 0 (l.eraseIdx i).length cap ∧ st' = .box g 3 (colC (l.eraseIdx i) ++ (.i 0 :: zs)) :: st := by
 intro vs w hv hh
 obtain ⟨lv⟩ := vs
 obtain ⟨v0, t0, e0, h1, hv⟩ := hv.inv_cons
 obtain ⟨v1, t1, e1, h2, hv⟩ := hv.inv_cons
 obtain ⟨v2, t2, e2, h3, hv⟩ := hv.inv_cons
 have e3 := hv.inv_nil
 dsimp only at e0
 subst e3 e2 e1 e0
 cases rep_s h2
 cases rep_s h3
 have hh1 := h1
 cases h1 with
 | ar _ _ _ _ c1 c2 =>
 obtain ⟨⟨us, hb, hr⟩, hlc⟩ := hh.2 _ (List.mem_cons_self ..)
 have hul := hr.1
 have hcl := colC_len l
 rw [List.length_append] at hul
 have hcm : ∀ l : List Nat, colC l = l.map fun c : Nat => D.i c := by
  intro l
  unfold colC
  induction l with
  | nil => rfl
  | cons x l ih => rw [List.map_cons, List.flatten_cons, ih]; rfl
 have hat : ∀ j (hj : j < l.length), us[j]? = some (.int .i64 (l[j] : Nat)) := fun j hj => by
  have hd : (colC l ++ zs)[j]? = some (.i (l[j] : Nat)) := by
   rw [List.getElem?_append_left (by omega), hcm, List.getElem?_map, List.getElem?_eq_getElem hj]; rfl
  obtain ⟨u, hu, hru⟩ := hr.get? hd
  rw [rep_s hru] at hu
  rw [← hu]; simp
 have hH : Sort.Holds (Value.int .i64) w g 0 ((l.map Int.ofNat).toArray) := fun j hj => by
  have hj' : j < l.length := by simpa using hj
  refine ⟨?_, ?_⟩
  · rw [Nat.zero_add, cell_of_row w g j us _ (0, 0) hb, hat j hj', getElem!_pos _ j hj]
    simp
  · unfold World.frozen?
    dsimp only
    rw [hb]; simp
 have hc := Tryz.slices_Delete_int g 0 cap i (i + 1) (l.map Int.ofNat) w hH (by simpa using c1) (by unfold maxLen at c2; omega) (by omega) (by rw [List.length_map]; omega)
 rw [List.length_map] at hc
 have hcast : ((i + 1 : Nat) : Int) = (i : Int) + 1 := by omega
 rw [hcast] at hc
 refine hc.mono ?_
 rintro e w' ⟨rfl, q, hw⟩
 refine ⟨_, rfl, ?_⟩
 obtain ⟨d', hd'⟩ : ∃ d', ((l.map Int.ofNat).take i ++ (l.map Int.ofNat).drop (i + 1) ++ List.replicate (i + 1 - i) 0) = d' := ⟨_, rfl⟩
 rw [hd'] at hw
 have hdl : d'.length = l.length := by
  rw [← hd']
  simp only [List.length_append, List.length_take, List.length_drop, List.length_map, List.length_replicate]
  omega
 have hus : (Sort.putCells (Value.int .i64) 0 d'.toArray us).toList = d'.map (Value.int .i64) ++ us.toList.drop l.length := by
  apply List.ext_getElem?
  intro k
  unfold Sort.putCells
  rw [Array.getElem?_toList, Array.getElem?_mapIdx]
  by_cases hk : k < l.length
  · have hk2 : k < us.size := by rw [← Array.length_toList]; omega
    rw [List.getElem?_append_left (by rw [List.length_map]; omega), Array.getElem?_eq_getElem hk2, List.getElem?_map, List.getElem?_eq_getElem (by omega : k < d'.length)]
    simp only [Option.map_some, Nat.zero_le, Nat.zero_add, List.size_toArray, hdl, hk, and_self, if_true, Nat.sub_zero, true_and]
    rw [getElem!_pos _ k (by simp; omega)]
    simp
  · rw [List.getElem?_append_right (by rw [List.length_map]; omega), List.length_map, hdl, List.getElem?_drop, show l.length + (k - l.length) = k by omega, Array.getElem?_toList]
    cases us[k]? with
    | none => rfl
    | some u => simp [hdl, hk]
 have hrep : RepL (OwnS (.box g 3 (colC l ++ zs) :: st)) w (Sort.putCells (Value.int .i64) 0 d'.toArray us).toList (colC (l.eraseIdx i) ++ (.i 0 :: zs)) := by
  rw [hus, show colC (l.eraseIdx i) ++ (.i 0 :: zs) = (d'.map fun n => D.i n) ++ zs by
   rw [← hd', hcm, List.eraseIdx_eq_take_drop_succ, show i + 1 - i = 1 by omega]
   simp only [List.map_append, List.map_take, List.map_drop, List.map_map, List.append_assoc, List.replicate, List.map_cons, List.map_nil, List.cons_append, List.nil_append]
   rfl]
  refine RepL.append (RepL.map fun x _ => .s _ rfl) ?_
  have := hr.drop l.length
  rwa [List.drop_append, List.drop_of_length_le (l := colC l) (by omega), List.nil_append, show l.length - (colC l).length = 0 by omega, List.drop_zero] at this
 have hw' : w'.heap[g]? = some (.cells (Sort.putCells (Value.int .i64) 0 d'.toArray us) 3 (0, 0)) := by
  rw [hw]
  simp only [Sort.putRow, Sort.mapBlock, Sort.ahead]
  rw [Array.getElem?_modify]
  simp [hb, Sort.onCells]
 have hs := set_any (w' := w') hh hb (by simp [Sort.putCells]) (by rw [hw]; rfl) (by rw [hw]; rfl) (by rw [hw]; rfl) (by rw [hw]; simp [Sort.putRow, Sort.mapBlock, Sort.ahead]) hw' (fun k hk => by
  rw [hw]
  simp only [Sort.putRow, Sort.mapBlock, Sort.ahead]
  rw [Array.getElem?_modify, if_neg (Ne.symm hk)]) hrep (fun d hd => by
   rw [hcm, List.mem_append] at hd
   rcases hd with hd | hd
   · obtain ⟨c, -, rfl⟩ := List.mem_map.1 hd; rfl
   · rcases List.mem_cons.1 hd with rfl | hd
     · rfl
     · exact hlc d (List.mem_append_right _ hd))
 have hel : (l.eraseIdx i).length = l.length - (i + 1 - i) := by rw [List.length_eraseIdx_of_lt hi]; omega
 refine ⟨.ar g 0 (l.eraseIdx i).length cap, _, ?_, hs.1, hs.2, rfl, rfl⟩
 rw [hel]
 exact .ar g 0 _ cap (by omega) c2
theorem schTakesF (t : Int) (st : St) : TrF Tryz.prog 225 [.i t] st fun x st' => x = .b (Sch.takes t) ∧ st' = st := by
 unfold Sch.takes
 refine Qin [2] Tryz.func225 Tryz.results225 Tryz.ntmps225 ?_
 repeat' (with_reducible first | refine Q1 ?_ | refine Qe ?_ | refine QQ ?_ | (refine al_go ?_; intro b) | (refine QD ?_ <;> (try constructor) <;> intro hb <;> try intro hb1) | fail)
 all_goals (refine Qret (hd := ?_); (try simp (disch := omega) only [push_cast, simprocAttr, *]); try (first | exact LE.refl _ | exact LE.sl _ _ | ((first | refine LE.tup ?_ | refine LE.agg ?_); (repeat' (first | exact LEL.nil | refine LEL.cons ?_ ?_ | exact LE.refl _ | exact LE.sl _ _ | refine LE.agg ?_)); done) | refine LE.of_eq ?_))
 all_goals (first | rfl | (refine congrArg D.b ?_; rw [Bool.eq_iff_iff]; simp only [Bool.true_and, Bool.false_and, Bool.and_true, Bool.and_false, Bool.or_false, Bool.or_true, Bool.true_or, Bool.false_or, true_and, and_true, Bool.not_eq_true', Bool.not_eq_false', decide_eq_true_eq, decide_eq_false_iff_not, beq_iff_eq, beq_eq_false_iff_ne, bne_iff_ne, ne_eq, reduceCtorEq, iff_true, true_iff, iff_false, false_iff, Bool.and_eq_true, Bool.or_eq_true, Bool.false_eq_true, Bool.true_eq_false]; first | done | omega))
theorem schFitsF (nm : ByteArray) (ty : Int) (rq : Bool) (dv v : V) (hB : v.nodes ≤ 4611686018427387904) (st : St) : TrF Tryz.prog 209 [.agg (Sl.mk nm ty rq dv).cells, .agg v.cells] st fun x st' => x = .b (Sch.fits (Sl.mk nm ty rq dv) v) ∧ st' = st := by
 have hR := valRightF v hB
 unfold Sch.fits
 cases hr : v.right with
 | false =>
  rw [hr] at hR
  cases v with
  | mk k n s l =>
  cases dv with
  | mk dk dn ds dl =>
  rw [V.cells_mk] at hR
  rw [Sl.cells_mk, V.cells_mk]
  replace hR := Lib.hid hR
  refine Qin [4] Tryz.func209 Tryz.results209 Tryz.ntmps209 ?_
  exact WR
 | true =>
  rw [hr] at hR
  cases v with
  | mk k n s l =>
  cases dv with
  | mk dk dn ds dl =>
  have hk : 0 ≤ k ∧ k ≤ 5 := by
   have := (V.right_iff.1 hr).1
   rw [V.parts, Bool.and_eq_true, Bool.and_eq_true] at this
   have := this.1.1
   unfold V.sgl at this
   repeat' split at this
   all_goals (first | omega | exact absurd this (by decide))
  obtain ⟨hk1, hk2⟩ := hk
  rw [V.cells_mk] at hR
  rw [Sl.cells_mk, V.cells_mk]
  replace hR := Lib.hid hR
  unfold Sch.bit
  clear hr
  refine Qin [4] Tryz.func209 Tryz.results209 Tryz.ntmps209 ?_
  exact WR
theorem schSoundF (s : Sl) (hB : s.dv.nodes ≤ 4611686018427387904) (st : St) : TrF Tryz.prog 211 [.agg s.cells] st fun x st' => x = .b (Sch.sound s) ∧ st' = st := by
 have hN := Lib.hid (valIsNameF s.name)
 have hT := Lib.hid (schTakesF s.types)
 have hF := schFitsF s.name s.types s.req s.dv s.dv hB
 unfold Sch.sound
 cases s with
 | mk nm ty rq dv =>
 dsimp only at hN hT hF ⊢
 generalize V.isName nm.data.toList = q1 at *
 generalize Sch.takes ty = q2 at *
 generalize Sch.fits (Sl.mk nm ty rq dv) dv = q3 at *
 cases dv with
 | mk k n s l =>
 rw [Sl.cells_mk, V.cells_mk] at hF
 rw [Sl.cells_mk]
 replace hF := Lib.hid hF
 cases q1 <;> cases q2 <;> cases q3
 all_goals skip
 all_goals (
  refine Qin [2] Tryz.func211 Tryz.results211 Tryz.ntmps211 ?_
  exact WR)
theorem schBareF (s : Sl) (b1 b2 : Bool) (hB : s.dv.Bg) (st : St) : TrF Tryz.prog 227 [.agg s.cells, .b b1, .b b2] st fun x st' => x = .b (Sch.bare s b1 b2) ∧ st' = st := by
 have hS := valSameB s.dv Sch.zeroV hB (.mk (Nat.zero_le _) (Nat.zero_le _) fun x h => by cases h)
 unfold Sch.bare
 cases s with
 | mk nm ty rq dv =>
 dsimp only at hS ⊢
 have hE := isE_eq nm
 generalize decide (nm.size = 0) = q1 at *
 generalize (dv.cmp Sch.zeroV == 0) = q3 at *
 unfold Sch.zeroV at hS
 cases dv with
 | mk k n s l =>
 rw [V.cells_mk, V.cells_mk, List.map_nil] at hS
 rw [Sl.cells_mk]
 replace hS := Lib.hid hS
 obtain ⟨q2, h2⟩ : ∃ q2, (ty == 0) = q2 := ⟨_, rfl⟩
 rw [h2]
 refine Qin [6] Tryz.func227 Tryz.results227 Tryz.ntmps227 ?_
 cases b1 <;> cases b2 <;> cases q1 <;> cases q2 <;> cases rq
 all_goals skip
 all_goals (
  repeat' (first | (with_reducible first | refine Q1 ?_ | refine Qe ?_ | refine QQ ?_ | (refine al_go ?_; intro b) | (refine QD ?_ <;> (try constructor) <;> intro hb <;> try intro hb1) | fail) | refine QL Tryz.call140 (hS.out _) ?_ | fail)
  all_goals exact Qret)
theorem colL_drop {slots : List Sl} {name : ByteArray} {cols : List Nat} {i c : Nat} (h : cols[i]? = some c) : Sch.colL slots name (cols.drop i) = if Sch.named slots name c then (c : Int) else Sch.colL slots name (cols.drop (i + 1)) := by
 obtain ⟨h1, rfl⟩ := List.getElem?_eq_some_iff.1 h
 rw [List.drop_eq_getElem_cons h1, Sch.colL]
theorem schColF (slots : List Sl) (cols : List Nat) (name : ByteArray) (hl : slots.length ≤ 1000000) (hc : cols.length ≤ 1000000) (st : St) : TrF Tryz.prog 212 [.agg [.sl .shared (slots.map Sl.cells), .sl .shared (cols.map encC)], .str name] st fun x st' => x = .i (Sch.colL slots name cols) ∧ st' = st := by
 obtain ⟨B, hB⟩ : ∃ B, Sch.colL slots name cols = B := ⟨_, rfl⟩
 have HB : Hid (Sch.colL slots name (cols.drop 0) = B) := hB
 rw [hB]
 clear hB
 refine Qin [4] Tryz.func212 Tryz.results212 Tryz.ntmps212 ?_
 repeat' (with_reducible first | refine Q1 ?_ | refine Qe ?_ | refine QQ ?_ | (refine al_go ?_; intro b) | (refine QD ?_ <;> (try constructor) <;> intro hb <;> try intro hb1) | fail)
 refine tr_loop (ι := Nat) (fun i A st' => i ≤ cols.length ∧ Hid (Sch.colL slots name (cols.drop i) = B) ∧ A.df = [] ∧ A.e 1 = .str name ∧ A.e 2 = .ip [.sl .shared (slots.map Sl.cells), .sl .shared (cols.map encC)] ∧ A.e 8 = .sl .shared (cols.map encC) ∧ A.e 9 = .i cols.length ∧ A.e 10 = .i i ∧ st = st') (fun i => cols.length - i) 0 ⟨Nat.zero_le _, HB, Qf, Qf, Qf, Qf, Qf, Qf, rfl⟩ ?_
 rintro i A st' ⟨hi, HT, hdf, e1, e2, e8, e9, e10, rfl⟩
 by_cases hlt : i < cols.length
 · obtain ⟨c, hx⟩ := gEx hlt
   have HE := HT.out
   rw [colL_drop hx] at HE
   clear HT HB
   by_cases hcs : c < slots.length
   · obtain ⟨s, hs⟩ := gEx hcs
     cases s with
     | mk nm ty rq dv =>
     cases dv with
     | mk k n sv l =>
     obtain ⟨q, hq⟩ : ∃ q, (nm.toList == name.toList) = q := ⟨_, rfl⟩
     have hnm : Sch.named slots name c = q := by
      unfold Sch.named
      rw [hs, ← hq]; rfl
     rw [hnm] at HE
     clear hnm
     have hcell : (slots.map Sl.cells)[c]? = some [.str nm, .i ty, .b rq, .i k, .i n, .str sv, .sl .shared (l.map V.cells)] := by
      rw [List.getElem?_map, hs, ← Sl.cells_mk]; rfl
     clear hs
     have hsl : (slots.map Sl.cells).length = slots.length := List.length_map ..
     generalize slots.map Sl.cells = SL at *
     cases q with
     | true =>
      rw [if_pos rfl] at HE
      rw [← HE]
      clear HE
      exact WR
     | false =>
      rw [if_neg (by decide)] at HE
      replace HE := Lib.hid HE
      repeat' (with_reducible first | refine Q1 ?_ | refine Qe ?_ | refine QQ ?_ | (refine al_go ?_; intro b) | (refine QD ?_ <;> (try constructor) <;> intro hb <;> try intro hb1) | fail)
      refine ⟨i + 1, ⟨hlt, HE, ?_, ?_, ?_, ?_, ?_, ?_, rfl⟩, ?_⟩
      all_goals exact Qf
   · have hnm : Sch.named slots name c = false := by
      unfold Sch.named
      rw [List.getElem?_eq_none (by omega)]; rfl
     rw [hnm, if_neg (by decide)] at HE
     replace HE := Lib.hid HE
     clear hnm
     repeat' (with_reducible first | refine Q1 ?_ | refine Qe ?_ | refine QQ ?_ | (refine al_go ?_; intro b) | (refine QD ?_ <;> (try constructor) <;> intro hb <;> try intro hb1) | fail)
     refine ⟨i + 1, ⟨hlt, HE, ?_, ?_, ?_, ?_, ?_, ?_, rfl⟩, ?_⟩
     all_goals exact Qf
 · have HE := HT.out
   rw [List.drop_of_length_le (by omega), Sch.colL] at HE
   rw [← HE]
   clear HE HT HB
   exact WR
theorem schColumnF (x : Vr) (s : Stp) (st : St) (ho : s.order.length ≤ 9223372036854775807) (hc : x.cols.length ≤ 1000000) : TrF Tryz.prog 226 [.ip x.cells, .agg s.cells] st fun d st' => d = .b (Sch.column x s) ∧ st' = st := by
 unfold Sch.column Vr.cells Stp.cells
 cases s with
 | mk kd col slot order =>
 cases slot with
 | mk nm ty rq dv =>
 cases dv with
 | mk k n sv l =>
 rw [Sl.cells_mk]
 dsimp only [List.cons_append, List.nil_append] at ho ⊢
 refine Qin [4] Tryz.func226 Tryz.results226 Tryz.ntmps226 ?_
 repeat' (with_reducible first | refine Q1 ?_ | refine Qe ?_ | refine QQ ?_ | (refine al_go ?_; intro b) | (refine QD ?_ <;> (try constructor) <;> intro hb <;> try intro hb1) | fail)
 all_goals (refine Qret (hd := ?_); (try simp (disch := omega) only [push_cast, simprocAttr, *]); try (first | exact LE.refl _ | exact LE.sl _ _ | ((first | refine LE.tup ?_ | refine LE.agg ?_); (repeat' (first | exact LEL.nil | refine LEL.cons ?_ ?_ | exact LE.refl _ | exact LE.sl _ _ | refine LE.agg ?_)); done) | refine LE.of_eq ?_))
 all_goals (first | rfl | (refine congrArg D.b ?_; rw [Bool.eq_iff_iff]; simp only [Bool.true_and, Bool.false_and, Bool.and_true, Bool.and_false, Bool.or_false, Bool.or_true, Bool.true_or, Bool.false_or, true_and, and_true, Bool.not_eq_true', Bool.not_eq_false', decide_eq_true_eq, decide_eq_false_iff_not, beq_iff_eq, beq_eq_false_iff_ne, bne_iff_ne, ne_eq, reduceCtorEq, iff_true, true_iff, iff_false, false_iff, Bool.and_eq_true, Bool.or_eq_true, Bool.false_eq_true, Bool.true_eq_false]; first | done | omega))
abbrev VB (bx gs cS : Nat) (zS : List D) (gc cC : Nat) (zC : List D) (x : Vr) (s : St) : St :=
 .box bx 141 [.ar gs 0 x.slots.length cS, .ar gc 0 x.cols.length cC] :: .box gs 75 (slotC x.slots ++ zS) :: .box gc 3 (colC x.cols ++ zC) :: s
def VL (cS : Nat) (zS : List D) (cC : Nat) (zC : List D) (x : Vr) : Prop := (slotC x.slots ++ zS).length = cS * 7 ∧ (colC x.cols ++ zC).length = cC * 1
structure VW (x : Vr) : Prop where
 ls : x.slots.length ≤ 1000
 lc : x.cols.length ≤ 8
 cs : ∀ c ∈ x.cols, c < x.slots.length
def Stp.Ok (s : Stp) : Prop := s.slot.dv.nodes ≤ 1000 ∧ s.slot.dv.Bg ∧ s.order.length ≤ 1000
theorem slotC_flat (x : Vr) : (x.slots.map Sl.cells).flatten = slotC x.slots := rfl
theorem colC_flat (x : Vr) : (x.cols.map encC).flatten = colC x.cols := rfl
theorem slots_each (l : List Sl) : ∀ e ∈ l.map Sl.cells, e.length = 7 := fun e he => by
 obtain ⟨x, -, rfl⟩ := List.mem_map.1 he
 exact Sl.cells_len x
theorem cols_each (l : List Nat) : ∀ e ∈ l.map encC, e.length = 1 := fun e he => by
 obtain ⟨x, -, rfl⟩ := List.mem_map.1 he
 rfl
def StepR (F : Vr → Stp → Option Vr) (x : Vr) (stp : Stp) (bx : Nat) (s : St) (d : D) (st' : St) : Prop :=
 (F x stp = none ∧ d = .b false ∧ st' = s) ∨ ∃ x' gs cS zS gc cC zC, F x stp = some x' ∧ VL cS zS cC zC x' ∧ d = .b true ∧ st' = VB bx gs cS zS gc cC zC x' s
theorem slotC_add (l : List Sl) (s : Sl) : slotC (l ++ [s]) = slotC l ++ [s.cells].flatten := by
 unfold slotC; simp
theorem colC_add (l : List Nat) (c : Nat) : colC (l ++ [c]) = colC l ++ [[D.i c]].flatten := by
 unfold colC; simp [encC]
theorem schAddF (bx gs cS gc cC : Nat) (zS zC : List D) (x : Vr) (stp : Stp) (hx : VW x) (hs : stp.Ok) (hz : VL cS zS cC zC x) (s : St) : TrF Tryz.prog 215 [.ptr bx 0, .agg stp.cells] (VB bx gs cS zS gc cC zC x s) (StepR Sch.addS x stp bx s) := by
 obtain ⟨ls, lc, -⟩ := hx
 obtain ⟨hn, -, ho⟩ := hs
 obtain ⟨hz1, hz2⟩ := hz
 have hS := schSoundF stp.slot (by omega)
 have hC := schColF x.slots x.cols stp.slot.name (by omega) (by omega) []
 have hr1 := slotC_len x.slots
 have hr2 := colC_len x.cols
 have e1 := Lib.hid (slots_each x.slots)
 have e2 := Lib.hid (cols_each x.cols)
 have f1 := Lib.hid (slotC_flat x)
 have f2 := Lib.hid (colC_flat x)
 have l1 : Hid ((x.slots.map Sl.cells).length = x.slots.length) := List.length_map ..
 have l2 : Hid ((x.cols.map encC).length = x.cols.length) := List.length_map ..
 have g1 := Lib.hid (slotC_add x.slots stp.slot)
 have g2 := Lib.hid (colC_add x.cols x.slots.length)
 have g3 : Hid ((x.slots ++ [stp.slot]).length = x.slots.length + 1) := List.length_append
 have g4 : Hid ((x.cols ++ [x.slots.length]).length = x.cols.length + 1) := List.length_append
 obtain ⟨x', hx'⟩ : ∃ x' : Vr, x' = ⟨x.slots ++ [stp.slot], x.cols ++ [x.slots.length]⟩ := ⟨_, rfl⟩
 have hF : Hid (Sch.addS x stp = if stp.col = 0 ∧ stp.order.length = 0 ∧ x.cols.length < 8 ∧ Sch.sound stp.slot = true ∧ stp.slot.req = false ∧ Sch.colL x.slots stp.slot.name x.cols < 0 then some x' else none) := by rw [hx']; rfl
 have s1 : Hid (x'.slots = x.slots ++ [stp.slot]) := by rw [hx']; rfl
 have s2 : Hid (x'.cols = x.cols ++ [x.slots.length]) := by rw [hx']; rfl
 clear hx'
 unfold StepR VL VB Stp.cells
 generalize Sch.addS x stp = F at *
 cases stp with
 | mk kd col slot order =>
 cases slot with
 | mk nm ty rq dv =>
 cases dv with
 | mk k n sv l =>
 dsimp only at hS hC ho hF ⊢
 generalize Sch.sound _ = q at *
 generalize Sch.colL _ _ _ = cv at *
 generalize slotC x.slots = R1 at *
 generalize colC x.cols = R2 at *
 generalize x.slots.map Sl.cells = L1 at *
 generalize x.cols.map encC = L2 at *
 rw [Sl.cells_mk] at *
 dsimp only [List.cons_append, List.nil_append] at ho ⊢
 generalize x.slots.length = m1 at *
 generalize x.cols.length = m2 at *
 replace hS := Lib.hid hS
 replace hC := Lib.hid hC
 refine Qin [4] Tryz.func215 Tryz.results215 Tryz.ntmps215 ?_
 repeat' (first | (with_reducible first | refine Q1 ?_ | refine Qe ?_ | fail) | ((with_reducible refine w_draw [(bx, [.ar gs 0 m1 cS, .ar gc 0 m2 cC])] ?_ ?_ ?_ ?_ ?_); (iterate 3 (focus kernel_rfl)); (focus ((repeat (first | exact keep_nil | refine keep_more (by repeat (first | exact mm_h | apply mm_t)) ?_)); done))) | ((with_reducible refine And.intro ?_ ?_); (focus ((repeat (first | exact keep_nil | refine keep_more (by (repeat (first | exact mm_h | apply mm_t)); done) ?_)); done))) | ((with_reducible refine w_draw [(bx, [.ar gs 0 m1 cS, .ar gc' 0 (m2 + 1) cC'])] ?_ ?_ ?_ ?_ ?_); (iterate 3 (focus kernel_rfl)); (focus ((repeat (first | exact keep_nil | refine keep_more (by repeat (first | exact mm_h | apply mm_t)) ?_)); done))) | ((with_reducible refine And.intro ?_ ?_); (focus ((repeat (first | exact keep_nil | refine keep_more (by (repeat (first | exact mm_h | apply mm_t)); done) ?_)); done))) | with_reducible refine s_appR ?_ | with_reducible refine rk_go ?_ | ((with_reducible apply (r2_go hr1 hz1)); (focus (intro g' cs'; repeat (first | exact ra_h | apply ra_t))); (focus exact len_one rfl); (focus (simp only [List.length_cons, List.length_nil]; omega)); (focus (simp only [List.length_cons, List.length_nil]; omega)); intro gs' cS' zS' hcs hls) | ((with_reducible apply (r2_go hr2 hz2)); (focus (intro g' cs'; repeat (first | exact ra_h | apply ra_t))); (focus exact len_one rfl); (focus (simp only [List.length_cons, List.length_nil]; omega)); (focus (simp only [List.length_cons, List.length_nil]; omega)); intro gc' cC' zC' hcc hlc) | (with_reducible first | refine QQ ?_ | (refine al_go ?_; intro b) | (refine QD ?_ <;> (try constructor) <;> intro hb <;> try intro hb1) | fail) | ((with_reducible apply (ck_lend Tryz.call212)); (focus exact hC.out); (focus exact ⟨Lend.agg ⟨Lend.rowE (by repeat (first | exact mm_h | apply mm_t)) f1.out (by decide) e1.out l1.out, Lend.rowE (by repeat (first | exact mm_h | apply mm_t)) f2.out (by decide) e2.out l2.out, trivial⟩, Lend.refl _, trivial⟩)) | fail)
 all_goals first
  | ((refine retA_mk (by first | exact .inl rfl | exact .inr rfl) (by first | rfl | assumption) (by (repeat (first | exact List.Sublist.refl _ | apply List.Sublist.cons))) (LE.of_eq ?_) (.inl ⟨?_, rfl, rfl⟩)); (focus simp (disch := omega) only [push_cast, simprocAttr, *]); (focus (rw [hF.out]; refine if_neg ?_; rintro ⟨h1, h2, h3, h4, h5, h6⟩; (first | omega | exact Bool.noConfusion (h4.symm.trans (by assumption) : true = false) | exact Bool.noConfusion (h5.symm.trans (by assumption) : false = true)))))
  | ((refine retA_mk (by first | exact .inl rfl | exact .inr rfl) (by first | rfl | assumption) (List.Sublist.refl _) (LE.of_eq ?_) (.inr ⟨x', gs', cS', zS', gc', cC', zC', ?_, ⟨?_, ?_⟩, rfl, ?_⟩)); (focus simp (disch := omega) only [push_cast, simprocAttr, *]); (focus (rw [hF.out]; refine if_pos ⟨?_, ?_, ?_, ?_, ?_, ?_⟩ <;> first | assumption | omega)); (focus (rw [s1.out, g1.out, (by assumption : rq = false)]; exact hls)); (focus (rw [s2.out, g2.out]; exact hlc)); (focus (rw [s1.out, s2.out, g1.out, g2.out, g3.out, g4.out, (by assumption : rq = false)])))
end Go.Proofs.YtgcienlfpnpbgaaGreat
end
section
namespace Go.Proofs.YtgcienlfpnpbgaaGreat
attribute [local push_cast] encB encI encC V.cells_mk V.cells_len Nat.mul_one Int.sub_zero List.map_nil beq_self_eq_true List.head?_cons
open Go.RowKit
set_option maxHeartbeats 4000000
set_option maxRecDepth 10000
theorem row_drop {sz o : Nat} {e : List D} (zs : List D) : ∀ (es : List (List D)) (c : Nat), (∀ x ∈ es, x.length = sz) → es[c]? = some e → o ≤ sz → ∃ tl, (es.flatten ++ zs).drop (c * sz + o) = e.drop o ++ tl
 | [], c, _, h, _ => by simp at h
 | x :: es, 0, hs, h, ho => by
  simp only [List.getElem?_cons_zero, Option.some.injEq] at h
  subst h
  have hx := hs x (List.mem_cons_self ..)
  refine ⟨es.flatten ++ zs, ?_⟩
  rw [List.flatten_cons, List.append_assoc, Nat.zero_mul, Nat.zero_add, List.drop_append_of_le_length (by omega)]
 | x :: es, c + 1, hs, h, ho => by
  rw [List.getElem?_cons_succ] at h
  obtain ⟨tl, ht⟩ := row_drop zs es c (fun y hy => hs y (List.mem_cons_of_mem _ hy)) h ho
  have hx := hs x (List.mem_cons_self ..)
  refine ⟨tl, ?_⟩
  rw [List.flatten_cons, List.append_assoc, show (c + 1) * sz + o = sz + (c * sz + o) by rw [Nat.succ_mul]; omega, ← List.drop_drop, List.drop_left' hx, ht]
theorem splice_app {e R ds : List D} {sz o : Nat} (he : e.length = sz) : splice (e ++ R) (sz + o) ds = e ++ splice R o ds := by
 unfold splice
 rw [List.take_append, List.take_of_length_le (l := e) (by omega), show sz + o - e.length = o by omega, show sz + o + ds.length = sz + (o + ds.length) by omega, ← List.drop_drop, List.drop_left' he]
 simp only [List.append_assoc]
theorem row_splice {sz o : Nat} {e ds : List D} (zs : List D) : ∀ (es : List (List D)) (c : Nat), (∀ x ∈ es, x.length = sz) → es[c]? = some e → o + ds.length ≤ sz → splice (es.flatten ++ zs) (c * sz + o) ds = (es.set c (splice e o ds)).flatten ++ zs
 | [], c, _, h, _ => by simp at h
 | x :: es, 0, hs, h, ho => by
  simp only [List.getElem?_cons_zero, Option.some.injEq] at h
  subst h
  have hx := hs x (List.mem_cons_self ..)
  rw [List.set_cons_zero, List.flatten_cons, List.flatten_cons, Nat.zero_mul, Nat.zero_add]
  unfold splice
  rw [show x ++ es.flatten ++ zs = x ++ (es.flatten ++ zs) from List.append_assoc .., List.take_append_of_le_length (by omega), List.drop_append_of_le_length (by omega)]
  simp only [List.append_assoc]
 | x :: es, c + 1, hs, h, ho => by
  rw [List.getElem?_cons_succ] at h
  have := row_splice zs es c (fun y hy => hs y (List.mem_cons_of_mem _ hy)) h ho
  have hx := hs x (List.mem_cons_self ..)
  rw [List.set_cons_succ, List.flatten_cons, List.flatten_cons, List.append_assoc, List.append_assoc, show (c + 1) * sz + o = sz + (c * sz + o) by rw [Nat.succ_mul]; omega, splice_app hx, this]
theorem w_draw_ne3 {P : Program} {N : Nat} {r : Option Nat} {A : AA} {b b' b'' : Nat} {ty ty' ty'' : TypeId} {cs cs' cs'' : List D} {s : St} {Q : Exit → AA → St → Prop} {l : List Oper} {id : Nat} (hm : P.follows .mixedOrders = true) (hB : mixBA .any l.toArray = true) (hok : opsOk N l = true)
 (h : (b' == b) = false → (b'' == b) = false → (b'' == b') = false → W P r (some (roOf (.box b ty cs :: .box b' ty' cs' :: .box b'' ty'' cs'' :: s))) l.toArray (Q .normal) l A (.box b ty cs :: .box b' ty' cs' :: .box b'' ty'' cs'' :: s)) : Tr P N r (.region id l.toArray true) A (.box b ty cs :: .box b' ty' cs' :: .box b'' ty'' cs'' :: s) Q := by
 intro a w ha hh
 have h1 := List.pairwise_cons.1 hh.1
 have h2 := List.pairwise_cons.1 h1.2
 have n1 : b' ≠ b := fun e => h1.1 (.box b' ty' cs') (List.Mem.head _) b rfl (by rw [← e]; rfl)
 have n2 : b'' ≠ b := fun e => h1.1 (.box b'' ty'' cs'') (List.Mem.tail _ (List.Mem.head _)) b rfl (by rw [← e]; rfl)
 have n3 : b'' ≠ b' := fun e => h2.1 (.box b'' ty'' cs'') (List.Mem.head _) b' rfl (by rw [← e]; rfl)
 exact w_draw _ hm hB hok (keeps_roOf _) (h (beq_eq_false_iff_ne.2 n1) (beq_eq_false_iff_ne.2 n2) (beq_eq_false_iff_ne.2 n3)) a w ha hh
theorem lendP {st : St} {bx gs gc m1 m2 cS cC : Nat} {T T1 T2 : TypeId} {R1 R2 zS zC : List D} {L1 L2 : List (List D)} (h1 : Res.box bx T [.ar gs 0 m1 cS, .ar gc 0 m2 cC] ∈ st) (h2 : Res.box gs T1 (R1 ++ zS) ∈ st) (h3 : Res.box gc T2 (R2 ++ zC) ∈ st)
 (f1 : L1.flatten = R1) (e1 : ∀ e ∈ L1, e.length = 7) (l1 : L1.length = m1) (f2 : L2.flatten = R2) (e2 : ∀ e ∈ L2, e.length = 1) (l2 : L2.length = m2) : Lend st (.ptr bx 0) (.ip [.sl .shared L1, .sl .shared L2]) :=
 Lend.ptr h1 ⟨Lend.rowE h2 f1 (by decide) e1 l1, Lend.rowE h3 f2 (by decide) e2 l2, trivial⟩ (by
  intro d hd
  simp only [List.mem_cons, List.not_mem_nil, or_false] at hd
  rcases hd with rfl | rfl <;> rfl)
theorem schLoseF (bx gs cS gc cC : Nat) (zS zC : List D) (x : Vr) (stp : Stp) (hx : VW x) (hs : stp.Ok) (hz : VL cS zS cC zC x) (s : St) : TrF Tryz.prog 216 [.ptr bx 0, .agg stp.cells] (VB bx gs cS zS gc cC zC x s) (StepR Sch.loseS x stp bx s) := by
 obtain ⟨ls, lc, hcs⟩ := hx
 obtain ⟨hn, hbg, ho⟩ := hs
 obtain ⟨hz1, hz2⟩ := hz
 have hK := schColumnF x stp [] (by omega) (by omega)
 have hB := schBareF stp.slot false false hbg
 have hF : Hid (Sch.loseS x stp = if Sch.column x stp = true ∧ Sch.bare stp.slot false false = true ∧ x.cols.length ≠ 1 then some ⟨x.slots, x.cols.eraseIdx stp.col.toNat⟩ else none) := rfl
 have e1 := Lib.hid (slots_each x.slots)
 have e2 := Lib.hid (cols_each x.cols)
 have f1 := Lib.hid (slotC_flat x)
 have f2 := Lib.hid (colC_flat x)
 have l1 : Hid ((x.slots.map Sl.cells).length = x.slots.length) := List.length_map ..
 have l2 : Hid ((x.cols.map encC).length = x.cols.length) := List.length_map ..
 unfold StepR VL VB Stp.cells
 generalize Sch.loseS x stp = F at *
 cases hcl : Sch.column x stp with
 | false =>
  rw [hcl] at hK hF
  unfold Vr.cells Stp.cells at hK
  clear hcl
  cases stp with
  | mk kd col slot order =>
  cases slot with
  | mk nm ty rq dv =>
  cases dv with
  | mk k n sv l =>
  dsimp only at ho ⊢
  generalize slotC x.slots = R1 at *
  generalize colC x.cols = R2 at *
  generalize x.slots.map Sl.cells = L1 at *
  generalize x.cols.map encC = L2 at *
  rw [Sl.cells_mk] at *
  dsimp only [List.cons_append, List.nil_append] at hK ⊢
  generalize x.slots.length = m1 at *
  generalize x.cols.length = m2 at *
  replace hK := Lib.hid hK
  refine Qin [4] Tryz.func216 Tryz.results216 Tryz.ntmps216 ?_
  repeat' (first | (with_reducible first | refine Q1 ?_ | refine Qe ?_ | refine QQ ?_ | (refine al_go ?_; intro b) | (refine QD ?_ <;> (try constructor) <;> intro hb <;> try intro hb1) | fail) | ((with_reducible apply (ck_lend Tryz.call226)); (focus exact hK.out); (focus exact ⟨lendP (by repeat (first | exact mm_h | apply mm_t)) (by repeat (first | exact mm_h | apply mm_t)) (by repeat (first | exact mm_h | apply mm_t)) f1.out e1.out l1.out f2.out e2.out l2.out, Lend.refl _, trivial⟩)) | fail)
  all_goals ((refine retA_mk (by first | exact .inl rfl | exact .inr rfl) (by first | rfl | assumption) (by (repeat (first | exact List.Sublist.refl _ | apply List.Sublist.cons))) (LE.of_eq ?_) (.inl ⟨?_, rfl, rfl⟩)); (focus simp (disch := omega) only [push_cast, simprocAttr, *]); (focus (rw [hF.out]; refine if_neg ?_; rintro ⟨h1, h2, h3⟩; (first | omega | exact Bool.noConfusion (h1.symm.trans (by assumption) : true = false) | exact Bool.noConfusion (h2.symm.trans (by assumption) : true = false) | exact Bool.noConfusion (h3.symm.trans (by assumption) : true = false) | (exact Bool.noConfusion (h1 : false = true))))))
 | true =>
  obtain ⟨hk1, hk2, hk3⟩ : 0 ≤ stp.col ∧ stp.col < x.cols.length ∧ stp.order.length = 0 := by
   unfold Sch.column at hcl
   simpa [and_assoc] using hcl
  obtain ⟨i, hi⟩ := Int.eq_ofNat_of_zero_le hk1
  have hlt : i < x.cols.length := by omega
  rw [hcl] at hK hF
  unfold Vr.cells Stp.cells at hK
  clear hcl hk1 hk2
  have hD := fun s => deleteF gc cC i x.cols zC hlt hz2 s
  have hcl2 := colC_len (x.cols.eraseIdx i)
  have hcl := colC_len x.cols
  have hel : (x.cols.eraseIdx i).length + 1 = x.cols.length := by rw [List.length_eraseIdx_of_lt hlt]; omega
  obtain ⟨x', hx'⟩ : ∃ x' : Vr, x' = ⟨x.slots, x.cols.eraseIdx stp.col.toNat⟩ := ⟨_, rfl⟩
  rw [← hx'] at hF
  rw [hi, Int.toNat_natCast] at hx'
  have s1 : Hid (x'.slots = x.slots) := Lib.hid (by rw [hx'])
  have s2 : Hid (x'.cols = x.cols.eraseIdx i) := Lib.hid (by rw [hx'])
  clear hx'
  generalize hE : x.cols.eraseIdx i = ec at *
  generalize Sch.bare stp.slot false false = q at *
  generalize hRE : colC ec = RE at *
  generalize hme : ec.length = me at *
  replace hE := Lib.hid hE
  replace hRE := Lib.hid hRE
  replace hme := Lib.hid hme
  replace hel := Lib.hid hel
  replace hcl2 := Lib.hid hcl2
  replace hcl := Lib.hid hcl
  cases stp with
  | mk kd col slot order =>
  cases slot with
  | mk nm ty rq dv =>
  cases dv with
  | mk k n sv l =>
  dsimp only at hB ho hi hF ⊢
  subst hi
  generalize hR1 : slotC x.slots = R1 at *
  generalize hR2 : colC x.cols = R2 at *
  generalize x.slots.map Sl.cells = L1 at *
  generalize x.cols.map encC = L2 at *
  rw [Sl.cells_mk] at *
  dsimp only [List.cons_append, List.nil_append] at hK ⊢
  generalize hm1 : x.slots.length = m1 at *
  generalize hm2 : x.cols.length = m2 at *
  replace hR1 := Lib.hid hR1
  replace hR2 := Lib.hid hR2
  replace hm1 := Lib.hid hm1
  replace hm2 := Lib.hid hm2
  replace hK := Lib.hid hK
  replace hB := Lib.hid hB
  replace hD := Lib.hid hD
  refine Qin [4] Tryz.func216 Tryz.results216 Tryz.ntmps216 ?_
  repeat' (first | (with_reducible first | refine Q1 ?_ | refine Qe ?_ | fail) | ((with_reducible refine w_draw [(bx, [.ar gs 0 m1 cS, .ar gc 0 m2 cC])] ?_ ?_ ?_ ?_ ?_); (iterate 3 (focus kernel_rfl)); (focus ((repeat (first | exact keep_nil | refine keep_more (by repeat (first | exact mm_h | apply mm_t)) ?_)); done))) | ((with_reducible refine And.intro ?_ ?_); (focus ((repeat (first | exact keep_nil | refine keep_more (by (repeat (first | exact mm_h | apply mm_t)); done) ?_)); done))) | (with_reducible first | refine QQ ?_ | (refine al_go ?_; intro b) | (refine QD ?_ <;> (try constructor) <;> intro hb <;> try intro hb1) | fail) | ((with_reducible apply (ck_lend Tryz.call226)); (focus exact hK.out); (focus exact ⟨lendP (by repeat (first | exact mm_h | apply mm_t)) (by repeat (first | exact mm_h | apply mm_t)) (by repeat (first | exact mm_h | apply mm_t)) f1.out e1.out l1.out f2.out e2.out l2.out, Lend.refl _, trivial⟩)) | fail)
  all_goals first
   | ((refine retA_mk (by first | exact .inl rfl | exact .inr rfl) (by first | rfl | assumption) (by (repeat (first | exact List.Sublist.refl _ | apply List.Sublist.cons))) (LE.of_eq ?_) (.inl ⟨?_, rfl, rfl⟩)); (focus simp (disch := omega) only [push_cast, simprocAttr, *]); (focus (rw [hF.out]; refine if_neg ?_; rintro ⟨h1, h2, h3⟩; (first | omega | exact Bool.noConfusion (h1.symm.trans (by assumption) : true = false) | exact Bool.noConfusion (h2.symm.trans (by assumption) : true = false) | exact Bool.noConfusion (h3.symm.trans (by assumption) : true = false) | (exact Bool.noConfusion (h1 : false = true))))))
   | ((refine retA_mk (by first | exact .inl rfl | exact .inr rfl) (by first | rfl | assumption) (List.Sublist.refl _) (LE.of_eq ?_) (.inr ⟨x', gs, cS, zS, gc, cC, D.i 0 :: zC, ?_, ⟨?_, ?_⟩, rfl, ?_⟩)); (focus simp (disch := omega) only [push_cast, simprocAttr, *]); (focus (rw [hF.out]; refine if_pos ⟨rfl, ?_, ?_⟩ <;> first | assumption | omega)); (focus (rw [s1.out, hR1.out]; exact hz1)); (focus (rw [s2.out, hRE.out]; have h1 := hel.out; have h2 := hcl2.out; have h3 := hcl.out; rw [List.length_append] at hz2 ⊢; rw [List.length_cons]; omega)); (focus (rw [s1.out, s2.out, hR1.out, hRE.out, hm1.out, hme.out])))
theorem modify_set {α : Type} {l : List α} {f : α → α} {i : Nat} {y : α} (h : l[i]? = some y) : l.modify i f = l.set i (f y) := by
 apply List.ext_getElem?
 intro j
 rw [List.getElem?_modify, List.getElem?_set]
 by_cases hj : i = j
 · subst hj
   obtain ⟨hlt, rfl⟩ := List.getElem?_eq_some_iff.1 h
   simp [hlt]
 · simp [hj]
theorem schRenameF (bx gs cS gc cC : Nat) (zS zC : List D) (x : Vr) (stp : Stp) (hx : VW x) (hs : stp.Ok) (hz : VL cS zS cC zC x) (s : St) : TrF Tryz.prog 217 [.ptr bx 0, .agg stp.cells] (VB bx gs cS zS gc cC zC x s) (StepR Sch.renameS x stp bx s) := by
 obtain ⟨ls, lc, hcs⟩ := hx
 obtain ⟨hn, hbg, ho⟩ := hs
 obtain ⟨hz1, hz2⟩ := hz
 have hK := schColumnF x stp [] (by omega) (by omega)
 have hB := schBareF stp.slot true false hbg
 have hN := valIsNameF stp.slot.name
 have hC := schColF x.slots x.cols stp.slot.name (by omega) (by omega) []
 have hF : Hid (Sch.renameS x stp = if Sch.column x stp = true ∧ Sch.bare stp.slot true false = true ∧ V.isName stp.slot.name.data.toList = true ∧ Sch.colL x.slots stp.slot.name x.cols < 0 then some ⟨x.slots.modify (Sch.at_ x stp) fun y => { y with name := stp.slot.name }, x.cols⟩ else none) := rfl
 have e1 := Lib.hid (slots_each x.slots)
 have e2 := Lib.hid (cols_each x.cols)
 have f1 := Lib.hid (slotC_flat x)
 have f2 := Lib.hid (colC_flat x)
 have l1 : Hid ((x.slots.map Sl.cells).length = x.slots.length) := List.length_map ..
 have l2 : Hid ((x.cols.map encC).length = x.cols.length) := List.length_map ..
 unfold StepR VL VB Stp.cells
 generalize Sch.renameS x stp = F at *
 cases hcl : Sch.column x stp with
 | false =>
  rw [hcl] at hK hF
  unfold Vr.cells Stp.cells at hK
  clear hcl
  cases stp with
  | mk kd col slot order =>
  cases slot with
  | mk nm ty rq dv =>
  cases dv with
  | mk k n sv l =>
  dsimp only at ho ⊢
  generalize slotC x.slots = R1 at *
  generalize colC x.cols = R2 at *
  generalize x.slots.map Sl.cells = L1 at *
  generalize x.cols.map encC = L2 at *
  rw [Sl.cells_mk] at *
  dsimp only [List.cons_append, List.nil_append] at hK ⊢
  generalize x.slots.length = m1 at *
  generalize x.cols.length = m2 at *
  replace hK := Lib.hid hK
  refine Qin [4] Tryz.func217 Tryz.results217 Tryz.ntmps217 ?_
  repeat' (first | (with_reducible first | refine Q1 ?_ | refine Qe ?_ | refine QQ ?_ | (refine al_go ?_; intro b) | (refine QD ?_ <;> (try constructor) <;> intro hb <;> try intro hb1) | fail) | ((with_reducible apply (ck_lend Tryz.call226)); (focus exact hK.out); (focus exact ⟨lendP (by repeat (first | exact mm_h | apply mm_t)) (by repeat (first | exact mm_h | apply mm_t)) (by repeat (first | exact mm_h | apply mm_t)) f1.out e1.out l1.out f2.out e2.out l2.out, Lend.refl _, trivial⟩)) | fail)
  all_goals ((refine retA_mk (by first | exact .inl rfl | exact .inr rfl) (by first | rfl | assumption) (by (repeat (first | exact List.Sublist.refl _ | apply List.Sublist.cons))) (LE.of_eq ?_) (.inl ⟨?_, rfl, rfl⟩)); (focus simp (disch := omega) only [push_cast, simprocAttr, *]); (focus (rw [hF.out]; refine if_neg ?_; rintro ⟨h1, h2, h3, h4⟩; (first | omega | exact Bool.noConfusion (h1.symm.trans (by assumption) : true = false) | exact Bool.noConfusion (h2.symm.trans (by assumption) : true = false) | exact Bool.noConfusion (h3.symm.trans (by assumption) : true = false) | exact Bool.noConfusion (h4.symm.trans (by assumption) : true = false) | (exact Bool.noConfusion (h1 : false = true))))))
 | true =>
  obtain ⟨hk1, hk2, hk3⟩ : 0 ≤ stp.col ∧ stp.col < x.cols.length ∧ stp.order.length = 0 := by
   unfold Sch.column at hcl
   simpa [and_assoc] using hcl
  obtain ⟨i, hi⟩ := Int.eq_ofNat_of_zero_le hk1
  have hlt : i < x.cols.length := by omega
  rw [hcl] at hK hF
  unfold Vr.cells Stp.cells at hK
  clear hcl hk1 hk2
  obtain ⟨c, hc⟩ := gEx hlt
  have hcm : c < x.slots.length := hcs c (List.mem_of_getElem? hc)
  obtain ⟨y, hy⟩ := gEx hcm
  have hat : Sch.at_ x stp = c := by
   unfold Sch.at_
   rw [hi, Int.toNat_natCast, List.getD_eq_getElem?_getD, hc]; rfl
  have hL2 : (x.cols.map encC)[i]? = some [D.i c] := by rw [List.getElem?_map, hc]; rfl
  have hL1 : (x.slots.map Sl.cells)[c]? = some y.cells := by rw [List.getElem?_map, hy]; rfl
  obtain ⟨t1, hld⟩ : ∃ tl, List.drop i (colC x.cols ++ zC) = D.i c :: tl := by
   obtain ⟨tl, h⟩ := row_drop (sz := 1) (o := 0) zC _ i (cols_each x.cols) hL2 (by omega)
   rw [Nat.mul_one, Nat.add_zero] at h
   exact ⟨tl, h⟩
  obtain ⟨x', hx'⟩ : ∃ x' : Vr, x' = ⟨x.slots.modify (Sch.at_ x stp) fun y => { y with name := stp.slot.name }, x.cols⟩ := ⟨_, rfl⟩
  rw [← hx'] at hF
  rw [hat, modify_set hy] at hx'
  have s1 : Hid (x'.slots = x.slots.set c { y with name := stp.slot.name }) := Lib.hid (by rw [hx'])
  have s2 : Hid (x'.cols = x.cols) := Lib.hid (by rw [hx'])
  have s3 : Hid ((x.slots.set c { y with name := stp.slot.name }).length = x.slots.length) := List.length_set
  have hsp : List.take (c * 7) (slotC x.slots ++ zS) ++ [D.str stp.slot.name] ++ List.drop (c * 7 + 1) (slotC x.slots ++ zS) = slotC (x.slots.set c { y with name := stp.slot.name }) ++ zS := by
   have h := row_splice (o := 0) (ds := [D.str stp.slot.name]) zS _ c (slots_each x.slots) hL1 (by simp)
   rw [show splice y.cells 0 [D.str stp.slot.name] = Sl.cells { y with name := stp.slot.name } from rfl, show (x.slots.map Sl.cells).set c (Sl.cells { y with name := stp.slot.name }) = (x.slots.set c { y with name := stp.slot.name }).map Sl.cells from (List.map_set ..).symm] at h
   exact h
  have hle : c * 7 + 1 ≤ cS * 7 := by
   have := slotC_len x.slots
   rw [List.length_append] at hz1
   omega
  have hl3 : (slotC (x.slots.set c { y with name := stp.slot.name }) ++ zS).length = cS * 7 := by
   rw [List.length_append] at hz1 ⊢
   rw [slotC_len, List.length_set, ← slotC_len]; exact hz1
  clear hx' hat hL1 hL2 hy hc
  generalize Sch.bare stp.slot true false = q at *
  generalize V.isName stp.slot.name.data.toList = qn at *
  generalize Sch.colL x.slots stp.slot.name x.cols = cv at *
  generalize hRE : slotC (x.slots.set c { y with name := stp.slot.name }) = RE at *
  replace hRE := Lib.hid hRE
  replace hl3 := Lib.hid hl3
  cases stp with
  | mk kd col slot order =>
  cases slot with
  | mk nm ty rq dv =>
  cases dv with
  | mk k n sv l =>
  dsimp only at hB hN hC ho hi hF ⊢
  subst hi
  generalize hR1 : slotC x.slots = R1 at *
  generalize hR2 : colC x.cols = R2 at *
  generalize x.slots.map Sl.cells = L1 at *
  generalize x.cols.map encC = L2 at *
  rw [Sl.cells_mk] at *
  dsimp only [List.cons_append, List.nil_append] at hK ⊢
  generalize hm1 : x.slots.length = m1 at *
  generalize hm2 : x.cols.length = m2 at *
  replace hR1 := Lib.hid hR1
  replace hR2 := Lib.hid hR2
  replace hm1 := Lib.hid hm1
  replace hm2 := Lib.hid hm2
  replace hK := Lib.hid hK
  replace hB := Lib.hid hB
  replace hN := Lib.hid hN
  replace hC := Lib.hid hC
  refine Qin [4] Tryz.func217 Tryz.results217 Tryz.ntmps217 ?_
  repeat' (first | (with_reducible first | refine Q1 ?_ | refine Qe ?_ | fail) | ((with_reducible refine w_draw_ne3 ?_ ?_ ?_ ?_); (iterate 3 (focus kernel_rfl)); intro hne1 hne2 hne3) | (with_reducible first | refine QQ ?_ | (refine al_go ?_; intro b) | (refine QD ?_ <;> (try constructor) <;> intro hb <;> try intro hb1) | fail) | ((with_reducible apply (ck_lend Tryz.call226)); (focus exact hK.out); (focus exact ⟨lendP (by repeat (first | exact mm_h | apply mm_t)) (by repeat (first | exact mm_h | apply mm_t)) (by repeat (first | exact mm_h | apply mm_t)) f1.out e1.out l1.out f2.out e2.out l2.out, Lend.refl _, trivial⟩)) | ((with_reducible apply (ck_lend Tryz.call212)); (focus exact hC.out); (focus exact ⟨Lend.agg ⟨Lend.rowE (by repeat (first | exact mm_h | apply mm_t)) f1.out (by decide) e1.out l1.out, Lend.rowE (by repeat (first | exact mm_h | apply mm_t)) f2.out (by decide) e2.out l2.out, trivial⟩, Lend.refl _, trivial⟩)) | fail)
  all_goals first
   | ((refine retA_mk (by first | exact .inl rfl | exact .inr rfl) (by first | rfl | assumption) (by (repeat (first | exact List.Sublist.refl _ | apply List.Sublist.cons))) (LE.of_eq ?_) (.inl ⟨?_, rfl, rfl⟩)); (focus simp (disch := omega) only [push_cast, simprocAttr, *]); (focus (rw [hF.out]; refine if_neg ?_; rintro ⟨h1, h2, h3, h4⟩; (first | omega | exact Bool.noConfusion (h1.symm.trans (by assumption) : true = false) | exact Bool.noConfusion (h2.symm.trans (by assumption) : true = false) | exact Bool.noConfusion (h3.symm.trans (by assumption) : true = false) | exact Bool.noConfusion (h4.symm.trans (by assumption) : true = false) | (exact Bool.noConfusion (h1 : false = true))))))
   | ((refine retA_mk (by first | exact .inl rfl | exact .inr rfl) (by first | rfl | assumption) (List.Sublist.refl _) (LE.of_eq ?_) (.inr ⟨x', gs, cS, zS, gc, cC, zC, ?_, ⟨?_, ?_⟩, rfl, ?_⟩)); (focus simp (disch := omega) only [push_cast, simprocAttr, *]); (focus (rw [hF.out]; refine if_pos ⟨rfl, ?_, ?_, ?_⟩ <;> first | assumption | omega)); (focus (rw [s1.out, hRE.out]; exact hl3.out)); (focus (rw [s2.out, hR2.out]; exact hz2)); (focus (rw [s1.out, s2.out, s3.out, hRE.out, hR2.out, hm2.out])))
theorem schWidenF (bx gs cS gc cC : Nat) (zS zC : List D) (x : Vr) (stp : Stp) (hx : VW x) (hs : stp.Ok) (hz : VL cS zS cC zC x) (s : St) : TrF Tryz.prog 218 [.ptr bx 0, .agg stp.cells] (VB bx gs cS zS gc cC zC x s) (StepR Sch.widenS x stp bx s) := by
 obtain ⟨ls, lc, hcs⟩ := hx
 obtain ⟨hn, hbg, ho⟩ := hs
 obtain ⟨hz1, hz2⟩ := hz
 have hK := schColumnF x stp [] (by omega) (by omega)
 have hB := schBareF stp.slot false true hbg
 have hT := schTakesF stp.slot.types
 have hF : Hid (Sch.widenS x stp = if Sch.column x stp = true ∧ Sch.bare stp.slot false true = true ∧ Sch.takes stp.slot.types = true ∧ (x.slots[Sch.at_ x stp]?).any (fun y => bits .or .i64 y.types stp.slot.types != y.types) = true then some ⟨x.slots.modify (Sch.at_ x stp) fun y => { y with types := bits .or .i64 y.types stp.slot.types }, x.cols⟩ else none) := rfl
 have e1 := Lib.hid (slots_each x.slots)
 have e2 := Lib.hid (cols_each x.cols)
 have f1 := Lib.hid (slotC_flat x)
 have f2 := Lib.hid (colC_flat x)
 have l1 : Hid ((x.slots.map Sl.cells).length = x.slots.length) := List.length_map ..
 have l2 : Hid ((x.cols.map encC).length = x.cols.length) := List.length_map ..
 unfold StepR VL VB Stp.cells
 generalize Sch.widenS x stp = F at *
 cases hcl : Sch.column x stp with
 | false =>
  rw [hcl] at hK hF
  unfold Vr.cells Stp.cells at hK
  clear hcl
  cases stp with
  | mk kd col slot order =>
  cases slot with
  | mk nm ty rq dv =>
  cases dv with
  | mk k n sv l =>
  dsimp only at ho ⊢
  generalize slotC x.slots = R1 at *
  generalize colC x.cols = R2 at *
  generalize x.slots.map Sl.cells = L1 at *
  generalize x.cols.map encC = L2 at *
  rw [Sl.cells_mk] at *
  dsimp only [List.cons_append, List.nil_append] at hK ⊢
  generalize x.slots.length = m1 at *
  generalize x.cols.length = m2 at *
  replace hK := Lib.hid hK
  refine Qin [4] Tryz.func218 Tryz.results218 Tryz.ntmps218 ?_
  repeat' (first | (with_reducible first | refine Q1 ?_ | refine Qe ?_ | refine QQ ?_ | (refine al_go ?_; intro b) | (refine QD ?_ <;> (try constructor) <;> intro hb <;> try intro hb1) | fail) | ((with_reducible apply (ck_lend Tryz.call226)); (focus exact hK.out); (focus exact ⟨lendP (by repeat (first | exact mm_h | apply mm_t)) (by repeat (first | exact mm_h | apply mm_t)) (by repeat (first | exact mm_h | apply mm_t)) f1.out e1.out l1.out f2.out e2.out l2.out, Lend.refl _, trivial⟩)) | fail)
  all_goals ((refine retA_mk (by first | exact .inl rfl | exact .inr rfl) (by first | rfl | assumption) (by (repeat (first | exact List.Sublist.refl _ | apply List.Sublist.cons))) (LE.of_eq ?_) (.inl ⟨?_, rfl, rfl⟩)); (focus simp (disch := omega) only [push_cast, simprocAttr, *]); (focus (rw [hF.out]; refine if_neg ?_; rintro ⟨h1, h2, h3, h4⟩; (first | omega | exact Bool.noConfusion (h1.symm.trans (by assumption) : true = false) | exact Bool.noConfusion (h2.symm.trans (by assumption) : true = false) | exact Bool.noConfusion (h3.symm.trans (by assumption) : true = false) | exact Bool.noConfusion (h4.symm.trans (by assumption) : true = false) | (exact Bool.noConfusion (h1 : false = true))))))
 | true =>
  obtain ⟨hk1, hk2, hk3⟩ : 0 ≤ stp.col ∧ stp.col < x.cols.length ∧ stp.order.length = 0 := by
   unfold Sch.column at hcl
   simpa [and_assoc] using hcl
  obtain ⟨i, hi⟩ := Int.eq_ofNat_of_zero_le hk1
  have hlt : i < x.cols.length := by omega
  rw [hcl] at hK hF
  unfold Vr.cells Stp.cells at hK
  clear hcl hk1 hk2
  obtain ⟨c, hc⟩ := gEx hlt
  have hcm : c < x.slots.length := hcs c (List.mem_of_getElem? hc)
  obtain ⟨y, hy⟩ := gEx hcm
  have hat : Sch.at_ x stp = c := by
   unfold Sch.at_
   rw [hi, Int.toNat_natCast, List.getD_eq_getElem?_getD, hc]; rfl
  have hL2 : (x.cols.map encC)[i]? = some [D.i c] := by rw [List.getElem?_map, hc]; rfl
  have hL1 : (x.slots.map Sl.cells)[c]? = some y.cells := by rw [List.getElem?_map, hy]; rfl
  obtain ⟨t1, hld⟩ : ∃ tl, List.drop i (colC x.cols ++ zC) = D.i c :: tl := by
   obtain ⟨tl, h⟩ := row_drop (sz := 1) (o := 0) zC _ i (cols_each x.cols) hL2 (by omega)
   rw [Nat.mul_one, Nat.add_zero] at h
   exact ⟨tl, h⟩
  obtain ⟨w, hw⟩ : ∃ w, bits .or .i64 y.types stp.slot.types = w := ⟨_, rfl⟩
  obtain ⟨wb, hwb⟩ : ∃ wb, (w != y.types) = wb := ⟨_, rfl⟩
  obtain ⟨x', hx'⟩ : ∃ x' : Vr, x' = ⟨x.slots.modify (Sch.at_ x stp) fun y => { y with types := bits .or .i64 y.types stp.slot.types }, x.cols⟩ := ⟨_, rfl⟩
  rw [← hx'] at hF
  rw [hat, hy, Option.any_some, hw, hwb] at hF
  rw [hat, modify_set hy] at hx'
  rw [hw] at hx'
  have s1 : Hid (x'.slots = x.slots.set c { y with types := w }) := Lib.hid (by rw [hx'])
  have s2 : Hid (x'.cols = x.cols) := Lib.hid (by rw [hx'])
  have s3 : Hid ((x.slots.set c { y with types := w }).length = x.slots.length) := List.length_set
  have hsp : List.take (c * 7 + 1) (slotC x.slots ++ zS) ++ [D.i w] ++ List.drop (c * 7 + 1 + 1) (slotC x.slots ++ zS) = slotC (x.slots.set c { y with types := w }) ++ zS := by
   have h := row_splice (o := 1) (ds := [D.i w]) zS _ c (slots_each x.slots) hL1 (by simp)
   rw [show splice y.cells 1 [D.i w] = Sl.cells { y with types := w } from rfl, show (x.slots.map Sl.cells).set c (Sl.cells { y with types := w }) = (x.slots.set c { y with types := w }).map Sl.cells from (List.map_set ..).symm] at h
   exact h
  obtain ⟨t2, hld2⟩ : ∃ tl, List.drop (c * 7 + 1) (slotC x.slots ++ zS) = D.i y.types :: tl := by
   obtain ⟨tl, h⟩ := row_drop (sz := 7) (o := 1) zS _ c (slots_each x.slots) hL1 (by omega)
   exact ⟨_, h⟩
  obtain ⟨t3, hld3⟩ : ∃ tl, List.drop (c * 7 + 1) (slotC (x.slots.set c { y with types := w }) ++ zS) = D.i w :: tl := by
   obtain ⟨tl, h⟩ := row_drop (sz := 7) (o := 1) (e := Sl.cells { y with types := w }) zS _ c (slots_each (x.slots.set c { y with types := w })) (by rw [List.getElem?_map, List.getElem?_set_self hcm]; rfl) (by omega)
   exact ⟨_, h⟩
  have hle : c * 7 + 1 + 1 ≤ cS * 7 := by
   have := slotC_len x.slots
   rw [List.length_append] at hz1
   omega
  have hl3 : (slotC (x.slots.set c { y with types := w }) ++ zS).length = cS * 7 := by
   rw [List.length_append] at hz1 ⊢
   rw [slotC_len, List.length_set, ← slotC_len]; exact hz1
  clear hx' hat hL1 hL2 hy hc
  generalize Sch.bare stp.slot false true = q at *
  generalize Sch.takes stp.slot.types = qt at *
  generalize hRE : slotC (x.slots.set c { y with types := w }) = RE at *
  replace hRE := Lib.hid hRE
  replace hl3 := Lib.hid hl3
  generalize y.types = yt at *
  cases stp with
  | mk kd col slot order =>
  cases slot with
  | mk nm ty rq dv =>
  cases dv with
  | mk k n sv l =>
  dsimp only at hB hT ho hi hF ⊢
  subst hi
  generalize hR1 : slotC x.slots = R1 at *
  generalize hR2 : colC x.cols = R2 at *
  generalize x.slots.map Sl.cells = L1 at *
  generalize x.cols.map encC = L2 at *
  rw [Sl.cells_mk] at *
  dsimp only [List.cons_append, List.nil_append] at hK ⊢
  generalize hm1 : x.slots.length = m1 at *
  generalize hm2 : x.cols.length = m2 at *
  replace hR1 := Lib.hid hR1
  replace hR2 := Lib.hid hR2
  replace hm1 := Lib.hid hm1
  replace hm2 := Lib.hid hm2
  replace hK := Lib.hid hK
  replace hB := Lib.hid hB
  replace hT := Lib.hid hT
  cases wb
  all_goals skip
  all_goals (
   refine Qin [4] Tryz.func218 Tryz.results218 Tryz.ntmps218 ?_
   repeat' (first | (with_reducible first | refine Q1 ?_ | refine Qe ?_ | fail) | ((with_reducible refine w_draw_ne3 ?_ ?_ ?_ ?_); (iterate 3 (focus kernel_rfl)); intro hne1 hne2 hne3) | (with_reducible first | refine QQ ?_ | (refine al_go ?_; intro b) | (refine QD ?_ <;> (try constructor) <;> intro hb <;> try intro hb1) | fail) | ((with_reducible apply (ck_lend Tryz.call226)); (focus exact hK.out); (focus exact ⟨lendP (by repeat (first | exact mm_h | apply mm_t)) (by repeat (first | exact mm_h | apply mm_t)) (by repeat (first | exact mm_h | apply mm_t)) f1.out e1.out l1.out f2.out e2.out l2.out, Lend.refl _, trivial⟩)) | fail)
   all_goals first
    | ((refine retA_mk (by first | exact .inl rfl | exact .inr rfl) (by first | rfl | assumption) (by (repeat (first | exact List.Sublist.refl _ | apply List.Sublist.cons))) (LE.of_eq ?_) (.inl ⟨?_, rfl, rfl⟩)); (focus simp (disch := omega) only [push_cast, simprocAttr, *]); (focus (rw [hF.out]; refine if_neg ?_; rintro ⟨h1, h2, h3, h4⟩; (first | omega | exact Bool.noConfusion (h1.symm.trans (by assumption) : true = false) | exact Bool.noConfusion (h2.symm.trans (by assumption) : true = false) | exact Bool.noConfusion (h3.symm.trans (by assumption) : true = false) | exact Bool.noConfusion (h4.symm.trans (by assumption) : true = false) | (exact Bool.noConfusion (h1 : false = true))))))
    | ((refine retA_mk (by first | exact .inl rfl | exact .inr rfl) (by first | rfl | assumption) (by (repeat (first | exact List.Sublist.refl _ | apply List.Sublist.cons))) (LE.of_eq ?_) (.inl ⟨?_, rfl, rfl⟩)); (focus (simp (disch := omega) only [push_cast, simprocAttr, *]; done)); (focus (rw [hF.out]; refine if_neg ?_; rintro ⟨h1, h2, h3, h4⟩; exact Bool.noConfusion h4)))
    | ((refine retA_mk (by first | exact .inl rfl | exact .inr rfl) (by first | rfl | assumption) (List.Sublist.refl _) (LE.of_eq ?_) (.inr ⟨x', gs, cS, zS, gc, cC, zC, ?_, ⟨?_, ?_⟩, rfl, ?_⟩)); (focus simp (disch := omega) only [push_cast, simprocAttr, *]); (focus (rw [hF.out]; refine if_pos ⟨rfl, ?_, ?_, ?_⟩ <;> first | assumption | omega | rfl)); (focus (rw [s1.out, hRE.out]; exact hl3.out)); (focus (rw [s2.out, hR2.out]; exact hz2)); (focus (rw [s1.out, s2.out, s3.out, hRE.out, hR2.out, hm2.out]))))
theorem retA_perm {ts : List Tmp} {R : D → St → Prop} {ex : Exit} {A : AA} {X : D} {st st0 s2 : St} (hex : ex = .normal ∨ ex = .ret) (hdf : A.df = []) (hp : st.Perm s2) (hs : st0.Sublist s2) (hd : LE (resD ts A.e) X) (hR : R X st0) : retA ts R ex A st := by
 rcases hex with rfl | rfl <;> exact ⟨[], X, s2, st0, hdf, hp, hs, hd, hR⟩
theorem reo_drop {cols : List Nat} {order : List Int} {j : Nat} {k : Int} {out : List Nat} (h : order[j]? = some k) : Sch.reo cols (order.drop j) out = if 0 ≤ k ∧ k < cols.length ∧ cols.getD k.toNat 0 ∉ out then Sch.reo cols (order.drop (j + 1)) (out ++ [cols.getD k.toNat 0]) else none := by
 obtain ⟨h1, rfl⟩ := List.getElem?_eq_some_iff.1 h
 rw [List.drop_eq_getElem_cons h1, Sch.reo]
theorem schReorderF (bx gs cS gc cC : Nat) (zS zC : List D) (x : Vr) (stp : Stp) (hx : VW x) (hc1 : 1 ≤ x.cols.length) (hs : stp.Ok) (hz : VL cS zS cC zC x) (s : St) : TrF Tryz.prog 219 [.ptr bx 0, .agg stp.cells] (VB bx gs cS zS gc cC zC x s) (StepR Sch.reorderS x stp bx s) := by
 obtain ⟨ls, lc, hcs⟩ := hx
 obtain ⟨hn, hbg, ho⟩ := hs
 obtain ⟨hz1, hz2⟩ := hz
 have hB := schBareF stp.slot false false hbg
 have e2 := Lib.hid (cols_each x.cols)
 have f2 := Lib.hid (colC_flat x)
 have l2 : Hid ((x.cols.map encC).length = x.cols.length) := List.length_map ..
 have hF : Hid (Sch.reorderS x stp = if stp.col = 0 ∧ Sch.bare stp.slot false false = true ∧ stp.order.length = x.cols.length then (Sch.reo x.cols stp.order []).map fun c => ⟨x.slots, c⟩ else none) := rfl
 by_cases hno : ¬ (stp.col = 0 ∧ Sch.bare stp.slot false false = true ∧ stp.order.length = x.cols.length)
 · have hF2 : Hid (Sch.reorderS x stp = none) := Lib.hid (by rw [hF.out, if_neg hno])
   unfold StepR VL VB Stp.cells
   generalize Sch.reorderS x stp = F at *
   clear hF
   cases stp with
   | mk kd col slot order =>
   cases slot with
   | mk nm ty rq dv =>
   cases dv with
   | mk k n sv l =>
   dsimp only at hB ho hno ⊢
   generalize Sch.bare _ false false = q at *
   generalize slotC x.slots = R1 at *
   generalize colC x.cols = R2 at *
   rw [Sl.cells_mk] at *
   dsimp only [List.cons_append, List.nil_append] at ⊢
   generalize x.slots.length = m1 at *
   generalize x.cols.length = m2 at *
   replace hB := Lib.hid hB
   have hno' : col ≠ 0 ∨ (col = 0 ∧ q = false) ∨ (col = 0 ∧ q = true ∧ (order.length : Int) ≠ m2) := by
    by_cases h1 : col = 0
    · cases q
      · exact .inr (.inl ⟨h1, rfl⟩)
      · refine .inr (.inr ⟨h1, rfl, fun h => hno ⟨h1, rfl, by omega⟩⟩)
    · exact .inl h1
   clear hno
   rcases hno' with h0 | ⟨rfl, rfl⟩ | ⟨rfl, rfl, h0⟩
   all_goals skip
   all_goals (
    refine Qin [4] Tryz.func219 Tryz.results219 Tryz.ntmps219 ?_
    repeat' (first | (with_reducible first | refine Q1 ?_ | refine Qe ?_ | fail) | ((with_reducible refine w_draw [(bx, [.ar gs 0 m1 cS, .ar gc 0 m2 cC])] ?_ ?_ ?_ ?_ ?_); (iterate 3 (focus kernel_rfl)); (focus ((repeat (first | exact keep_nil | refine keep_more (by repeat (first | exact mm_h | apply mm_t)) ?_)); done))) | ((with_reducible refine And.intro ?_ ?_); (focus ((repeat (first | exact keep_nil | refine keep_more (by (repeat (first | exact mm_h | apply mm_t)); done) ?_)); done))) | (with_reducible first | refine QQ ?_ | (refine al_go ?_; intro b) | (refine QD ?_ <;> (try constructor) <;> intro hb <;> try intro hb1) | fail) | fail)
    all_goals ((refine retA_mk (by first | exact .inl rfl | exact .inr rfl) (by first | rfl | assumption) (by (repeat (first | exact List.Sublist.refl _ | apply List.Sublist.cons))) (LE.of_eq ?_) (.inl ⟨hF2.out, rfl, rfl⟩)); simp (disch := omega) only [push_cast, simprocAttr, *]))
 have hyes := Decidable.of_not_not hno
 obtain ⟨h1, h2, h3⟩ := hyes
 have hF2 : Hid (Sch.reorderS x stp = (Sch.reo x.cols stp.order []).map fun c => ⟨x.slots, c⟩) := Lib.hid (by rw [hF.out, if_pos ⟨h1, h2, h3⟩])
 clear hF hno
 rw [h2] at hB
 clear h2
 have hcl := colC_len x.cols
 have hle2 : x.cols.length ≤ cC := by rw [List.length_append] at hz2; omega
 have hcell : Hid (∀ (i c : Nat), x.cols[i]? = some c → ∃ tl, List.drop i (colC x.cols ++ zC) = D.i c :: tl) := fun i c hc => by
  have hL2 : (x.cols.map encC)[i]? = some [D.i c] := by rw [List.getElem?_map, hc]; rfl
  obtain ⟨tl, h⟩ := row_drop (sz := 1) (o := 0) zC _ i (cols_each x.cols) hL2 (by omega)
  rw [Nat.mul_one, Nat.add_zero] at h
  exact ⟨tl, h⟩
 unfold StepR VL VB Stp.cells
 generalize Sch.reorderS x stp = F at *
 cases stp with
 | mk kd col slot order =>
 cases slot with
 | mk nm ty rq dv =>
 cases dv with
 | mk k n sv l =>
 dsimp only at hB ho h1 h3 hF2 ⊢
 subst h1
 rw [Sl.cells_mk] at *
 dsimp only [List.cons_append, List.nil_append] at ⊢
 obtain ⟨R1, hR1⟩ : ∃ R1, slotC x.slots = R1 := ⟨_, rfl⟩
 obtain ⟨R2, hR2⟩ : ∃ R2, colC x.cols = R2 := ⟨_, rfl⟩
 obtain ⟨m1, hm1⟩ : ∃ m1, x.slots.length = m1 := ⟨_, rfl⟩
 obtain ⟨m2, hm2⟩ : ∃ m2, x.cols.length = m2 := ⟨_, rfl⟩
 simp only [hR1, hR2, hm1, hm2] at hz1 hz2 hcl hle2 h3 hc1 hcell lc ls ⊢
 replace hR1 := Lib.hid hR1
 replace hR2 := Lib.hid hR2
 replace hm1 := Lib.hid hm1
 replace hm2 := Lib.hid hm2
 replace hB := Lib.hid hB
 obtain ⟨B, hBr⟩ : ∃ B, Sch.reo x.cols order [] = B := ⟨_, rfl⟩
 have HB : Hid (Sch.reo x.cols (order.drop 0) [] = B) := hBr
 rw [hBr] at hF2
 clear hBr
 refine Qin [4] Tryz.func219 Tryz.results219 Tryz.ntmps219 ?_
 repeat' (first | (with_reducible first | refine Q1 ?_ | refine Qe ?_ | fail) | ((with_reducible refine w_draw [(bx, [.ar gs 0 m1 cS, .ar gc 0 m2 cC])] ?_ ?_ ?_ ?_ ?_); (iterate 3 (focus kernel_rfl)); (focus ((repeat (first | exact keep_nil | refine keep_more (by repeat (first | exact mm_h | apply mm_t)) ?_)); done))) | ((with_reducible refine And.intro ?_ ?_); (focus ((repeat (first | exact keep_nil | refine keep_more (by (repeat (first | exact mm_h | apply mm_t)); done) ?_)); done))) | (with_reducible first | refine QQ ?_ | (refine al_go ?_; intro b) | (refine QD ?_ <;> (try constructor) <;> intro hb <;> try intro hb1) | fail) | fail)
 refine tr_loopd (ι := Nat) (fun j A st' => j ≤ order.length ∧ A.df = [] ∧ A.e 0 = .ptr bx 0 ∧ A.e 29 = .sl .shared (order.map encI) ∧ A.e 30 = .i order.length ∧ A.e 31 = .i j ∧ ∃ out : List Nat, out.length = j ∧ Hid (Sch.reo x.cols (order.drop j) out = B) ∧ ((j = 0 ∧ A.e 5 = .sl .tight [] ∧ st' = .box bx 141 [.ar gs 0 m1 cS, .ar gc 0 m2 cC] :: .box gs 75 (R1 ++ zS) :: .box gc 3 (R2 ++ zC) :: s) ∨
  (0 < j ∧ ∃ go co zo, A.e 5 = .ar go 0 j co ∧ (colC out ++ zo).length = co * 1 ∧ st' = .box go 3 (colC out ++ zo) :: .box bx 141 [.ar gs 0 m1 cS, .ar gc 0 m2 cC] :: .box gs 75 (R1 ++ zS) :: .box gc 3 (R2 ++ zC) :: s))) (fun j => order.length - j) 0 ⟨Nat.zero_le _, Qf, Qf, Qf, Qf, Qf, [], rfl, HB, .inl ⟨rfl, Qf, rfl⟩⟩ ?_
 rintro j A st' ⟨hj, hdf, e0, e29, e30, e31, out, hol, HT, hcase⟩
 clear HB
 by_cases hlt : j < order.length
 · obtain ⟨k, hk⟩ := gEx hlt
   have HE := HT.out
   rw [reo_drop hk, hm2.out] at HE
   clear HT
   by_cases hkr : 0 ≤ k ∧ k < (m2 : Int)
   · obtain ⟨hk0, hk1⟩ := hkr
     obtain ⟨kn, rfl⟩ := Int.eq_ofNat_of_zero_le hk0
     obtain ⟨c, hc⟩ : ∃ c, x.cols[kn]? = some c := ⟨_, List.getElem?_eq_getElem (by rw [hm2.out]; omega)⟩
     obtain ⟨t1, hld⟩ := hcell.out kn c hc
     have hgd : x.cols.getD kn 0 = c := by rw [List.getD_eq_getElem?_getD, hc]; rfl
     rw [Int.toNat_natCast, hgd] at HE
     have hCt := containsF .shared out c []
     have f3 : Hid ((out.map encC).flatten = colC out) := rfl
     have e3 := Lib.hid (cols_each out)
     have l3 : Hid ((out.map encC).length = j) := Lib.hid (by rw [List.length_map, hol])
     have g3 := Lib.hid (colC_add out c)
     have hro : (colC out).length = j * 1 := by rw [colC_len, hol]
     clear hgd hc
     by_cases hmem : c ∈ out
     · rw [if_neg (fun h => h.2.2 hmem)] at HE
       replace HE := Lib.hid HE
       rw [decide_eq_true hmem] at hCt
       replace hCt := Lib.hid hCt
       rcases hcase with ⟨rfl, e5, rfl⟩ | ⟨hj0, go, co, zo, e5, hlo, rfl⟩
       · rw [List.eq_nil_of_length_eq_zero hol] at hmem; cases hmem
       · generalize colC out = Ro at *
         generalize out.map encC = Lo at *
         repeat' (first | (with_reducible first | refine Q1 ?_ | refine Qe ?_ | refine QQ ?_ | (refine al_go ?_; intro b) | (refine QD ?_ <;> (try constructor) <;> intro hb <;> try intro hb1) | fail) | ((with_reducible apply (ck_lend Tryz.call229)); (focus exact hCt.out); (focus exact ⟨Lend.rowE (by repeat (first | exact mm_h | apply mm_t)) f3.out (by decide) e3.out l3.out, Lend.refl _, trivial⟩)) | fail)
         all_goals ((refine retA_mk (by first | exact .inl rfl | exact .inr rfl) (by first | rfl | assumption) (by (repeat (first | exact List.Sublist.refl _ | apply List.Sublist.cons))) (LE.of_eq ?_) (.inl ⟨by rw [hF2.out, ← HE.out]; rfl, rfl, rfl⟩)); simp (disch := omega) only [push_cast, simprocAttr, *])
     · rw [if_pos ⟨hk0, hk1, hmem⟩] at HE
       replace HE := Lib.hid HE
       rw [decide_eq_false hmem] at hCt
       replace hCt := Lib.hid hCt
       rcases hcase with ⟨rfl, e5, rfl⟩ | ⟨hj0, go, co, zo, e5, hlo, rfl⟩
       · have hno := List.eq_nil_of_length_eq_zero hol
         subst hno
         rw [List.map_nil] at hCt
         repeat' (first | (with_reducible first | refine Q1 ?_ | refine Qe ?_ | fail) | with_reducible refine s_appN ?_ | with_reducible refine rn_go ?_ | ((with_reducible apply rn2_go); (focus (simp only [List.length_cons, List.length_nil]; omega)); (focus exact len_one rfl); (focus (simp only [List.length_cons, List.length_nil]; omega)); (focus (simp only [List.length_cons, List.length_nil]; omega)); intro go' co' zo' hco hlo') | (with_reducible first | refine QQ ?_ | (refine al_go ?_; intro b) | (refine QD ?_ <;> (try constructor) <;> intro hb <;> try intro hb1) | fail) | ((with_reducible apply (ck_lend Tryz.call229)); (focus exact hCt.out); (focus exact ⟨Lend.sl _ _, Lend.refl _, trivial⟩)) | fail)
         refine ⟨1, .box go' 3 ([[.i c]].flatten ++ zo') :: .box bx 141 [.ar gs 0 m1 cS, .ar gc 0 m2 cC] :: .box gs 75 (R1 ++ zS) :: .box gc 3 (R2 ++ zC) :: s, (by (repeat (first | exact List.Sublist.refl _ | apply List.Sublist.cons))), ⟨hlt, ?_, ?_, ?_, ?_, ?_, [c], rfl, HE, .inr ⟨Nat.zero_lt_one, go', co', zo', ?_, ?_, ?_⟩⟩, ?_⟩
         · exact Qf
         · exact Qf
         · exact Qf
         · exact Qf
         · exact Qf
         · exact Qf
         · exact hlo'
         · rfl
         · omega
       · generalize colC out = Ro at *
         generalize out.map encC = Lo at *
         repeat' (first | (with_reducible first | refine Q1 ?_ | refine Qe ?_ | fail) | with_reducible refine s_appR ?_ | with_reducible refine rk_go ?_ | ((with_reducible apply (r2_go hro hlo)); (focus (intro g' cs'; repeat (first | exact ra_h | apply ra_t))); (focus exact len_one rfl); (focus (simp only [List.length_cons, List.length_nil]; omega)); (focus (simp only [List.length_cons, List.length_nil]; omega)); intro go' co' zo' hco hlo') | (with_reducible first | refine QQ ?_ | (refine al_go ?_; intro b) | (refine QD ?_ <;> (try constructor) <;> intro hb <;> try intro hb1) | fail) | ((with_reducible apply (ck_lend Tryz.call229)); (focus exact hCt.out); (focus exact ⟨Lend.rowE (by repeat (first | exact mm_h | apply mm_t)) f3.out (by decide) e3.out l3.out, Lend.refl _, trivial⟩)) | fail)
         refine ⟨j + 1, .box go' 3 (Ro ++ [[.i c]].flatten ++ zo') :: .box bx 141 [.ar gs 0 m1 cS, .ar gc 0 m2 cC] :: .box gs 75 (R1 ++ zS) :: .box gc 3 (R2 ++ zC) :: s, (by (repeat (first | exact List.Sublist.refl _ | apply List.Sublist.cons))), ⟨hlt, ?_, ?_, ?_, ?_, ?_, out ++ [c], by rw [List.length_append, hol]; rfl, HE, .inr ⟨Nat.succ_pos _, go', co', zo', ?_, ?_, ?_⟩⟩, ?_⟩
         · exact Qf
         · exact Qf
         · exact Qf
         · exact Qf
         · exact Qf
         · exact Qf
         · rw [g3.out]; exact hlo'
         · rw [g3.out]
         · omega
   · rw [if_neg (fun h => hkr ⟨h.1, h.2.1⟩)] at HE
     replace HE := Lib.hid HE
     have hkr' : k < 0 ∨ (0 ≤ k ∧ (m2 : Int) ≤ k) := by omega
     clear hkr
     rcases hkr' with hk0 | ⟨hk0, hk1⟩ <;> rcases hcase with ⟨rfl, e5, rfl⟩ | ⟨hj0, go, co, zo, e5, hlo, rfl⟩
     all_goals skip
     all_goals (
      repeat' (with_reducible first | refine Q1 ?_ | refine Qe ?_ | refine QQ ?_ | (refine al_go ?_; intro b) | (refine QD ?_ <;> (try constructor) <;> intro hb <;> try intro hb1) | fail)
      all_goals ((refine retA_mk (by first | exact .inl rfl | exact .inr rfl) (by first | rfl | assumption) (by (repeat (first | exact List.Sublist.refl _ | apply List.Sublist.cons))) (LE.of_eq ?_) (.inl ⟨by rw [hF2.out, ← HE.out]; rfl, rfl, rfl⟩)); simp (disch := omega) only [push_cast, simprocAttr, *]))
 · have HE := HT.out
   rw [List.drop_of_length_le (by omega), Sch.reo] at HE
   have hjm : j = m2 := by omega
   subst hjm
   rcases hcase with ⟨rfl, e5, rfl⟩ | ⟨hj0, go, co, zo, e5, hlo, rfl⟩
   · omega
   · have hco : Hid (colC out = colC out) := rfl
     generalize hRo : colC out = Ro at *
     replace hRo := Lib.hid hRo
     replace HE := Lib.hid HE
     clear HT
     repeat' (with_reducible first | refine Q1 ?_ | refine Qe ?_ | refine QQ ?_ | (refine al_go ?_; intro b) | (refine QD ?_ <;> (try constructor) <;> intro hb <;> try intro hb1) | fail)
     all_goals ((refine retA_perm (s2 := .box bx 141 [.ar gs 0 m1 cS, .ar go 0 j co] :: .box gs 75 (R1 ++ zS) :: .box go 3 (Ro ++ zo) :: .box gc 3 (R2 ++ zC) :: s) (st0 := .box bx 141 [.ar gs 0 m1 cS, .ar go 0 j co] :: .box gs 75 (R1 ++ zS) :: .box go 3 (Ro ++ zo) :: s) (by first | exact .inl rfl | exact .inr rfl) (by first | rfl | assumption) ?_ (((List.sublist_cons_self _ _).cons₂ _).cons₂ _ |>.cons₂ _) (LE.of_eq ?_) (.inr ⟨⟨x.slots, out⟩, gs, cS, zS, go, co, zo, ?_, ⟨?_, ?_⟩, rfl, ?_⟩)); (focus exact (List.Perm.swap _ _ _).trans (.cons _ (.swap _ _ _))); (focus simp (disch := omega) only [push_cast, simprocAttr, *]); (focus (rw [hF2.out, ← HE.out]; rfl)); (focus (rw [hR1.out]; exact hz1)); (focus (rw [hRo.out]; exact hlo)); (focus (rw [hR1.out, hRo.out, hm1.out, hol])))
theorem schCopiedF (gs cS gc cC : Nat) (zS zC : List D) (x : Vr) (h1 : x.slots ≠ []) (h2 : x.cols ≠ []) (hx : VW x) (st : St) (m1 : Res.box gs 75 (slotC x.slots ++ zS) ∈ st) (m2 : Res.box gc 3 (colC x.cols ++ zC) ∈ st) : TrF Tryz.prog 193 [.agg [.ar gs 0 x.slots.length cS, .ar gc 0 x.cols.length cC]] st fun d st' => d = .agg x.cells ∧ st' = st := by
 have hA := Lib.hid fun b cs => cloneSF gs cS x.slots zS h1 (by have := hx.ls; omega) (.box b 141 cs :: st) (List.mem_cons_of_mem _ m1)
 have hB := Lib.hid fun b cs => cloneIF gc cC x.cols zC h2 (by have := hx.lc; omega) (.box b 141 cs :: st) (List.mem_cons_of_mem _ m2)
 unfold Vr.cells
 refine QinC 2 141 Tryz.func193 Tryz.ntmps193 ?_
 repeat' (first | (with_reducible first | refine Q1 ?_ | refine Qe ?_ | refine QQ ?_ | (refine al_go ?_; intro b) | (refine QD ?_ <;> (try constructor) <;> intro hb <;> try intro hb1) | fail) | refine Qc Tryz.call213 (hA.out _ _) ?_ | refine Qc Tryz.call214 (hB.out _ _) ?_ | fail)
 all_goals exact QretC
theorem schDoersF (st : St) : TrF Tryz.prog 194 [] st fun d st' => d = .agg [.s .nilFunc, .fn (.func 215) [] [], .fn (.func 216) [] [], .fn (.func 217) [] [], .fn (.func 218) [] [], .fn (.func 219) [] []] ∧ st' = st := by
 refine trF_enterC (G := cellA 0 216 Tryz.prog) Tryz.func194 rfl (by rw [Tryz.ntmps194]; exact Nat.le_of_ble_eq_true rfl) (fun h1 h2 h3 => res_cell rfl h1 h2 h3) ?_
 simp only [Tryz.ntmps194]
 repeat' (with_reducible first | refine Q1 ?_ | refine Qe ?_ | refine QQ ?_ | (refine al_go ?_; intro b) | (refine QD ?_ <;> (try constructor) <;> intro hb <;> try intro hb1) | fail)
 all_goals exact QretC
end Go.Proofs.YtgcienlfpnpbgaaGreat
end
section
namespace Go.Proofs.YtgcienlfpnpbgaaGreat
set_option linter.unusedSimpArgs false
open Go.RowKit
section
variable {P : Program} {f : FuncId} {args : List D} {st : St} {R : D → St → Prop} {w : World} {A : AA}
def oneA (P : Program) (r : ResultVar) (A : AA) (st : St) (d : D) : Prop :=
 match r with
 | .tmp t => A.e t = d
 | .cell t T => cellA t T P A st d
def twoA (P : Program) (r1 r2 : ResultVar) (A : AA) (st : St) (d : D) : Prop := ∃ d1 d2, d = .tup [d1, d2] ∧ oneA P r1 A st d1 ∧ oneA P r2 A st d2
def readOne (tmps : Array Value) : ResultVar → Sem Value
 | .tmp t => pure (tmps.getD t undef)
 | .cell a t => do loadVar t (← asAddr (tmps.getD a undef))
theorem res_one {r : ResultVar} {a : Act} {N : Nat} {d : D} (h1 : RelA N (OwnS st) w a A) (h2 : Holds st w) (h3 : oneA P r A st d) : ∃ v, (readOne a.tmps r).run P w = .ok v w ∧ Rep (OwnS st) w v d := by
 cases r with
 | tmp t =>
  have : A.e t = d := h3
  exact ⟨_, rfl, this ▸ h1.2.2 t⟩
 | cell t T =>
  obtain ⟨b, off, ty, cs, ti, k1, k2, k3, k4⟩ := h3
  have hp := h1.2.2 t
  rw [k1] at hp
  have hv : a.tmps.getD t undef = .pointer (some ⟨b, off, none⟩) := by
   generalize a.tmps.getD t undef = v at hp
   cases hp; rfl
  obtain ⟨v, q1, q2⟩ := run_loadBox h2 k2 k3 k4
  refine ⟨v, ?_, q2⟩
  have q3 : (loadVar T ⟨b, off, none⟩).run P w = .ok v w := by
   simpa [Instr.loadAt, Instr.sureAddr] using q1
  show ((do loadVar T (← asAddr (a.tmps.getD t undef))) : Sem Value).run P w = _
  rw [hv]
  simp [asAddr, q3]
theorem res_two {fn : Func} {r1 r2 : ResultVar} (hr : fn.results = #[r1, r2]) {a : Act} {N : Nat} {d : D} (h1 : RelA N (OwnS st) w a A) (h2 : Holds st w) (h3 : twoA P r1 r2 A st d) : ∃ v, (results fn a.tmps).run P w = .ok v w ∧ Rep (OwnS st) w v d := by
 obtain ⟨d1, d2, rfl, k1, k2⟩ := h3
 obtain ⟨v1, q1, p1⟩ := res_one h1 h2 k1
 obtain ⟨v2, q2, p2⟩ := res_one h1 h2 k2
 refine ⟨.tuple #[v1, v2], ?_, ?_⟩
 · have hm : results fn a.tmps = (do
    let vs ← fn.results.mapM (readOne a.tmps)
    pure (if h : vs.size = 1 then vs[0] else .tuple vs)) := by
    unfold results
    congr 2
   rw [hm, hr]
   simp only [Array.mapM_eq_mapM_toList, List.mapM_cons, List.mapM_nil, Sem.run_bind, q1, q2, Result.andThen_ok, Sem.run_pure, map_eq_pure_bind]
   rfl
 · exact .tup [v1, v2] [d1, d2] rfl (RepL.cons p1 (RepL.cons p2 .nil)).2
def retG (G : AA → St → D → Prop) (R : D → St → Prop) : Exit → AA → St → Prop
 | .normal, A, st | .ret, A, st => ∃ (rs : List Nat) (d0 d : D) (s2 st' : St), A.df = rs.map mark ∧ st.Perm (rs.map markR ++ s2) ∧ G A s2 d0 ∧ st'.Sublist s2 ∧ LE d0 d ∧ R d st'
 | _, _, _ => False
theorem leaves_marksG {fn : Func} {tmps : Array Value} {Rw : Ending → World → Prop} : ∀ (rs : List Nat) (w : World), rs.Nodup → (∀ r ∈ rs, w.heap[r]? = some (.deferred (some []))) →
 (∀ w', w'.os = w.os → w'.tape = w.tape → w'.output = w.output → w'.heap.size = w.heap.size → (∀ b, b ∉ rs → w'.heap[b]? = w.heap[b]?) → ∃ v, (results fn tmps).run P w' = .ok v w' ∧ Rw (.returned v) w') → LeavesInM Fence.wide 0 P fn tmps Rw (rs.map mark) .returning w
 | [], w, _, _, hw => by
  obtain ⟨v, h1, h2⟩ := hw w rfl rfl rfl rfl fun _ _ => rfl
  show LeavesIn Fence.wide 0 P fn tmps Rw [] .returning w
  exact ⟨v, h1, h2⟩
 | r :: rs, w, hn, hb, hw => by
  have hr := hb r (List.mem_cons_self ..)
  have hlt := (Array.getElem?_eq_some_iff.1 hr).1
  refine ⟨(by intro h; cases h), .inl ⟨r, _, rfl, run_takeDeferred hr, leaves_marksG rs _ (List.nodup_cons.1 hn).2 (fun x hx => ?_) fun w' h1 h2 h3 h4 h5 => ?_⟩⟩
  · rw [World.putObj_heap_other (by intro e; subst e; exact (List.nodup_cons.1 hn).1 hx)]
    exact hb x (List.mem_cons_of_mem _ hx)
  · refine hw w' h1 h2 h3 (by rw [h4]; simp) fun b hb => ?_
    rw [h5 b fun h => hb (List.mem_cons_of_mem _ h)]
    exact World.putObj_heap_other fun e => hb (e ▸ List.mem_cons_self ..)
theorem trF_enterG {fn : Func} {c : Code} {G : AA → St → D → Prop} (hf : P.funcs[f]? = some fn) (hb : fn.body = some c) (hn : args.length ≤ fn.ntmps) (hres : ∀ {a A w st d}, RelA fn.ntmps (OwnS st) w a A → Holds st w → G A st d → ∃ v, (results fn a.tmps).run P w = .ok v w ∧ Rep (OwnS st) w v d)
 (h : Tr P fn.ntmps none c ⟨initE args, []⟩ st (retG G R)) : TrF P f args st R := by
 intro vs w hv hw
 refine (callsIn_wide (n := 0)).1 (callsIn_of_wp_marks hf hb trivial ?_ rfl)
 have hvl : vs.size = args.length := by rw [← Array.length_toList]; exact hv.1
 have hrel : RelA fn.ntmps (OwnS st) w { tmps := vs ++ Array.replicate (fn.ntmps - vs.size) undef, defers := [] } ⟨initE args, []⟩ := by
  refine ⟨by simp [hvl]; omega, rfl, fun t => ?_⟩
  show Rep _ _ _ (args.getD t D.un)
  simp only [Array.getD_eq_getD_getElem?, List.getD_eq_getElem?_getD]
  rcases Nat.lt_or_ge t args.length with ht | ht
  · have h1 : t < vs.toList.length := by simp; omega
    have := hv.2 t h1 ht
    rw [Array.getElem?_append_left (by omega), List.getElem?_eq_getElem ht, Array.getElem?_eq_getElem (by omega)]
    simpa using this
  · rw [Array.getElem?_append_right (by omega), List.getElem?_eq_none ht]
    simp only [Option.getD_none]
    by_cases h2 : t - vs.size < fn.ntmps - vs.size
    · rw [Array.getElem?_replicate, if_pos h2]
      exact .s undef rfl
    · rw [Array.getElem?_replicate, if_neg h2]
      exact .s undef rfl
 refine wpIn_mono (h _ w hrel hw) fun ex a' w' ⟨A', st', k1, k2, k3, k4⟩ => ?_
 have main : (∃ (rs : List Nat) (d0 d : D) (s2 st'' : St), A'.df = rs.map mark ∧ st'.Perm (rs.map markR ++ s2) ∧ G A' s2 d0 ∧ st''.Sublist s2 ∧ LE d0 d ∧ R d st'') → LeavesInM (FR none) 0 P fn a'.tmps (fun e w' => ∃ v, e = .returned v ∧ PostV st w R v w') a'.defers .returning w' := by
  rintro ⟨rs, d0, d, s2, st'', q1, q2, qg, qs, q3, q4⟩
  rw [k1.2.1, q1]
  have hh := k2.perm q2
  have hnd : rs.Nodup := by
   have := List.Pairwise.sublist (List.sublist_append_left _ _) hh.1
   rw [List.pairwise_map] at this
   exact this.imp fun {a b} hab e => hab a rfl (by rw [e]; rfl)
  have hblk : ∀ r ∈ rs, w'.heap[r]? = some (.deferred (some [])) := fun r hr => hh.2 (markR r) (List.mem_append_left _ (List.mem_map_of_mem hr))
  refine leaves_marksG rs w' hnd hblk fun w'' e1 e2 e3 e4 e5 => ?_
  have hown : ∀ b off, OwnS s2 b off → OwnS st' b off := fun b off ⟨x, hx, ho⟩ => ⟨x, q2.mem_iff.2 (List.mem_append_right _ hx), ho⟩
  have hmk : ∀ r ∈ rs, ∀ off, OwnS st' r off := fun r hr off => ⟨markR r, q2.mem_iff.2 (List.mem_append_left _ (List.mem_map_of_mem hr)), rfl, Nat.zero_le _⟩
  have he : Ext (OwnS st') w' (OwnS s2) w'' := by
   refine ⟨e1, e2, e3, by omega, fun b off _ ho => hown b off ho, fun b hb hno => e5 b fun hr => hno 0 (hmk b hr 0), fun b c E fr hc => ⟨c, fr, ?_, rfl, fun _ _ => rfl⟩⟩
   rw [e5 b fun hr => by rw [hblk b hr] at hc; cases hc]
   exact hc
  have hh2 : Holds s2 w'' := by
   refine ⟨(List.pairwise_append.1 hh.1).2.1, fun x hx => (k2.2 x (q2.mem_iff.2 (List.mem_append_right _ hx))).ext he fun b hb => e5 b fun hr => ?_⟩
   exact (List.pairwise_append.1 hh.1).2.2 (markR b) (List.mem_map_of_mem hr) x hx b rfl hb
  obtain ⟨v, r1, r2⟩ := hres (a := a') (A := A') ⟨k1.1, k1.2.1, fun t => (k1.2.2 t).ext he⟩ hh2 qg
  have hd := Ext.drop (st := s2) (st' := st'') (fun _ h => qs.subset h) w''
  exact ⟨v, r1, v, rfl, d, st'', q3 _ _ _ (r2.ext hd), hh2.sub qs, (k3.trans he).trans hd, q4⟩
 cases ex with
 | normal => exact main k4
 | ret => exact main k4
 | exit id => exact k4.elim
 | goto l => exact k4.elim
 | panic c => exact k4.elim
 | outgrown => exact k4.elim
theorem cell_mk {t : Tmp} {T : TypeId} {ti : TI} {b off : Nat} {ty : TypeId} {cs : List D} {d : D} (hp : A.e t = .ptr b off) (hm : Res.box b ty cs ∈ st) (ht : tinfo P T = some ti) (hd : readD ti (cs.drop off) = some d) : cellA t T P A st d := ⟨b, off, ty, cs, ti, hp, hm, ht, hd⟩
theorem retG_mk {G : AA → St → D → Prop} {ex : Exit} {A : AA} {d X : D} {st st0 s2 : St} {rs : List Nat} (hex : ex = .normal ∨ ex = .ret) (hdf : A.df = rs.map mark) (hp : st.Perm (rs.map markR ++ s2)) (hG : G A s2 d) (hs : st0.Sublist s2) (hl : LE d X) (hR : R X st0) : retG G R ex A st := by
 rcases hex with rfl | rfl <;> exact ⟨rs, d, X, s2, st0, hdf, hp, hG, hs, hl, hR⟩
end
end Go.Proofs.YtgcienlfpnpbgaaGreat
end
section
namespace Go.Proofs.YtgcienlfpnpbgaaGreat
attribute [local push_cast] encB encI encC V.cells_mk V.cells_len Nat.mul_one Int.sub_zero List.map_nil beq_self_eq_true List.head?_cons
open Go.RowKit
set_option maxHeartbeats 4000000
set_option maxRecDepth 10000
def FirstR (t : Tm) (st : St) (d : D) (st' : St) : Prop :=
 (Sch.firstV t = none ∧ (d = .tup [.agg [.sl .tight [], .sl .tight []], .b false] ∨ ∃ gs n cS gc m cC, d = .tup [.agg [.ar gs 0 n cS, .ar gc 0 m cC], .b false]) ∧ st' = st) ∨
  ∃ x gs cS zS gc cC zC, Sch.firstV t = some x ∧ VL cS zS cC zC x ∧ d = .tup [.agg [.ar gs 0 x.slots.length cS, .ar gc 0 x.cols.length cC], .b true] ∧ st' = .box gs 75 (slotC x.slots ++ zS) :: .box gc 3 (colC x.cols ++ zC) :: st
theorem firstL_drop {slots : List Sl} {i : Nat} {s : Sl} {x : Vr} (h : slots[i]? = some s) : Sch.firstL (slots.drop i) x = if Sch.sound s = true ∧ Sch.col x s.name < 0 then Sch.firstL (slots.drop (i + 1)) ⟨x.slots ++ [s], x.cols ++ [x.slots.length]⟩ else none := by
 obtain ⟨h1, rfl⟩ := List.getElem?_eq_some_iff.1 h
 rw [List.drop_eq_getElem_cons h1, Sch.firstL]
theorem schFirstF (t : Tm) (hs : ∀ s ∈ t.slots, s.dv.nodes ≤ 1000) (hl : t.slots.length ≤ 1000) (ht : t.steps.length ≤ 1000) (st : St) : TrF Tryz.prog 192 [.agg t.cells] st (FirstR t st) := by
 have hN := Lib.hid (valIsNameF t.name)
 have hF : Hid (Sch.firstV t = if V.isName t.name.data.toList = true ∧ 1 ≤ t.slots.length ∧ t.slots.length ≤ 8 ∧ t.steps.length ≤ 8 then Sch.firstL t.slots ⟨[], []⟩ else none) := rfl
 unfold FirstR VL
 generalize Sch.firstV t = F at *
 cases t with
 | mk nm slots steps =>
 unfold Tm.cells
 dsimp only at hN hF hs hl ht ⊢
 generalize V.isName nm.data.toList = qn at *
 generalize hTS : steps.map Stp.cells = TS at *
 have hTSl : TS.length = steps.length := by rw [← hTS, List.length_map]
 generalize steps.length = ms at *
 clear hTS
 refine trF_enterG (G := twoA Tryz.prog (.cell 2 141) (.tmp 3)) Tryz.func192 rfl (by rw [Tryz.ntmps192]; exact Nat.le_of_ble_eq_true rfl) (fun h1 h2 h3 => res_two rfl h1 h2 h3) ?_
 simp only [Tryz.ntmps192]
 by_cases hc : qn = true ∧ 1 ≤ slots.length ∧ slots.length ≤ 8 ∧ ms ≤ 8
 case neg =>
  have hF2 : Hid (F = none) := Lib.hid (by rw [hF.out, if_neg hc])
  have hno : qn = false ∨ (qn = true ∧ (slots.length : Int) < 1) ∨ (qn = true ∧ 1 ≤ (slots.length : Int) ∧ 8 < (slots.length : Int)) ∨ (qn = true ∧ 1 ≤ (slots.length : Int) ∧ (slots.length : Int) ≤ 8 ∧ 8 < (ms : Int)) := by
   cases qn
   · exact .inl rfl
   · refine .inr ?_
     by_cases h1 : 1 ≤ slots.length
     · by_cases h2 : slots.length ≤ 8
       · by_cases h3 : ms ≤ 8
         · exact absurd ⟨rfl, h1, h2, h3⟩ hc
         · exact .inr (.inr ⟨rfl, by omega, by omega, by omega⟩)
       · exact .inr (.inl ⟨rfl, by omega, by omega⟩)
     · exact .inl ⟨rfl, by omega⟩
  clear hc hF
  rcases hno with rfl | ⟨rfl, h1⟩ | ⟨rfl, h1, h2⟩ | ⟨rfl, h1, h2, h3⟩
  all_goals skip
  all_goals (
   repeat' (with_reducible first | refine Q1 ?_ | refine Qe ?_ | refine QQ ?_ | (refine al_go ?_; intro b) | (refine QD ?_ <;> (try constructor) <;> intro hb <;> try intro hb1) | fail)
   all_goals ((refine retG_mk (rs := []) (by first | exact .inl rfl | exact .inr rfl) (by first | rfl | assumption) (List.Perm.refl _) ⟨_, _, rfl, cell_mk (by simp (disch := omega) only [push_cast, simprocAttr, *]; exact rfl) (by repeat (first | exact mm_h | apply mm_t)) (by simp (disch := omega) only [push_cast, simprocAttr, *]; exact rfl) (by (try simp (disch := omega) only [push_cast, simprocAttr, *]); (try exact rfl); done), (by show _ = _; (try simp (disch := omega) only [push_cast, simprocAttr, *]); (try exact rfl); done)⟩ (by (repeat (first | exact List.Sublist.refl _ | apply List.Sublist.cons))) (LE.refl _) (.inl ⟨hF2.out, (by first | exact .inl rfl | exact .inr ⟨_, _, _, _, _, _, rfl⟩), rfl⟩))))
 case pos =>
  have hF2 : Hid (F = Sch.firstL slots ⟨[], []⟩) := Lib.hid (by rw [hF.out, if_pos hc])
  obtain ⟨rfl, h1, h2, h3⟩ := hc
  clear hF
  obtain ⟨B, hB⟩ : ∃ B, Sch.firstL slots ⟨[], []⟩ = B := ⟨_, rfl⟩
  have HB : Hid (Sch.firstL (slots.drop 0) ⟨[], []⟩ = B) := hB
  rw [hB] at hF2
  clear hB
  have hsN := Lib.hid hs
  clear hs
  repeat' (with_reducible first | refine Q1 ?_ | refine Qe ?_ | refine QQ ?_ | (refine al_go ?_; intro b) | (refine QD ?_ <;> (try constructor) <;> intro hb <;> try intro hb1) | fail)
  rename_i b2 _ _
  revert b
  intro b4
  refine tr_loopd (ι := Nat) (fun i A st' => i ≤ slots.length ∧ A.df = [] ∧ A.e 2 = .ptr b2 0 ∧ A.e 4 = .ptr b4 0 ∧ A.e 32 = .sl .shared (slots.map Sl.cells) ∧ A.e 33 = .i slots.length ∧ A.e 34 = .i i ∧ ∃ x : Vr, x.slots.length = i ∧ x.cols.length = i ∧ Hid (Sch.firstL (slots.drop i) x = B) ∧
   ((i = 0 ∧ x = ⟨[], []⟩ ∧ st' = .box b4 141 [.sl .tight [], .sl .tight []] :: .box b2 141 [.sl .tight [], .sl .tight []] :: st) ∨ (0 < i ∧ ∃ gs cS zS gc cC zC, (slotC x.slots ++ zS).length = cS * 7 ∧ (colC x.cols ++ zC).length = cC * 1 ∧ st' = .box gc 3 (colC x.cols ++ zC) :: .box gs 75 (slotC x.slots ++ zS) :: .box b4 141 [.ar gs 0 i cS, .ar gc 0 i cC] :: .box b2 141 [.sl .tight [], .sl .tight []] :: st))) (fun i => slots.length - i) 0 ⟨Nat.zero_le _, Qf, Qf, Qf, Qf, Qf, Qf, ⟨[], []⟩, rfl, rfl, HB, .inl ⟨rfl, rfl, rfl⟩⟩ ?_
  rintro i A st' ⟨hi, hdf, e2, e4, e32, e33, e34, x, hxs, hxc, HT, hcase⟩
  clear HB
  by_cases hlt : i < slots.length
  · obtain ⟨sl, hsl⟩ := gEx hlt
    have HE := HT.out
    rw [firstL_drop hsl] at HE
    clear HT
    have hn := hsN.out sl (List.mem_of_getElem? hsl)
    have hS := schSoundF sl (by omega)
    have hC := schColF x.slots x.cols sl.name (by omega) (by omega) []
    have hcl : (slots.map Sl.cells)[i]? = some sl.cells := by rw [List.getElem?_map, hsl]; rfl
    have hml : (slots.map Sl.cells).length = slots.length := List.length_map ..
    clear hsl
    unfold Sch.col at HE
    have g1 := Lib.hid (slotC_add x.slots sl)
    have g2 := Lib.hid (colC_add x.cols x.slots.length)
    have hF3 : Hid (F = B) := hF2
    cases sl with
    | mk snm sty srq sdv =>
    cases sdv with
    | mk sk sn ss sL =>
    rw [Sl.cells_mk] at hS hcl g1
    dsimp only at hS hC HE hn g1
    generalize Sch.sound _ = q at *
    rcases hcase with ⟨rfl, hx0, rfl⟩ | ⟨hi0, gs, cS, zS, gc, cC, zC, hz1, hz2, rfl⟩
    · have hl1 : x.slots = [] := List.eq_nil_of_length_eq_zero hxs
      have hl2 : x.cols = [] := List.eq_nil_of_length_eq_zero hxc
      rw [hl1, hl2, List.map_nil, List.map_nil] at hC
      rw [hl1, hl2] at HE
      rw [Sch.colL] at hC HE
      generalize slots.map Sl.cells = SL at *
      replace hS := Lib.hid hS
      replace hC := Lib.hid hC
      replace hcl := hcl
      cases q with
      | false =>
       rw [if_neg (fun h => Bool.noConfusion h.1)] at HE
       have hF4 : Hid (F = none) := Lib.hid (hF3.out.trans HE.symm)
       clear HE
       repeat' (first | (with_reducible first | refine Q1 ?_ | refine Qe ?_ | refine QQ ?_ | (refine al_go ?_; intro b) | (refine QD ?_ <;> (try constructor) <;> intro hb <;> try intro hb1) | fail) | ((with_reducible apply (ck_lend Tryz.call212)); (focus exact hC.out); (focus exact ⟨Lend.agg ⟨Lend.sl _ _, Lend.sl _ _, trivial⟩, Lend.refl _, trivial⟩)) | fail)
       all_goals ((refine retG_mk (rs := []) (by first | exact .inl rfl | exact .inr rfl) (by first | rfl | assumption) (List.Perm.refl _) ⟨_, _, rfl, cell_mk (by simp (disch := omega) only [push_cast, simprocAttr, *]; exact rfl) (by repeat (first | exact mm_h | apply mm_t)) (by simp (disch := omega) only [push_cast, simprocAttr, *]; exact rfl) (by (try simp (disch := omega) only [push_cast, simprocAttr, *]); (try exact rfl); done), (by show _ = _; (try simp (disch := omega) only [push_cast, simprocAttr, *]); (try exact rfl); done)⟩ (by (repeat (first | exact List.Sublist.refl _ | apply List.Sublist.cons))) (LE.refl _) (.inl ⟨hF4.out, (by first | exact .inl rfl | exact .inr ⟨_, _, _, _, _, _, rfl⟩), rfl⟩)))
      | true =>
       rw [if_pos ⟨rfl, by decide⟩] at HE
       replace HE := Lib.hid HE
       repeat' (first | (with_reducible first | refine Q1 ?_ | refine Qe ?_ | fail) | ((with_reducible apply (w_drawQ [(b4, [.sl .tight [], .sl .tight []]), (b, [.str snm, .i sty, .b srq, .i sk, .i sn, .str ss, .sl .shared (sL.map V.cells)])] 9)); (iterate 4 (focus kernel_rfl)); (focus (simp only [List.take_succ_cons, List.take_zero]; exact rfl)); (focus (simp only [List.drop_succ_cons, List.drop_zero]; exact rfl)); (focus ((repeat (first | exact keep_nil | refine keep_more (by (repeat (first | exact mm_h | apply mm_t)); done) ?_)); done)); intro hne; simp only [nes, ne1, and_assoc] at hne; repeat (have hq := hne.1; replace hne := hne.2)) | ((with_reducible refine Exists.intro [] ?_); (with_reducible refine And.intro ?_ ?_); (focus ((repeat (first | exact keep_nil | refine keep_more (by (repeat (first | exact mm_h | apply mm_t)); done) ?_)); done))) | ((with_reducible refine And.intro ?_ ?_); (focus ((repeat (first | exact keep_nil | refine keep_more (by (repeat (first | exact mm_h | apply mm_t)); done) ?_)); done))) | with_reducible refine s_appN ?_ | with_reducible refine rn_go ?_ | ((with_reducible apply rn2_go); (focus (simp only [List.length_cons, List.length_nil]; omega)); (focus exact len_one rfl); (focus (simp only [List.length_cons, List.length_nil]; omega)); (focus (simp only [List.length_cons, List.length_nil]; omega)); intro g' c' z' hc' hl') | (with_reducible first | refine QQ ?_ | (refine al_go ?_; intro b) | (refine QD ?_ <;> (try constructor) <;> intro hb <;> try intro hb1) | fail) | ((with_reducible apply (ck_lend Tryz.call212)); (focus exact hC.out); (focus exact ⟨Lend.agg ⟨Lend.sl _ _, Lend.sl _ _, trivial⟩, Lend.refl _, trivial⟩)) | fail)
       rename_i gs' cS' zS' hcs' hls'
       refine ⟨1, .box g' 3 ([[D.i 0]].flatten ++ z') :: .box gs' 75 ([[.str snm, .i sty, .b srq, .i sk, .i sn, .str ss, .sl .shared (sL.map V.cells)]].flatten ++ zS') :: .box b4 141 [.ar gs' 0 1 cS', .ar g' 0 1 c'] :: .box b2 141 [.sl .tight [], .sl .tight []] :: st, ?_, ⟨hlt, ?_, ?_, ?_, ?_, ?_, ?_, ⟨[] ++ [.mk snm sty srq (.mk sk sn ss sL)], [] ++ [([] : List Sl).length]⟩, rfl, rfl, HE, .inr ⟨Nat.zero_lt_one, gs', cS', zS', g', c', z', ?_, ?_, ?_⟩⟩, ?_⟩
       · (repeat (first | exact List.Sublist.refl _ | with_reducible apply List.Sublist.cons_cons | apply List.Sublist.cons))
       iterate 6 (focus exact Qf)
       · rw [show slotC ([] ++ [Sl.mk snm sty srq (.mk sk sn ss sL)]) = [(Sl.mk snm sty srq (.mk sk sn ss sL)).cells].flatten from rfl, Sl.cells_mk]
         exact hls'
       · exact hl'
       · rw [show slotC ([] ++ [Sl.mk snm sty srq (.mk sk sn ss sL)]) = [(Sl.mk snm sty srq (.mk sk sn ss sL)).cells].flatten from rfl, Sl.cells_mk]
         rfl
       · omega
    · have hr1 := slotC_len x.slots
      have hr2 := colC_len x.cols
      have e1 := Lib.hid (slots_each x.slots)
      have e2 := Lib.hid (cols_each x.cols)
      have f1 := Lib.hid (slotC_flat x)
      have f2 := Lib.hid (colC_flat x)
      have l1 : Hid ((x.slots.map Sl.cells).length = i) := Lib.hid (by rw [List.length_map, hxs])
      have l2 : Hid ((x.cols.map encC).length = i) := Lib.hid (by rw [List.length_map, hxc])
      rw [hxs] at hr1 HE g2
      rw [hxc] at hr2
      generalize Sch.colL x.slots snm x.cols = cv at *
      obtain ⟨S1, hS1⟩ : ∃ S1, slotC x.slots = S1 := ⟨_, rfl⟩
      obtain ⟨C1, hC1⟩ : ∃ C1, colC x.cols = C1 := ⟨_, rfl⟩
      rw [hS1] at hz1 hr1 f1 g1
      rw [hC1] at hz2 hr2 f2 g2
      rw [hS1, hC1]
      clear hS1 hC1
      generalize x.slots.map Sl.cells = L1 at *
      generalize x.cols.map encC = L2 at *
      generalize slots.map Sl.cells = SL at *
      replace hS := Lib.hid hS
      replace hC := Lib.hid hC
      by_cases hqc : q = true ∧ cv < 0
      · obtain ⟨rfl, hcv⟩ := hqc
        rw [if_pos ⟨rfl, hcv⟩] at HE
        replace HE := Lib.hid HE
        replace hxs := Lib.hid hxs
        replace hxc := Lib.hid hxc
        repeat' (first | (with_reducible first | refine Q1 ?_ | refine Qe ?_ | fail) | ((with_reducible apply (w_drawQ [(b4, [.ar gs 0 i cS, .ar gc 0 i cC]), (b, [.str snm, .i sty, .b srq, .i sk, .i sn, .str ss, .sl .shared (sL.map V.cells)])] 9)); (iterate 4 (focus kernel_rfl)); (focus (simp only [List.take_succ_cons, List.take_zero]; exact rfl)); (focus (simp only [List.drop_succ_cons, List.drop_zero]; exact rfl)); (focus ((repeat (first | exact keep_nil | refine keep_more (by (repeat (first | exact mm_h | apply mm_t)); done) ?_)); done)); intro hne; simp only [nes, ne1, and_assoc] at hne; repeat (have hq := hne.1; replace hne := hne.2)) | ((with_reducible refine Exists.intro [] ?_); (with_reducible refine And.intro ?_ ?_); (focus ((repeat (first | exact keep_nil | refine keep_more (by (repeat (first | exact mm_h | apply mm_t)); done) ?_)); done))) | ((with_reducible refine And.intro ?_ ?_); (focus ((repeat (first | exact keep_nil | refine keep_more (by (repeat (first | exact mm_h | apply mm_t)); done) ?_)); done))) | with_reducible refine s_appR ?_ | with_reducible refine rk_go ?_ | ((with_reducible apply (r2_go hr1 hz1)); (focus (intro g' cs'; repeat (first | exact ra_h | apply ra_t))); (focus exact len_one rfl); (focus (simp only [List.length_cons, List.length_nil]; omega)); (focus (simp only [List.length_cons, List.length_nil]; omega)); intro gs' cS' zS' hcs hls) | ((with_reducible apply (r2_go hr2 hz2)); (focus (intro g' cs'; repeat (first | exact ra_h | apply ra_t))); (focus exact len_one rfl); (focus (simp only [List.length_cons, List.length_nil]; omega)); (focus (simp only [List.length_cons, List.length_nil]; omega)); intro gc' cC' zC' hcc hlc) | (with_reducible first | refine QQ ?_ | (refine al_go ?_; intro b) | (refine QD ?_ <;> (try constructor) <;> intro hb <;> try intro hb1) | fail) | ((with_reducible apply (ck_lend Tryz.call212)); (focus exact hC.out); (focus exact ⟨Lend.agg ⟨Lend.rowE (by repeat (first | exact mm_h | apply mm_t)) f1.out (by decide) e1.out l1.out, Lend.rowE (by repeat (first | exact mm_h | apply mm_t)) f2.out (by decide) e2.out l2.out, trivial⟩, Lend.refl _, trivial⟩)) | fail)
        refine ⟨i + 1, .box gc' 3 (C1 ++ [[D.i i]].flatten ++ zC') :: .box gs' 75 (S1 ++ [[.str snm, .i sty, .b srq, .i sk, .i sn, .str ss, .sl .shared (sL.map V.cells)]].flatten ++ zS') :: .box b4 141 [.ar gs' 0 (i + 1) cS', .ar gc' 0 (i + 1) cC'] :: .box b2 141 [.sl .tight [], .sl .tight []] :: st, ?_, ⟨hlt, ?_, ?_, ?_, ?_, ?_, ?_, ⟨x.slots ++ [.mk snm sty srq (.mk sk sn ss sL)], x.cols ++ [i]⟩, ?_, ?_, HE, .inr ⟨Nat.succ_pos _, gs', cS', zS', gc', cC', zC', ?_, ?_, ?_⟩⟩, ?_⟩
        · (repeat (first | exact List.Sublist.refl _ | with_reducible apply List.Sublist.cons_cons | apply List.Sublist.cons))
        iterate 6 (focus exact Qf)
        · rw [List.length_append, hxs.out]; rfl
        · rw [List.length_append, hxc.out]; rfl
        · rw [g1.out]; exact hls
        · rw [g2.out]; exact hlc
        · rw [g1.out, g2.out]
        · omega
      · rw [if_neg hqc] at HE
        have hF4 : Hid (F = none) := Lib.hid (hF3.out.trans HE.symm)
        clear HE
        have hno : q = false ∨ (q = true ∧ 0 ≤ cv) := by
         cases q
         · exact .inl rfl
         · exact .inr ⟨rfl, by
            have : ¬ cv < 0 := fun h => hqc ⟨rfl, h⟩
            omega⟩
        clear hqc
        rcases hno with rfl | ⟨rfl, hcv⟩
        all_goals skip
        all_goals (
         repeat' (first | (with_reducible first | refine Q1 ?_ | refine Qe ?_ | refine QQ ?_ | (refine al_go ?_; intro b) | (refine QD ?_ <;> (try constructor) <;> intro hb <;> try intro hb1) | fail) | ((with_reducible apply (ck_lend Tryz.call212)); (focus exact hC.out); (focus exact ⟨Lend.agg ⟨Lend.rowE (by repeat (first | exact mm_h | apply mm_t)) f1.out (by decide) e1.out l1.out, Lend.rowE (by repeat (first | exact mm_h | apply mm_t)) f2.out (by decide) e2.out l2.out, trivial⟩, Lend.refl _, trivial⟩)) | fail)
         all_goals ((refine retG_mk (rs := []) (by first | exact .inl rfl | exact .inr rfl) (by first | rfl | assumption) (List.Perm.refl _) ⟨_, _, rfl, cell_mk (by simp (disch := omega) only [push_cast, simprocAttr, *]; exact rfl) (by repeat (first | exact mm_h | apply mm_t)) (by simp (disch := omega) only [push_cast, simprocAttr, *]; exact rfl) (by (try simp (disch := omega) only [push_cast, simprocAttr, *]); (try exact rfl); done), (by show _ = _; (try simp (disch := omega) only [push_cast, simprocAttr, *]); (try exact rfl); done)⟩ (by (repeat (first | exact List.Sublist.refl _ | apply List.Sublist.cons))) (LE.refl _) (.inl ⟨hF4.out, (by first | exact .inl rfl | exact .inr ⟨_, _, _, _, _, _, rfl⟩), rfl⟩))))
  · have HE := HT.out
    rw [List.drop_of_length_le (by omega), Sch.firstL] at HE
    clear HT
    have hil : Hid (i = slots.length) := Lib.hid (by omega)
    rcases hcase with ⟨rfl, hx0, rfl⟩ | ⟨hi0, gs, cS, zS, gc, cC, zC, hz1, hz2, rfl⟩
    · have := hil.out
      omega
    · obtain ⟨S1, hS1⟩ : ∃ S1, slotC x.slots = S1 := ⟨_, rfl⟩
      obtain ⟨C1, hC1⟩ : ∃ C1, colC x.cols = C1 := ⟨_, rfl⟩
      rw [hS1, hC1]
      generalize slots.map Sl.cells = SL at *
      replace hS1 := Lib.hid hS1
      replace hC1 := Lib.hid hC1
      replace HE := Lib.hid HE
      replace hxs := Lib.hid hxs
      replace hxc := Lib.hid hxc
      repeat' (with_reducible first | refine Q1 ?_ | refine Qe ?_ | refine QQ ?_ | (refine al_go ?_; intro b) | (refine QD ?_ <;> (try constructor) <;> intro hb <;> try intro hb1) | fail)
      replace HE := HE.out
      replace hxs := hxs.out
      replace hxc := hxc.out
      all_goals ((refine retG_mk (rs := []) (s2 := .box gs 75 (S1 ++ zS) :: .box gc 3 (C1 ++ zC) :: .box b4 141 [.ar gs 0 i cS, .ar gc 0 i cC] :: .box b2 141 [.ar gs 0 i cS, .ar gc 0 i cC] :: st) (st0 := .box gs 75 (S1 ++ zS) :: .box gc 3 (C1 ++ zC) :: st) (by first | exact .inl rfl | exact .inr rfl) (by first | rfl | assumption) (.swap _ _ _) ⟨_, _, rfl, cell_mk (by simp (disch := omega) only [push_cast, simprocAttr, *]; exact rfl) (by repeat (first | exact mm_h | apply mm_t)) (by simp (disch := omega) only [push_cast, simprocAttr, *]; exact rfl) (by (try simp (disch := omega) only [push_cast, simprocAttr, *]); (try exact rfl); done), (by show _ = _; (try simp (disch := omega) only [push_cast, simprocAttr, *]); (try exact rfl); done)⟩ (((List.Sublist.refl _).cons _).cons _ |>.cons_cons _ |>.cons_cons _) (LE.refl _) (.inr ⟨x, gs, cS, zS, gc, cC, zC, by rw [hF2.out, ← HE], ⟨?_, ?_⟩, by rw [hxs, hxc], ?_⟩)); (focus exact hz1); (focus exact hz2); (focus (rw [hS1.out, hC1.out])))
end Go.Proofs.YtgcienlfpnpbgaaGreat
end
section
namespace Go.Proofs.YtgcienlfpnpbgaaGreat
open Go.RowKit
structure TOk (t : Tm) : Prop where
 ls : t.slots.length ≤ 1000
 lt : t.steps.length ≤ 1000
 os : ∀ s ∈ t.slots, s.dv.nodes ≤ 1000
 ot : ∀ s ∈ t.steps, s.Ok
namespace Sch
structure VI (n : Nat) (x : Vr) : Prop where
 ls : x.slots.length ≤ n
 lp : 1 ≤ x.slots.length
 cp : 1 ≤ x.cols.length
 lc : x.cols.length ≤ 8
 cs : ∀ c ∈ x.cols, c < x.slots.length
theorem VI.vw {n : Nat} {x : Vr} (h : VI n x) (hn : n ≤ 1000) : VW x := ⟨by have := h.ls; omega, h.lc, h.cs⟩
theorem VI.mono {n m : Nat} {x : Vr} (h : VI n x) (hn : n ≤ m) : VI m x := ⟨by have := h.ls; omega, h.lp, h.cp, h.lc, h.cs⟩
theorem reo_sub {cols : List Nat} : ∀ (l : List Int) (out r : List Nat), reo cols l out = some r → (∀ c ∈ out, c ∈ cols) → (∀ c ∈ r, c ∈ cols) ∧ r.length = out.length + l.length
 | [], out, r, h, ho => by cases h; exact ⟨ho, rfl⟩
 | k :: l, out, r, h, ho => by
  rw [reo] at h
  split at h
  · rename_i hk
    have hc : cols.getD k.toNat 0 ∈ cols := by
     have : k.toNat < cols.length := by omega
     rw [List.getD_eq_getElem?_getD, List.getElem?_eq_getElem this]
     exact List.getElem_mem this
    obtain ⟨h1, h2⟩ := reo_sub l _ r h (by
     intro c hc'
     rcases List.mem_append.1 hc' with h | h
     · exact ho c h
     · rw [List.mem_singleton] at h
       subst h; exact hc)
    refine ⟨h1, ?_⟩
    rw [h2, List.length_append, List.length_cons, List.length_cons, List.length_nil]; omega
  · cases h
theorem step_vi {n : Nat} {x y : Vr} {s : Stp} (hx : VI n x) (h : stepV x s = some y) : VI (n + 1) y := by
 obtain ⟨h1, h2, h3, h4, h5⟩ := hx
 unfold stepV at h
 split at h
 · unfold addS at h
   split at h
   · rename_i hc
     cases h
     refine ⟨by simp; omega, by simp, by simp, by simp; omega, fun c hc' => ?_⟩
     rcases List.mem_append.1 hc' with h | h
     · have := h5 c h; simp; omega
     · rw [List.mem_singleton] at h
       subst h; simp
   · cases h
 · split at h
   · unfold loseS at h
     split at h
     · rename_i hc
       cases h
       have hi : s.col.toNat < x.cols.length := by
        have := hc.1
        unfold column at this
        simp at this; omega
       refine ⟨by simp; omega, by simp; omega, ?_, ?_, fun c hc' => h5 c (List.mem_of_mem_eraseIdx hc')⟩
       · show 1 ≤ (x.cols.eraseIdx _).length
         rw [List.length_eraseIdx_of_lt hi]; omega
       · show (x.cols.eraseIdx _).length ≤ 8
         rw [List.length_eraseIdx_of_lt hi]; omega
     · cases h
   · split at h
     · unfold renameS at h
       split at h
       · cases h
         exact ⟨by simp; omega, by simp; omega, h3, h4, fun c hc' => by have := h5 c hc'; simpa using this⟩
       · cases h
     · split at h
       · unfold widenS at h
         split at h
         · cases h
           exact ⟨by simp; omega, by simp; omega, h3, h4, fun c hc' => by have := h5 c hc'; simpa using this⟩
         · cases h
       · split at h
         · unfold reorderS at h
           split at h
           · rename_i hc
             cases hr : reo x.cols s.order [] with
             | none => rw [hr] at h; cases h
             | some r =>
              rw [hr] at h
              cases h
              obtain ⟨k1, k2⟩ := reo_sub _ _ _ hr (fun c h => by cases h)
              have hl : r.length = x.cols.length := by rw [k2]; simp; omega
              exact ⟨by show x.slots.length ≤ _; omega, h2, by show 1 ≤ r.length; omega, by show r.length ≤ 8; omega, fun c hc' => h5 c (k1 c hc')⟩
           · cases h
         · cases h
theorem firstL_vi : ∀ (l : List Sl) (x y : Vr), (∀ c ∈ x.cols, c < x.slots.length) → x.cols.length = x.slots.length → firstL l x = some y → (∀ c ∈ y.cols, c < y.slots.length) ∧ y.cols.length = y.slots.length ∧ y.slots = x.slots ++ l
 | [], x, y, h1, h2, h => by cases h; exact ⟨h1, h2, (List.append_nil _).symm⟩
 | s :: l, x, y, h1, h2, h => by
  rw [firstL] at h
  split at h
  · obtain ⟨k1, k2, k3⟩ := firstL_vi l _ y (fun c hc => by
     rcases List.mem_append.1 hc with h | h
     · have := h1 c h; simp; omega
     · rw [List.mem_singleton] at h
       subst h; simp) (by simp; omega) h
    refine ⟨k1, k2, ?_⟩
    rw [k3, List.append_assoc]; rfl
  · cases h
theorem first_vi {t : Tm} {x : Vr} (h : firstV t = some x) : VI 8 x ∧ x.slots = t.slots ∧ t.steps.length ≤ 8 := by
 unfold firstV at h
 split at h
 · rename_i hc
   obtain ⟨k1, k2, k3⟩ := firstL_vi _ _ _ (fun c h => by cases h) rfl h
   rw [List.nil_append] at k3
   have hl : x.slots.length = t.slots.length := by rw [k3]
   exact ⟨⟨by omega, by omega, by omega, by omega, k1⟩, k3, hc.2.2.2⟩
 · cases h
theorem versL_drop {x : Vr} {l : List Stp} {i : Nat} {s : Stp} (h : l[i]? = some s) : versL x (l.drop i) = match stepV x s with
 | none => []
 | some y => y :: versL y (l.drop (i + 1)) := by
 obtain ⟨h1, rfl⟩ := List.getElem?_eq_some_iff.1 h
 rw [List.drop_eq_getElem_cons h1, versL]
 all_goals (cases stepV x l[i] <;> rfl)
theorem versL_vi : ∀ (l : List Stp) (n : Nat) (x : Vr), VI n x → ∀ y ∈ versL x l, VI (n + l.length) y
 | [], _, _, _, y, hy => by cases hy
 | s :: l, n, x, hx, y, hy => by
  rw [versL] at hy
  cases hs : stepV x s with
  | none => rw [hs] at hy; cases hy
  | some z =>
   rw [hs] at hy
   have hz := step_vi hx hs
   rcases List.mem_cons.1 hy with rfl | hy
   · exact hz.mono (by rw [List.length_cons]; omega)
   · exact (versL_vi l _ z hz y hy).mono (by rw [List.length_cons]; omega)
theorem versL_len : ∀ (l : List Stp) (x : Vr), (versL x l).length ≤ l.length
 | [], _ => Nat.le_refl _
 | s :: l, x => by
  rw [versL]
  split
  · exact Nat.zero_le _
  · rename_i y hy
    have := versL_len l y
    rw [List.length_cons, List.length_cons]; omega
theorem vers_vi {t : Tm} {y : Vr} (h : y ∈ vers t) : VI 16 y := by
 unfold vers at h
 split at h
 · cases h
 · rename_i x hx
   obtain ⟨k1, -, k2⟩ := first_vi hx
   rcases List.mem_cons.1 h with rfl | h
   · exact k1.mono (by omega)
   · exact (versL_vi _ _ _ k1 y h).mono (by omega)
theorem vers_len (t : Tm) : (vers t).length ≤ t.steps.length + 1 ∧ (vers t).length ≤ 9 := by
 unfold vers
 split
 · exact ⟨Nat.zero_le _, Nat.zero_le _⟩
 · rename_i x hx
   have := versL_len t.steps x
   have := (first_vi hx).2.2
   rw [List.length_cons]; omega
end Sch
end Go.Proofs.YtgcienlfpnpbgaaGreat
end
section
namespace Go.Proofs.YtgcienlfpnpbgaaGreat
attribute [local push_cast] encB encI encC V.cells_mk V.cells_len Nat.mul_one Int.sub_zero List.map_nil beq_self_eq_true List.head?_cons
open Go.RowKit
set_option maxHeartbeats 4000000
set_option maxRecDepth 10000
def doTab : List D := [.s .nilFunc, .fn (.func 215) [] [], .fn (.func 216) [] [], .fn (.func 217) [] [], .fn (.func 218) [] [], .fn (.func 219) [] []]
theorem stepR_of {F G : Vr → Stp → Option Vr} {x : Vr} {stp : Stp} {bx : Nat} {s : St} (h : F x stp = G x stp) : StepR F x stp bx s = StepR G x stp bx s := by
 unfold StepR; rw [h]
theorem doTabF (x : Vr) (stp : Stp) (hx : VW x) (hc1 : 1 ≤ x.cols.length) (hs : stp.Ok) (hk : 1 ≤ stp.kind ∧ stp.kind ≤ 5) : ∃ (n : Nat) (f : FuncId), stp.kind = n ∧ n ≤ 5 ∧ (∃ tl, doTab.drop n = .fn (.func f) [] [] :: tl) ∧ (∀ args w, (callFunc f args).run Tryz.prog w = .ok (.enter f args) w) ∧
 ∀ (bx gs cS gc cC : Nat) (zS zC : List D), VL cS zS cC zC x → ∀ s, TrF Tryz.prog f [.ptr bx 0, .agg stp.cells] (VB bx gs cS zS gc cC zC x s) (StepR Sch.stepV x stp bx s) := by
 have hk' : stp.kind = 1 ∨ stp.kind = 2 ∨ stp.kind = 3 ∨ stp.kind = 4 ∨ stp.kind = 5 := by omega
 rcases hk' with h | h | h | h | h
 · exact ⟨1, _, h, by decide, ⟨_, rfl⟩, Tryz.call215, fun bx gs cS gc cC zS zC hz s => stepR_of (G := Sch.stepV) (by unfold Sch.stepV; rw [if_pos h]) ▸ schAddF bx gs cS gc cC zS zC x stp hx hs hz s⟩
 · exact ⟨2, _, h, by decide, ⟨_, rfl⟩, Tryz.call216, fun bx gs cS gc cC zS zC hz s => stepR_of (G := Sch.stepV) (by unfold Sch.stepV; rw [if_neg (show ¬ stp.kind = 1 by omega), if_pos h]) ▸ schLoseF bx gs cS gc cC zS zC x stp hx hs hz s⟩
 · exact ⟨3, _, h, by decide, ⟨_, rfl⟩, Tryz.call217, fun bx gs cS gc cC zS zC hz s => stepR_of (G := Sch.stepV) (by unfold Sch.stepV; rw [if_neg (show ¬ stp.kind = 1 by omega), if_neg (show ¬ stp.kind = 2 by omega), if_pos h]) ▸ schRenameF bx gs cS gc cC zS zC x stp hx hs hz s⟩
 · exact ⟨4, _, h, by decide, ⟨_, rfl⟩, Tryz.call218, fun bx gs cS gc cC zS zC hz s => stepR_of (G := Sch.stepV) (by unfold Sch.stepV; rw [if_neg (show ¬ stp.kind = 1 by omega), if_neg (show ¬ stp.kind = 2 by omega), if_neg (show ¬ stp.kind = 3 by omega), if_pos h]) ▸ schWidenF bx gs cS gc cC zS zC x stp hx hs hz s⟩
 · exact ⟨5, _, h, by decide, ⟨_, rfl⟩, Tryz.call219, fun bx gs cS gc cC zS zC hz s => stepR_of (G := Sch.stepV) (by unfold Sch.stepV; rw [if_neg (show ¬ stp.kind = 1 by omega), if_neg (show ¬ stp.kind = 2 by omega), if_neg (show ¬ stp.kind = 3 by omega), if_neg (show ¬ stp.kind = 4 by omega), if_pos h]) ▸ schReorderF bx gs cS gc cC zS zC x stp hx hc1 hs hz s⟩
theorem firstR_ex (t : Tm) (st : St) : ∃ d st', FirstR t st d st' := by
 unfold FirstR
 cases h : Sch.firstV t with
 | none => exact ⟨_, _, .inl ⟨rfl, .inl rfl, rfl⟩⟩
 | some x => exact ⟨_, _, .inr ⟨x, 0, x.slots.length, [], 0, x.cols.length, [], rfl, ⟨by rw [List.append_nil, slotC_len], by rw [List.append_nil, colC_len]⟩, rfl, rfl⟩⟩
theorem stepR_ex (x : Vr) (stp : Stp) (bx : Nat) (s : St) : ∃ d st', StepR Sch.stepV x stp bx s d st' := by
 unfold StepR
 cases h : Sch.stepV x stp with
 | none => exact ⟨_, _, .inl ⟨rfl, rfl, rfl⟩⟩
 | some y => exact ⟨_, _, .inr ⟨y, 0, y.slots.length, [], 0, y.cols.length, [], rfl, ⟨by rw [List.append_nil, slotC_len], by rw [List.append_nil, colC_len]⟩, rfl, rfl⟩⟩
def verD (p : Vr × Nat) : List D := [.i p.2, .agg p.1.cells]
theorem versF (t : Tm) (st : St) : TrF Tryz.prog 161 [.agg t.cells] st fun d st' => ∃ tb, d = .fn (.func 191) [] [.ptr tb 0] ∧ st' = .box tb 36 t.cells :: st := by
 unfold Tm.cells
 generalize t.slots.map Sl.cells = SL
 generalize t.steps.map Stp.cells = TL
 refine Qin [2] Tryz.func161 Tryz.results161 Tryz.ntmps161 ?_
 repeat' (with_reducible first | refine Q1 ?_ | refine Qe ?_ | refine s_boxP ?_ | refine QQ ?_ | (refine al_go ?_; intro b) | (refine QD ?_ <;> (try constructor) <;> intro hb <;> try intro hb1) | fail)
 all_goals exact retA_mk (by first | exact .inl rfl | exact .inr rfl) rfl (by (repeat (first | exact List.Sublist.refl _ | apply List.Sublist.cons))) (LE.of_eq (by (try simp (disch := omega) only [push_cast, simprocAttr, *]); (try exact rfl); done)) ⟨_, rfl, rfl⟩
theorem versIter (tb : Nat) (t : Tm) (ht : TOk t) : IterC Tryz.prog 191 [.ptr tb 0] verD ((Sch.vers t).zipIdx 1) [.box tb 36 t.cells] (fun K => K = [.box tb 36 t.cells]) (fun _ K => K = [.box tb 36 t.cells]) := by
 intro l C J Jx hY hJ
 have HY := Lib.hid hY
 have HJ := Lib.hid hJ
 clear hY hJ
 have hFi := Lib.hid (schFirstF t ht.os ht.ls ht.lt)
 have hot := Lib.hid ht.ot
 have hcells : Hid (t.cells = [.str t.name, .sl .shared (t.slots.map Sl.cells), .sl .shared (t.steps.map Stp.cells)]) := rfl
 obtain ⟨Vs, hVs⟩ : ∃ Vs, Sch.vers t = Vs := ⟨_, rfl⟩
 have hV : Hid (Vs = match Sch.firstV t with | none => [] | some x => x :: Sch.versL x t.steps) := hVs.symm
 have hvi : Hid (∀ y ∈ Vs, Sch.VI 16 y) := Lib.hid (by rw [← hVs]; exact fun y => Sch.vers_vi)
 rw [hVs] at HY ⊢
 clear hVs
 have hLl : (Vs.zipIdx 1).length = Vs.length := List.length_zipIdx
 have hget : Hid (∀ i x, Vs[i]? = some x → (Vs.zipIdx 1)[i]? = some (x, 1 + i)) := fun i x h => by rw [List.getElem?_zipIdx, h]; rfl
 generalize Vs.zipIdx 1 = L at *
 unfold FirstR at hFi
 have hex := Lib.hid (firstR_ex t)
 unfold FirstR at hex
 generalize hTC : t.cells = TC at *
 have hTC2 := hcells.out
 subst hTC2
 generalize t.slots.map Sl.cells = SL at *
 generalize hSt : t.steps.map Stp.cells = TL at *
 replace hSt := Lib.hid hSt
 replace hTC := Lib.hid hTC
 refine Qin [] Tryz.func191 Tryz.results191 Tryz.ntmps191 ?_
 refine tr_perm (st' := .box tb 36 [.str t.name, .sl .shared SL, .sl .shared TL] :: C) (.refl _) ?_
 repeat' (first | (with_reducible first | refine Q1 ?_ | refine Qe ?_ | refine QQ ?_ | (refine al_go ?_; intro b) | (refine QD ?_ <;> (try constructor) <;> intro hb <;> try intro hb1) | fail) | ((with_reducible apply (ck_gen Tryz.call192)); (focus exact List.Perm.refl _); (focus exact hFi.out _); (focus exact LEL.refl _); (focus exact hex.out _); (rintro d st' (⟨hn, rfl | ⟨gs, n1, cS, gc, n2, cC, rfl⟩, rfl⟩ | ⟨x, gs, cS, zS, gc, cC, zC, hx, hz, rfl, rfl⟩))) | fail)
 · have hL0 : L.length = 0 := by rw [hLl, hV.out, hn]; rfl
   exact retA_mk (by first | exact .inl rfl | exact .inr rfl) rfl (by (repeat (first | exact List.Sublist.refl _ | apply List.Sublist.cons))) (LE.refl _) ⟨[_], C, rfl, .inl ⟨rfl, by rw [hL0]; exact HJ.out⟩⟩
 · have hL0 : L.length = 0 := by rw [hLl, hV.out, hn]; rfl
   exact retA_mk (by first | exact .inl rfl | exact .inr rfl) rfl (by (repeat (first | exact List.Sublist.refl _ | apply List.Sublist.cons))) (LE.refl _) ⟨[_], C, rfl, .inl ⟨rfl, by rw [hL0]; exact HJ.out⟩⟩
 have hV1 : Vs = x :: Sch.versL x t.steps := by rw [hV.out, hx]
 have hx0 : Vs[0]? = some x := by rw [hV1]; rfl
 have hT0 : Hid (Sch.versL x (t.steps.drop 0) = Vs.drop 1) := Lib.hid (by rw [hV1]; rfl)
 have hVx := hvi.out x (List.mem_of_getElem? hx0)
 have hg0 := hget.out 0 x hx0
 replace hx0 := Lib.hid hx0
 have hdoF := schDoersF
 have hLl2 := Lib.hid hLl
 clear hV hV1 hex hFi hx hLl
 obtain ⟨b3, rfl⟩ : ∃ q, q = b := ⟨_, rfl⟩
 have hcp := Lib.hid (schCopiedF gs cS gc cC zS zC x (fun h => by have := hVx.lp; rw [h] at this; simp at this) (fun h => by have := hVx.cp; rw [h] at this; simp at this) (hVx.vw (by omega)))
 obtain ⟨TB, hTB⟩ : ∃ TB, TB = doTab := ⟨_, rfl⟩
 have hdo : Hid (∀ st, TrF Tryz.prog 194 [] st fun d st' => d = .agg TB ∧ st' = st) := by rw [hTB]; exact hdoF
 have hTBl : TB.length = 6 := by rw [hTB]; rfl
 have hTBa : TB.all D.leaf = true := by rw [hTB]; rfl
 replace hTB := Lib.hid hTB
 clear hdoF
 repeat' (first | (with_reducible first | refine Q1 ?_ | refine Qe ?_ | fail) | ((with_reducible apply (s_yield HY.out HJ.out hg0)); (focus ((try simp (disch := omega) only [push_cast, simprocAttr, *]); (try exact rfl); done)); (focus ((try simp (disch := omega) only [push_cast, simprocAttr, *]); (try exact rfl); done)); (focus first | exact LEL.refl _ | ((repeat' (first | exact LEL.nil | refine LEL.cons ?_ ?_ | exact LE.refl _ | exact LE.sl _ _ | refine LE.agg ?_)); done)); (focus (repeat (first | exact tl_nil | apply tl_cons)); done); all_goals (intro C' hC')) | (with_reducible first | refine QQ ?_ | (refine al_go ?_; intro b) | (refine QD ?_ <;> (try constructor) <;> intro hb <;> try intro hb1) | fail) | refine Qc Tryz.call193 (hcp.out _ (by repeat (first | exact mm_h | apply mm_t)) (by repeat (first | exact mm_h | apply mm_t))) ?_ | fail)
 rotate_left
 · exact retA_mk (by first | exact .inl rfl | exact .inr rfl) (by first | rfl | assumption) (by (repeat (first | exact List.Sublist.refl _ | apply List.Sublist.cons))) (LE.refl _) ⟨[_], C', rfl, .inr ⟨_, rfl, hC'⟩⟩
 obtain ⟨b5, rfl⟩ : ∃ q, q = b := ⟨_, rfl⟩
 refine tr_perm (st' := .box b3 141 [.ar gs 0 x.slots.length cS, .ar gc 0 x.cols.length cC] :: .box gs 75 (slotC x.slots ++ zS) :: .box gc 3 (colC x.cols ++ zC) :: .box b5 216 TB :: .box tb 36 [.str t.name, .sl .shared SL, .sl .shared TL] :: C') (by (repeat (first | exact List.Perm.refl _ | refine perm_cons_out (by repeat (first | exact out_here | apply out_there)) ?_))) ?_
 have hJ0 := Lib.hid hC'
 have hTl : TL.length = t.steps.length := by rw [← hSt.out, List.length_map]
 have hms := ht.lt
 clear hg0 hcp
 refine tr_loopd (ι := Nat) (fun i A st' => ∃ x gs cS zS gc cC zC C', i ≤ TL.length ∧ VL cS zS cC zC x ∧ Hid (Vs[i]? = some x) ∧ Hid (Sch.versL x (t.steps.drop i) = Vs.drop (i + 1)) ∧ Hid (J (i + 1) C') ∧ A.df = [] ∧ A.e 0 = .fn (.yield l) [] [] ∧ A.e 1 = .ptr tb 0 ∧ A.e 3 = .ptr b3 0 ∧ A.e 5 = .ptr b5 0 ∧ A.e 24 = .sl .shared TL ∧ A.e 25 = .i TL.length ∧ A.e 26 = .i i ∧
  st' = .box b3 141 [.ar gs 0 x.slots.length cS, .ar gc 0 x.cols.length cC] :: .box gs 75 (slotC x.slots ++ zS) :: .box gc 3 (colC x.cols ++ zC) :: .box b5 216 TB :: .box tb 36 [.str t.name, .sl .shared SL, .sl .shared TL] :: C') (fun i => TL.length - i) 0 ⟨x, gs, cS, zS, gc, cC, zC, C', Nat.zero_le _, hz, hx0, hT0, hJ0, Qf, Qf, Qf, Qf, Qf, Qf, Qf, Qf, rfl⟩ ?_
 clear hx0 hT0 hJ0 hz hVx hC' HJ
 rintro i A st' ⟨x, gs, cS, zS, gc, cC, zC, C', hi, hz, hxi, hTi, hJi, hdf, e0, e1, e3, e5, e24, e25, e26, rfl⟩
 have hVx := hvi.out x (List.mem_of_getElem? hxi.out)
 by_cases hlt : i < TL.length
 · obtain ⟨stp, hstp⟩ := gEx (l := t.steps) (i := i) (by omega)
   have hso := hot.out stp (List.mem_of_getElem? hstp)
   have hTd := hTi.out
   rw [Sch.versL_drop hstp] at hTd
   have hcl : TL[i]? = some stp.cells := by rw [← hSt.out, List.getElem?_map, hstp]; rfl
   have hin : i < Vs.length := (List.getElem?_eq_some_iff.1 hxi.out).1
   by_cases hk : 1 ≤ stp.kind ∧ stp.kind ≤ 5
   · obtain ⟨nk, f, hkn, hn5, ⟨tl, htl⟩, hent, hTr⟩ := doTabF x stp (hVx.vw (by omega)) hVx.cp hso hk
     have hTr2 := Lib.hid (hTr b3 gs cS gc cC zS zC hz)
     have hSR := Lib.hid (stepR_ex x stp b3)
     obtain ⟨hk1, hk2⟩ := hk
     clear hTr hTi
     rw [← hTB.out] at htl
     unfold StepR VB at hTr2 hSR
     have hvw : Hid (∀ y, Sch.stepV x stp = some y → Vs[i + 1]? = some y ∧ Sch.versL y (t.steps.drop (i + 1)) = Vs.drop (i + 1 + 1)) := fun y hy => by
      rw [hy] at hTd
      have h1 : Vs[i + 1]? = some y := by
       have : (Vs.drop (i + 1))[0]? = some y := by rw [← hTd]; rfl
       rwa [List.getElem?_drop, Nat.add_zero] at this
      refine ⟨h1, ?_⟩
      rw [V.drop_cons h1] at hTd
      exact (List.cons.inj hTd).2
     have hvn : Hid (Sch.stepV x stp = none → Vs.length = i + 1) := fun h => by
      rw [h] at hTd
      have := congrArg List.length hTd
      rw [List.length_drop, List.length_nil] at this
      omega
     obtain ⟨n2, hn2⟩ : ∃ n2 : Nat, 1 + (i + 1) = n2 := ⟨_, rfl⟩
     have hn3 : (i : Int) + 2 = (n2 : Int) := by omega
     have hgY : Hid (∀ y, Sch.stepV x stp = some y → L[i + 1]? = some (y, n2)) := fun y hy => by rw [← hn2]; exact hget.out _ _ (hvw.out y hy).1
     have hcp : Hid (∀ y, Sch.stepV x stp = some y → ∀ (gs cS gc cC : Nat) (zS zC : List D) (st : St), Res.box gs 75 (slotC y.slots ++ zS) ∈ st → Res.box gc 3 (colC y.cols ++ zC) ∈ st → TrF Tryz.prog 193 [.agg [.ar gs 0 y.slots.length cS, .ar gc 0 y.cols.length cC]] st fun d st' => d = .agg y.cells ∧ st' = st) := fun y hy gs cS gc cC zS zC st m1 m2 => by
      have hVy := hvi.out y (List.mem_of_getElem? (hvw.out y hy).1)
      exact schCopiedF gs cS gc cC zS zC y (fun h => by have := hVy.lp; rw [h] at this; simp at this) (fun h => by have := hVy.cp; rw [h] at this; simp at this) (hVy.vw (by omega)) st m1 m2
     have hn2b : n2 ≤ 2000 ∧ i ≤ 2000 ∧ TL.length ≤ 2000 := by omega
     obtain ⟨hb1, hb2, hb3⟩ := hn2b
     replace hn2 := Lib.hid hn2
     clear hTd hstp hxi hVx
     generalize Sch.stepV x stp = F at *
     cases stp with
     | mk kd col slot order =>
     cases slot with
     | mk nm ty rq dv =>
     cases dv with
     | mk k n sv lv =>
     unfold Stp.cells at hcl hTr2
     rw [Sl.cells_mk] at hcl hTr2
     dsimp only [List.cons_append, List.nil_append] at hcl hTr2 hkn hk1 hk2
     subst hkn
     replace hcl := hcl
     have hentH := Lib.hid hent
     clear hent
     replace hin := Lib.hid hin
     replace hLl2 := Lib.hid hLl2
     replace hTl := Lib.hid hTl
     repeat' (first | (with_reducible first | refine Q1 ?_ | refine Qe ?_ | fail) | ((with_reducible apply (s_yield HY.out hJi.out hgy.out)); (focus ((try simp (disch := omega) only [push_cast, simprocAttr, *]); (try exact rfl); done)); (focus ((try simp (disch := omega) only [push_cast, simprocAttr, *]); (try exact rfl); done)); (focus first | exact LEL.refl _ | ((repeat' (first | exact LEL.nil | refine LEL.cons ?_ ?_ | exact LE.refl _ | exact LE.sl _ _ | refine LE.agg ?_)); done)); (focus (repeat (first | exact tl_nil | apply tl_cons)); done); all_goals (intro C' hC')) | ((with_reducible apply (w_drawQ [(b5, TB), (b, [.i nk, .i col, .str nm, .i ty, .b rq, .i k, .i n, .str sv, .sl .shared (lv.map V.cells), .sl .shared (order.map encI)])] 14)); (iterate 4 (focus kernel_rfl)); (focus (simp only [List.take_succ_cons, List.take_zero]; exact rfl)); (focus (simp only [List.drop_succ_cons, List.drop_zero]; exact rfl)); (focus ((repeat (first | exact keep_nil | refine keep_more (by (repeat (first | exact mm_h | apply mm_t)); done) ?_)); done)); intro hne; simp only [nes, ne1, and_assoc] at hne; repeat (have hq := hne.1; replace hne := hne.2)) | ((with_reducible refine Exists.intro [(b3, [.ar gs1 0 y.slots.length cS1, .ar gc1 0 y.cols.length cC1])] ?_); (with_reducible refine And.intro ?_ ?_); (focus ((repeat (first | exact keep_nil | refine keep_more (by (repeat (first | exact mm_h | apply mm_t)); done) ?_)); done))) | ((with_reducible refine And.intro ?_ ?_); (focus ((repeat (first | exact keep_nil | refine keep_more (by (repeat (first | exact mm_h | apply mm_t)); done) ?_)); done))) | ((with_reducible refine Exists.intro [] ?_); (with_reducible refine And.intro ?_ ?_); (focus exact keep_nil)) | (with_reducible first | refine QQ ?_ | (refine al_go ?_; intro b) | (refine QD ?_ <;> (try constructor) <;> intro hb <;> try intro hb1) | fail) | ((with_reducible apply (ck_gen hentH.out)); (focus (show List.Perm _ (VB b3 gs cS zS gc cC zC x (.box b 79 [.i nk, .i col, .str nm, .i ty, .b rq, .i k, .i n, .str sv, .sl .shared (lv.map V.cells), .sl .shared (order.map encI)] :: .box b5 216 TB :: .box tb 36 [.str t.name, .sl .shared SL, .sl .shared TL] :: C')); (repeat (first | exact List.Perm.refl _ | refine perm_cons_out (by repeat (first | exact out_here | apply out_there)) ?_)); done)); (focus exact hTr2.out _); (focus exact LEL.refl _); (focus exact hSR.out _); (rintro d st' (⟨hn1, rfl, rfl⟩ | ⟨y, gs1, cS1, zS1, gc1, cC1, zC1, hy, hz1, rfl, rfl⟩) <;> (try (have hgy := Lib.hid (hgY.out y hy); have hcy := Lib.hid (hcp.out y hy gs1 cS1 gc1 cC1 zS1 zC1); replace hy := Lib.hid hy)))) | refine Qc Tryz.call193 (hcy.out _ (by repeat (first | exact mm_h | apply mm_t)) (by repeat (first | exact mm_h | apply mm_t))) ?_ | fail)
     · have hL1 : L.length = i + 1 := by rw [hLl2.out.out, hvn.out hn1]
       exact retA_mk (by first | exact .inl rfl | exact .inr rfl) (by first | rfl | assumption) (by (repeat (first | exact List.Sublist.refl _ | with_reducible apply List.Sublist.cons_cons | apply List.Sublist.cons))) (LE.refl _) ⟨[_], C', rfl, .inl ⟨rfl, by rw [hL1]; exact hJi.out⟩⟩
     · obtain ⟨q1, q2⟩ := hvw.out y hy.out
       refine ⟨i + 1, .box b3 141 [.ar gs1 0 y.slots.length cS1, .ar gc1 0 y.cols.length cC1] :: .box gs1 75 (slotC y.slots ++ zS1) :: .box gc1 3 (colC y.cols ++ zC1) :: .box b5 216 TB :: .box tb 36 [.str t.name, .sl .shared SL, .sl .shared TL] :: C', ?_, ⟨y, gs1, cS1, zS1, gc1, cC1, zC1, C', hlt, hz1, q1, q2, hC', ?_, ?_, ?_, ?_, ?_, ?_, ?_, ?_, rfl⟩, ?_⟩
       · (repeat (first | exact List.Sublist.refl _ | with_reducible apply List.Sublist.cons_cons | apply List.Sublist.cons))
       iterate 8 (focus exact Qf)
       · omega
     · exact retA_mk (by first | exact .inl rfl | exact .inr rfl) (by first | rfl | assumption) (by (repeat (first | exact List.Sublist.refl _ | with_reducible apply List.Sublist.cons_cons | apply List.Sublist.cons))) (LE.refl _) ⟨[_], C', rfl, .inr ⟨_, rfl, hC'⟩⟩
   · have hn1 : Sch.stepV x stp = none := by
      unfold Sch.stepV
      rw [if_neg (by omega), if_neg (by omega), if_neg (by omega), if_neg (by omega), if_neg (by omega)]
     rw [hn1] at hTd
     have hL1 : L.length = i + 1 := by
      rw [hLl2.out]
      have := congrArg List.length hTd
      rw [List.length_drop, List.length_nil] at this
      omega
     have hk' : stp.kind < 1 ∨ (1 ≤ stp.kind ∧ 5 < stp.kind) := by omega
     clear hTd hstp hk hn1 hTi hxi
     replace hL1 := Lib.hid hL1
     cases stp with
     | mk kd col slot order =>
     cases slot with
     | mk nm ty rq dv =>
     cases dv with
     | mk k n sv lv =>
     unfold Stp.cells at hcl
     rw [Sl.cells_mk] at hcl
     dsimp only [List.cons_append, List.nil_append] at hcl hk'
     have hb3 : TL.length ≤ 2000 ∧ i ≤ 2000 := by omega
     obtain ⟨hb3, hb4⟩ := hb3
     replace hTl := Lib.hid hTl
     replace hLl2 := Lib.hid hLl2
     replace hin := Lib.hid hin
     rcases hk' with hk1 | ⟨hk1, hk2⟩
     all_goals skip
     all_goals (
      repeat' (first | (with_reducible first | refine Q1 ?_ | refine Qe ?_ | fail) | ((with_reducible apply (w_drawN [(b, [.i kd, .i col, .str nm, .i ty, .b rq, .i k, .i n, .str sv, .sl .shared (lv.map V.cells), .sl .shared (order.map encI)])])); (iterate 3 (focus kernel_rfl)); (focus ((repeat (first | exact keep_nil | refine keep_more (by (repeat (first | exact mm_h | apply mm_t)); done) ?_)); done)); intro hne; simp only [nes, ne1, and_assoc] at hne; repeat (have hq := hne.1; replace hne := hne.2)) | ((with_reducible refine And.intro ?_ ?_); (focus ((repeat (first | exact keep_nil | refine keep_more (by (repeat (first | exact mm_h | apply mm_t)); done) ?_)); done))) | (with_reducible first | refine QQ ?_ | (refine al_go ?_; intro b) | (refine QD ?_ <;> (try constructor) <;> intro hb <;> try intro hb1) | fail) | fail)
      all_goals exact retA_mk (by first | exact .inl rfl | exact .inr rfl) (by first | rfl | assumption) (by (repeat (first | exact List.Sublist.refl _ | with_reducible apply List.Sublist.cons_cons | apply List.Sublist.cons))) (LE.refl _) ⟨[_], C', rfl, .inl ⟨rfl, by rw [hL1.out]; exact hJi.out⟩⟩)
 · have hL1 : L.length = i + 1 := by
    have h1 := hTi.out
    rw [List.drop_of_length_le (by omega), Sch.versL] at h1
    have := congrArg List.length h1
    rw [List.length_drop, List.length_nil] at this
    have hin : i < Vs.length := (List.getElem?_eq_some_iff.1 hxi.out).1
    rw [hLl2.out]; omega
   replace hL1 := Lib.hid hL1
   replace hTl := Lib.hid hTl
   replace hLl2 := Lib.hid hLl2
   repeat' (with_reducible first | refine Q1 ?_ | refine Qe ?_ | refine QQ ?_ | (refine al_go ?_; intro b) | (refine QD ?_ <;> (try constructor) <;> intro hb <;> try intro hb1) | fail)
   all_goals exact retA_mk (by first | exact .inl rfl | exact .inr rfl) (by first | rfl | assumption) (by (repeat (first | exact List.Sublist.refl _ | with_reducible apply List.Sublist.cons_cons | apply List.Sublist.cons))) (LE.refl _) ⟨[_], C', rfl, .inl ⟨rfl, by rw [hL1.out]; exact hJi.out⟩⟩
theorem versF' (t : Tm) (st : St) : TrF Tryz.prog 161 [.agg t.cells] st fun d st' => ∃ tb : Nat, True ∧ d = .fn (.func 191) [] [.ptr tb 0] ∧ st' = .box tb 36 t.cells :: st :=
 (versF t st).mono fun _ _ ⟨tb, h1, h2⟩ => ⟨tb, trivial, h1, h2⟩
theorem schLastF (t : Tm) (ht : TOk t) (st : St) : TrF Tryz.prog 113 [.agg t.cells] st fun d st' => d = .i (Sch.last t) ∧ st' = st := by
 have hVF := Lib.hid (versF' t)
 have hIt := Lib.hid fun tb => versIter tb t ht
 have hLl : Hid (((Sch.vers t).zipIdx 1).length = (Sch.vers t).length) := Lib.hid List.length_zipIdx
 have hget : Hid (∀ i x, ((Sch.vers t).zipIdx 1)[i]? = some x → x.2 = i + 1) := fun i x h => by
  rw [List.getElem?_zipIdx] at h
  cases hv : (Sch.vers t)[i]? with
  | none => rw [hv] at h; cases h
  | some y => rw [hv] at h; cases h; exact Nat.add_comm 1 i
 have hlast : Hid (Sch.last t = if (Sch.vers t).length = t.steps.length + 1 then t.steps.length + 1 else 0) := rfl
 have hvl := (Sch.vers_len t).1
 have hms := ht.lt
 generalize Sch.last t = LT at *
 generalize (Sch.vers t).zipIdx 1 = L at *
 generalize (Sch.vers t).length = vl at *
 have hTL : (t.steps.map Stp.cells).length = t.steps.length := List.length_map ..
 unfold Tm.cells at hVF hIt ⊢
 generalize t.slots.map Sl.cells = SL at *
 generalize t.steps.map Stp.cells = TL at *
 generalize t.steps.length = ms at *
 generalize t.name = nm at *
 refine Qin [2] Tryz.func113 Tryz.results113 Tryz.ntmps113 ?_
 repeat' (first | (with_reducible first | refine Q1 ?_ | refine Qe ?_ | refine s_boxP ?_ | refine QQ ?_ | (refine al_go ?_; intro b) | (refine QD ?_ <;> (try constructor) <;> intro hb <;> try intro hb1) | fail) | ((with_reducible apply (ck_ex Tryz.call161)); (focus exact LEL.refl _); (focus exact hVF.out _); (focus exact ⟨0, trivial⟩); intro tb htb) | fail)
 rename_i b1
 refine tr_perm (st' := [.box tb 36 [.str nm, .sl .shared SL, .sl .shared TL]] ++ (.box b 3 [.i 0] :: .box b1 36 [.str nm, .sl .shared SL, .sl .shared TL] :: st)) (.refl _) ?_
 refine tr_range (hIt.out tb) Tryz.call191 (by (try simp (disch := omega) only [push_cast, simprocAttr, *]); (try exact rfl); done) (fun _ => rfl) rfl (fun i C => C = .box b 3 [.i i] :: .box b1 36 [.str nm, .sl .shared SL, .sl .shared TL] :: st) (fun _ _ _ => False) rfl (fun i _ => ⟨_, rfl⟩) ?_ ?_ (fun _ _ _ _ _ _ h => h.elim)
 · rintro l i ⟨y, v⟩ C K hx rfl
   have hv : v = i + 1 := hget.out i _ hx
   subst hv
   have hil : i < L.length := (List.getElem?_eq_some_iff.1 hx).1
   have hib : i ≤ 2000 := by have := hLl.out; omega
   clear hx hil
   refine (?_ : Tr _ _ _ _ (AA.put (AA.put ⟨_, []⟩ (some 7) (.i ((i + 1 : Nat) : Int))) (some 8) (.agg y.cells)) (.box b 3 [.i i] :: .box b1 36 [.str nm, .sl .shared SL, .sl .shared TL] :: (st ++ K)) _)
   repeat' (with_reducible first | refine Q1 ?_ | refine Qe ?_ | refine QQ ?_ | (refine al_go ?_; intro b) | (refine QD ?_ <;> (try constructor) <;> intro hb <;> try intro hb1) | fail)
   refine ⟨.box b 3 [.i i] :: .box b1 36 [.str nm, .sl .shared SL, .sl .shared TL] :: st, List.Sublist.refl _, fun K' => ?_⟩
   refine (?_ : Tr _ _ _ _ _ (.box b 3 [.i i] :: .box b1 36 [.str nm, .sl .shared SL, .sl .shared TL] :: (st ++ K')) _)
   repeat' (with_reducible first | refine Q1 ?_ | refine Qe ?_ | refine QQ ?_ | (refine al_go ?_; intro b) | (refine QD ?_ <;> (try constructor) <;> intro hb <;> try intro hb1) | fail)
   exact ⟨_, List.Sublist.refl _, rfl⟩
 · rintro d K1 C' rfl rfl
   rw [hLl.out]
   clear hIt
   change Tr _ _ _ _ _ _ _
   by_cases hc : vl = ms + 1
   · have hL2 : LT = vl := by rw [hlast.out, if_pos hc, hc]
     clear hlast
     have hc2 : (vl : Int) = (ms : Int) + 1 := by omega
     clear hc
     refine tr_perm (st' := .box b 3 [.i vl] :: .box b1 36 [.str nm, .sl .shared SL, .sl .shared TL] :: markR d :: .box tb 36 [.str nm, .sl .shared SL, .sl .shared TL] :: st) (by show List.Perm (markR d :: .box tb 36 [.str nm, .sl .shared SL, .sl .shared TL] :: .box b 3 [.i vl] :: .box b1 36 [.str nm, .sl .shared SL, .sl .shared TL] :: st) _; (repeat (first | exact List.Perm.refl _ | refine perm_cons_out (by repeat (first | exact out_here | apply out_there)) ?_))) ?_
     repeat' (with_reducible first | refine Q1 ?_ | refine Qe ?_ | refine QQ ?_ | (refine al_go ?_; intro b) | (refine QD ?_ <;> (try constructor) <;> intro hb <;> try intro hb1) | fail)
     all_goals (refine retA_mark (by simp) (by first | rfl | assumption) (by repeat (first | exact out_here | apply out_there)) (by (repeat (first | exact List.Sublist.refl _ | apply List.Sublist.cons))) ?_ ⟨rfl, rfl⟩; (try simp (disch := omega) only [push_cast, simprocAttr, *]); try (first | exact LE.refl _ | exact LE.sl _ _ | ((first | refine LE.tup ?_ | refine LE.agg ?_); (repeat' (first | exact LEL.nil | refine LEL.cons ?_ ?_ | exact LE.refl _ | exact LE.sl _ _ | refine LE.agg ?_)); done) | refine LE.of_eq ?_))
   · have hL2 : LT = 0 := by rw [hlast.out, if_neg hc]
     clear hlast
     have hc2 : ¬ (vl : Int) = (ms : Int) + 1 := by omega
     clear hc
     refine tr_perm (st' := .box b 3 [.i vl] :: .box b1 36 [.str nm, .sl .shared SL, .sl .shared TL] :: markR d :: .box tb 36 [.str nm, .sl .shared SL, .sl .shared TL] :: st) (by show List.Perm (markR d :: .box tb 36 [.str nm, .sl .shared SL, .sl .shared TL] :: .box b 3 [.i vl] :: .box b1 36 [.str nm, .sl .shared SL, .sl .shared TL] :: st) _; (repeat (first | exact List.Perm.refl _ | refine perm_cons_out (by repeat (first | exact out_here | apply out_there)) ?_))) ?_
     repeat' (with_reducible first | refine Q1 ?_ | refine Qe ?_ | refine QQ ?_ | (refine al_go ?_; intro b) | (refine QD ?_ <;> (try constructor) <;> intro hb <;> try intro hb1) | fail)
     all_goals (refine retA_mark (by simp) (by first | rfl | assumption) (by repeat (first | exact out_here | apply out_there)) (by (repeat (first | exact List.Sublist.refl _ | apply List.Sublist.cons))) ?_ ⟨rfl, rfl⟩; (try simp (disch := omega) only [push_cast, simprocAttr, *]); try (first | exact LE.refl _ | exact LE.sl _ _ | ((first | refine LE.tup ?_ | refine LE.agg ?_); (repeat' (first | exact LEL.nil | refine LEL.cons ?_ ?_ | exact LE.refl _ | exact LE.sl _ _ | refine LE.agg ?_)); done) | refine LE.of_eq ?_))
theorem schRightF (t : Tm) (ht : TOk t) (st : St) : TrF Tryz.prog 50 [.agg t.cells] st fun d st' => d = .b (decide (0 < Sch.last t)) ∧ st' = st := by
 have hL := Lib.hid (schLastF t ht)
 generalize Sch.last t = n at *
 unfold Tm.cells at *
 generalize t.slots.map Sl.cells = SL at *
 generalize t.steps.map Stp.cells = TL at *
 refine Qin [2] Tryz.func50 Tryz.results50 Tryz.ntmps50 ?_
 repeat' (with_reducible first | refine Q1 ?_ | refine Qe ?_ | refine s_boxP ?_ | refine QQ ?_ | (refine al_go ?_; intro b) | (refine QD ?_ <;> (try constructor) <;> intro hb <;> try intro hb1) | fail)
 all_goals (refine Qret (hd := ?_); (try simp (disch := omega) only [push_cast, simprocAttr, *]); try (first | exact LE.refl _ | exact LE.sl _ _ | ((first | refine LE.tup ?_ | refine LE.agg ?_); (repeat' (first | exact LEL.nil | refine LEL.cons ?_ ?_ | exact LE.refl _ | exact LE.sl _ _ | refine LE.agg ?_)); done) | refine LE.of_eq ?_))
 all_goals (refine congrArg D.b (decide_eq_decide.2 ?_); omega)
def Sch.verX (t : Tm) (v : Int) : Vr := (Sch.ver t v).getD ⟨[], []⟩
def Sch.verB (t : Tm) (v : Int) : Bool := (Sch.ver t v).isSome
theorem schAtF (t : Tm) (ht : TOk t) (v : Int) (st : St) : TrF Tryz.prog 112 [.agg t.cells, .i v] st fun d st' => d = .tup [.agg (Sch.verX t v).cells, .b (Sch.verB t v)] ∧ st' = st := by
 have hVF := Lib.hid (versF' t)
 have hRi := schRightF t ht
 have hIt := Lib.hid fun tb => versIter tb t ht
 have hLl : Hid (((Sch.vers t).zipIdx 1).length = (Sch.vers t).length) := Lib.hid List.length_zipIdx
 have hget : Hid (∀ i x, ((Sch.vers t).zipIdx 1)[i]? = some x → x.2 = i + 1 ∧ (Sch.vers t)[i]? = some x.1) := fun i x h => by
  rw [List.getElem?_zipIdx] at h
  cases hv : (Sch.vers t)[i]? with
  | none => rw [hv] at h; cases h
  | some y => rw [hv] at h; cases h; exact ⟨Nat.add_comm 1 i, rfl⟩
 have hver : Hid (Sch.ver t v = if 0 < Sch.last t ∧ 1 ≤ v then (Sch.vers t)[(v - 1).toNat]? else none) := rfl
 have hvl := (Sch.vers_len t).1
 have hms := ht.lt
 have hvl2 : Hid ((Sch.vers t).length ≤ 2000) := Lib.hid (by omega)
 unfold Sch.verX Sch.verB
 generalize Sch.ver t v = VT at *
 generalize (Sch.vers t).zipIdx 1 = L at *
 generalize Sch.vers t = Vs at *
 clear hvl hms
 unfold Tm.cells at hVF hIt hRi ⊢
 generalize t.slots.map Sl.cells = SL at *
 generalize t.steps.map Stp.cells = TL at *
 generalize t.name = nm at *
 refine trF_enterG (G := twoA Tryz.prog (.cell 4 141) (.cell 5 4)) Tryz.func112 rfl (by rw [Tryz.ntmps112]; exact Nat.le_of_ble_eq_true rfl) (fun h1 h2 h3 => res_two rfl h1 h2 h3) ?_
 simp only [Tryz.ntmps112]
 by_cases hr : 0 < Sch.last t
 · rw [decide_eq_true hr] at hRi
   replace hRi := Lib.hid hRi
   have hver2 : Hid (VT = if 1 ≤ v then Vs[(v - 1).toNat]? else none) := Lib.hid (by rw [hver.out]; simp [hr])
   clear hver
   repeat' (first | (with_reducible first | refine Q1 ?_ | refine Qe ?_ | refine s_boxP ?_ | refine QQ ?_ | (refine al_go ?_; intro b) | (refine QD ?_ <;> (try constructor) <;> intro hb <;> try intro hb1) | fail) | ((with_reducible apply (ck_ex Tryz.call161)); (focus exact LEL.refl _); (focus exact hVF.out _); (focus exact ⟨0, trivial⟩); intro tb htb) | fail)
   rename_i b2 b3 b4
   obtain ⟨b5, rfl⟩ : ∃ q, q = b := ⟨_, rfl⟩
   clear hRi
   refine tr_perm (st' := [.box tb 36 [.str nm, .sl .shared SL, .sl .shared TL]] ++ (.box b5 4 [.s (.bool false)] :: .box b4 141 [.sl .tight [], .sl .tight []] :: .box b3 3 [.i v] :: .box b2 36 [.str nm, .sl .shared SL, .sl .shared TL] :: st)) (.refl _) ?_
   refine tr_rangeS (hIt.out tb) Tryz.call191 (by (try simp (disch := omega) only [push_cast, simprocAttr, *]); (try exact rfl); done) (fun _ => rfl) rfl (fun i C => Hid (∀ j, j < i → (j : Int) + 1 ≠ v) ∧ C = .box b5 4 [.s (.bool false)] :: .box b4 141 [.sl .tight [], .sl .tight []] :: .box b3 3 [.i v] :: .box b2 36 [.str nm, .sl .shared SL, .sl .shared TL] :: st) (fun c i C => ∃ x : Vr, c = .ret ∧ Hid (VT = some x) ∧ C = .box b5 4 [.s (.bool true)] :: .box b4 141 x.cells :: .box b3 3 [.i v] :: .box b2 36 [.str nm, .sl .shared SL, .sl .shared TL] :: st)
    ⟨fun j hj => absurd hj (Nat.not_lt_zero _), rfl⟩ ?_ ?_ ?_ ?_
   · rintro i ⟨x, k⟩ C hx ⟨hj, rfl⟩
     obtain ⟨h1, h2⟩ := hget.out i _ hx
     by_cases hv : (i : Int) + 1 = v
     · exact .inr ⟨.ret, _, x, rfl, by rw [hver2.out, if_pos (by omega), show (v - 1).toNat = i by omega]; exact h2, rfl⟩
     · refine .inl ⟨_, fun j hj' => ?_, rfl⟩
       by_cases hji : j = i
       · subst hji; exact hv
       · exact hj.out j (by omega)
   · rintro l i ⟨x, k⟩ C K hx ⟨hj, rfl⟩
     obtain ⟨h1, h2⟩ := hget.out i _ hx
     dsimp only at h1 h2
     subst h1
     have hib : i ≤ 2000 := by
      have := (List.getElem?_eq_some_iff.1 hx).1
      have := hLl.out
      have := hvl2.out
      omega
     have hvx : Hid ((i : Int) + 1 = v → VT = some x) := fun hv => by rw [hver2.out, if_pos (by omega), show (v - 1).toNat = i by omega]; exact h2
     have hnx : Hid ((i : Int) + 1 ≠ v → ∀ j, j < i + 1 → (j : Int) + 1 ≠ v) := fun hv j hj' => by
      by_cases hji : j = i
      · subst hji; exact hv
      · exact hj.out j (by omega)
     clear hx h2 hj hIt
     dsimp only [verD, Vr.cells]
     generalize hX1 : x.slots.map Sl.cells = X1 at *
     generalize hX2 : x.cols.map encC = X2 at *
     replace hX1 := Lib.hid hX1
     replace hX2 := Lib.hid hX2
     refine (?_ : Tr _ _ _ _ (AA.put (AA.put ⟨_, []⟩ (some 14) (.i ((i + 1 : Nat) : Int))) (some 15) (.agg [.sl .shared X1, .sl .shared X2])) (.box b5 4 [.s (.bool false)] :: .box b4 141 [.sl .tight [], .sl .tight []] :: .box b3 3 [.i v] :: .box b2 36 [.str nm, .sl .shared SL, .sl .shared TL] :: (st ++ K)) _)
     repeat' (with_reducible first | refine Q1 ?_ | refine Qe ?_ | refine QQ ?_ | (refine al_go ?_; intro b) | (refine QD ?_ <;> (try constructor) <;> intro hb <;> try intro hb1) | fail)
     obtain ⟨b7, rfl⟩ : ∃ q, q = b := ⟨_, rfl⟩
     refine ⟨.box b7 141 [.sl .shared X1, .sl .shared X2] :: .box b5 4 [.s (.bool false)] :: .box b4 141 [.sl .tight [], .sl .tight []] :: .box b3 3 [.i v] :: .box b2 36 [.str nm, .sl .shared SL, .sl .shared TL] :: st, List.Sublist.refl _, fun K' => ?_⟩
     refine (?_ : Tr _ _ _ _ _ (.box b7 141 [.sl .shared X1, .sl .shared X2] :: .box b5 4 [.s (.bool false)] :: .box b4 141 [.sl .tight [], .sl .tight []] :: .box b3 3 [.i v] :: .box b2 36 [.str nm, .sl .shared SL, .sl .shared TL] :: (st ++ K')) _)
     repeat' (with_reducible first | refine Q1 ?_ | refine Qe ?_ | refine QQ ?_ | (refine al_go ?_; intro b) | (refine QD ?_ <;> (try constructor) <;> intro hb <;> try intro hb1) | fail)
     · exact ⟨.box b5 4 [.s (.bool true)] :: .box b4 141 [.sl .shared X1, .sl .shared X2] :: .box b3 3 [.i v] :: .box b2 36 [.str nm, .sl .shared SL, .sl .shared TL] :: st, .cons _ (.refl _), ⟨x, rfl, hvx.out hb, by rw [hX1.out, hX2.out]⟩⟩
     · exact ⟨.box b5 4 [.s (.bool false)] :: .box b4 141 [.sl .tight [], .sl .tight []] :: .box b3 3 [.i v] :: .box b2 36 [.str nm, .sl .shared SL, .sl .shared TL] :: st, .cons _ (.refl _), hnx.out hb, rfl⟩
   · rintro d K1 C' rfl ⟨hj, rfl⟩
     have hVN : VT = none := by
      rw [hver2.out]
      split
      · rename_i h1
        refine List.getElem?_eq_none ?_
        have hl := hLl.out
        refine Nat.le_of_not_lt fun hlt => ?_
        exact hj.out (v - 1).toNat (by omega) (by omega)
      · rfl
     subst hVN
     clear hIt hj hver2
     change Tr _ _ _ _ _ _ _
     repeat' (with_reducible first | refine Q1 ?_ | refine Qe ?_ | refine QQ ?_ | (refine al_go ?_; intro b) | (refine QD ?_ <;> (try constructor) <;> intro hb <;> try intro hb1) | fail)
     all_goals exact retG_mk (rs := [d]) (s2 := .box tb 36 [.str nm, .sl .shared SL, .sl .shared TL] :: .box b5 4 [.s (.bool false)] :: .box b4 141 [.sl .tight [], .sl .tight []] :: .box b3 3 [.i v] :: .box b2 36 [.str nm, .sl .shared SL, .sl .shared TL] :: st) (by first | exact .inl rfl | exact .inr rfl) rfl (List.Perm.refl _) ⟨_, _, rfl, cell_mk (by simp (disch := omega) only [push_cast, simprocAttr, *]; exact rfl) (by repeat (first | exact mm_h | apply mm_t)) (by simp (disch := omega) only [push_cast, simprocAttr, *]; exact rfl) (by (try simp (disch := omega) only [push_cast, simprocAttr, *]); (try exact rfl); done), cell_mk (by simp (disch := omega) only [push_cast, simprocAttr, *]; exact rfl) (by repeat (first | exact mm_h | apply mm_t)) (by simp (disch := omega) only [push_cast, simprocAttr, *]; exact rfl) (by (try simp (disch := omega) only [push_cast, simprocAttr, *]); (try exact rfl); done)⟩ (by (repeat (first | exact List.Sublist.refl _ | with_reducible apply List.Sublist.cons_cons | apply List.Sublist.cons))) (LE.tup (l' := [.agg [.sl .shared [], .sl .shared []], .b false]) ⟨LE.agg (l := [.sl .tight [], .sl .tight []]) ⟨LE.sl _ _, LE.sl _ _, trivial⟩, LE.refl _, trivial⟩) ⟨rfl, rfl⟩
   · rintro c d i K1 C' rfl ⟨x, rfl, hx, rfl⟩
     have hVS := hx.out
     subst hVS
     clear hIt hver2
     repeat' (with_reducible first | refine Q1 ?_ | refine Qe ?_ | refine QQ ?_ | (refine al_go ?_; intro b) | (refine QD ?_ <;> (try constructor) <;> intro hb <;> try intro hb1) | fail)
     all_goals exact retG_mk (rs := [d]) (s2 := .box tb 36 [.str nm, .sl .shared SL, .sl .shared TL] :: .box b5 4 [.s (.bool true)] :: .box b4 141 x.cells :: .box b3 3 [.i v] :: .box b2 36 [.str nm, .sl .shared SL, .sl .shared TL] :: st) (by first | exact .inl rfl | exact .inr rfl) rfl (List.Perm.refl _) ⟨_, _, rfl, cell_mk (by simp (disch := omega) only [push_cast, simprocAttr, *]; exact rfl) (by repeat (first | exact mm_h | apply mm_t)) (by simp (disch := omega) only [push_cast, simprocAttr, *]; exact rfl) (by (try simp (disch := omega) only [push_cast, simprocAttr, *]); (try exact rfl); done), cell_mk (by simp (disch := omega) only [push_cast, simprocAttr, *]; exact rfl) (by repeat (first | exact mm_h | apply mm_t)) (by simp (disch := omega) only [push_cast, simprocAttr, *]; exact rfl) (by (try simp (disch := omega) only [push_cast, simprocAttr, *]); (try exact rfl); done)⟩ (by (repeat (first | exact List.Sublist.refl _ | with_reducible apply List.Sublist.cons_cons | apply List.Sublist.cons))) (LE.refl _) ⟨rfl, rfl⟩
 · rw [decide_eq_false hr] at hRi
   replace hRi := Lib.hid hRi
   have hver2 : VT = none := by rw [hver.out]; simp [hr]
   subst hver2
   repeat' (first | (with_reducible first | refine Q1 ?_ | refine Qe ?_ | refine s_boxP ?_ | refine QQ ?_ | (refine al_go ?_; intro b) | (refine QD ?_ <;> (try constructor) <;> intro hb <;> try intro hb1) | fail) | ((with_reducible apply (ck_ex Tryz.call161)); (focus exact LEL.refl _); (focus exact hVF.out _); (focus exact ⟨0, trivial⟩); intro tb htb) | fail)
   all_goals exact retG_mk (rs := []) (by first | exact .inl rfl | exact .inr rfl) (by first | rfl | assumption) (List.Perm.refl _) ⟨_, _, rfl, cell_mk (by simp (disch := omega) only [push_cast, simprocAttr, *]; exact rfl) (by repeat (first | exact mm_h | apply mm_t)) (by simp (disch := omega) only [push_cast, simprocAttr, *]; exact rfl) (by (try simp (disch := omega) only [push_cast, simprocAttr, *]); (try exact rfl); done), cell_mk (by simp (disch := omega) only [push_cast, simprocAttr, *]; exact rfl) (by repeat (first | exact mm_h | apply mm_t)) (by simp (disch := omega) only [push_cast, simprocAttr, *]; exact rfl) (by (try simp (disch := omega) only [push_cast, simprocAttr, *]); (try exact rfl); done)⟩ (by (repeat (first | exact List.Sublist.refl _ | with_reducible apply List.Sublist.cons_cons | apply List.Sublist.cons))) (LE.tup (l' := [.agg [.sl .shared [], .sl .shared []], .b false]) ⟨LE.agg (l := [.sl .tight [], .sl .tight []]) ⟨LE.sl _ _, LE.sl _ _, trivial⟩, LE.refl _, trivial⟩) ⟨rfl, rfl⟩
def twoT : Tm := ⟨⟨#[116]⟩, [⟨⟨#[97]⟩, 4, false, .mk 2 0 ⟨#[]⟩ []⟩, ⟨⟨#[98]⟩, 4, true, .mk 2 0 ⟨#[]⟩ []⟩], [⟨2, 0, ⟨⟨#[]⟩, 0, false, .mk 0 0 ⟨#[]⟩ []⟩, []⟩, ⟨1, 0, ⟨⟨#[99]⟩, 5, false, .mk 0 0 ⟨#[]⟩ []⟩, []⟩]⟩
theorem twoC : twoT.cells = [.str ⟨#[116]⟩, .sl .shared [[.str ⟨#[97]⟩, .i 4, .b false, .i 2, .i 0, .str ⟨#[]⟩, .sl .shared []], [.str ⟨#[98]⟩, .i 4, .b true, .i 2, .i 0, .str ⟨#[]⟩, .sl .shared []]],
 .sl .shared [[.i 2, .i 0, .str ⟨#[]⟩, .i 0, .b false, .i 0, .i 0, .str ⟨#[]⟩, .sl .shared [], .sl .shared []], [.i 1, .i 0, .str ⟨#[99]⟩, .i 5, .b false, .i 0, .i 0, .str ⟨#[]⟩, .sl .shared [], .sl .shared []]]] := by
 unfold twoT Tm.cells
 simp only [List.map_cons, List.map_nil, Stp.cells, Sl.cells_mk, List.cons_append, List.nil_append]
theorem refInt10F (n : Int) (st : St) : TrF Tryz.prog 132 [.i n] st fun x st' => x = .agg (V.mk 2 n ⟨#[]⟩ []).cells ∧ st' = st := by
 refine QinC 2 73 Tryz.func132 Tryz.ntmps132 ?_
 repeat' (with_reducible first | refine Q1 ?_ | refine Qe ?_ | refine QQ ?_ | (refine al_go ?_; intro b) | (refine QD ?_ <;> (try constructor) <;> intro hb <;> try intro hb1) | fail)
 all_goals exact QretC
theorem twoOk : TOk twoT := by
 refine ⟨by decide, by decide, ?_, ?_⟩
 · intro s hs
   simp only [twoT, List.mem_cons, List.not_mem_nil, or_false] at hs
   rcases hs with rfl | rfl <;> decide
 · intro s hs
   have hb : ∀ k n : Int, (V.mk k n ⟨#[]⟩ []).Bg := fun _ _ => .mk (Nat.zero_le _) (Nat.zero_le _) fun x h => by cases h
   simp only [twoT, List.mem_cons, List.not_mem_nil, or_false] at hs
   rcases hs with rfl | rfl <;> exact ⟨by decide, hb _ _, by decide⟩
theorem twoL : Sch.last twoT = 3 := by kernel_rfl
abbrev sA : List D := [.str ⟨#[97]⟩, .i 4, .b false, .i 2, .i 0, .str ⟨#[]⟩, .sl .shared []]
abbrev sB : List D := [.str ⟨#[98]⟩, .i 4, .b true, .i 2, .i 0, .str ⟨#[]⟩, .sl .shared []]
abbrev sC : List D := [.str ⟨#[99]⟩, .i 5, .b false, .i 0, .i 0, .str ⟨#[]⟩, .sl .shared []]
theorem twoF (st : St) : TrF Tryz.prog 48 [] st fun d st' => d = .agg twoT.cells ∧ st' = st := by
 have hI := refInt10F 0
 rw [V.cells_mk] at hI
 rw [twoC]
 replace hI := Lib.hid hI
 refine QinC 0 36 Tryz.func48 Tryz.ntmps48 ?_
 repeat' (with_reducible first | refine Q1 ?_ | refine Qe ?_ | refine QQ ?_ | (refine al_go ?_; intro b) | (refine QD ?_ <;> (try constructor) <;> intro hb <;> try intro hb1) | fail)
 all_goals exact QretC
end Go.Proofs.YtgcienlfpnpbgaaGreat
end
section
namespace Go.Proofs.YtgcienlfpnpbgaaGreat
attribute [local push_cast] encB encI encC V.cells_mk V.cells_len Nat.mul_one Int.sub_zero List.map_nil beq_self_eq_true bne_self_eq_false List.head?_cons
open Go.RowKit
set_option maxHeartbeats 8000000
set_option maxRecDepth 10000
namespace Reg
def findL (nm : ByteArray) : List Tm → Nat → Int
 | [], _ => -1
 | t :: l, i => if t.name.toList == nm.toList then i else findL nm l (i + 1)
def find (L : List Tm) (nm : ByteArray) : Int := findL nm L 0
theorem findL_drop {L : List Tm} {nm : ByteArray} {i : Nat} {t : Tm} (h : L[i]? = some t) : findL nm (L.drop i) i = if t.name.toList == nm.toList then (i : Int) else findL nm (L.drop (i + 1)) (i + 1) := by
 obtain ⟨h1, rfl⟩ := List.getElem?_eq_some_iff.1 h
 rw [List.drop_eq_getElem_cons h1, findL]
def rightL (L : List Tm) : List Tm → Nat → Bool
 | [], _ => true
 | t :: l, i => decide (i < 6) && (decide (0 < Sch.last t) && ((find L t.name == (i : Int)) && rightL L l (i + 1)))
def right (L : List Tm) : Bool := rightL L L 0
theorem rightL_drop {L l : List Tm} {i : Nat} {t : Tm} (h : l[i]? = some t) : rightL L (l.drop i) i = (decide (i < 6) && (decide (0 < Sch.last t) && ((find L t.name == (i : Int)) && rightL L (l.drop (i + 1)) (i + 1)))) := by
 obtain ⟨h1, rfl⟩ := List.getElem?_eq_some_iff.1 h
 rw [List.drop_eq_getElem_cons h1, rightL]
end Reg
theorem regFind1F (t : Tm) (nm : ByteArray) (st : St) : TrF Tryz.prog 64 [.agg t.cells, .ip [.str nm]] st fun d st' => d = .b (t.name.toList == nm.toList) ∧ st' = st := by
 unfold Tm.cells
 generalize t.slots.map Sl.cells = SL at *
 generalize t.steps.map Stp.cells = TL at *
 generalize t.name = n at *
 refine Qin [3] Tryz.func64 Tryz.results64 Tryz.ntmps64 ?_
 exact WR
theorem regIndexF (L : List Tm) (nm : ByteArray) (hl : L.length ≤ 1000000) (st : St) : TrF Tryz.prog 63 [.sl .shared (L.map Tm.cells), .fn (.func 64) [] [.ip [.str nm]]] st fun d st' => d = .i (Reg.find L nm) ∧ st' = st := by
 unfold Reg.find
 obtain ⟨F, hF⟩ : ∃ F, Reg.findL nm L 0 = F := ⟨_, rfl⟩
 rw [hF]
 have HF : Hid (Reg.findL nm (L.drop 0) 0 = F) := hF
 have hm : (L.map Tm.cells).length = L.length := List.length_map ..
 have hc := hMp Tm.cells L
 clear hF
 generalize L.map Tm.cells = LS at *
 refine Qin [4] Tryz.func63 Tryz.results63 Tryz.ntmps63 ?_
 repeat' (with_reducible first | refine Q1 ?_ | refine Qe ?_ | refine QQ ?_ | (refine al_go ?_; intro b) | (refine QD ?_ <;> (try constructor) <;> intro hb <;> try intro hb1) | fail)
 refine tr_loopd (ι := Nat) (fun i A st' => i ≤ L.length ∧ Hid (Reg.findL nm (L.drop i) i = F) ∧ A.df = [] ∧ A.e 0 = .sl .shared LS ∧ A.e 1 = .fn (.func 64) [] [.ip [.str nm]] ∧ A.e 7 = .i L.length ∧ A.e 8 = .i i ∧ st = st') (fun i => L.length - i) 0 ⟨Nat.zero_le _, HF, Qf, Qf, Qf, Qf, Qf, rfl⟩ ?_
 rintro i A st' ⟨hi, HT, hdf, e0, e1, e7, e8, rfl⟩
 clear HF
 by_cases hlt : i < L.length
 · obtain ⟨t, ht⟩ := gEx hlt
   have h1 := hc.out i t ht
   have HE := HT.out
   rw [Reg.findL_drop ht] at HE
   have hG := regFind1F t nm
   clear HT ht
   generalize (t.name.toList == nm.toList) = q at *
   unfold Tm.cells at h1 hG
   generalize t.slots.map Sl.cells = SL at *
   generalize t.steps.map Stp.cells = TL at *
   replace hG := Lib.hid hG
   cases q with
   | true =>
    rw [if_pos rfl] at HE
    subst HE
    exact WR
   | false =>
    rw [if_neg Bool.false_ne_true] at HE
    replace HE := Lib.hid HE
    repeat' (with_reducible first | refine Q1 ?_ | refine Qe ?_ | refine QQ ?_ | (refine al_go ?_; intro b) | (refine QD ?_ <;> (try constructor) <;> intro hb <;> try intro hb1) | fail)
    refine ⟨i + 1, st, (by (repeat (first | exact List.Sublist.refl _ | apply List.Sublist.cons))), ⟨hlt, HE, ?_, ?_, ?_, ?_, ?_, rfl⟩, by omega⟩
    all_goals exact Qf
 · have HE := HT.out
   rw [List.drop_of_length_le (by omega), Reg.findL] at HE
   subst HE
   clear HT
   exact WR
theorem regFindF (L : List Tm) (nm : ByteArray) (hl : L.length ≤ 1000000) (st : St) : TrF Tryz.prog 21 [.sl .shared (L.map Tm.cells), .str nm] st fun d st' => d = .i (Reg.find L nm) ∧ st' = st := by
 have hI := regIndexF L nm hl
 generalize Reg.find L nm = q at *
 generalize L.map Tm.cells = LS at *
 replace hI := Lib.hid hI
 refine Qin [4] Tryz.func21 Tryz.results21 Tryz.ntmps21 ?_
 exact WR
theorem regRightF (L : List Tm) (hL : ∀ t ∈ L, TOk t) (hl : L.length ≤ 1000000) (st : St) : TrF Tryz.prog 16 [.sl .shared (L.map Tm.cells)] st fun d st' => d = .b (Reg.right L) ∧ st' = st := by
 unfold Reg.right
 obtain ⟨F, hF⟩ : ∃ F, Reg.rightL L L 0 = F := ⟨_, rfl⟩
 rw [hF]
 have HF : Hid (Reg.rightL L (L.drop 0) 0 = F) := hF
 have hm : (L.map Tm.cells).length = L.length := List.length_map ..
 have hc := hMp Tm.cells L
 have hFi := Lib.hid fun (nm : ByteArray) => regFindF L nm hl
 have hL2 := Lib.hid hL
 clear hF hL
 obtain ⟨LS, hLS⟩ : ∃ LS, L.map Tm.cells = LS := ⟨_, rfl⟩
 rw [hLS] at hm hc hFi ⊢
 clear hLS
 refine Qin [2] Tryz.func16 Tryz.results16 Tryz.ntmps16 ?_
 repeat' (with_reducible first | refine Q1 ?_ | refine Qe ?_ | refine QQ ?_ | (refine al_go ?_; intro b) | (refine QD ?_ <;> (try constructor) <;> intro hb <;> try intro hb1) | fail)
 refine tr_loopd (ι := Nat) (fun i A st' => i ≤ L.length ∧ Hid (Reg.rightL L (L.drop i) i = F) ∧ A.df = [] ∧ A.e 0 = .sl .shared LS ∧ A.e 5 = .sl .shared LS ∧ A.e 6 = .i L.length ∧ A.e 7 = .i i ∧ st = st') (fun i => L.length - i) 0 ⟨Nat.zero_le _, HF, Qf, Qf, Qf, Qf, Qf, rfl⟩ ?_
 rintro i A st' ⟨hi, HT, hdf, e0, e5, e6, e7, rfl⟩
 clear HF
 by_cases hlt : i < L.length
 · obtain ⟨t, ht⟩ := gEx hlt
   have h1 := hc.out i t ht
   have HE := HT.out
   rw [Reg.rightL_drop ht] at HE
   have hR := schRightF t (hL2.out t (List.mem_of_getElem? ht))
   have hG := hFi.out t.name
   clear HT ht
   obtain ⟨G, hGG⟩ : ∃ G, Reg.rightL L (L.drop (i + 1)) (i + 1) = G := ⟨_, rfl⟩
   rw [hGG] at HE
   replace hGG := Lib.hid hGG
   obtain ⟨q2, hq2⟩ : ∃ q, decide (0 < Sch.last t) = q := ⟨_, rfl⟩
   rw [hq2] at HE hR
   generalize Reg.find L t.name = fi at *
   clear hq2
   unfold Tm.cells at h1 hR
   generalize t.slots.map Sl.cells = SL at *
   generalize t.steps.map Stp.cells = TL at *
   generalize t.name = nm at *
   replace hR := Lib.hid hR
   replace hG := Lib.hid hG
   by_cases hi6 : i < 6
   · rw [decide_eq_true hi6, Bool.true_and] at HE
     cases q2 with
     | false =>
      rw [Bool.false_and] at HE
      subst HE
      exact WR
     | true =>
      rw [Bool.true_and] at HE
      by_cases hf : fi = (i : Int)
      · rw [beq_iff_eq.2 hf, Bool.true_and] at HE
        subst hf
        replace HE := Lib.hid (hGG.out.trans HE)
        clear hGG
        repeat' (with_reducible first | refine Q1 ?_ | refine Qe ?_ | refine QQ ?_ | (refine al_go ?_; intro b) | (refine QD ?_ <;> (try constructor) <;> intro hb <;> try intro hb1) | fail)
        refine ⟨i + 1, st, (by (repeat (first | exact List.Sublist.refl _ | apply List.Sublist.cons))), ⟨hlt, HE, ?_, ?_, ?_, ?_, ?_, rfl⟩, by omega⟩
        all_goals exact Qf
      · rw [beq_eq_false_iff_ne.2 hf, Bool.false_and] at HE
        subst HE
        exact WR
   · rw [decide_eq_false hi6, Bool.false_and] at HE
     subst HE
     exact WR
 · have HE := HT.out
   rw [List.drop_of_length_le (by omega), Reg.rightL] at HE
   subst HE
   clear HT
   exact WR
end Go.Proofs.YtgcienlfpnpbgaaGreat
end
section
namespace Go.Proofs.YtgcienlfpnpbgaaGreat
set_option linter.unusedSimpArgs false
attribute [local push_cast] encB encI Nat.mul_one
open Go.RowKit
set_option maxRecDepth 10000
set_option maxHeartbeats 4000000
namespace B
def be : Nat → Nat → List UInt8
 | 0, _ => []
 | m + 1, x => UInt8.ofNat (x / 256 ^ m) :: be m x
theorem be_len : ∀ m x, (be m x).length = m
 | 0, _ => rfl
 | m + 1, x => by rw [be, List.length_cons, be_len m x]
end B
theorem u8_wrap (n : Nat) : IntKind.u8.wrap (n : Int) = ((UInt8.ofNat n).toNat : Int) := by
 rw [UInt8.toNat_ofNat']
 simp [IntKind.wrap, IntKind.bits, IntKind.signed]
theorem chop1_map (l : List UInt8) : chop 1 l.length (l.map D.y) = l.map encB := by
 induction l with
 | nil => rfl
 | cons b l ih => rw [List.length_cons, chop, List.map_cons, List.map_cons, List.take_succ_cons, List.take_zero, List.drop_succ_cons, List.drop_zero, ih]; rfl
open B in
theorem binRowF (x m : Nat) (hm : m ≤ 1000) (st : St) : TrF Tryz.prog 159 [.s (.int .u64 x), .i m] st fun d st' => d = .sl .tight ((be m x).map encB) ∧ st' = st := by
 refine Qin [4] Tryz.func159 Tryz.results159 Tryz.ntmps159 ?_
 repeat' (first | (with_reducible first | refine Q1 ?_ | refine Qe ?_ | refine QQ ?_ | (refine al_go ?_; intro b) | (refine QD ?_ <;> (try constructor) <;> intro hb <;> try intro hb1) | fail) | with_reducible refine s_make ?_ | with_reducible refine mk_go ?_ | ((with_reducible apply mk2_go); (focus omega); (focus omega); (focus exact rfl); intro g) | fail)
 refine tr_loop (ι := Nat) (fun q A st' => q ≤ m ∧ A.df = [] ∧ A.e 5 = .ar g 0 m m ∧ A.e 6 = .i ((q : Int) - 1) ∧ A.e 0 = .s (.int .u64 ((x / 256 ^ (m - q) : Nat) : Int)) ∧ ∃ L, st' = .box g 5 L :: st ∧ L.length = m ∧ Hid (L = List.replicate q (.y 0) ++ (be (m - q) x).map D.y)) (fun q => q) m ⟨Nat.le_refl _, rfl, Qf, Qf, by rw [Nat.sub_self, Nat.pow_zero, Nat.div_one]; rfl, _, rfl, List.length_replicate, by rw [Nat.sub_self]; show List.replicate m _ = List.replicate m _ ++ []; rw [List.append_nil]; rfl⟩ ?_
 rintro q A st' ⟨hq, hdf, e5, e6, e0, L, rfl, hL, HL⟩
 cases q with
 | zero =>
  have hLe := HL.out
  rw [Nat.sub_zero, List.replicate_zero, List.nil_append] at hLe
  have hfin := chop1_map (be m x)
  rw [be_len, ← hLe] at hfin
  refine tr_freezeA .tight (.inr rfl) (n := m) (off := 0) (cap := m) [5] 1 (.refl _) (by omega) (by rw [hL]; omega) (fun _ => rfl) (fun t ht => by rw [List.mem_singleton.1 ht]; exact e5) fun A' hdf' h1 h2 => ?_
  have e5' := h1 5 (List.mem_singleton.2 rfl)
  have e6' := h2 6 rfl
  rw [e6] at e6'
  rw [List.drop_zero, hfin] at e5'
  rw [hdf] at hdf'
  clear h1 h2 e5 e6 e0 hLe hfin HL hL hdf
  exact WR
 | succ i =>
  replace e6 : A.e 6 = .i i := by rw [e6]; congr 2; omega
  have hLe := HL.out
  have ht : L.take i = List.replicate i (.y 0) := by
   rw [hLe, List.take_append_of_le_length (by simp), List.take_replicate, Nat.min_eq_left (by omega)]
  have hd : L.drop (i + 1) = (be (m - (i + 1)) x).map D.y := by
   rw [hLe, List.drop_left' (by simp)]
  have hX : ((x / 256 ^ (m - (i + 1)) : Nat) : Int) / 256 = ((x / 256 ^ (m - i) : Nat) : Int) := by
   rw [show m - i = (m - (i + 1)) + 1 by omega, Nat.pow_succ, ← Nat.div_div_eq_div_mul]; rfl
  have hB : be (m - i) x = UInt8.ofNat (x / 256 ^ (m - (i + 1))) :: be (m - (i + 1)) x := by
   rw [show m - i = (m - (i + 1)) + 1 by omega, be]
  have hW := u8_wrap (x / 256 ^ (m - (i + 1)))
  generalize x / 256 ^ (m - (i + 1)) = X at *
  have hNew : Hid (List.replicate i (.y 0) ++ [D.y (UInt8.ofNat X)] ++ (be (m - (i + 1)) x).map D.y = List.replicate i (.y 0) ++ (be (m - i) x).map D.y) := by
   show _ = _
   rw [hB]; simp
  have hTl : ((be (m - (i + 1)) x).map D.y).length = m - (i + 1) := by rw [List.length_map, be_len]
  clear hLe HL hB
  generalize (be (m - (i + 1)) x).map D.y = T at *
  repeat' (with_reducible first | refine Q1 ?_ | refine Qe ?_ | refine QQ ?_ | (refine al_go ?_; intro b) | (refine QD ?_ <;> (try constructor) <;> intro hb <;> try intro hb1) | fail)
  refine ⟨i, ⟨by omega, ?_, ?_, ?_, ?_, _, rfl, by simp; omega, hNew⟩, ?_⟩
  all_goals exact Qf
open B in
theorem binNumF (n : Int) (st : St) : TrF Tryz.prog 134 [.i n] st fun d st' => d = .sl .tight ((if 0 ≤ n ∧ n ≤ 2147483647 then be 4 n.toNat else []).map encB) ∧ st' = st := by
 refine Qin [2] Tryz.func134 Tryz.results134 Tryz.ntmps134 ?_
 by_cases h : 0 ≤ n ∧ n ≤ 2147483647
 · rw [if_pos h]
   obtain ⟨m, rfl⟩ : ∃ m : Nat, n = m := ⟨n.toNat, by omega⟩
   obtain ⟨h1, h2⟩ := h
   have hW : IntKind.u64.wrap (m : Int) = m := by simp [IntKind.wrap, IntKind.bits, IntKind.signed]; omega
   rw [Int.toNat_natCast]
   repeat' (first | (with_reducible first | refine Q1 ?_ | refine Qe ?_ | refine QQ ?_ | (refine al_go ?_; intro b) | (refine QD ?_ <;> (try constructor) <;> intro hb <;> try intro hb1) | fail) | refine Qc Tryz.call159 (binRowF m 4 (by omega) _) ?_ | fail)
   all_goals exact Qret
 · rw [if_neg h]
   exact WR
open B in
theorem binLongF (n : Int) (hn : -9223372036854775808 ≤ n ∧ n ≤ 9223372036854775807) (st : St) : TrF Tryz.prog 94 [.i n] st fun d st' => d = .sl .tight ((be 8 (IntKind.u64.wrap n).toNat).map encB) ∧ st' = st := by
 refine Qin [2] Tryz.func94 Tryz.results94 Tryz.ntmps94 ?_
 obtain ⟨m, hm⟩ : ∃ m : Nat, IntKind.u64.wrap n = m := ⟨(IntKind.u64.wrap n).toNat, by
  have : 0 ≤ IntKind.u64.wrap n := by simp [IntKind.wrap, IntKind.bits, IntKind.signed]; omega
  omega⟩
 rw [hm, Int.toNat_natCast]
 repeat' (first | (with_reducible first | refine Q1 ?_ | refine Qe ?_ | refine QQ ?_ | (refine al_go ?_; intro b) | (refine QD ?_ <;> (try constructor) <;> intro hb <;> try intro hb1) | fail) | refine Qc Tryz.call159 (binRowF m 8 (by omega) _) ?_ | fail)
 all_goals exact Qret
open B in
theorem binByteF (n : Int) (st : St) : TrF Tryz.prog 136 [.i n] st fun d st' => d = .sl .tight ((if 0 ≤ n ∧ n ≤ 255 then [UInt8.ofNat n.toNat] else []).map encB) ∧ st' = st := by
 refine Qin [2] Tryz.func136 Tryz.results136 Tryz.ntmps136 ?_
 by_cases h : 0 ≤ n ∧ n ≤ 255
 · rw [if_pos h]
   obtain ⟨m, rfl⟩ : ∃ m : Nat, n = m := ⟨n.toNat, by omega⟩
   obtain ⟨h1, h2⟩ := h
   have hW := u8_wrap m
   rw [Int.toNat_natCast]
   exact WR
 · rw [if_neg h]
   exact WR
namespace B
def tx (l : List UInt8) : List UInt8 := be 4 l.length ++ l
end B
open B in
theorem binTextF (s : ByteArray) (hs : s.size ≤ 1000000) (st : St) : TrF Tryz.prog 55 [.str s] st fun d st' => d = .sl .shared ((tx s.data.toList).map encB) ∧ st' = st := by
 have hN := binNumF s.size
 rw [if_pos (by omega), Int.toNat_natCast] at hN
 have hN := Lib.hid hN
 have h4 : (be 4 s.size).length = 4 := be_len _ _
 have ht : tx s.data.toList = be 4 s.size ++ s.data.toList := by unfold tx; congr 1
 rw [ht]
 clear ht
 generalize be 4 s.size = hd at *
 refine Qin [2] Tryz.func55 Tryz.results55 Tryz.ntmps55 ?_
 refine tr_room 5 1 4 ?_
 have h4 : (hd.map encB).length = 4 := by rw [List.length_map]; exact h4
 rw [← h4]
 exact WRa
end Go.Proofs.YtgcienlfpnpbgaaGreat
end
section
namespace Go.Proofs.YtgcienlfpnpbgaaGreat
set_option linter.unusedSimpArgs false
attribute [local push_cast] encB encI Nat.mul_one
open Go.RowKit B
set_option maxRecDepth 10000
set_option maxHeartbeats 4000000
structure RS where
 o : Own
 l : List UInt8
 bad : Bool
namespace RS
def cells (s : RS) : List D := [.sl s.o (s.l.map encB), .b s.bad]
attribute [local push_cast] RS.cells
def fail : RS := ⟨.tight, [], true⟩
attribute [local push_cast] RS.fail
def cut (s : RS) (n : Nat) : RS := ⟨.shared, s.l.drop n, s.bad⟩
attribute [local push_cast] RS.cut
end RS
attribute [local push_cast] RS.cells RS.fail RS.cut
abbrev rdR (b : Nat) (s : RS) : Res := .box b 92 s.cells
theorem rdFailF (b : Nat) (s : RS) (st : St) : TrF Tryz.prog 169 [.ptr b 0] (rdR b s :: st) fun x st' => x = .tup [] ∧ st' = rdR b .fail :: st := by
 refine Qin [] Tryz.func169 Tryz.results169 Tryz.ntmps169 ?_
 exact WR
theorem rdBadF (b : Nat) (s : RS) (st : St) : TrF Tryz.prog 80 [.ptr b 0] (rdR b s :: st) fun x st' => x = .b s.bad ∧ st' = rdR b s :: st := by
 refine Qin [2] Tryz.func80 Tryz.results80 Tryz.ntmps80 ?_
 exact WR
def B.num (l : List UInt8) : Nat := l.foldl (fun n c => n * 256 + c.toNat) 0
theorem B.num_snoc (l : List UInt8) (c : UInt8) : num (l ++ [c]) = num l * 256 + c.toNat := by unfold num; rw [List.foldl_append]; rfl
theorem B.fold_lt : ∀ (l : List UInt8) (a k : Nat), a < 256 ^ k → l.foldl (fun n c => n * 256 + c.toNat) a < 256 ^ (k + l.length)
 | [], a, k, h => h
 | c :: l, a, k, h => by
  rw [List.foldl_cons, List.length_cons, show k + (l.length + 1) = (k + 1) + l.length by omega]
  refine B.fold_lt l _ _ ?_
  have := c.toNat_lt
  rw [Nat.pow_succ]; omega
theorem B.num_lt (l : List UInt8) : num l < 256 ^ l.length := by
 have := B.fold_lt l 0 0 (by decide)
 rwa [Nat.zero_add] at this
theorem or_byte (n c : Nat) (hn : n < 72057594037927936) (hc : c < 256) : bits .or .u64 ((n * 256 : Nat) : Int) (c : Int) = ((n * 256 + c : Nat) : Int) := by
 rw [u64_or_nat _ _ (by omega) (by omega)]
 have := Nat.shiftLeft_add_eq_or_of_lt (i := 8) (b := c) (by omega) n
 rw [Nat.shiftLeft_eq] at this
 rw [← this]
theorem binNumberF (o : Own) (l : List UInt8) (hl : l.length ≤ 8) (st : St) : TrF Tryz.prog 172 [.sl o (l.map encB)] st fun x st' => x = .s (.int .u64 (num l : Nat)) ∧ st' = st := by
 refine Qin [2] Tryz.func172 Tryz.results172 Tryz.ntmps172 ?_
 repeat' (with_reducible first | refine Q1 ?_ | refine Qe ?_ | refine QQ ?_ | (refine al_go ?_; intro b) | (refine Qa ?_; intro o' ho') | (refine Qp ?_; intro o' ho') | (refine QD ?_ <;> (try constructor) <;> intro hb <;> try intro hb1) | fail)
 refine tr_loop (ι := Nat) (fun i A st' => i ≤ l.length ∧ A.df = [] ∧ A.e 3 = .s (.int .u64 (num (l.take i) : Nat)) ∧ A.e 6 = .sl o (l.map encB) ∧ A.e 7 = .i l.length ∧ A.e 8 = .i i ∧ st = st') (fun i => l.length - i) 0 ⟨Nat.zero_le _, Qf, Qf, Qf, Qf, Qf, rfl⟩ ?_
 rintro i A st' ⟨hi, hdf, e3, e6, e7, e8, rfl⟩
 by_cases hlt : i < l.length
 · obtain ⟨x, hx⟩ := gEx hlt
   have hs : num (l.take (i + 1)) = num (l.take i) * 256 + x.toNat := by rw [List.take_succ, hx]; exact num_snoc _ _
   have hn : num (l.take i) < 72057594037927936 := by
    have h1 := num_lt (l.take i)
    rw [List.length_take, Nat.min_eq_left hi] at h1
    exact Nat.lt_of_lt_of_le h1 (Nat.pow_le_pow_right (by omega) (show i ≤ 7 by omega))
   have hx2 := x.toNat_lt
   have hor := or_byte (num (l.take i)) x.toNat hn hx2
   have hw1 : IntKind.u64.wrap (((num (l.take i) : Nat) : Int) * 256) = ((num (l.take i) * 256 : Nat) : Int) := by
    simp [IntKind.wrap, IntKind.bits, IntKind.signed]; omega
   have hw2 : IntKind.u64.wrap (x.toNat : Int) = x.toNat := by
    simp [IntKind.wrap, IntKind.bits, IntKind.signed]; omega
   rw [← hs, Int.natCast_mul] at hor
   rw [Int.natCast_mul] at hw1
   replace hor : bits .or .u64 ((num (l.take i) : Int) * 256) (x.toNat : Int) = (num (l.take (i + 1)) : Nat) := hor
   replace hw1 : IntKind.u64.wrap (((num (l.take i) : Nat) : Int) * 256) = ((num (l.take i) : Nat) : Int) * 256 := hw1
   clear hs
   generalize num (l.take i) = q0 at *
   repeat' (with_reducible first | refine Q1 ?_ | refine Qe ?_ | refine QQ ?_ | (refine al_go ?_; intro b) | (refine Qa ?_; intro o' ho') | (refine Qp ?_; intro o' ho') | (refine QD ?_ <;> (try constructor) <;> intro hb <;> try intro hb1) | fail)
   refine ⟨i + 1, ⟨hlt, ?_, ?_, ?_, ?_, ?_, rfl⟩, ?_⟩
   all_goals exact Qf
 · rw [List.take_of_length_le (by omega)] at e3
   exact WRa
theorem rdByte1F (o : Own) (c : UInt8) (l : List UInt8) (st : St) : TrF Tryz.prog 166 [.sl o ((c :: l).map encB)] st fun x st' => x = .tup [.i c.toNat, .b true] ∧ st' = st := by
 have hw := c.toNat_lt
 refine Qin [2,3] Tryz.func166 Tryz.results166 Tryz.ntmps166 ?_
 exact WRa
theorem rdNum1F (o : Own) (l : List UInt8) (hl : l.length = 4) (st : St) : TrF Tryz.prog 179 [.sl o (l.map encB)] st fun x st' => x = .tup [.i (num l), .b (decide ((num l : Int) ≤ 2147483647))] ∧ st' = st := by
 have h1 : num l < 4294967296 := by
  have := num_lt l
  rw [hl] at this; exact this
 have hN := Lib.hid (binNumberF o l (by omega))
 generalize num l = q at *
 clear hl
 refine Qin [2,3] Tryz.func179 Tryz.results179 Tryz.ntmps179 ?_
 repeat' (with_reducible first | refine Q1 ?_ | refine Qe ?_ | refine QQ ?_ | (refine al_go ?_; intro b) | (refine Qa ?_; intro o' ho') | (refine Qp ?_; intro o' ho') | (refine QD ?_ <;> (try constructor) <;> intro hb <;> try intro hb1) | fail)
 all_goals (refine Qret (hd := ?_); (try simp (disch := omega) only [push_cast, simprocAttr, *]); try (first | exact LE.refl _ | exact LE.sl _ _ | ((first | refine LE.tup ?_ | refine LE.agg ?_); (repeat' (first | exact LEL.nil | refine LEL.cons ?_ ?_ | exact LE.refl _ | exact LE.sl _ _ | refine LE.agg ?_)); done) | refine LE.of_eq ?_))
 all_goals exact Qf
theorem rdLong1F (o : Own) (l : List UInt8) (hl : l.length = 8) (st : St) : TrF Tryz.prog 171 [.sl o (l.map encB)] st fun x st' => x = .tup [.i (IntKind.i64.wrap (num l)), .b true] ∧ st' = st := by
 have hN := Lib.hid (binNumberF o l (by omega))
 generalize num l = q at *
 clear hl
 refine Qin [2,3] Tryz.func171 Tryz.results171 Tryz.ntmps171 ?_
 exact WRa
theorem rdText1F (o : Own) (l : List UInt8) (st : St) : TrF Tryz.prog 144 [.sl o (l.map encB)] st fun x st' => x = .tup [.str ⟨l.toArray⟩, .b true] ∧ st' = st := by
 refine Qin [2,3] Tryz.func144 Tryz.results144 Tryz.ntmps144 ?_
 exact WRa
end Go.Proofs.YtgcienlfpnpbgaaGreat
end
section
namespace Go.Proofs.YtgcienlfpnpbgaaGreat
attribute [local push_cast] encB encI RS.cells RS.fail RS.cut Nat.mul_one
open Go.RowKit B
set_option maxHeartbeats 4000000
set_option maxRecDepth 10000
namespace RS
def byte (s : RS) : Int × RS := if s.bad = true then (0, fail) else match s.l with
 | [] => (0, fail)
 | c :: _ => (c.toNat, s.cut 1)
def rnum (s : RS) : Int × RS := if s.bad = true ∨ s.l.length < 4 then (0, fail) else if num (s.l.take 4) ≤ 2147483647 then (num (s.l.take 4), s.cut 4) else (0, fail)
def long (s : RS) : Int × RS := if s.bad = true ∨ s.l.length < 8 then (0, fail) else (IntKind.i64.wrap (num (s.l.take 8)), s.cut 8)
def textN (s : RS) (n : Int) : ByteArray × RS := if s.bad = true ∨ n < 0 ∨ s.l.length < n then (⟨#[]⟩, fail) else (⟨(s.l.take n.toNat).toArray⟩, s.cut n.toNat)
def text (s : RS) : ByteArray × RS := s.rnum.2.textN s.rnum.1
end RS
theorem takeByteF (b : Nat) (s : RS) (st : St) : TrF Tryz.prog 165 [.ptr b 0, .i 1, .fn (.func 166) [] []] (rdR b s :: st) fun x st' => x = .i s.byte.1 ∧ st' = rdR b s.byte.2 :: st := by
 obtain ⟨o, l, bad⟩ := s
 have hB := Lib.hid (rdBadF b ⟨o, l, bad⟩)
 have hF := Lib.hid (rdFailF b ⟨o, l, bad⟩)
 cases bad with
 | true =>
  show TrF _ _ _ _ fun x st' => x = .i 0 ∧ st' = rdR b .fail :: st
  refine Qin [6] Tryz.func165 Tryz.results165 Tryz.ntmps165 ?_
  exact WR
 | false =>
  cases l with
  | nil =>
   show TrF _ _ _ _ fun x st' => x = .i 0 ∧ st' = rdR b .fail :: st
   refine Qin [6] Tryz.func165 Tryz.results165 Tryz.ntmps165 ?_
   exact WR
  | cons c t =>
   show TrF _ _ _ _ fun x st' => x = .i c.toNat ∧ st' = rdR b ⟨.shared, t, false⟩ :: st
   have hlt : ¬ ((t.length : Int) + 1 < 1) := by omega
   have htk : List.take t.length (List.map encB t) = List.map encB t := List.take_of_length_le (by simp)
   refine Qin [6] Tryz.func165 Tryz.results165 Tryz.ntmps165 ?_
   repeat' (first | (with_reducible first | refine Q1 ?_ | refine Qe ?_ | refine QQ ?_ | (refine al_go ?_; intro b) | (refine QD ?_ <;> (try constructor) <;> intro hb <;> try intro hb1) | fail) | refine Qc Tryz.call166 (rdByte1F _ c [] _) ?_ | fail)
   all_goals exact Qret
theorem takeNumF (b : Nat) (o : Own) (l p t : List UInt8) (hl : p ++ t = l) (hp : p.length = 4) (hx : num p ≤ 2147483647) (st : St) : TrF Tryz.prog 165 [.ptr b 0, .i 4, .fn (.func 179) [] []] (rdR b ⟨o, l, false⟩ :: st) fun x st' => x = .i (num p) ∧ st' = rdR b ⟨.shared, t, false⟩ :: st := by
 have hB := Lib.hid (rdBadF b ⟨o, l, false⟩)
 have hC := fun o => rdNum1F o p hp
 have hx : ((num p : Nat) : Int) ≤ 2147483647 := by omega
 have hln : l.length = 4 + t.length := by rw [← hl, List.length_append, hp]
 have hT : List.take 4 (List.map encB l) = List.map encB p := by rw [← List.map_take, ← hl, ← hp, List.take_left]
 have hD : List.drop 4 (List.map encB l) = List.map encB t := by rw [← List.map_drop, ← hl, ← hp, List.drop_left]
 have hTT : List.take t.length (List.map encB t) = List.map encB t := List.take_of_length_le (by simp)
 replace hC := Lib.hid hC
 clear hl
 generalize num p = q at *
 refine Qin [6] Tryz.func165 Tryz.results165 Tryz.ntmps165 ?_
 repeat' (first | (with_reducible first | refine Q1 ?_ | refine Qe ?_ | refine QQ ?_ | (refine al_go ?_; intro b) | (refine Qa ?_; intro o' ho') | (refine Qp ?_; intro o' ho') | (refine QD ?_ <;> (try constructor) <;> intro hb <;> try intro hb1) | fail) | refine Qc Tryz.call179 (hC.out _ _) ?_ | fail)
 all_goals exact Qret
theorem takeLongF (b : Nat) (o : Own) (l p t : List UInt8) (hl : p ++ t = l) (hp : p.length = 8) (st : St) : TrF Tryz.prog 170 [.ptr b 0, .i 8, .fn (.func 171) [] []] (rdR b ⟨o, l, false⟩ :: st) fun x st' => x = .i (IntKind.i64.wrap (num p)) ∧ st' = rdR b ⟨.shared, t, false⟩ :: st := by
 have hB := Lib.hid (rdBadF b ⟨o, l, false⟩)
 have hC := fun o => rdLong1F o p hp
 skip
 have hln : l.length = 8 + t.length := by rw [← hl, List.length_append, hp]
 have hT : List.take 8 (List.map encB l) = List.map encB p := by rw [← List.map_take, ← hl, ← hp, List.take_left]
 have hD : List.drop 8 (List.map encB l) = List.map encB t := by rw [← List.map_drop, ← hl, ← hp, List.drop_left]
 have hTT : List.take t.length (List.map encB t) = List.map encB t := List.take_of_length_le (by simp)
 replace hC := Lib.hid hC
 clear hl
 generalize num p = q at *
 refine Qin [6] Tryz.func170 Tryz.results170 Tryz.ntmps170 ?_
 repeat' (first | (with_reducible first | refine Q1 ?_ | refine Qe ?_ | refine QQ ?_ | (refine al_go ?_; intro b) | (refine Qa ?_; intro o' ho') | (refine Qp ?_; intro o' ho') | (refine QD ?_ <;> (try constructor) <;> intro hb <;> try intro hb1) | fail) | refine Qc Tryz.call171 (hC.out _ _) ?_ | fail)
 all_goals exact Qret
theorem takeTextF (b : Nat) (o : Own) (l p t : List UInt8) (n : Nat) (hl : p ++ t = l) (hp : p.length = n) (st : St) : TrF Tryz.prog 143 [.ptr b 0, .i n, .fn (.func 144) [] []] (rdR b ⟨o, l, false⟩ :: st) fun x st' => x = .str ⟨p.toArray⟩ ∧ st' = rdR b ⟨.shared, t, false⟩ :: st := by
 have hB := Lib.hid (rdBadF b ⟨o, l, false⟩)
 have hC := Lib.hid fun o => rdText1F o p
 have hln : l.length = n + t.length := by rw [← hl, List.length_append, hp]
 have hT : List.take n (List.map encB l) = List.map encB p := by rw [← List.map_take, ← hl, ← hp, List.take_left]
 have hD : List.drop n (List.map encB l) = List.map encB t := by rw [← List.map_drop, ← hl, ← hp, List.drop_left]
 have hTT : List.take t.length (List.map encB t) = List.map encB t := List.take_of_length_le (by simp)
 clear hl
 refine Qin [6] Tryz.func143 Tryz.results143 Tryz.ntmps143 ?_
 repeat' (first | (with_reducible first | refine Q1 ?_ | refine Qe ?_ | refine QQ ?_ | (refine al_go ?_; intro b) | (refine Qa ?_; intro o' ho') | (refine Qp ?_; intro o' ho') | (refine QD ?_ <;> (try constructor) <;> intro hb <;> try intro hb1) | fail) | refine Qc Tryz.call144 (hC.out _ _) ?_ | fail)
 all_goals exact Qret
theorem takeNum0F (b : Nat) (s : RS) (h : s.bad = true ∨ (s.l.length : Int) < 4) (st : St) : TrF Tryz.prog 165 [.ptr b 0, .i 4, .fn (.func 179) [] []] (rdR b s :: st) fun x st' => x = .i 0 ∧ st' = rdR b .fail :: st := by
 obtain ⟨o, l, bad⟩ := s
 have hB := Lib.hid (rdBadF b ⟨o, l, bad⟩)
 have hF := Lib.hid (rdFailF b ⟨o, l, bad⟩)
 cases bad with
 | true =>
  clear h
  refine Qin [6] Tryz.func165 Tryz.results165 Tryz.ntmps165 ?_
  exact WR
 | false =>
  have h := h.resolve_left Bool.false_ne_true
  dsimp only at h
  refine Qin [6] Tryz.func165 Tryz.results165 Tryz.ntmps165 ?_
  exact WR
theorem takeLong0F (b : Nat) (s : RS) (h : s.bad = true ∨ (s.l.length : Int) < 8) (st : St) : TrF Tryz.prog 170 [.ptr b 0, .i 8, .fn (.func 171) [] []] (rdR b s :: st) fun x st' => x = .i 0 ∧ st' = rdR b .fail :: st := by
 obtain ⟨o, l, bad⟩ := s
 have hB := Lib.hid (rdBadF b ⟨o, l, bad⟩)
 have hF := Lib.hid (rdFailF b ⟨o, l, bad⟩)
 cases bad with
 | true =>
  clear h
  refine Qin [6] Tryz.func170 Tryz.results170 Tryz.ntmps170 ?_
  exact WR
 | false =>
  have h := h.resolve_left Bool.false_ne_true
  dsimp only at h
  refine Qin [6] Tryz.func170 Tryz.results170 Tryz.ntmps170 ?_
  exact WR
theorem takeText0F (b : Nat) (s : RS) (n : Int) (h : s.bad = true ∨ n < 0 ∨ (s.l.length : Int) < n) (st : St) : TrF Tryz.prog 143 [.ptr b 0, .i n, .fn (.func 144) [] []] (rdR b s :: st) fun x st' => x = .str ⟨#[]⟩ ∧ st' = rdR b .fail :: st := by
 obtain ⟨o, l, bad⟩ := s
 have hB := Lib.hid (rdBadF b ⟨o, l, bad⟩)
 have hF := Lib.hid (rdFailF b ⟨o, l, bad⟩)
 cases bad with
 | true =>
  clear h
  refine Qin [6] Tryz.func143 Tryz.results143 Tryz.ntmps143 ?_
  exact WR
 | false =>
  have h := h.resolve_left Bool.false_ne_true
  dsimp only at h
  refine Qin [6] Tryz.func143 Tryz.results143 Tryz.ntmps143 ?_
  exact WR
theorem takeNum1F (b : Nat) (o : Own) (l p t : List UInt8) (hl : p ++ t = l) (hp : p.length = 4) (hx : ¬ num p ≤ 2147483647) (st : St) : TrF Tryz.prog 165 [.ptr b 0, .i 4, .fn (.func 179) [] []] (rdR b ⟨o, l, false⟩ :: st) fun x st' => x = .i 0 ∧ st' = rdR b .fail :: st := by
 have hB := Lib.hid (rdBadF b ⟨o, l, false⟩)
 have hF := Lib.hid (rdFailF b ⟨o, l, false⟩)
 have hC := Lib.hid fun o => rdNum1F o p hp
 have hx : ¬ ((num p : Nat) : Int) ≤ 2147483647 := by omega
 have hln : l.length = 4 + t.length := by rw [← hl, List.length_append, hp]
 have hT : List.take 4 (List.map encB l) = List.map encB p := by rw [← List.map_take, ← hl, ← hp, List.take_left]
 clear hl
 generalize num p = q at *
 refine Qin [6] Tryz.func165 Tryz.results165 Tryz.ntmps165 ?_
 repeat' (first | (with_reducible first | refine Q1 ?_ | refine Qe ?_ | refine QQ ?_ | (refine al_go ?_; intro b) | (refine Qa ?_; intro o' ho') | (refine Qp ?_; intro o' ho') | (refine QD ?_ <;> (try constructor) <;> intro hb <;> try intro hb1) | fail) | refine Qc Tryz.call179 (hC.out _ _) ?_ | fail)
 all_goals exact Qret
end Go.Proofs.YtgcienlfpnpbgaaGreat
end
section
namespace Go.Proofs.YtgcienlfpnpbgaaGreat
attribute [local push_cast] encB encI V.cells_mk V.cells_take V.cells_len Nat.mul_one
open Go.RowKit B
set_option maxHeartbeats 4000000
set_option maxRecDepth 10000
namespace V
mutual
def put : V → List UInt8
 | .mk k n s l => UInt8.ofNat k.toNat :: (if k = 1 then [UInt8.ofNat n.toNat] else if k = 2 then be 8 (IntKind.u64.wrap n).toNat else if k = 3 ∨ k = 4 then tx s.data.toList else if k = 5 then be 4 l.length ++ putL l else [])
def putL : List V → List UInt8
 | [] => []
 | x :: l => x.put ++ putL l
end
theorem sgl_facts {k n : Int} {s : ByteArray} {len : Nat} (h : sgl k n s len = true) : 0 ≤ k ∧ k ≤ 5 ∧ (k ≠ 2 → 0 ≤ n ∧ n ≤ 1) ∧ s.size ≤ 200 ∧ (k ≠ 3 ∧ k ≠ 4 → s.size = 0) ∧ (k = 5 → len ≤ 20) := by
 unfold sgl at h
 by_cases k0 : k = 0
 · subst k0; simp at h; obtain ⟨h1, h2⟩ := h; subst h2; simp; omega
 by_cases k1 : k = 1
 · subst k1; simp at h; obtain ⟨h1, h2⟩ := h; subst h2; simp; omega
 by_cases k2 : k = 2
 · subst k2; simp at h; subst h; simp
 by_cases k3 : k = 3
 · subst k3
   simp at h
   have := h.2
   unfold isName at this
   simp at this
   simp; omega
 by_cases k4 : k = 4
 · subst k4; simp at h; simp; omega
 by_cases k5 : k = 5
 · subst k5; simp at h; obtain ⟨h1, h2, h3⟩ := h; subst h2; simp; omega
 simp [k0, k1, k2, k3, k4, k5] at h
theorem parts_facts {k n : Int} {s : ByteArray} {l : List V} (h : (V.mk k n s l).parts = true) : sgl k n s l.length = true ∧ (k = 5 ∨ l = []) ∧ ∀ x ∈ l, x.parts = true := by
 rw [parts] at h
 simp only [Bool.and_eq_true, Bool.or_eq_true, decide_eq_true_eq] at h
 obtain ⟨⟨h1, h2⟩, h3⟩ := h
 refine ⟨h1, h2.imp id List.eq_nil_of_length_eq_zero, ?_⟩
 rw [partsL_all] at h3
 exact List.all_eq_true.1 h3
mutual
theorem put_le : ∀ v : V, v.parts = true → v.put.length ≤ 205 * v.nodes
 | .mk k n s l, h => by
  obtain ⟨h1, h2, h3⟩ := parts_facts h
  obtain ⟨f1, f2, f3, f4, f5, f6⟩ := sgl_facts h1
  have h4 := putL_le l h3
  have h5 : (tx s.data.toList).length = 4 + s.size := by unfold tx; rw [List.length_append, be_len]; simp
  rw [put, nodes, List.length_cons]
  split
  · simp; omega
  split
  · rw [be_len]; omega
  split
  · rw [h5]; omega
  split
  · rw [List.length_append, be_len]; omega
  · simp; omega
theorem putL_le : ∀ l : List V, (∀ x ∈ l, x.parts = true) → (putL l).length ≤ 205 * nodesL l
 | [], _ => by simp [putL]
 | x :: l, h => by
  have := put_le x (h x (List.mem_cons_self ..))
  have := putL_le l fun y hy => h y (List.mem_cons_of_mem _ hy)
  rw [putL, nodesL, List.length_append]; omega
end
theorem putL_app (a b : List V) : putL (a ++ b) = putL a ++ putL b := by
 induction a with
 | nil => rw [List.nil_append, putL, List.nil_append]
 | cons x a ih => rw [List.cons_append, putL, putL, ih, List.append_assoc]
theorem right_in {k n : Int} {s : ByteArray} {l : List V} (h : (V.mk k n s l).right = true) {x : V} (hx : x ∈ l) : x.right = true := by
 rw [right_iff] at h ⊢
 obtain ⟨h1, h2, h3⟩ := h
 refine ⟨(parts_facts h1).2.2 x hx, ?_, ?_⟩
 · have : x.deep ≤ deepL l := by
    clear h1 h2 h3
    induction l with
    | nil => cases hx
    | cons y l ih =>
     rw [deepL]
     rcases List.mem_cons.1 hx with rfl | hx
     · omega
     · have := ih hx; omega
   rw [deep] at h2
   split at h2
   · omega
   · rename_i hc
     have : l ≠ [] := List.ne_nil_of_mem hx
     exact absurd (.inr this) hc
 · have := nodes_lt (k := k) (n := n) (s := s) hx
   omega
end V
end Go.Proofs.YtgcienlfpnpbgaaGreat
end
section
namespace Go.Proofs.YtgcienlfpnpbgaaGreat
set_option linter.unusedSimpArgs false
attribute [local push_cast] encB encI V.cells_mk V.cells_take V.cells_len Nat.mul_one
open Go.RowKit B
set_option maxRecDepth 10000
set_option maxHeartbeats 4000000
namespace V
def bin (v : V) : List UInt8 := if v.right = true then v.put else []
end V
open V in
theorem binValueF : ∀ (N : Nat) (v : V), v.nodes ≤ N → v.nodes ≤ 4611686018427387904 → v.Ok → ∀ st, TrF Tryz.prog 138 [.agg v.cells] st fun d st' => ∃ o', o' ≠ .shared ∧ d = .sl o' (v.bin.map encB) ∧ st' = .room o' 5 1 (v.bin.map encB).length :: st
 | 0, v, h, _, _ => by have := v.nodes_pos; omega
 | N + 1, .mk k n s l, hN, hB, hok => by
  intro st
  obtain ⟨-, hkn, -, -, hall⟩ := hok
  have hR := Lib.hid (valRightF (.mk k n s l) hB)
  have IH := Lib.hid fun x (hx : x ∈ l) => binValueF N x (by have := nodes_lt (k := k) (n := n) (s := s) hx; omega) (by have := nodes_lt (k := k) (n := n) (s := s) hx; omega) (hall x hx)
  clear hN hB hall
  unfold V.bin
  by_cases hr : (V.mk k n s l).right = true
  case neg =>
   rw [if_neg hr]
   have hr' : (V.mk k n s l).right = false := by simpa using hr
   rw [V.cells_mk, hr'] at hR
   rw [V.cells_mk]
   clear hr IH
   refine Qin [2] Tryz.func138 Tryz.results138 Tryz.ntmps138 ?_
   refine tr_room 5 1 0 ?_
   repeat' (with_reducible first | refine Q1 ?_ | refine Qe ?_ | refine QQ ?_ | (refine al_go ?_; intro b) | (refine Qa ?_; intro o' ho') | (refine Qp ?_; intro o' ho') | (refine QD ?_ <;> (try constructor) <;> intro hb <;> try intro hb1) | fail)
   all_goals ((apply ret_own (by simp) (by first | rfl | assumption)); (focus ((try simp (disch := omega) only [push_cast, simprocAttr, *]); (try exact rfl); done)); (focus (first | assumption | (intro h; cases h))); (focus ((repeat (first | exact List.Sublist.refl _ | apply List.Sublist.cons)); done)))
   all_goals rfl
  rw [if_pos hr]
  have hrin := Lib.hid fun x (hx : x ∈ l) => right_in hr hx
  obtain ⟨hpa, -, hnn⟩ := right_iff.1 hr
  obtain ⟨h1, h2, h3⟩ := parts_facts hpa
  obtain ⟨f1, f2, f3, f4, f5, f6⟩ := sgl_facts h1
  have hpl := putL_le l h3
  rw [nodes] at hnn
  rw [V.cells_mk, hr] at hR
  rw [V.cells_mk]
  have hput : (V.mk k n s l).put = UInt8.ofNat k.toNat :: (if k = 1 then [UInt8.ofNat n.toNat] else if k = 2 then be 8 (IntKind.u64.wrap n).toNat else if k = 3 ∨ k = 4 then tx s.data.toList else if k = 5 then be 4 l.length ++ putL l else []) := put.eq_1 ..
  rw [hput]
  have hKb := binByteF k
  rw [if_pos (by omega)] at hKb
  replace hKb := Lib.hid hKb
  have hT := Lib.hid (binTextF s (by omega))
  have hT5 : (tx s.data.toList).length = 4 + s.size := by unfold tx; rw [List.length_append, be_len]; simp
  clear hput hr h1 h3 hpa
  refine Qin [2] Tryz.func138 Tryz.results138 Tryz.ntmps138 ?_
  refine tr_room 5 1 1 ?_
  by_cases k1 : k = 1
  · subst k1
    obtain ⟨m, rfl⟩ : ∃ m : Nat, n = m := ⟨n.toNat, by have := f3 (by omega); omega⟩
    have hW := u8_wrap m
    clear f3 f5 f6 hT IH hrin
    rw [if_pos rfl, Int.toNat_natCast]
    repeat' (with_reducible first | refine Q1 ?_ | refine Qe ?_ | refine QQ ?_ | (refine al_go ?_; intro b) | (refine Qa ?_; intro o' ho') | (refine Qp ?_; intro o' ho') | (refine QD ?_ <;> (try constructor) <;> intro hb <;> try intro hb1) | fail)
    all_goals ((apply ret_own (by simp) (by first | rfl | assumption)); (focus ((try simp (disch := omega) only [push_cast, simprocAttr, *]); (try exact rfl); done)); (focus (first | assumption | (intro h; cases h))); (focus ((repeat (first | exact List.Sublist.refl _ | apply List.Sublist.cons)); done)))
    all_goals rfl
  rw [if_neg k1]
  have b1 : (k == 1) = false := by simpa using k1
  by_cases k2 : k = 2
  · subst k2
    have hL := Lib.hid (binLongF n hkn)
    have h8 := be_len 8 (IntKind.u64.wrap n).toNat
    clear f3 f5 f6 hT IH hrin
    rw [if_pos rfl]
    generalize be 8 (IntKind.u64.wrap n).toNat = bs at *
    repeat' (with_reducible first | refine Q1 ?_ | refine Qe ?_ | refine QQ ?_ | (refine al_go ?_; intro b) | (refine Qa ?_; intro o' ho') | (refine Qp ?_; intro o' ho') | (refine QD ?_ <;> (try constructor) <;> intro hb <;> try intro hb1) | fail)
    all_goals ((apply ret_own (by simp) (by first | rfl | assumption)); (focus ((try simp (disch := omega) only [push_cast, simprocAttr, *]); (try exact rfl); done)); (focus (first | assumption | (intro h; cases h))); (focus ((repeat (first | exact List.Sublist.refl _ | apply List.Sublist.cons)); done)))
    all_goals rfl
  rw [if_neg k2]
  have b2 : (k == 2) = false := by simpa using k2
  by_cases k3 : k = 3 ∨ k = 4
  · rw [if_pos k3]
    have b34 : k = 3 ∨ k = 4 := k3
    clear f3 f5 f6 IH hrin h2
    generalize tx s.data.toList = bs at *
    rcases k3 with rfl | rfl
    · repeat' (with_reducible first | refine Q1 ?_ | refine Qe ?_ | refine QQ ?_ | (refine al_go ?_; intro b) | (refine Qa ?_; intro o' ho') | (refine Qp ?_; intro o' ho') | (refine QD ?_ <;> (try constructor) <;> intro hb <;> try intro hb1) | fail)
      all_goals ((apply ret_own (by simp) (by first | rfl | assumption)); (focus ((try simp (disch := omega) only [push_cast, simprocAttr, *]); (try exact rfl); done)); (focus (first | assumption | (intro h; cases h))); (focus ((repeat (first | exact List.Sublist.refl _ | apply List.Sublist.cons)); done)))
      all_goals rfl
    · repeat' (with_reducible first | refine Q1 ?_ | refine Qe ?_ | refine QQ ?_ | (refine al_go ?_; intro b) | (refine Qa ?_; intro o' ho') | (refine Qp ?_; intro o' ho') | (refine QD ?_ <;> (try constructor) <;> intro hb <;> try intro hb1) | fail)
      all_goals ((apply ret_own (by simp) (by first | rfl | assumption)); (focus ((try simp (disch := omega) only [push_cast, simprocAttr, *]); (try exact rfl); done)); (focus (first | assumption | (intro h; cases h))); (focus ((repeat (first | exact List.Sublist.refl _ | apply List.Sublist.cons)); done)))
      all_goals rfl
  rw [if_neg k3]
  have b3 : (k == 3) = false := by simp; omega
  have b4 : (k == 4) = false := by simp; omega
  by_cases k5 : k = 5
  case neg =>
   rw [if_neg k5]
   have b5 : (k == 5) = false := by simpa using k5
   clear f3 f5 f6 hT IH hrin
   repeat' (with_reducible first | refine Q1 ?_ | refine Qe ?_ | refine QQ ?_ | (refine al_go ?_; intro b) | (refine Qa ?_; intro o' ho') | (refine Qp ?_; intro o' ho') | (refine QD ?_ <;> (try constructor) <;> intro hb <;> try intro hb1) | fail)
   all_goals ((apply ret_own (by simp) (by first | rfl | assumption)); (focus ((try simp (disch := omega) only [push_cast, simprocAttr, *]); (try exact rfl); done)); (focus (first | assumption | (intro h; cases h))); (focus ((repeat (first | exact List.Sublist.refl _ | apply List.Sublist.cons)); done)))
   all_goals rfl
  subst k5
  rw [if_pos rfl]
  have hN := binNumF l.length
  have hl20 := f6 rfl
  rw [if_pos (by omega), Int.toNat_natCast] at hN
  replace hN := Lib.hid hN
  have h4 := be_len 4 l.length
  clear f3 f5 f6 hT h2 k1 k2 k3 b1 b2 b3 b4
  generalize be 4 l.length = hd at *
  repeat' (with_reducible first | refine Q1 ?_ | refine Qe ?_ | refine QQ ?_ | (refine al_go ?_; intro b) | (refine Qa ?_; intro o' ho') | (refine Qp ?_; intro o' ho') | (refine QD ?_ <;> (try constructor) <;> intro hb <;> try intro hb1) | fail)
  clear hN hKb hR hT5
  refine tr_loopd (ι := Nat) (fun i A st' => i ≤ l.length ∧ A.df = [] ∧ A.e 46 = .sl .shared (l.map V.cells) ∧ A.e 47 = .i l.length ∧ A.e 48 = .i i ∧ ∃ o', o' ≠ .shared ∧ ∃ B : List UInt8, Hid (B = UInt8.ofNat (Int.toNat 5) :: (hd ++ putL (l.take i))) ∧ B.length = 5 + (putL (l.take i)).length ∧ A.e 3 = .sl o' (B.map encB) ∧ st' = .room o' 5 1 (B.map encB).length :: st) (fun i => l.length - i) 0 ⟨Nat.zero_le _, Qf, Qf, Qf, Qf, _, by assumption, UInt8.ofNat (Int.toNat 5) :: hd, by show _ = _; simp [putL], by simp [putL]; omega, Qf, rfl⟩ ?_
  clear o' ho' h4
  rintro i A st' ⟨hi, hdf, e46, e47, e48, o', ho', B, HB, hBl, e3, rfl⟩
  by_cases hlt : i < l.length
  · obtain ⟨x, hx⟩ := gEx hlt
    have ih := IH.out x (mem_of hx)
    have hxr := hrin.out x (mem_of hx)
    unfold V.bin at ih
    rw [if_pos hxr] at ih
    have htk : putL (l.take (i + 1)) = putL (l.take i) ++ x.put := by
     rw [List.take_succ, hx, putL_app]; simp [putL]
    have hln : (putL (l.take i)).length + x.put.length ≤ (putL l).length := by
     have := congrArg List.length (congrArg putL (List.take_append_drop (i + 1) l))
     rw [putL_app, htk, List.length_append, List.length_append] at this
     omega
    have HB2 : Hid (B ++ x.put = UInt8.ofNat (Int.toNat 5) :: (hd ++ putL (l.take (i + 1)))) := by
     show _ = _
     rw [htk, HB.out]; simp
    have hBl2 : (B ++ x.put).length = 5 + (putL (l.take (i + 1))).length := by
     rw [htk, List.length_append, List.length_append]; omega
    clear IH hrin HB htk hxr
    cases x with
    | mk k1 n1 s1 l1 =>
     rw [V.cells_mk] at ih
     replace ih := Lib.hid ih
     generalize (V.mk k1 n1 s1 l1).put = bs at *
     obtain ⟨q1, hq1⟩ : ∃ q, (putL (l.take (i + 1))).length = q := ⟨_, rfl⟩
     rw [hq1] at hBl2
     replace hq1 := Lib.hid hq1
     generalize (putL (l.take i)).length = q0 at *
     repeat' (first | (with_reducible first | refine Q1 ?_ | refine Qe ?_ | refine QQ ?_ | (refine al_go ?_; intro b) | (refine Qa ?_; intro o' ho') | (refine Qp ?_; intro o' ho') | (refine QD ?_ <;> (try constructor) <;> intro hb <;> try intro hb1) | fail) | (refine QE Tryz.call138 (ih.out _) ?_; intro o1 ho1) | fail)
     refine ⟨i + 1, .room o' 5 1 ((B ++ bs).map encB).length :: st, ?_, ⟨hlt, ?_, ?_, ?_, ?_, o', ho', B ++ bs, HB2, hBl2.trans (by rw [hq1.out]), ?_, rfl⟩, ?_⟩
     · rw [List.map_append]; (repeat (first | exact List.Sublist.refl _ | apply List.Sublist.cons))
     all_goals exact Qf
  · have hBe : B = UInt8.ofNat (Int.toNat 5) :: (hd ++ putL l) := by
     rw [HB.out, List.take_of_length_le (by omega)]
    rw [← hBe]
    clear hBe HB IH hrin
    repeat' (with_reducible first | refine Q1 ?_ | refine Qe ?_ | refine QQ ?_ | (refine al_go ?_; intro b) | (refine Qa ?_; intro o' ho') | (refine Qp ?_; intro o' ho') | (refine QD ?_ <;> (try constructor) <;> intro hb <;> try intro hb1) | fail)
    all_goals ((apply ret_own (by simp) (by first | rfl | assumption)); (focus ((try simp (disch := omega) only [push_cast, simprocAttr, *]); (try exact rfl); done)); (focus (first | assumption | (intro h; cases h))); (focus ((repeat (first | exact List.Sublist.refl _ | apply List.Sublist.cons)); done)))
    all_goals rfl
end Go.Proofs.YtgcienlfpnpbgaaGreat
end
section
namespace Go.Proofs.YtgcienlfpnpbgaaGreat
attribute [local push_cast] encB encI V.cells_mk V.cells_take V.cells_len Nat.mul_one
open Go.RowKit B
set_option maxHeartbeats 4000000
set_option maxRecDepth 10000
theorem rdByteF (b : Nat) (s : RS) (st : St) : TrF Tryz.prog 116 [.ptr b 0] (rdR b s :: st) fun x st' => x = .i s.byte.1 ∧ st' = rdR b s.byte.2 :: st := by
 have hC := Lib.hid (takeByteF b s)
 generalize s.byte = q at *
 refine Qin [2] Tryz.func116 Tryz.results116 Tryz.ntmps116 ?_
 exact WR
theorem take_split (l : List UInt8) (n : Nat) (h : n ≤ l.length) : l.take n ++ l.drop n = l ∧ (l.take n).length = n := ⟨List.take_append_drop n l, by rw [List.length_take]; omega⟩
theorem rdNumF (b : Nat) (s : RS) (st : St) : TrF Tryz.prog 142 [.ptr b 0] (rdR b s :: st) fun x st' => x = .i s.rnum.1 ∧ st' = rdR b s.rnum.2 :: st := by
 have hC : ∀ st, TrF Tryz.prog 165 [.ptr b 0, .i 4, .fn (.func 179) [] []] (rdR b s :: st) fun x st' => x = .i s.rnum.1 ∧ st' = rdR b s.rnum.2 :: st := by
  unfold RS.rnum
  by_cases h : s.bad = true ∨ s.l.length < 4
  · rw [if_pos h]
    exact takeNum0F b s (h.imp id fun h => by omega)
  · rw [if_neg h]
    obtain ⟨o, l, bad⟩ := s
    dsimp only at h ⊢
    cases bad with
    | true => exact absurd (.inl rfl) h
    | false =>
     obtain ⟨h1, h2⟩ := take_split l 4 (by omega)
     split
     · rename_i hx; exact takeNumF b o l _ _ h1 h2 hx
     · rename_i hx; exact takeNum1F b o l _ _ h1 h2 hx
 replace hC := Lib.hid hC
 generalize s.rnum = q at *
 refine Qin [2] Tryz.func142 Tryz.results142 Tryz.ntmps142 ?_
 exact WR
theorem rdLongF (b : Nat) (s : RS) (st : St) : TrF Tryz.prog 126 [.ptr b 0] (rdR b s :: st) fun x st' => x = .i s.long.1 ∧ st' = rdR b s.long.2 :: st := by
 have hC : ∀ st, TrF Tryz.prog 170 [.ptr b 0, .i 8, .fn (.func 171) [] []] (rdR b s :: st) fun x st' => x = .i s.long.1 ∧ st' = rdR b s.long.2 :: st := by
  unfold RS.long
  by_cases h : s.bad = true ∨ s.l.length < 8
  · rw [if_pos h]
    exact takeLong0F b s (h.imp id fun h => by omega)
  · rw [if_neg h]
    obtain ⟨o, l, bad⟩ := s
    dsimp only at h ⊢
    cases bad with
    | true => exact absurd (.inl rfl) h
    | false =>
     obtain ⟨h1, h2⟩ := take_split l 8 (by omega)
     exact takeLongF b o l _ _ h1 h2
 replace hC := Lib.hid hC
 generalize s.long = q at *
 refine Qin [2] Tryz.func126 Tryz.results126 Tryz.ntmps126 ?_
 exact WR
theorem rdTextF (b : Nat) (s : RS) (st : St) : TrF Tryz.prog 75 [.ptr b 0] (rdR b s :: st) fun x st' => x = .str s.text.1 ∧ st' = rdR b s.text.2 :: st := by
 have hN := Lib.hid (rdNumF b s)
 have hC : ∀ st, TrF Tryz.prog 143 [.ptr b 0, .i s.rnum.1, .fn (.func 144) [] []] (rdR b s.rnum.2 :: st) fun x st' => x = .str s.text.1 ∧ st' = rdR b s.text.2 :: st := by
  unfold RS.text RS.textN
  generalize s.rnum = q
  obtain ⟨n, s1⟩ := q
  dsimp only
  by_cases h : s1.bad = true ∨ n < 0 ∨ s1.l.length < n
  · rw [if_pos h]
    exact takeText0F b s1 n h
  · rw [if_neg h]
    obtain ⟨o, l, bad⟩ := s1
    dsimp only at h ⊢
    cases bad with
    | true => exact absurd (.inl rfl) h
    | false =>
     obtain ⟨m, rfl⟩ : ∃ m : Nat, n = m := ⟨n.toNat, by omega⟩
     obtain ⟨h1, h2⟩ := take_split l m (by omega)
     exact takeTextF b o l _ _ m h1 h2
 replace hC := Lib.hid hC
 generalize s.rnum = q at *
 generalize s.text = q' at *
 refine Qin [2] Tryz.func75 Tryz.results75 Tryz.ntmps75 ?_
 exact WR
namespace RS
def vals (f : RS → V × RS) : Nat → RS → List V × RS
 | 0, s => ([], s)
 | n + 1, s => if s.bad = true then ([], s) else ((f s).1 :: (vals f n (f s).2).1, (vals f n (f s).2).2)
def list5 (f : Option (RS → V × RS)) (n : Int) (s : RS) : V × RS :=
 match f with
 | none => (.mk 5 0 ⟨#[]⟩ [], fail)
 | some f => if 20 < n then (.mk 5 0 ⟨#[]⟩ [], fail) else (.mk 5 0 ⟨#[]⟩ (vals f n.toNat s).1, (vals f n.toNat s).2)
def body (f : Option (RS → V × RS)) (s : RS) : V × RS :=
 if s.byte.1 = 1 then (.mk 1 s.byte.2.byte.1 ⟨#[]⟩ [], s.byte.2.byte.2)
 else if s.byte.1 = 2 then (.mk 2 s.byte.2.long.1 ⟨#[]⟩ [], s.byte.2.long.2)
 else if s.byte.1 = 3 ∨ s.byte.1 = 4 then (.mk s.byte.1 0 s.byte.2.text.1 [], s.byte.2.text.2)
 else if s.byte.1 = 5 then list5 f s.byte.2.rnum.1 s.byte.2.rnum.2
 else (.mk s.byte.1 0 ⟨#[]⟩ [], s.byte.2)
def value : Nat → RS → V × RS
 | 0 => body none
 | d + 1 => body (some (value d))
theorem rnum_pos (s : RS) : 0 ≤ s.rnum.1 := by
 unfold rnum; split
 · exact Int.le_refl _
 · split
   · exact Int.natCast_nonneg _
   · exact Int.le_refl _
end RS
end Go.Proofs.YtgcienlfpnpbgaaGreat
end
