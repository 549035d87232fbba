/- Regions that draw their order, over data: one walk in the order of the text serves every order. No statement is proved here. -/
import Derived.Test.YthlidbddeclnaaaAmSound
import Derived.Test.YthlidbddeclnaaaMix
namespace Go.Proofs.Ythlidbddeclnaaa
open Go.RowKit

/-- Operations whose outcome is a function of their slots. -/
def freeA (o : Oper) : Bool :=
  match o.op with
  | .move _ | .assign _ | .pick .. | .nilCheck _ | .binOp .. | .unOp .. | .convert .. | .makeFunc .. | .extract .. | .field .. | .fieldAddr .. | .indexAddr .. | .index .. | .load .. | .slice .. | .build .. | .buildSlice .. | .box .. => true
  | .call { callee := .builtin .len, .. } => true
  | .call { callee := .builtin .cap, .. } => true
  | .call { callee := .builtin .min, .. } => true
  | .call { callee := .builtin .max, .. } => true
  | _ => false
/-- Boxes that are read, and not written, while a region goes. -/
abbrev Ro := List (Nat × List D)
def frC (P : Program) (ro : Ro) (o : Oper) (e : Nat → D) : Option D :=
  match o.op with
  | .load t x => match ev e x, tinfo P t with
    | some (.ip cs), some ti => readD ti cs
    | some (.ptr b off), some ti => match ro.lookup b with
      | some cs => readD ti (cs.drop off)
      | none => none
    | _, _ => none
  | _ => aOp P o e
def Keeps (ro : Ro) (st : St) : Prop := ∀ b cs, ro.lookup b = some cs → ∃ ty, Res.box b ty cs ∈ st
section
variable {P : Program} {r : Option Nat} {ro : Ro} {ops : Array Oper} {md : Region.Mode} {st : St}
theorem frC_sound {o : Oper} {e : Nat → D} {d : D} (hc : Keeps ro st) (h : frC P ro o e = some d) : OpY P o e st d := by
  unfold frC at h
  split at h
  · rename_i t x hop
    split at h
    · rename_i cs ti hx ht
      refine aOp_sound ?_
      unfold aOp
      rw [hop]
      simp only [hx, ht]
      exact h
    · rename_i b off ti hx ht
      split at h
      · rename_i cs hl
        obtain ⟨ty, hm⟩ := hc b cs hl
        intro ρ w hr hh
        have hp := hr x (by simp [hop, Op.operands]) _ hx
        unfold execOp
        rw [hop]
        simp only
        generalize ρ x = p at hp
        cases hp
        obtain ⟨v, k1, k2⟩ := run_loadBox hh hm ht h
        exact ⟨v, w, by simp only [Sem.run_bind, k1, Result.andThen_ok, Sem.run_pure], k2, hh, Ext.refl _ _⟩
      · cases h
    · cases h
  · exact aOp_sound h
theorem evL_congr {e e' : Nat → D} : ∀ {l : List Operand}, (∀ x ∈ l, ev e x = ev e' x) → evL e l = evL e' l
  | [], _ => rfl
  | x :: l, h => by unfold evL; rw [h x (List.mem_cons_self ..), evL_congr fun y hy => h y (List.mem_cons_of_mem _ hy)]
theorem evP_congr {e e' : Nat → D} : ∀ {l : List (Nat × Operand)}, (∀ x ∈ l, ev e x.2 = ev e' x.2) → evP e l = evP e' l
  | [], _ => rfl
  | (i, x) :: l, h => by unfold evP; rw [h (i, x) (List.mem_cons_self ..), evP_congr fun y hy => h y (List.mem_cons_of_mem _ hy)]
theorem aOp_congr {o : Oper} {e e' : Nat → D} (h : ∀ x ∈ o.op.operands, ev e x = ev e' x) : aOp P o e = aOp P o e' := by
  unfold aOp
  cases hop : o.op <;> rw [hop] at h <;> simp only [Op.operands] at h ⊢
  case slice t x lo hi mx =>
    have ho : ∀ y : Option Operand, (∀ z, y = some z → ev e z = ev e' z) → optInt e y = optInt e' y := fun y hy => by
      cases y with
      | none => rfl
      | some z => simp only [optInt, hy z rfl]
    rw [h x (by simp), ho lo fun z hz => h z (by subst hz; simp), ho hi fun z hz => h z (by subst hz; simp), ho mx fun z hz => h z (by subst hz; simp)]
  case build t ps => rw [evP_congr fun x hx => h x.2 (by simp only [List.mem_toArray, List.mem_map]; exact ⟨x, hx, rfl⟩)]
  case buildSlice t n ps => rw [evP_congr fun x hx => h x.2 (by simp only [List.mem_toArray, List.mem_map]; exact ⟨x, hx, rfl⟩)]
  case makeFunc fn first caps => rw [evL_congr fun x hx => h x (by simp; exact .inl (by simpa using hx)), evL_congr fun x hx => h x (by simp; exact .inr (by simpa using hx))]
  case call c => rw [evL_congr fun x hx => h x (by simp only [Call.operands, Array.mem_append]; exact .inr (by simpa using hx))]
  case pick c x y => rw [h c (by simp), h x (by simp), h y (by simp)]
  case binOp op t x y t' => rw [h x (by simp), h y (by simp)]
  case indexAddr t x i => rw [h x (by simp), h i (by simp)]
  case index t x i => rw [h x (by simp), h i (by simp)]
  all_goals first | rfl | rw [h _ (by simp)]
theorem frC_congr {o : Oper} {e e' : Nat → D} (h : ∀ x ∈ o.op.operands, ev e x = ev e' x) : frC P ro o e = frC P ro o e' := by
  unfold frC
  split
  · rename_i t x hop
    rw [h x (by simp [hop, Op.operands])]
  · exact aOp_congr h
theorem opC_congr {o : Oper} {e e' : Nat → D} {K : D → St → Prop} (h : ∀ x ∈ o.op.operands, ev e x = ev e' x) (hh : OpC P r o e st K) : OpC P r o e' st K :=
  fun ρ w hr hw => hh ρ w (fun x hx d hd => hr x hx d ((h x hx) ▸ hd)) hw
theorem ev_upd {e : Nat → D} {dst : Option Tmp} {u : D} {x : Operand} (h : ∀ d, dst = some d → x ≠ .tmp d) : ev (upd e dst u) x = ev e x := by
  cases dst with
  | none => rfl
  | some d =>
    cases x with
    | tmp t =>
      have hne : t ≠ d := fun e => h d rfl (e ▸ rfl)
      simp [ev, upd, hne]
    | _ => rfl
theorem ev_far {o : Oper} {e : Nat → D} {dst : Option Tmp} {u : D} (h : ∀ d, dst = some d → d ∉ o.looksAt ops) : ∀ x ∈ o.op.operands, ev (upd e dst u) x = ev e x := fun x hx => ev_upd fun d hd hxd => h d hd (by
  subst hxd
  exact List.mem_append_left _ (List.mem_filterMap.2 ⟨.tmp d, by simpa using hx, rfl⟩))
theorem wantedA_far {o : Oper} {e : Nat → D} {dst : Option Tmp} {u : D} (h : ∀ d, dst = some d → d ∉ o.looksAt ops) : wantedA ops o (upd e dst u) = wantedA ops o e := by
  cases dst with
  | none => rfl
  | some d =>
    unfold wantedA
    cases hg : o.guard with
    | none => rfl
    | some q =>
      obtain ⟨j, want⟩ := q
      dsimp only
      cases ht : (ops[j]?).bind (·.dst) with
      | none => rfl
      | some t =>
        have hne : t ≠ d := fun e => h d rfl (by
          subst e
          refine List.mem_append_right _ ?_
          rw [hg]
          simp [ht])
        simp [upd, hne]
theorem upd_comm (e : Nat → D) {x y : Option Tmp} (v u : D) (h : ∀ d, x = some d → y ≠ some d) : upd (upd e x v) y u = upd (upd e y u) x v := by
  cases x with
  | none => rfl
  | some d =>
    cases y with
    | none => rfl
    | some t =>
      have hne : d ≠ t := fun he => h d rfl (he ▸ rfl)
      funext i
      simp only [upd]
      by_cases h1 : i = t
      · rw [if_pos h1, if_neg (fun e => hne (e.symm.trans h1)), if_pos h1]
      · rw [if_neg h1]
        by_cases h2 : i = d
        · rw [if_pos h2, if_pos h2]
        · rw [if_neg h2, if_neg h2, if_neg h1]
theorem put_comm (A : AA) {x y : Option Tmp} (v u : D) (h : ∀ d, x = some d → y ≠ some d) : (A.put x v).put y u = (A.put y u).put x v := by
  unfold AA.put; dsimp only; rw [upd_comm A.e v u h]

/-- One operation. -/
def mOpA (P : Program) (r : Option Nat) (ro : Ro) (ops : Array Oper) (o : Oper) (K : AA → St → Prop) (A : AA) (st : St) : Prop :=
  if wantedA ops o A.e then
    if freeA o then ∃ d, frC P ro o A.e = some d ∧ K (A.put o.dst d) st
    else OpC P r o A.e st (fun d st' => Keeps ro st' ∧ K (A.put o.dst d) st') ∧ ∃ d st', Keeps ro st' ∧ K (A.put o.dst d) st'
  else K (A.put o.dst D.un) st
def wpMixA (P : Program) (r : Option Nat) (ro : Ro) (ops : Array Oper) (Q : AA → St → Prop) : List Oper → AA → St → Prop
  | [], A, st => Q A st
  | o :: rest, A, st => mOpA P r ro ops o (wpMixA P r ro ops Q rest) A st
def wpAnyA (P : Program) (r : Option Nat) (ro : Ro) (md : Region.Mode) (ops : Array Oper) (Q : AA → St → Prop) : Nat → Array Bool → AA → St → Prop
  | 0, listed, A, st => Region.ready md ops listed = [] ∧ Q A st
  | fuel + 1, listed, A, st => (Region.ready md ops listed = [] → Q A st) ∧ ∀ i ∈ Region.ready md ops listed, ∀ o, ops[i]? = some o → mOpA P r ro ops o (wpAnyA P r ro md ops Q fuel (listed.setIfInBounds i true)) A st
theorem mOpA_put {o : Oper} {A : AA} {K K' : AA → St → Prop} (hw : Keeps ro st) (h : ∀ d st', Keeps ro st' → K (A.put o.dst d) st' → K' (A.put o.dst d) st') (hh : mOpA P r ro ops o K A st) : mOpA P r ro ops o K' A st := by
  unfold mOpA at *
  split
  · rename_i hwt
    rw [if_pos hwt] at hh
    split
    · rename_i hf
      rw [if_pos hf] at hh
      obtain ⟨d, h1, h2⟩ := hh
      exact ⟨d, h1, h _ _ hw h2⟩
    · rename_i hf
      rw [if_neg hf] at hh
      obtain ⟨h1, d, st', h2, h3⟩ := hh
      exact ⟨h1.mono fun d st' hk => ⟨hk.1, h _ _ hk.1 hk.2⟩, d, st', h2, h _ _ h2 h3⟩
  · rename_i hwt
    rw [if_neg hwt] at hh
    exact h _ _ hw hh
theorem mOpA_some {o : Oper} {A : AA} {K : AA → St → Prop} (hw : Keeps ro st) (hh : mOpA P r ro ops o K A st) : ∃ d st', Keeps ro st' ∧ K (A.put o.dst d) st' := by
  unfold mOpA at hh
  split at hh
  · split at hh
    · obtain ⟨d, _, h2⟩ := hh; exact ⟨d, st, hw, h2⟩
    · exact hh.2
  · exact ⟨D.un, st, hw, hh⟩
theorem mOpA_far {oi oj : Oper} (hap : oi.apart ops oj = true) {A : AA} {u : D} {K : AA → St → Prop} (h : mOpA P r ro ops oi (fun A' st' => K (A'.put oj.dst u) st') A st) : mOpA P r ro ops oi K (A.put oj.dst u) st := by
  obtain ⟨h1, h2, h3⟩ := Oper.apart_spec hap
  have hc : ∀ v, (A.put oj.dst u).put oi.dst v = (A.put oi.dst v).put oj.dst u := fun v => (put_comm A v u h2).symm
  unfold mOpA at *
  show if wantedA ops oi (upd A.e oj.dst u) then _ else _
  rw [wantedA_far h3]
  simp only [hc]
  split
  · rename_i hw
    rw [if_pos hw] at h
    split
    · rename_i hf
      rw [if_pos hf] at h
      obtain ⟨d, k1, k2⟩ := h
      exact ⟨d, (frC_congr (ev_far h3)).trans k1, k2⟩
    · rename_i hf
      rw [if_neg hf] at h
      exact ⟨opC_congr (fun x hx => (ev_far h3 x hx).symm) h.1, h.2⟩
  · rename_i hw
    rw [if_neg hw] at h
    exact h
theorem wpAnyA_first {ms : List Nat} (hms : MOk md ops.toList ms) {Q : AA → St → Prop} {i : Nat} {oi : Oper} (hi : ops[i]? = some oi) :
    ∀ (fuel : Nat) (listed : Array Bool) (A : AA) (st : St), Keeps ro st → DC md ops listed →
      (∀ j oj, ops[j]? = some oj → j ≠ i → listed.getD j true = false → waitsT ms j i = false → oi.apart ops oj = true ∧ (freeA oi = true ∨ freeA oj = true)) →
      i ∈ Region.ready md ops listed →
      mOpA P r ro ops oi (wpAnyA P r ro md ops Q fuel (listed.setIfInBounds i true)) A st → wpAnyA P r ro md ops Q (fuel + 1) listed A st := by
  intro fuel
  induction fuel with
  | zero =>
    intro listed A st hw _ _ hr H
    refine ⟨fun h => (by rw [h] at hr; cases hr), fun j hj oj hoj => ?_⟩
    by_cases hji : j = i
    · subst hji
      rw [hi] at hoj; cases hoj
      exact H
    · obtain ⟨v, w', _, h1⟩ := mOpA_some hw H
      have := ready_mono hj hji
      rw [h1.1] at this
      cases this
  | succ fuel ih =>
    intro listed A st hw hdc hfree hr H
    refine ⟨fun h => (by rw [h] at hr; cases hr), fun j hj oj hoj => ?_⟩
    by_cases hji : j = i
    · subst hji
      rw [hi] at hoj; cases hoj
      exact H
    · obtain ⟨hjun, oj', hoj', hall⟩ := mem_ready.1 hj
      rw [hoj] at hoj'; cases hoj'
      have hnot := hdc.ready hms (ready_unlisted hr) hj
      have hdc' := hdc.step hj
      obtain ⟨hap, hfk⟩ := hfree j oj hoj hji hjun hnot
      obtain ⟨d1, d2, d3⟩ := Oper.apart_spec hap
      have hfree' : ∀ k ok, ops[k]? = some ok → k ≠ i → (listed.setIfInBounds j true).getD k true = false →
          waitsT ms k i = false → oi.apart ops ok = true ∧ (freeA oi = true ∨ freeA ok = true) := fun k ok hk hki hun hno => by
        refine hfree k ok hk hki ?_ hno
        by_cases hjk : j = k
        · subst hjk; exact hjun
        · rw [getD_set_ne true hjk] at hun; exact hun
      have hri := ready_mono hr (Ne.symm hji)
      have hcomm : (listed.setIfInBounds j true).setIfInBounds i true = (listed.setIfInBounds i true).setIfInBounds j true := Array.setIfInBounds_comm _ _ hji
      have hij : ∀ v st', wpAnyA P r ro md ops Q (fuel + 1) (listed.setIfInBounds i true) (A.put oi.dst v) st' →
          mOpA P r ro ops oj (wpAnyA P r ro md ops Q fuel ((listed.setIfInBounds j true).setIfInBounds i true)) (A.put oi.dst v) st' := fun v st' h => by
        rw [hcomm]; exact h.2 j (ready_mono hj hji) oj hoj
      have hjw : ∀ v, wantedA ops oj (A.put oi.dst v).e = wantedA ops oj A.e := fun v => wantedA_far d1
      have hje : ∀ v, frC P ro oj (A.put oi.dst v).e = frC P ro oj A.e := fun v => frC_congr (ev_far d1)
      have hput : ∀ v u, (A.put oi.dst v).put oj.dst u = (A.put oj.dst u).put oi.dst v := fun v u => put_comm A v u d2
      by_cases hwj : wantedA ops oj A.e = true
      · by_cases hfj : freeA oj = true
        · obtain ⟨v1, w1, hc1, k1⟩ := mOpA_some hw H
          have k2 := hij v1 w1 k1
          unfold mOpA at k2
          rw [hjw v1, if_pos hwj, if_pos hfj, hje v1] at k2
          obtain ⟨u, hu, _⟩ := k2
          have hstep : mOpA P r ro ops oi (wpAnyA P r ro md ops Q fuel ((listed.setIfInBounds j true).setIfInBounds i true)) (A.put oj.dst u) st := by
            refine mOpA_far hap (mOpA_put hw (fun v w' hc h => ?_) H)
            have k3 := hij v w' h
            unfold mOpA at k3
            rw [hjw v, if_pos hwj, if_pos hfj, hje v] at k3
            obtain ⟨u', hu', k4⟩ := k3
            rw [hu] at hu'
            cases hu'
            exact k4
          unfold mOpA
          rw [if_pos hwj, if_pos hfj]
          exact ⟨u, hu, ih _ _ _ hw hdc' hfree' hri hstep⟩
        · have hfi : freeA oi = true := hfk.resolve_right hfj
          have key : ∀ v, wpAnyA P r ro md ops Q (fuel + 1) (listed.setIfInBounds i true) (A.put oi.dst v) st → (∀ u st', Keeps ro st' → wpAnyA P r ro md ops Q fuel ((listed.setIfInBounds j true).setIfInBounds i true) ((A.put oj.dst u).put oi.dst v) st' → mOpA P r ro ops oi (wpAnyA P r ro md ops Q fuel ((listed.setIfInBounds j true).setIfInBounds i true)) (A.put oj.dst u) st') →
              mOpA P r ro ops oj (wpAnyA P r ro md ops Q (fuel + 1) (listed.setIfInBounds j true)) A st := fun v h hback => by
            have k3 := hij v st h
            unfold mOpA at k3 ⊢
            rw [hjw v, if_pos hwj, if_neg hfj] at k3
            rw [if_pos hwj, if_neg hfj]
            obtain ⟨k4, u, st', k5, k6⟩ := k3
            refine ⟨(opC_congr (ev_far d1) k4).mono fun u st' hk => ⟨hk.1, ?_⟩, u, st', k5, ?_⟩
            · have hk2 := hk.2
              rw [hput v u] at hk2
              exact ih _ _ _ hk.1 hdc' hfree' hri (hback u st' hk.1 hk2)
            · rw [hput v u] at k6
              exact ih _ _ _ k5 hdc' hfree' hri (hback u st' k5 k6)
          have hiw : ∀ u, wantedA ops oi (A.put oj.dst u).e = wantedA ops oi A.e := fun u => wantedA_far d3
          have hie : ∀ u, frC P ro oi (A.put oj.dst u).e = frC P ro oi A.e := fun u => frC_congr (ev_far d3)
          unfold mOpA at H
          by_cases hwi : wantedA ops oi A.e = true
          · rw [if_pos hwi, if_pos hfi] at H
            obtain ⟨v, hv, h⟩ := H
            refine key v h fun u w' hc hk => ?_
            unfold mOpA
            rw [hiw u, if_pos hwi, if_pos hfi, hie u]
            exact ⟨v, hv, hk⟩
          · rw [if_neg hwi] at H
            refine key D.un H fun u w' hc hk => ?_
            unfold mOpA
            rw [hiw u, if_neg hwi]
            exact hk
      · have hstep : mOpA P r ro ops oi (wpAnyA P r ro md ops Q fuel ((listed.setIfInBounds j true).setIfInBounds i true)) (A.put oj.dst D.un) st := by
          refine mOpA_far hap (mOpA_put hw (fun v w' hc h => ?_) H)
          have k3 := hij v w' h
          unfold mOpA at k3
          rw [hjw v, if_neg hwj] at k3
          exact k3
        unfold mOpA
        rw [if_neg hwj]
        exact ih _ _ _ hw hdc' hfree' hri hstep
def mixFreeA (ms : List Nat) (ops : Array Oper) (listed : Array Bool) (i : Nat) : Bool :=
  match ops[i]? with
  | none => false
  | some oi => (List.range ops.size).all fun j => j == i || listed.getD j true || match ops[j]? with
      | some oj => waitsT ms j i || (oi.apart ops oj && (freeA oi || freeA oj))
      | none => true
theorem mixFreeA_spec {ms : List Nat} {i : Nat} {oi : Oper} {listed : Array Bool} (hi : ops[i]? = some oi) (h : mixFreeA ms ops listed i = true) (j : Nat) (oj : Oper)
    (hj : ops[j]? = some oj) (hne : j ≠ i) (hun : listed.getD j true = false) (hno : waitsT ms j i = false) :
    oi.apart ops oj = true ∧ (freeA oi = true ∨ freeA oj = true) := by
  simp only [mixFreeA, hi, List.all_eq_true, List.mem_range] at h
  have h1 := h j (Array.getElem?_eq_some_iff.1 hj).1
  simpa [hj, hne, hun, hno] using h1
def mixFromA (md : Region.Mode) (ms : List Nat) (ops : Array Oper) : Nat → Nat → Array Bool → Bool
  | 0, _, listed => (Region.ready md ops listed).isEmpty
  | fuel + 1, k, listed => (Region.ready md ops listed).contains k && mixFreeA ms ops listed k && mixFromA md ms ops fuel (k + 1) (listed.setIfInBounds k true)
def mixBA (md : Region.Mode) (ops : Array Oper) : Bool := mixFromA md (masks md ops.toList []) ops ops.size 0 (Array.replicate ops.size false)
theorem wpAnyA_lex {ms : List Nat} (hms : MOk md ops.toList ms) {Q : AA → St → Prop} : ∀ (l : List Oper) (k : Nat) (listed : Array Bool) (A : AA) (st : St), Keeps ro st → DC md ops listed → (∀ j, l[j]? = ops[k + j]?) →
    mixFromA md ms ops l.length k listed = true → wpMixA P r ro ops Q l A st → wpAnyA P r ro md ops Q l.length listed A st
  | [], _, _, _, _, _, _, _, hB, h => ⟨by simpa [mixFromA] using hB, h⟩
  | o :: l, k, listed, A, st, hw, hdc, hl, hB, h => by
    have h0 : ops[k]? = some o := by simpa using (hl 0).symm
    simp only [List.length_cons, mixFromA, Bool.and_eq_true] at hB
    obtain ⟨⟨hr, hf⟩, hB'⟩ := hB
    exact wpAnyA_first hms h0 l.length listed A st hw hdc (mixFreeA_spec h0 hf) (by simpa using hr)
      (mOpA_put hw (fun v w' hc hk => wpAnyA_lex hms l (k + 1) _ _ _ hc (hdc.step (by simpa using hr)) (fun j => by have := hl (j + 1); simpa [Nat.add_assoc, Nat.add_comm 1 j] using this) hB' hk) h)
theorem wpAnyIn_of_A {N : Nat} {K : AA → St → Prop} (hok : ∀ (i : Nat) (o : Oper), ops[i]? = some o → dstOk N o.dst = true ∧ guardOk N ops o = true) : ∀ (fuel : Nat) (listed : Array Bool) (A : AA) (st : St) (a : Act) (w : World) (Q : Exit → Act → World → Prop), Keeps ro st → RelA N (OwnS st) w a A → Holds st w → wpAnyA P r ro md ops K fuel listed A st →
    (∀ A' st' a' w', RelA N (OwnS st') w' a' A' → Holds st' w' → Ext (OwnS st) w (OwnS st') w' → Keeps ro st' → K A' st' → Q .normal a' w') → wpAnyIn (FR r) 0 P md ops Q fuel listed a w
  | 0, listed, A, st, a, w, Q, hk, hr, hh, h, hQ => ⟨h.1, hQ A st a w hr hh (Ext.refl _ _) hk h.2⟩
  | fuel + 1, listed, A, st, a, w, Q, hk, hr, hh, h, hQ => by
    refine ⟨fun h0 => hQ A st a w hr hh (Ext.refl _ _) hk (h.1 h0), fun i hi => ?_⟩
    obtain ⟨_, o, ho, _⟩ := mem_ready.1 hi
    obtain ⟨hd, hg⟩ := hok i o ho
    have hm := h.2 i hi o ho
    unfold wpOpIn
    simp only [ho]
    rw [wantedA_eq hr ops o (guardOk_spec hg)]
    unfold mOpA at hm
    split
    · rename_i hw
      rw [if_pos hw] at hm
      refine wpIn_of_ResC ?_
      have hC : OpC P r o A.e st fun d st' => Keeps ro st' ∧ wpAnyA P r ro md ops K fuel (listed.setIfInBounds i true) (A.put o.dst d) st' := by
        split at hm
        · obtain ⟨d, k1, k2⟩ := hm
          exact (frC_sound hk k1).opC ⟨hk, k2⟩
        · exact hm.1
      exact (hC a.eval w (hr.repE _) hh).mono fun v w' ⟨d, st', k1, k2, k3, k4, k5⟩ =>
        wpAnyIn_of_A hok fuel _ _ st' _ w' Q k4 ((hr.ext k3).put hd k1) k2 k5 fun A' st'' a' w'' q1 q2 q3 q4 q5 => hQ A' st'' a' w'' q1 q2 (k3.trans q3) q4 q5
    · rename_i hw
      rw [if_neg hw] at hm
      exact ⟨fun f _ => trivial, wpAnyIn_of_A hok fuel _ _ st _ w Q hk (hr.put hd (.s undef rfl)) hh hm hQ⟩
theorem Ext.drew (O : Nat → Nat → Prop) (w : World) : Ext O w O w.drew := Ext.drewN O w 1
/-- One walk in the order of the text serves every order. -/
theorem tr_draw {N : Nat} {id : Nat} {l : List Oper} {A : AA} {Q : Exit → AA → St → Prop} (ro : Ro) (hm : P.follows .mixedOrders = true) (hB : mixBA .any l.toArray = true) (hok : opsOk N l = true) (hC : Keeps ro st)
    (h : wpMixA P r ro l.toArray (Q .normal) l A st) : Tr P N r (.region id l.toArray true) A st Q := by
  intro a w h1 h2
  have hok' : ∀ (i : Nat) (o : Oper), l.toArray[i]? = some o → dstOk N o.dst = true ∧ guardOk N l.toArray o = true := fun i o ho => by
    have := List.all_eq_true.1 hok o (by simp at ho; exact List.mem_of_getElem? ho)
    simpa using this
  have he := Ext.drew (OwnS st) w
  have hany := wpAnyA_lex (P := P) (r := r) (ro := ro) (md := .any) (masks_ok l l [] (by simp) (fun k i h => by simp at h)) (Q := Q .normal) l 0 (Array.replicate l.toArray.size false) A st hC (fun k o _ hl => absurd hl (by rw [getD_rep]; exact Bool.false_ne_true)) (by simp) (by simpa [mixBA] using hB) h
  refine wpIn_region_any hm ?_
  have hsz : l.toArray.size = l.length := by simp
  rw [hsz] at hany ⊢
  exact wpAnyIn_of_A hok' _ _ A st a w.drew _ hC (h1.ext he) (h2.drewN 1) hany fun A' st' a' w' q1 q2 q3 _ q5 => ⟨A', st', q1, q2, he.trans q3, q5⟩

/-! ### steps -/
variable {Q : AA → St → Prop} {A : AA} {o : Oper} {rest : List Oper}
theorem mixA_nil (h : Q A st) : wpMixA P r ro ops Q [] A st := h
theorem mixA_skip {dst : Option Tmp} (hdst : o.dst = dst) (hw : wantedA ops o A.e = false) (h : wpMixA P r ro ops Q rest (A.put dst D.un) st) : wpMixA P r ro ops Q (o :: rest) A st := by
  subst hdst
  show mOpA P r ro ops o _ A st
  unfold mOpA
  rw [if_neg (by rw [hw]; exact Bool.false_ne_true)]
  exact h
theorem mixA_free {d : D} {dst : Option Tmp} (hdst : o.dst = dst) (hf : freeA o = true) (hw : wantedA ops o A.e = true) (hd : frC P ro o A.e = some d) (h : wpMixA P r ro ops Q rest (A.put dst d) st) : wpMixA P r ro ops Q (o :: rest) A st := by
  subst hdst
  show mOpA P r ro ops o _ A st
  unfold mOpA
  rw [if_pos hw, if_pos hf]
  exact ⟨d, hd, h⟩
theorem mixA_chain {R : D → St → Prop} {dst : Option Tmp} (hdst : o.dst = dst) (hf : freeA o = false) (hw : wantedA ops o A.e = true) (hc : OpC P r o A.e st R) (hex : ∃ d st', R d st') (h : ∀ d st', R d st' → Keeps ro st' ∧ wpMixA P r ro ops Q rest (A.put dst d) st') : wpMixA P r ro ops Q (o :: rest) A st := by
  subst hdst
  show mOpA P r ro ops o _ A st
  unfold mOpA
  rw [if_pos hw, if_neg (by rw [hf]; exact Bool.false_ne_true)]
  obtain ⟨d, st', k⟩ := hex
  exact ⟨hc.mono fun d st' hk => h d st' hk, d, st', (h d st' k).1, (h d st' k).2⟩
theorem ops_nil {K : AA → St → Prop} (h : K A st) : TrOps P r ops [] A st K := h
theorem ops_skip {K : AA → St → Prop} {dst : Option Tmp} (hdst : o.dst = dst) (hw : wantedA ops o A.e = false) (h : TrOps P r ops rest (A.put dst D.un) st K) : TrOps P r ops (o :: rest) A st K := by
  subst hdst
  unfold TrOps; rw [if_neg (by rw [hw]; exact Bool.false_ne_true)]; exact h
theorem ops_free {K : AA → St → Prop} {d : D} {dst : Option Tmp} (hdst : o.dst = dst) (hw : wantedA ops o A.e = true) (hd : aOp P o A.e = some d) (h : TrOps P r ops rest (A.put dst d) st K) : TrOps P r ops (o :: rest) A st K := by
  subst hdst
  unfold TrOps; rw [if_pos hw]; exact opC_pure hd h
theorem ops_chain {K : AA → St → Prop} {R : D → St → Prop} {dst : Option Tmp} (hdst : o.dst = dst) (hw : wantedA ops o A.e = true) (hc : OpC P r o A.e st R) (h : ∀ d st', R d st' → TrOps P r ops rest (A.put dst d) st' K) : TrOps P r ops (o :: rest) A st K := by
  subst hdst
  unfold TrOps; rw [if_pos hw]; exact hc.mono h
theorem keeps_nil : Keeps [] st := fun _ _ h => by cases h
end
end Go.Proofs.Ythlidbddeclnaaa
