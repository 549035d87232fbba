/- Functions, seen as what they do to data: contracts, calls, returns. No statement is proved here. -/
import Derived.Test.YthlidbddeclnaaaAmTr
namespace Go.Proofs.Ythlidbddeclnaaa
open Go.RowKit

/-- What reads as d reads as d', too. -/
def LE (d d' : D) : Prop := ∀ O w v, Rep O w v d → Rep O w v d'
def LEL : List D → List D → Prop
  | [], [] => True
  | d :: l, d' :: l' => LE d d' ∧ LEL l l'
  | _, _ => False
theorem LE.refl (d : D) : LE d d := fun _ _ _ h => h
theorem LE.of_eq {d d' : D} (h : d = d') : LE d d' := h ▸ LE.refl d
theorem LE.trans {a b c : D} (h : LE a b) (k : LE b c) : LE a c := fun O w v x => k O w v (h O w v x)
theorem LE.sl (o : Own) (es : List (List D)) : LE (.sl o es) (.sl .shared es) := fun _ _ _ h => h.share
theorem LEL.refl : ∀ l, LEL l l
  | [] => trivial
  | d :: l => ⟨LE.refl d, LEL.refl l⟩
theorem LEL.repL {O : Nat → Nat → Prop} {w : World} : ∀ {l l' : List D}, LEL l l' → ∀ {us : List Value}, RepL O w us l → RepL O w us l'
  | [], [], _, _, h => h
  | d :: l, d' :: l', ⟨h1, h2⟩, us, h => by
    obtain ⟨u, t, rfl, k1, k2⟩ := h.inv_cons
    exact .cons (h1 O w u k1) (h2.repL k2)
  | [], _ :: _, h, _, _ => h.elim
  | _ :: _, [], h, _, _ => h.elim
theorem LE.agg {l l' : List D} (h : LEL l l') : LE (.agg l) (.agg l') := fun O w v x => by
  cases x with
  | agg us cs h1 h2 => obtain ⟨k1, k2⟩ := h.repL (us := us) ⟨h1, h2⟩; exact .agg us l' k1 k2
theorem LE.tup {l l' : List D} (h : LEL l l') : LE (.tup l) (.tup l') := fun O w v x => by
  cases x with
  | tup us cs h1 h2 => obtain ⟨k1, k2⟩ := h.repL (us := us) ⟨h1, h2⟩; exact .tup us l' k1 k2
theorem LEL.length : ∀ {l l' : List D}, LEL l l' → l.length = l'.length
  | [], [], _ => rfl
  | _ :: _, _ :: _, ⟨_, h⟩ => by simp [h.length]
  | [], _ :: _, h => h.elim
  | _ :: _, [], h => h.elim

/-! ### contracts -/
def TrF (P : Program) (f : FuncId) (args : List D) (st : St) (R : D → St → Prop) : Prop :=
  ∀ (vs : Array Value) w, RepL (OwnS st) w vs.toList args → Holds st w → Calls P f vs w fun e w' => ∃ v, e = .returned v ∧ PostV st w R v w'
section
variable {P : Program} {f : FuncId} {args : List D} {st : St} {R R' : D → St → Prop}
theorem PostV.weak {w w' : World} {v : Value} (h : PostV st w R v w') (hR : ∀ d st', R d st' → ∃ d1 st1, LE d d1 ∧ st1.Sublist st' ∧ R' d1 st1) : PostV st w R' v w' := by
  obtain ⟨d, st', h1, h2, h3, h4⟩ := h
  obtain ⟨d1, st1, k1, k2, k3⟩ := hR d st' h4
  have he := Ext.drop (st := st') (st' := st1) (fun _ h => k2.subset h) w'
  exact ⟨d1, st1, (k1 _ _ _ h1).ext he, h2.sub k2, h3.trans he, k3⟩
theorem TrF.weak (h : TrF P f args st R) (hR : ∀ d st', R d st' → ∃ d1 st1, LE d d1 ∧ st1.Sublist st' ∧ R' d1 st1) : TrF P f args st R' :=
  fun vs w h1 h2 => (h vs w h1 h2).mono fun _ _ ⟨v, e, hp⟩ => ⟨v, e, hp.weak hR⟩
theorem TrF.mono (h : TrF P f args st R) (hR : ∀ d st', R d st' → R' d st') : TrF P f args st R' :=
  h.weak fun d st' hr => ⟨d, st', LE.refl d, .refl _, hR d st' hr⟩
theorem TrF.le {args' : List D} (h : TrF P f args' st R) (hl : LEL args args') : TrF P f args st R :=
  fun vs w h1 h2 => h vs w (hl.repL h1) h2
theorem TrF.perm {st' : St} (hp : st.Perm st') (h : TrF P f args st' R) : TrF P f args st R := by
  intro vs w h1 h2
  have e := OwnS.perm hp
  refine (h vs w (by rw [← e]; exact h1) (h2.perm hp)).mono fun _ _ ⟨v, ev, d, s, k1, k2, k3, k4⟩ => ⟨v, ev, d, s, k1, k2, by rw [e]; exact k3, k4⟩
/-- Less is enough. -/
theorem TrF.drop {st' : St} (hs : st'.Sublist st) (h : TrF P f args st' R) : TrF P f args st R := by
  intro vs w h1 h2
  have he := Ext.drop (st := st) (st' := st') (fun _ h => hs.subset h) w
  refine (h vs w (h1.ext he) (h2.sub hs)).mono fun _ _ ⟨v, ev, d, s, k1, k2, k3, k4⟩ => ⟨v, ev, d, s, k1, k2, he.trans k3, k4⟩

/-! ### from a body -/
def initE (args : List D) : Nat → D := fun i => args.getD i D.un
def resVal (ts : List Tmp) (tmps : Array Value) : Value := match ts with | [t] => tmps.getD t undef | ts => .tuple (ts.map fun t => tmps.getD t undef).toArray
def resD (ts : List Tmp) (e : Nat → D) : D := match ts with | [t] => e t | ts => .tup (ts.map e)
theorem resD_rep {N : Nat} {O : Nat → Nat → Prop} {w : World} {a : Act} {A : AA} (h : RelA N O w a A) (ts : List Tmp) : Rep O w (resVal ts a.tmps) (resD ts A.e) := by
  have hm : RepL O w (ts.map fun t => a.tmps.getD t undef) (ts.map A.e) := RepL.map fun t _ => h.2.2 t
  unfold resVal resD
  split
  · exact h.2.2 _
  · exact .tup _ _ hm.1 hm.2
def mark (r : Nat) : Deferred := { target := .collected r, args := #[] }
def markR (r : Nat) : Res := .raw r (.deferred (some []))
/-- How a body is left. -/
def retA (ts : List Tmp) (R : D → St → Prop) : Exit → AA → St → Prop
  | .normal, A, st | .ret, A, st => ∃ (rs : List Nat) (d : D) (s2 st' : St), A.df = rs.map mark ∧ st.Perm (rs.map markR ++ s2) ∧ st'.Sublist s2 ∧ LE (resD ts A.e) d ∧ R d st'
  | _, _, _ => False
theorem retA_mk {ts : List Tmp} {ex : Exit} {A : AA} {d : D} {st' : St} (hex : ex = .normal ∨ ex = .ret) (hdf : A.df = []) (hs : st'.Sublist st) (hd : LE (resD ts A.e) d) (hR : R d st') : retA ts R ex A st := by
  rcases hex with rfl | rfl
  · exact ⟨[], d, st, st', hdf, .refl _, hs, hd, hR⟩
  · exact ⟨[], d, st, st', hdf, .refl _, hs, hd, hR⟩
theorem leaves_marks {fn : Func} {tmps : Array Value} {u : FrameMode} {Rw : Ending → World → Prop} {v : Value} (hu : u = .returning) (hres : ∀ w, (results fn tmps).run P w = .ok v w) : ∀ (rs : List Nat) (w : World), rs.Nodup → (∀ r ∈ rs, w.heap[r]? = some (.deferred (some []))) →
    (∀ w', w'.os = w.os → w'.tape = w.tape → w'.output = w.output → w'.heap.size = w.heap.size → (∀ b, b ∉ rs → w'.heap[b]? = w.heap[b]?) → Rw (.returned v) w') → LeavesInM Fence.wide 0 P fn tmps Rw (rs.map mark) u w
  | [], w, _, _, hw => by
    subst hu
    show LeavesIn Fence.wide 0 P fn tmps Rw [] .returning w
    exact ⟨v, hres w, hw w rfl rfl rfl rfl fun _ _ => rfl⟩
  | r :: rs, w, hn, hb, hw => by
    have hr := hb r (List.mem_cons_self ..)
    have hlt := (Array.getElem?_eq_some_iff.1 hr).1
    refine ⟨(by rw [hu]; intro h; cases h), .inl ⟨r, _, rfl, run_takeDeferred hr, leaves_marks hu hres rs _ (List.nodup_cons.1 hn).2 (fun x hx => ?_) fun w' h1 h2 h3 h4 h5 => ?_⟩⟩
    · rw [World.putObj_heap_other (by intro e; subst e; exact (List.nodup_cons.1 hn).1 hx)]
      exact hb x (List.mem_cons_of_mem _ hx)
    · refine hw w' h1 h2 h3 (by rw [h4]; simp) fun b hb => ?_
      rw [h5 b fun h => hb (List.mem_cons_of_mem _ h)]
      exact World.putObj_heap_other fun e => hb (e ▸ List.mem_cons_self ..)
theorem trF_enter {fn : Func} {c : Code} {ts : List Tmp} (hf : P.funcs[f]? = some fn) (hb : fn.body = some c) (hn : args.length ≤ fn.ntmps) (hres : ∀ tmps w, (results fn tmps).run P w = .ok (resVal ts tmps) w)
    (h : Tr P fn.ntmps none c ⟨initE args, []⟩ st (retA ts R)) : TrF P f args st R := by
  intro vs w hv hw
  refine (callsIn_wide (n := 0)).1 (callsIn_of_wp_marks hf hb trivial ?_ rfl)
  have hvl : vs.size = args.length := by rw [← Array.length_toList]; exact hv.1
  have hrel : RelA fn.ntmps (OwnS st) w { tmps := vs ++ Array.replicate (fn.ntmps - vs.size) undef, defers := [] } ⟨initE args, []⟩ := by
    refine ⟨by simp [hvl]; omega, rfl, fun t => ?_⟩
    show Rep _ _ _ (args.getD t D.un)
    simp only [Array.getD_eq_getD_getElem?, List.getD_eq_getElem?_getD]
    rcases Nat.lt_or_ge t args.length with ht | ht
    · have h1 : t < vs.toList.length := by simp; omega
      have := hv.2 t h1 ht
      rw [Array.getElem?_append_left (by omega), List.getElem?_eq_getElem ht, Array.getElem?_eq_getElem (by omega)]
      simpa using this
    · rw [Array.getElem?_append_right (by omega), List.getElem?_eq_none ht]
      simp only [Option.getD_none]
      by_cases h2 : t - vs.size < fn.ntmps - vs.size
      · rw [Array.getElem?_replicate, if_pos h2]
        exact .s undef rfl
      · rw [Array.getElem?_replicate, if_neg h2]
        exact .s undef rfl
  refine wpIn_mono (h _ w hrel hw) fun ex a' w' ⟨A', st', k1, k2, k3, k4⟩ => ?_
  have main : (∃ (rs : List Nat) (d : D) (s2 st'' : St), A'.df = rs.map mark ∧ st'.Perm (rs.map markR ++ s2) ∧ st''.Sublist s2 ∧ LE (resD ts A'.e) d ∧ R d st'') → LeavesInM (FR none) 0 P fn a'.tmps (fun e w' => ∃ v, e = .returned v ∧ PostV st w R v w') a'.defers .returning w' := by
    rintro ⟨rs, d, s2, st'', q1, q2, qs, q3, q4⟩
    rw [k1.2.1, q1]
    have hh := k2.perm q2
    have hnd : rs.Nodup := by
      have := List.Pairwise.sublist (List.sublist_append_left _ _) hh.1
      rw [List.pairwise_map] at this
      exact this.imp fun {a b} hab e => hab a rfl (by rw [e]; rfl)
    have hblk : ∀ r ∈ rs, w'.heap[r]? = some (.deferred (some [])) := fun r hr => hh.2 (markR r) (List.mem_append_left _ (List.mem_map_of_mem hr))
    refine leaves_marks rfl (hres a'.tmps) rs w' hnd hblk fun w'' e1 e2 e3 e4 e5 => ⟨_, rfl, d, st'', ?_, ?_, ?_, q4⟩
    all_goals
      have hown : ∀ b off, OwnS st'' b off → OwnS st' b off := fun b off ⟨x, hx, ho⟩ => ⟨x, q2.mem_iff.2 (List.mem_append_right _ (qs.subset hx)), ho⟩
      have hmk : ∀ r ∈ rs, ∀ off, OwnS st' r off := fun r hr off => ⟨markR r, q2.mem_iff.2 (List.mem_append_left _ (List.mem_map_of_mem hr)), rfl, Nat.zero_le _⟩
      have he : Ext (OwnS st') w' (OwnS st'') w'' := by
        refine ⟨e1, e2, e3, by omega, fun b off _ ho => hown b off ho, fun b hb hno => e5 b fun hr => hno 0 (hmk b hr 0), fun b c E fr hc => ⟨c, fr, ?_, rfl, fun _ _ => rfl⟩⟩
        rw [e5 b fun hr => by rw [hblk b hr] at hc; cases hc]
        exact hc
    · exact q3 _ _ _ ((resD_rep k1 ts).ext he)
    · refine ⟨(List.pairwise_append.1 hh.1).2.1.sublist qs, fun x hx => (k2.2 x (q2.mem_iff.2 (List.mem_append_right _ (qs.subset hx)))).ext he fun b hb => e5 b fun hr => ?_⟩
      exact (List.pairwise_append.1 hh.1).2.2 (markR b) (List.mem_map_of_mem hr) x (qs.subset hx) b rfl hb
    · exact k3.trans he
  cases ex with
  | normal => exact main k4
  | ret => exact main k4
  | exit id => exact k4.elim
  | goto l => exact k4.elim
  | panic c => exact k4.elim
  | outgrown => exact k4.elim

/-! ### calls -/
def evL (e : Nat → D) : List Operand → Option (List D)
  | [] => some []
  | x :: l => match ev e x, evL e l with
    | some d, some ds => some (d :: ds)
    | _, _ => none
theorem evL_rep {O : Nat → Nat → Prop} {w : World} {e : Nat → D} {ρ : Operand → Value} {S : Array Operand} (h : RepE e O w ρ S) : ∀ {l : List Operand} {ds : List D}, (∀ x ∈ l, x ∈ S) → evL e l = some ds → RepL O w (l.map ρ) ds
  | [], ds, _, hl => by cases hl; exact .nil
  | x :: l, ds, hS, hl => by
    unfold evL at hl
    split at hl
    · rename_i d ds' h1 h2
      cases hl
      exact .cons (h x (hS x (List.mem_cons_self ..)) _ h1) (evL_rep h (fun y hy => hS y (List.mem_cons_of_mem _ hy)) h2)
    · cases hl
theorem opC_call {r : Option Nat} {o : Oper} {c : Call} {e : Nat → D} {g : Operand} {first caps ds : List D} {K : D → St → Prop} (ho : o.op = .call c) (hc : c.callee = .value g) (hg : ev e g = some (.fn (.func f) first caps))
    (hargs : evL e c.args.toList = some ds) (henter : ∀ args w, (callFunc f args).run P w = .ok (.enter f args) w) (h : TrF P f (first ++ ds ++ caps) st K) : OpC P r o e st K := by
  intro ρ w h1 h2
  rw [ho] at h1
  have hfn := h1 g (by simp [Op.operands, Call.operands, hc]) _ hg
  have hds := evL_rep h1 (fun x hx => by simp only [Op.operands, Call.operands, Array.mem_append]; exact .inr (by simpa using hx)) hargs
  rw [Oper.semAt_eq r ρ o (by rw [ho]; intro c hc; cases hc)]
  unfold execOp
  rw [ho]
  simp only [resolve, hc]
  generalize ρ g = gv at hfn
  cases hfn with
  | fn _ us1 us2 _ _ l1 l2 r1 r2 =>
    simp only [Deferred.ofValue, Sem.run_bind, Sem.run_pure, Result.andThen_ok, invoke, henter]
    have := h (us1.toArray ++ c.args.map ρ ++ us2.toArray) w (by
      simp only [Array.toList_append, Array.toList_map]
      exact ((RepL.append ⟨l1, r1⟩ hds).append ⟨l2, r2⟩)) h2
    exact (callsIn_wide.2 this).mono fun ev w' ⟨v, e, hp⟩ => ⟨v, e, hp⟩
end
end Go.Proofs.Ythlidbddeclnaaa
