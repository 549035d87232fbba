/- Texts put together. No statement is proved here. -/
import Derived.RangeFuncSeq
import Derived.Test.YtgcienlfpnpbgaaGreatZ4
set_option linter.all false
set_option maxRecDepth 10000
set_option maxHeartbeats 8000000
namespace Go.Proofs.YtgcienlfpnpbgaaGreat
open Go.RowKit
section
def RoundC (P : Program) (l : Nat) (args : List D) (st : St) (R : D → St → Prop) : Prop :=
 ∀ (vs : Array Value) w, RepL (OwnS st) w vs.toList args → Holds st w → YieldAt (FR none) 0 P l vs w fun e w' => ∃ v, e = .returned v ∧ PostV st w R v w'
theorem yield_mono {F : Fence} {m : Nat} {P : Program} {l : Nat} {args : Array Value} {W : World} {R R' : Ending → World → Prop} (h : YieldAt F m P l args W R) (hr : ∀ e w, R e w → R' e w) : YieldAt F m P l args W R' := by
 obtain ⟨fn, t, a, b, h1, h2⟩ := h
 exact ⟨fn, t, a, b, h1, h2.mono hr⟩
theorem RoundC.perm {P : Program} {l : Nat} {args : List D} {st st1 : St} {R R' : D → St → Prop} (hp : st.Perm st1) (h : RoundC P l args st1 R) (hR : ∀ d s, R d s → ∃ s', s'.Perm s ∧ R' d s') : RoundC P l args st R' := by
 intro vs w h1 h2
 have e := OwnS.perm hp
 refine yield_mono (h vs w (by rw [← e]; exact h1) (h2.perm hp)) fun _ _ ⟨v, ev, d, s, k1, k2, k3, k4⟩ => ?_
 obtain ⟨s', q1, q2⟩ := hR d s k4
 have e' := OwnS.perm q1
 exact ⟨v, ev, d, s', by rw [e']; exact k1, k2.perm q1.symm, by rw [e, e']; exact k3, q2⟩
theorem RoundC.le {P : Program} {l : Nat} {args args' : List D} {st : St} {R : D → St → Prop} (h : RoundC P l args' st R) (hl : LEL args args') : RoundC P l args st R := fun vs w h1 h2 => h vs w (hl.repL h1) h2
def Yields (P : Program) (l : Nat) {X : Type} (args : X → List D) (L : List X) (J Jx : Nat → St → Prop) : Prop :=
 (∀ (i : Nat) (x : X) (C : St), L[i]? = some x → J i C → (∃ C', J (i + 1) C') ∨ ∃ C', Jx (i + 1) C') ∧ ∀ (i : Nat) (x : X) (C K : St), L[i]? = some x → J i C → RoundC P l (args x) (C ++ K) fun d st' => ∃ C', st' = C' ++ K ∧ ((d = .s (.bool true) ∧ J (i + 1) C') ∨ (d = .s (.bool false) ∧ Jx (i + 1) C'))
def IterC (P : Program) (g : FuncId) (caps : List D) {X : Type} (args : X → List D) (L : List X) (K0 : St) (Kend : St → Prop) (Kstop : Nat → St → Prop) : Prop :=
 ∀ (l : Nat) (C : St) (J Jx : Nat → St → Prop), Yields P l args L J Jx → J 0 C → TrF P g (.fn (.yield l) [] [] :: caps) (K0 ++ C) fun _ st' => ∃ K1 C', st' = K1 ++ C' ∧ ((Kend K1 ∧ J L.length C') ∨ ∃ i, Kstop i K1 ∧ Jx i C')
theorem tl_nil : ∀ C : St, C = [] ++ C := fun _ => rfl
theorem tl_cons {f : St → St} {K : St} {x : Res} (h : ∀ C, f C = K ++ C) : ∀ C, x :: f C = (x :: K) ++ C := fun C => by rw [h]; rfl
section
variable {P : Program} {N : Nat} {r : Option Nat} {A : AA} {st : St} {w : World} {Q : Exit → AA → St → Prop} {m : Option Ro} {k : D → St → Prop} {dst : Option Tmp} {ty : TypeId} {pos : String} {aft : Array Edge} {gd : Option (Nat × Bool)} {o : Oper}
theorem opC_yield {c : Call} {e : Nat → D} {g : Operand} {l : Nat} {ds : List D} {K : D → St → Prop} (ho : o.op = .call c) (hc : c.callee = .value g) (hg : ev e g = some (.fn (.yield l) [] []))
 (hargs : evL e c.args.toList = some ds) (h : RoundC P l ds st K) : OpC P r o e st K := by
 intro ρ w h1 h2
 rw [ho] at h1
 have hfn := h1 g (by simp [Op.operands, Call.operands, hc]) _ hg
 have hds := evL_rep h1 (fun x hx => by simp only [Op.operands, Call.operands, Array.mem_append]; exact .inr (by simpa using hx)) hargs
 rw [Oper.semAt_eq r ρ o (by rw [ho]; intro c hc; cases hc)]
 unfold execOp
 rw [ho]
 simp only [resolve, hc]
 generalize ρ g = gv at hfn
 cases hfn with
 | fn _ us1 us2 _ _ l1 l2 r1 r2 =>
  obtain rfl : us1 = [] := List.eq_nil_of_length_eq_zero l1
  obtain ⟨fn, tmps, assign, body, hy, hr⟩ := h (c.args.map ρ) w (by simpa using hds) h2
  have hy' : (Instr.yield l (#[] ++ c.args.map ρ)).run P w = .ok (.round l fn tmps assign body) w := by simpa using hy
  simp only [Deferred.ofValue, Sem.run_bind, Sem.run_pure, Result.andThen_ok, invoke, hy']
  exact hr.mono fun ev w' ⟨v, e, hp⟩ => ⟨v, e, hp⟩
theorem s_yield {l : Nat} {X : Type} {args : X → List D} {L : List X} {J Jx : Nat → St → Prop} {f : St → St} {K C : St} {i : Nat} {x : X} {g : Operand} {oas : Array Operand} {tys : Array TypeId} {ds : List D}
 (hY : Yields P l args L J Jx) (hJ : J i C) (hx : L[i]? = some x) (hg : ev A.e g = some (.fn (.yield l) [] [])) (ha : evL A.e oas.toList = some ds) (hle : LEL ds (args x)) (hf : ∀ C, f C = K ++ C)
 (hk1 : ∀ C', J (i + 1) C' → Keep m (f C') ∧ k (.s (.bool true)) (f C')) (hk0 : ∀ C', Jx (i + 1) C' → Keep m (f C') ∧ k (.s (.bool false)) (f C')) : S P r m ⟨dst, .call ⟨.value g, oas, tys⟩, ty, pos, aft, gd⟩ A (f C) k := by
 refine s_chain (R := fun d st' => ∃ C', st' = f C' ∧ ((d = .s (.bool true) ∧ J (i + 1) C') ∨ (d = .s (.bool false) ∧ Jx (i + 1) C'))) rfl (opC_yield rfl rfl hg ha ?_) ?_ ?_
 · refine (RoundC.perm (by rw [hf]; exact List.perm_append_comm) (hY.2 i x C K hx hJ) ?_).le hle
   rintro d s ⟨C', rfl, hc⟩
   exact ⟨f C', by rw [hf]; exact List.perm_append_comm, C', rfl, hc⟩
 · rcases hY.1 i x C hx hJ with ⟨C', hC⟩ | ⟨C', hC⟩
   · exact ⟨_, _, C', rfl, .inl ⟨rfl, hC⟩⟩
   · exact ⟨_, _, C', rfl, .inr ⟨rfl, hC⟩⟩
 · rintro d st' ⟨C', rfl, ⟨rfl, h⟩ | ⟨rfl, h⟩⟩
   · exact hk1 C' h
   · exact hk0 C' h
theorem Holds.know (h : Holds st w) {f : Nat → Value} {e : Nat → D} (hk : ∀ t, Rep (OwnS st) w (f t) (e t)) : Holds (.know f e :: st) w ∧ Ext (OwnS st) w (OwnS (.know f e :: st)) w := by
 have he : Ext (OwnS st) w (OwnS (.know f e :: st)) w := (Ext.refl _ w).less fun b off ho => (OwnS.cons_iff.1 ho).elim (fun x => by cases x.1) id
 exact ⟨h.push he (fun _ _ _ _ => rfl) (fun t => (hk t).ext he) (fun x _ b e => by cases e), he⟩
theorem raw_set {b : Nat} {o o' : Obj} (h : Holds (.raw b o :: st) w) (hn : ∀ c E fr, o ≠ .cells c E fr) : Holds (.raw b o' :: st) (w.putObj b o') ∧ Ext (OwnS (.raw b o :: st)) w (OwnS (.raw b o' :: st)) (w.putObj b o') := by
 have hb : w.heap[b]? = some o := h.2 _ (List.mem_cons_self ..)
 have hlt := (Array.getElem?_eq_some_iff.1 hb).1
 have hown : ∀ c off, OwnS (.raw b o' :: st) c off → OwnS (.raw b o :: st) c off := fun c off ho => OwnS.cons_iff.2 ((OwnS.cons_iff.1 ho).imp id id)
 have he : Ext (OwnS (.raw b o :: st)) w (OwnS (.raw b o' :: st)) (w.putObj b o') := by
  refine ⟨rfl, rfl, rfl, by simp, fun c off _ ho => hown c off ho, fun c hc hno => World.putObj_heap_other fun e => hno 0 (OwnS.cons_iff.2 (.inl ⟨by rw [e]; rfl, Nat.zero_le _⟩)), fun c cs E fr hc => ⟨cs, fr, ?_, rfl, fun _ _ => rfl⟩⟩
  refine (World.putObj_heap_other fun e => ?_).trans hc
  subst e
  rw [hb] at hc
  cases hc
  exact hn _ _ _ rfl
 refine ⟨h.put he (fun x hx c hc => World.putObj_heap_other fun e => (List.pairwise_cons.1 h.1).1 x hx b rfl (e ▸ hc)) (World.putObj_heap_same hlt) fun x hx c hc hc' => (List.pairwise_cons.1 h.1).1 x hx c hc hc', he⟩
theorem raw_at {C T : St} {b : Nat} {o o' : Obj} (h : Holds (C ++ .raw b o :: T) w) (hn : ∀ c E fr, o ≠ .cells c E fr) : Holds (C ++ .raw b o' :: T) (w.putObj b o') ∧ Ext (OwnS (C ++ .raw b o :: T)) w (OwnS (C ++ .raw b o' :: T)) (w.putObj b o') := by
 have h1 := raw_set (o' := o') (h.perm List.perm_middle) hn
 exact ⟨h1.1.perm List.perm_middle.symm, h1.2.perm List.perm_middle List.perm_middle⟩
def setA : AA → List Tmp → List D → AA
 | A, p :: ps, d :: ds => setA (A.put (some p) d) ps ds
 | A, _, _ => A
theorem setA_rel {O : Nat → Nat → Prop} : ∀ (ps : List Tmp) (vs : List Value) (ds : List D) (tm : Array Value) (A : AA), (∀ p ∈ ps, p < N) → RelA N O w ⟨tm, []⟩ A → RepL O w vs ds → RelA N O w ⟨(ps.zip vs).foldl (fun t (p, v) => t.setIfInBounds p v) tm, []⟩ (setA A ps ds)
 | [], vs, ds, tm, A, _, h, _ => by cases vs <;> exact h
 | p :: ps, [], ds, tm, A, _, h, hv => by
  obtain rfl : ds = [] := List.eq_nil_of_length_eq_zero hv.1.symm
  exact h
 | p :: ps, v :: vs, [], tm, A, _, h, hv => by have := hv.1; simp at this
 | p :: ps, v :: vs, d :: ds, tm, A, hp, h, hv => by
  obtain ⟨u, t, e, h1, h2⟩ := hv.inv_cons
  cases e
  exact setA_rel ps vs ds _ _ (fun q hq => hp q (List.mem_cons_of_mem _ hq)) (h.put (dst := some p) (by simp [dstOk, hp p (List.mem_cons_self ..)]) h1) h2
def roundQ (K : St) (i : Nat) (J : Nat → St → Prop) (Jx : Code → Nat → St → Prop) : Exit → AA → St → Prop
 | .normal, _, st' => ∃ C', (C' ++ K).Sublist st' ∧ J i C'
 | .ret, _, st' => ∃ C', (C' ++ K).Sublist st' ∧ Jx .ret i C'
 | .exit id, _, st' => ∃ C', (C' ++ K).Sublist st' ∧ Jx (.exit id) i C'
 | .goto t, _, st' => ∃ C', (C' ++ K).Sublist st' ∧ Jx (.goto t) i C'
 | _, _, _ => False
abbrev lrec (fn : FuncId) (tmps : Array Value) (ps : Array Tmp) (assign body : Code) (d : Nat) (s : LoopState) (pe : Option Code) : Loop := { state := s, pending := pe, fn, tmps, params := ps, assign, body, defers := d }
theorem perm_know {K C : St} {x y z : Res} : (z :: x :: y :: (K ++ C)).Perm (K ++ (C ++ [x, y, z])) := by
 rw [← List.append_assoc]
 refine List.Perm.trans ?_ List.perm_append_comm
 exact (List.Perm.swap _ _ _).trans (.cons _ (.swap _ _ _))
theorem tr_rangeS {X : Type} {g : Operand} {ps : Array Tmp} {assign body : Code} {gf : FuncId} {caps : List D} {args : X → List D} {L : List X} {K0 C : St} {Kend : St → Prop} {Kstop : Nat → St → Prop}
 (hit : IterC P gf caps args L K0 Kend Kstop) (hent : ∀ args w, (callFunc gf args).run P w = .ok (.enter gf args) w) (hg : ev A.e g = some (.fn (.func gf) [] caps)) (hps : ∀ x, (args x).length = ps.size) (hpN : ps.toList.all (fun t => decide (t < N)) = true)
 (J : Nat → St → Prop) (Jx : Code → Nat → St → Prop) (h0 : J 0 C) (hne : ∀ (i : Nat) (x : X) (C : St), L[i]? = some x → J i C → (∃ C', J (i + 1) C') ∨ ∃ c C', Jx c (i + 1) C')
 (hround : ∀ l i x C K, L[i]? = some x → J i C → Tr P N (some l) assign (setA ⟨A.e, []⟩ ps.toList (args x)) (C ++ K) (thenA (fun A' st' => ∃ C1, (C1 ++ K).Sublist st' ∧ ∀ K', Tr P N (some l) body A' (C1 ++ K') (roundQ K' (i + 1) J Jx)) (fun _ _ _ => False)))
 (hdone : ∀ d K1 C', Kend K1 → J L.length C' → Q .normal ⟨A.e, mark d :: A.df⟩ (markR d :: (K1 ++ C')))
 (hstop : ∀ c d i K1 C', Kstop i K1 → Jx c i C' → Tr P N none c ⟨A.e, mark d :: A.df⟩ (markR d :: (K1 ++ C')) Q) :
 Tr P N none (.rangeFunc g ps assign body) A (K0 ++ C) Q := by
 intro a w h1 h2
 have hr := ev_rep h1 hg
 generalize hgv : a.eval g = gv at hr
 cases hr with
 | fn _ us1 us2 _ _ l1 l2 r1 r2 =>
 obtain rfl : us1 = [] := List.eq_nil_of_length_eq_zero l1
 refine wpIn_rangeFunc fun fn hfn => ?_
 obtain ⟨d, hd⟩ : ∃ d, d = w.heap.size := ⟨_, rfl⟩
 obtain ⟨rec, hrec⟩ : ∃ rec, rec = lrec fn a.tmps ps assign body d := ⟨_, rfl⟩
 have n1 := new_own h2 (Res.raw d (.deferred (some []))) (fun b e => by cases e; exact hd) (.deferred (some [])) (fun _ => by rw [hd]; exact heap_alloc_new w _)
 obtain ⟨w1, hw1⟩ : ∃ w1, w1 = w.alloc (.deferred (some [])) := ⟨_, rfl⟩
 rw [← hw1] at n1
 have hs1 : w1.heap.size = d + 1 := by rw [hw1, hd]; simp
 have n2 := new_own n1.1 (Res.raw (d + 1) (.loop (rec .ready none))) (fun b e => by cases e; exact hs1.symm) (.loop (rec .ready none)) (fun _ => by rw [← hs1]; exact heap_alloc_new w1 _)
 obtain ⟨W1, hW1⟩ : ∃ W1, W1 = w1.alloc (.loop (rec .ready none)) := ⟨_, rfl⟩
 rw [← hW1] at n2
 obtain ⟨tm, htm⟩ : ∃ tm : Nat → Value, tm = fun t => a.tmps.getD t undef := ⟨_, rfl⟩
 have n3 := n2.1.know (f := tm) (e := A.e) (fun t => by rw [htm]; exact ((h1.ext n1.2).ext n2.2).2.2 t)
 obtain ⟨B, hB⟩ : ∃ B : LoopState → Option Code → St, B = fun s pe => [Res.raw (d + 1) (.loop (rec s pe)), Res.raw d (.deferred (some [])), Res.know tm A.e] := ⟨_, rfl⟩
 have hp : (Res.know tm A.e :: Res.raw (d + 1) (.loop (rec .ready none)) :: Res.raw d (.deferred (some [])) :: (K0 ++ C)).Perm (K0 ++ (C ++ B .ready none)) := by rw [hB]; exact perm_know
 have E3 : Ext (OwnS (K0 ++ C)) w (OwnS (K0 ++ (C ++ B .ready none))) W1 := by rw [← OwnS.perm hp]; exact n1.2.trans (n2.2.trans n3.2)
 have H3 := n3.1.perm hp
 have hnl : ∀ (x : Loop) c E fr, Obj.loop x ≠ .cells c E fr := fun _ _ _ _ e => by cases e
 have hY : Yields P (d + 1) args L (fun i C' => ∃ C, C' = C ++ B .ready none ∧ J i C) (fun i C' => ∃ c C, C' = C ++ B .done (some c) ∧ Jx c i C) := by
  refine ⟨fun i x C' hx ⟨C, _, hJ⟩ => (hne i x C hx hJ).elim (fun ⟨C1, h⟩ => .inl ⟨_, C1, rfl, h⟩) fun ⟨c, C1, h⟩ => .inr ⟨_, c, C1, rfl, h⟩, ?_⟩
  rintro i x C' K hx ⟨Cn, rfl, hJ⟩ vs w2 hv hh
  rw [List.append_assoc] at hv hh
  have hl : w2.heap[d + 1]? = some (.loop (rec .ready none)) := hh.2 (Res.raw (d + 1) (.loop (rec .ready none))) (by rw [hB]; simp)
  have hkn : ∀ t, Rep (OwnS (Cn ++ (B .ready none ++ K))) w2 (tm t) (A.e t) := hh.2 (Res.know tm A.e) (by rw [hB]; simp)
  have hy := run_yield (P := P) (args := vs) hl (by rw [hrec, ← Array.length_toList, hv.1]; exact hps x)
  rw [hrec] at hy
  refine ⟨fn, _, assign, body, hy, roundIn_of_wpIn hfn ?_⟩
  clear hy
  have hz : (ps.zip vs).foldl (fun tmps (t, a) => tmps.setIfInBounds t a) a.tmps = (ps.toList.zip vs.toList).foldl (fun t (p, v) => t.setIfInBounds p v) a.tmps := by
   rw [← Array.foldl_toList, Array.toList_zip]
  have hrel : RelA N (OwnS (Cn ++ (B .ready none ++ K))) w2 ⟨(ps.zip vs).foldl (fun tmps (t, a) => tmps.setIfInBounds t a) a.tmps, []⟩ (setA ⟨A.e, []⟩ ps.toList (args x)) := by
   rw [hz]
   refine setA_rel _ _ _ _ _ (fun p hp => by simpa using List.all_eq_true.1 hpN p hp) ⟨h1.1, rfl, fun t => ?_⟩ hv
   have := hkn t
   rw [htm] at this
   exact this
  refine wpIn_mono (hround (d + 1) i x Cn (B .ready none ++ K) hx hJ _ w2 hrel hh) ?_
  rintro e a3 w3 ⟨A3, st3, k1, k2, k3, k4⟩
  cases e with
  | normal =>
   obtain ⟨C1, hsub, hbody⟩ := k4
   have e3 := Ext.drop (fun _ h => hsub.subset h) w3
   have H4 := k2.sub hsub
   have hl3 : w3.heap[d + 1]? = some (.loop (rec .ready none)) := H4.2 (Res.raw (d + 1) (.loop (rec .ready none))) (by rw [hB]; simp)
   refine ⟨_, run_beginRound hl3 (by rw [hrec]), ?_⟩
   have q := raw_at (C := C1) (T := [Res.raw d (.deferred (some [])), Res.know tm A.e] ++ K) (o' := .loop { rec .ready none with state := .busy }) (by rw [hB] at H4; exact H4) (hnl _)
   have hbz : C1 ++ (Res.raw (d + 1) (.loop { rec .ready none with state := .busy }) :: ([Res.raw d (.deferred (some [])), Res.know tm A.e] ++ K)) = C1 ++ (B .busy none ++ K) := by rw [hB, hrec]; rfl
   have hbr : C1 ++ (Res.raw (d + 1) (.loop (rec .ready none)) :: ([Res.raw d (.deferred (some [])), Res.know tm A.e] ++ K)) = C1 ++ (B .ready none ++ K) := by rw [hB]; rfl
   rw [hbz] at q
   rw [hbr] at q
   have E4 := (k3.trans e3).trans q.2
   refine wpIn_mono (hbody (B .busy none ++ K) _ _ ((k1.ext e3).ext q.2) q.1) ?_
   have fin : ∀ (jump : Option Code) (C5 st5 : St) (w5 : World), (C5 ++ (B .busy none ++ K)).Sublist st5 → Holds st5 w5 → Ext (OwnS (C1 ++ (B .busy none ++ K))) (w3.putObj (d + 1) (.loop { rec .ready none with state := .busy })) (OwnS st5) w5 →
    (Instr.endRound (d + 1) jump).run P w5 = .ok (.bool jump.isNone) (w5.putObj (d + 1) (.loop (rec (if jump.isNone then .ready else .done) jump))) ∧
    Holds (C5 ++ B (if jump.isNone then .ready else .done) jump ++ K) (w5.putObj (d + 1) (.loop (rec (if jump.isNone then .ready else .done) jump))) ∧
    Ext (OwnS (Cn ++ B .ready none ++ K)) w2 (OwnS (C5 ++ B (if jump.isNone then .ready else .done) jump ++ K)) (w5.putObj (d + 1) (.loop (rec (if jump.isNone then .ready else .done) jump))) := fun jump C5 st5 w5 hs5 hh5 he5 => by
    have e5 := Ext.drop (fun _ h => hs5.subset h) w5
    have H6 := hh5.sub hs5
    have hl5 : w5.heap[d + 1]? = some (.loop (rec .busy none)) := H6.2 (Res.raw (d + 1) (.loop (rec .busy none))) (by rw [hB]; simp)
    have hr5 := run_endRound (P := P) jump hl5
    rw [hrec] at hr5 ⊢
    have q5 := raw_at (C := C5) (T := [Res.raw d (.deferred (some [])), Res.know tm A.e] ++ K) (o' := .loop (lrec fn a.tmps ps assign body d (if jump.isNone then .ready else .done) jump)) (by rw [hB] at H6; exact H6) (hnl _)
    have hbz5 : C5 ++ (Res.raw (d + 1) (.loop (lrec fn a.tmps ps assign body d (if jump.isNone then .ready else .done) jump)) :: ([Res.raw d (.deferred (some [])), Res.know tm A.e] ++ K)) = C5 ++ B (if jump.isNone then .ready else .done) jump ++ K := by rw [hB, hrec, List.append_assoc]; rfl
    have hbr5 : C5 ++ (Res.raw (d + 1) (.loop (rec .busy none)) :: ([Res.raw d (.deferred (some [])), Res.know tm A.e] ++ K)) = C5 ++ (B .busy none ++ K) := by rw [hB]; rfl
    rw [hbz5] at q5
    rw [hbr5] at q5
    refine ⟨hr5, q5.1, ?_⟩
    rw [show Cn ++ B .ready none ++ K = Cn ++ (B .ready none ++ K) by rw [List.append_assoc]]
    exact (E4.trans (he5.trans e5)).trans q5.2
   rintro e a5 w5 ⟨A5, st5, m1, m2, m3, m4⟩
   cases e with
   | normal =>
    obtain ⟨C5, hs5, hJ5⟩ := m4
    obtain ⟨f1, f2, f3⟩ := fin none C5 st5 w5 hs5 m2 m3
    exact ⟨_, _, f1, _, rfl, .s (.bool true), _, .s _ rfl, f2, f3, _, rfl, .inl ⟨rfl, C5, rfl, hJ5⟩⟩
   | ret =>
    obtain ⟨C5, hs5, hJ5⟩ := m4
    obtain ⟨f1, f2, f3⟩ := fin (some .ret) C5 st5 w5 hs5 m2 m3
    exact ⟨_, _, f1, _, rfl, .s (.bool false), _, .s _ rfl, f2, f3, _, rfl, .inr ⟨rfl, .ret, C5, rfl, hJ5⟩⟩
   | exit id =>
    obtain ⟨C5, hs5, hJ5⟩ := m4
    obtain ⟨f1, f2, f3⟩ := fin (some (.exit id)) C5 st5 w5 hs5 m2 m3
    exact ⟨_, _, f1, _, rfl, .s (.bool false), _, .s _ rfl, f2, f3, _, rfl, .inr ⟨rfl, .exit id, C5, rfl, hJ5⟩⟩
   | goto t =>
    obtain ⟨C5, hs5, hJ5⟩ := m4
    obtain ⟨f1, f2, f3⟩ := fin (some (.goto t)) C5 st5 w5 hs5 m2 m3
    exact ⟨_, _, f1, _, rfl, .s (.bool false), _, .s _ rfl, f2, f3, _, rfl, .inr ⟨rfl, .goto t, C5, rfl, hJ5⟩⟩
   | panic c => exact m4.elim
   | outgrown => exact m4.elim
  | exit id => exact k4.elim
  | goto t => exact k4.elim
  | ret => exact k4.elim
  | panic c => exact k4.elim
  | outgrown => exact k4.elim
 refine ⟨d + 1, [mark d], W1, { target := .fn (.func gf) us2.toArray, args := #[.func (.yield (d + 1)) #[] #[]] }, W1, gf, #[.func (.yield (d + 1)) #[] #[]] ++ us2.toArray, W1, ?_, ?_, fun _ _ => trivial, ?_, (fun h => by cases h), ?_⟩
 · rw [hW1, hrec, hw1, hd]
   exact run_enterLoop_outer _ _ _ _ _
 · simp only [resolve, hgv]
   simp [go_sem]
 · simp [invoke, go_sem, hent]
 · have hcall := hit (d + 1) (C ++ B .ready none) _ _ hY ⟨C, rfl, h0⟩ (#[.func (.yield (d + 1)) #[] #[]] ++ us2.toArray) W1 (by
    have hvs : (#[Value.func (.yield (d + 1)) #[] #[]] ++ us2.toArray).toList = Value.func (.yield (d + 1)) #[] #[] :: us2 := by simp
    rw [hvs]
    refine RepL.cons ?_ ?_
    · exact .fn (.yield (d + 1)) [] [] [] [] rfl rfl (fun i h => absurd h (Nat.not_lt_zero _)) (fun i h => absurd h (Nat.not_lt_zero _))
    · exact ⟨l2, fun i h h' => (r2 i h h').ext E3⟩) H3
   refine (callsIn_wide.2 hcall).mono ?_
   rintro e w2 ⟨v, rfl, dd, st2, -, q2, q3, K1, C2, rfl, ⟨hk, Cn, rfl, hJ⟩ | ⟨i, hk, c, Cn, rfl, hJ⟩⟩
   · have hl : w2.heap[d + 1]? = some (.loop (rec .ready none)) := q2.2 (Res.raw (d + 1) (.loop (rec .ready none))) (by rw [hB]; simp)
     have hend : (Instr.endLoop (d + 1)).run P w2 = .ok none (w2.putObj (d + 1) (.loop { rec .ready none with state := .exhausted })) := by
      subst hrec; exact run_endLoop (P := P) hl (by simp)
     have q2' : Holds ((K1 ++ Cn) ++ Res.raw (d + 1) (.loop (rec .ready none)) :: [Res.raw d (.deferred (some [])), Res.know tm A.e]) w2 := by rw [hB, ← List.append_assoc] at q2; exact q2
     have q := raw_at (o' := .loop { rec .ready none with state := .exhausted }) q2' (hnl _)
     have hsub : (markR d :: (K1 ++ Cn)).Sublist (markR d :: (K1 ++ Cn ++ [Res.raw (d + 1) (.loop { rec .ready none with state := .exhausted }), Res.know tm A.e])) := (List.sublist_append_left _ _).cons_cons _
     have hpm : (K1 ++ Cn ++ Res.raw (d + 1) (.loop { rec .ready none with state := .exhausted }) :: [Res.raw d (.deferred (some [])), Res.know tm A.e]).Perm (markR d :: (K1 ++ Cn ++ [Res.raw (d + 1) (.loop { rec .ready none with state := .exhausted }), Res.know tm A.e])) := by
      refine (List.Perm.append_left _ (.swap _ _ _)).trans ?_
      exact List.perm_middle
     have hq3 : Ext (OwnS (K0 ++ C)) w (OwnS ((K1 ++ Cn) ++ Res.raw (d + 1) (.loop (rec .ready none)) :: [Res.raw d (.deferred (some [])), Res.know tm A.e])) w2 := by
      have := E3.trans q3
      rw [hB, ← List.append_assoc] at this
      exact this
     have Ef : Ext (OwnS (K0 ++ C)) w (OwnS (markR d :: (K1 ++ Cn))) (w2.putObj (d + 1) (.loop { rec .ready none with state := .exhausted })) := by
      refine ((hq3.trans q.2).trans ?_)
      rw [OwnS.perm hpm]
      exact Ext.drop (fun _ h => hsub.subset h) _
     exact ⟨none, _, hend, ⟨A.e, mark d :: A.df⟩, _, ⟨h1.1, by show mark d :: a.defers = mark d :: A.df; rw [h1.2.1], fun t => (h1.2.2 t).ext Ef⟩, (q.1.perm hpm).sub hsub, Ef, hdone d K1 Cn hk hJ⟩
   · have hl : w2.heap[d + 1]? = some (.loop (rec .done (some c))) := q2.2 (Res.raw (d + 1) (.loop (rec .done (some c)))) (by rw [hB]; simp)
     have hend : (Instr.endLoop (d + 1)).run P w2 = .ok (some c) (w2.putObj (d + 1) (.loop { rec .done (some c) with state := .exhausted })) := by
      subst hrec; exact run_endLoop (P := P) hl (by simp)
     have q2' : Holds ((K1 ++ Cn) ++ Res.raw (d + 1) (.loop (rec .done (some c))) :: [Res.raw d (.deferred (some [])), Res.know tm A.e]) w2 := by rw [hB, ← List.append_assoc] at q2; exact q2
     have q := raw_at (o' := .loop { rec .done (some c) with state := .exhausted }) q2' (hnl _)
     have hsub : (markR d :: (K1 ++ Cn)).Sublist (markR d :: (K1 ++ Cn ++ [Res.raw (d + 1) (.loop { rec .done (some c) with state := .exhausted }), Res.know tm A.e])) := (List.sublist_append_left _ _).cons_cons _
     have hpm : (K1 ++ Cn ++ Res.raw (d + 1) (.loop { rec .done (some c) with state := .exhausted }) :: [Res.raw d (.deferred (some [])), Res.know tm A.e]).Perm (markR d :: (K1 ++ Cn ++ [Res.raw (d + 1) (.loop { rec .done (some c) with state := .exhausted }), Res.know tm A.e])) := by
      refine (List.Perm.append_left _ (.swap _ _ _)).trans ?_
      exact List.perm_middle
     have hq3 : Ext (OwnS (K0 ++ C)) w (OwnS ((K1 ++ Cn) ++ Res.raw (d + 1) (.loop (rec .done (some c))) :: [Res.raw d (.deferred (some [])), Res.know tm A.e])) w2 := by
      have := E3.trans q3
      rw [hB, ← List.append_assoc] at this
      exact this
     have Ef : Ext (OwnS (K0 ++ C)) w (OwnS (markR d :: (K1 ++ Cn))) (w2.putObj (d + 1) (.loop { rec .done (some c) with state := .exhausted })) := by
      refine ((hq3.trans q.2).trans ?_)
      rw [OwnS.perm hpm]
      exact Ext.drop (fun _ h => hsub.subset h) _
     exact ⟨some c, _, hend, wpIn_mono (hstop c d i K1 Cn hk hJ _ _ ⟨h1.1, by show mark d :: a.defers = mark d :: A.df; rw [h1.2.1], fun t => (h1.2.2 t).ext Ef⟩ ((q.1.perm hpm).sub hsub)) fun _ _ _ => PostA.ext Ef⟩
theorem tr_range {X : Type} {g : Operand} {ps : Array Tmp} {assign body : Code} {gf : FuncId} {caps : List D} {args : X → List D} {L : List X} {K0 C : St} {Kend : St → Prop} {Kstop : Nat → St → Prop}
 (hit : IterC P gf caps args L K0 Kend Kstop) (hent : ∀ args w, (callFunc gf args).run P w = .ok (.enter gf args) w) (hg : ev A.e g = some (.fn (.func gf) [] caps)) (hps : ∀ x, (args x).length = ps.size) (hpN : ps.toList.all (fun t => decide (t < N)) = true)
 (J : Nat → St → Prop) (Jx : Code → Nat → St → Prop) (h0 : J 0 C) (hne : ∀ i, i ≤ L.length → ∃ C, J i C)
 (hround : ∀ l i x C K, L[i]? = some x → J i C → Tr P N (some l) assign (setA ⟨A.e, []⟩ ps.toList (args x)) (C ++ K) (thenA (fun A' st' => ∃ C1, (C1 ++ K).Sublist st' ∧ ∀ K', Tr P N (some l) body A' (C1 ++ K') (roundQ K' (i + 1) J Jx)) (fun _ _ _ => False)))
 (hdone : ∀ d K1 C', Kend K1 → J L.length C' → Q .normal ⟨A.e, mark d :: A.df⟩ (markR d :: (K1 ++ C')))
 (hstop : ∀ c d i K1 C', Kstop i K1 → Jx c i C' → Tr P N none c ⟨A.e, mark d :: A.df⟩ (markR d :: (K1 ++ C')) Q) :
 Tr P N none (.rangeFunc g ps assign body) A (K0 ++ C) Q :=
 tr_rangeS hit hent hg hps hpN J Jx h0 (fun i x C hx _ => .inl (hne (i + 1) (List.getElem?_eq_some_iff.1 hx).1)) hround hdone hstop
end
theorem out_here {r : Res} {s : St} : (r :: s).Perm (r :: s) := .refl _
theorem out_there {r x : Res} {s s2 : St} (h : s.Perm (r :: s2)) : (x :: s).Perm (r :: x :: s2) := (h.cons _).trans (.swap _ _ _)
theorem retA_mark {ts : List Tmp} {R : D → St → Prop} {ex : Exit} {A : AA} {X : D} {st st0 s2 : St} {d : Nat} (hex : ex = .normal ∨ ex = .ret) (hdf : A.df = [mark d]) (hp : st.Perm (markR d :: s2)) (hs : st0.Sublist s2) (hd : LE (resD ts A.e) X) (hR : R X st0) : retA ts R ex A st := by
 rcases hex with rfl | rfl <;> exact ⟨[d], X, s2, st0, hdf, hp, hs, hd, hR⟩
theorem keep_more {b : Nat} {ty : TypeId} {cs : List D} {ro : Ro} {st : St} (h : Res.box b ty cs ∈ st) (k : Keep (some ro) st) : Keep (some ((b, cs) :: ro)) st := fun b' cs' hl => by
 rw [List.lookup_cons] at hl
 split at hl
 · rename_i he
   cases hl
   have : b' = b := eq_of_beq he
   subst this
   exact ⟨ty, h⟩
 · exact k b' cs' hl
theorem q_k {p : Prop} (h : p := by (repeat (first | exact keep_nil | refine keep_more q_m ?_)); first | done | fail) : p := h
inductive At2 (a b a' b' : Res) : St → St → Prop
 | here {s : St} : At2 a b a' b' (a :: b :: s) (a' :: b' :: s)
 | there {x : Res} {s s' : St} (h : At2 a b a' b' s s') : At2 a b a' b' (x :: s) (x :: s')
theorem At2.perm {a b a' b' : Res} {s s' : St} (h : At2 a b a' b' s s') : ∃ s0, s.Perm (a :: b :: s0) ∧ s'.Perm (a' :: b' :: s0) := by
 induction h with
 | here => exact ⟨_, .refl _, .refl _⟩
 | there h ih =>
  obtain ⟨s0, h1, h2⟩ := ih
  exact ⟨_, (h1.cons _).trans ((List.Perm.swap _ _ _).trans (.cons _ (.swap _ _ _))), (h2.cons _).trans ((List.Perm.swap _ _ _).trans (.cons _ (.swap _ _ _)))⟩
theorem ck_ex2 {P : Program} {m : Option Ro} {st : St} {k : D → St → Prop} {f : FuncId} {ds ds' : List D} {ι : Type} {p : ι → Prop} {F : ι → D} {a b : Res} {a' b' : ι → Res} {s1 : ι → St} (henter : ∀ args w, (callFunc f args).run P w = .ok (.enter f args) w)
 (h : ∀ s, TrF P f ds' (a :: b :: s) fun d st' => ∃ i, p i ∧ d = F i ∧ st' = a' i :: b' i :: s) (hle : LEL ds ds') (hat : ∀ i, At2 a b (a' i) (b' i) st (s1 i)) (hex : ∃ i, p i) (hk : ∀ i, p i → Keep m (s1 i) ∧ k (F i) (s1 i)) : CallK P m (f, ds) st k := by
 obtain ⟨i0, hi0⟩ := hex
 obtain ⟨s0, p1, -⟩ := (hat i0).perm
 have hf : TrF P f ds' st fun d st' => ∃ i, p i ∧ d = F i ∧ st' = s1 i := TrF.permPost p1 ((h s0).mono fun d st' ⟨i, h1, h2, h3⟩ => by
  obtain ⟨s2, q1, q2⟩ := (hat i).perm
  have hs : s0.Perm s2 := (List.perm_cons _).1 ((List.perm_cons _).1 (p1.symm.trans q1))
  exact ⟨s1 i, ⟨i, h1, h2, rfl⟩, by rw [h3]; exact ((hs.cons _).cons _).trans q2.symm⟩)
 exact ⟨_, henter, hf.le hle, ⟨_, _, i0, hi0, rfl, rfl⟩, fun d st' ⟨i, hi, e1, e2⟩ => by subst e1 e2; exact hk i hi⟩
theorem perm_cons_out {r : Res} {st s s' : St} (h : st.Perm (r :: s)) (k : s.Perm s') : st.Perm (r :: s') := h.trans (k.cons _)
end
section
section
variable {P : Program} {r : Option Nat} {ro : Ro} {st : St}
structure SameOp (o1 o2 : Oper) : Prop where
 dst : o1.dst = o2.dst
 op : o1.op = o2.op
 type : o1.type = o2.type
 pos : o1.pos = o2.pos
 guard : o1.guard = o2.guard
theorem SameOp.refl (o : Oper) : SameOp o o := ⟨rfl, rfl, rfl, rfl, rfl⟩
theorem SameOp.symm {o1 o2 : Oper} (h : SameOp o1 o2) : SameOp o2 o1 := ⟨h.dst.symm, h.op.symm, h.type.symm, h.pos.symm, h.guard.symm⟩
theorem SameOp.free {o1 o2 : Oper} (h : SameOp o1 o2) : freeA o1 = freeA o2 := by unfold freeA; rw [h.op]
theorem SameOp.wanted {ops1 ops2 : Array Oper} {o1 o2 : Oper} (h : SameOp o1 o2) (hd : ∀ j : Nat, (ops1[j]?).bind (fun o : Oper => o.dst) = (ops2[j]?).bind (fun o : Oper => o.dst)) (e : Nat → D) : wantedA ops1 o1 e = wantedA ops2 o2 e := by
 unfold wantedA
 rw [h.guard]
 cases o2.guard with
 | none => rfl
 | some q => obtain ⟨j, b⟩ := q; dsimp only; rw [hd j]
theorem SameOp.frC {o1 o2 : Oper} (h : SameOp o1 o2) (e : Nat → D) : frC P ro o1 e = frC P ro o2 e := by
 obtain ⟨d1, p1, t1, s1, a1, g1⟩ := o1
 obtain ⟨d2, p2, t2, s2, a2, g2⟩ := o2
 obtain ⟨e1, e2, e3, e4, e5⟩ := h
 dsimp only at e1 e2 e3 e4 e5
 subst e1 e2 e3 e4 e5
 rfl
theorem SameOp.opC {o1 o2 : Oper} (h : SameOp o1 o2) {e : Nat → D} {K : D → St → Prop} (hh : OpC P r o1 e st K) : OpC P r o2 e st K := by
 obtain ⟨d1, p1, t1, s1, a1, g1⟩ := o1
 obtain ⟨d2, p2, t2, s2, a2, g2⟩ := o2
 obtain ⟨e1, e2, e3, e4, e5⟩ := h
 dsimp only at e1 e2 e3 e4 e5
 subst e1 e2 e3 e4 e5
 exact hh
theorem mOpA_same {ops1 ops2 : Array Oper} {f f' : Bool} {o1 o2 : Oper} (hs : SameOp o1 o2) (hd : ∀ j : Nat, (ops1[j]?).bind (fun o : Oper => o.dst) = (ops2[j]?).bind (fun o : Oper => o.dst)) (hf : f = true → f' = true) {K K' : AA → St → Prop} (hK : ∀ A st, K A st → K' A st) {A : AA}
 (h : mOpA P r ro f ops1 o1 K A st) : mOpA P r ro f' ops2 o2 K' A st := by
 unfold mOpA at h ⊢
 rw [hs.wanted hd, hs.free, hs.frC, hs.dst] at h
 split
 · rename_i hw
   rw [if_pos hw] at h
   split
   · rename_i hfr
     rw [if_pos hfr] at h
     obtain ⟨d, h1, h2⟩ := h
     exact ⟨d, h1, hK _ _ h2⟩
   · rename_i hfr
     rw [if_neg hfr] at h
     obtain ⟨h1, d, st', h2, h3⟩ := h
     exact ⟨hs.opC (h1.mono fun d st' hk => ⟨hk.1.imp hf id, hK _ _ hk.2⟩), d, st', h2.imp hf id, hK _ _ h3⟩
 · rename_i hw
   rw [if_neg hw] at h
   exact hK _ _ h
theorem mOpA_and {ops : Array Oper} {f f' : Bool} {o : Oper} (hfr : freeA o = true) {K1 K2 : AA → St → Prop} {A : AA} (h1 : mOpA P r ro f ops o K1 A st) (h2 : mOpA P r ro f' ops o K2 A st) : mOpA P r ro f ops o (fun A st => K1 A st ∧ K2 A st) A st := by
 unfold mOpA at h1 h2 ⊢
 split
 · rename_i hw
   rw [if_pos hw, if_pos hfr] at h1 h2
   obtain ⟨d, a1, b1⟩ := h1
   obtain ⟨d', a2, b2⟩ := h2
   rw [a1] at a2
   cases a2
   exact ⟨d, a1, b1, b2⟩
 · rename_i hw
   rw [if_neg hw] at h1 h2
   exact ⟨h1, h2⟩
def addE : List Oper → Nat → Nat → List Oper
 | [], _, _ => []
 | o :: l, 0, j => { o with after := o.after.push ⟨j, .data⟩ } :: l
 | o :: l, i + 1, j => o :: addE l i j
theorem addE_get : ∀ (l : List Oper) (i j k : Nat), (addE l i j)[k]? = if k = i then (l[k]?).map (fun o => { o with after := o.after.push ⟨j, .data⟩ }) else l[k]?
 | [], i, j, k => by simp [addE]
 | o :: l, 0, j, k => by cases k <;> simp [addE]
 | o :: l, i + 1, j, k => by
  cases k with
  | zero => simp [addE]
  | succ k => simp [addE, addE_get l i j k]
theorem addE_len : ∀ (l : List Oper) (i j : Nat), (addE l i j).length = l.length
 | [], _, _ => rfl
 | _ :: _, 0, _ => rfl
 | _ :: l, i + 1, j => by simp [addE, addE_len l i j]
theorem addE_same {l : List Oper} {x y i : Nat} {o : Oper} (h : l[i]? = some o) : ∃ o1, (addE l x y)[i]? = some o1 ∧ SameOp o1 o := by
 rw [addE_get, h]
 split
 · exact ⟨_, rfl, ⟨rfl, rfl, rfl, rfl, rfl⟩⟩
 · exact ⟨_, rfl, .refl _⟩
theorem addE_dst (l : List Oper) (x y j : Nat) : ((addE l x y).toArray[j]?).bind (fun o : Oper => o.dst) = (l.toArray[j]?).bind (fun o : Oper => o.dst) := by
 simp only [List.getElem?_toArray, addE_get]
 split
 · cases l[j]? <;> rfl
 · rfl
theorem ready_addE {l : List Oper} {x y i : Nat} {listed : Array Bool} : i ∈ Region.ready .any (addE l x y).toArray listed ↔ i ∈ Region.ready .any l.toArray listed ∧ (i = x → listed.getD y false = true) := by
 rw [mem_ready, mem_ready]
 simp only [List.getElem?_toArray, addE_get]
 constructor
 · rintro ⟨h1, o, ho, h2⟩
   split at ho
   · rename_i hix
     cases hl : l[i]? with
     | none => rw [hl] at ho; cases ho
     | some o' =>
      rw [hl] at ho
      cases ho
      exact ⟨⟨h1, o', rfl, fun e he hb => h2 e (by simp [he]) hb⟩, fun _ => h2 ⟨y, .data⟩ (by simp) rfl⟩
   · rename_i hix
     exact ⟨⟨h1, o, ho, h2⟩, fun e => absurd e hix⟩
 · rintro ⟨⟨h1, o, ho, h2⟩, h3⟩
   refine ⟨h1, ?_⟩
   split
   · rename_i hix
     rw [ho]
     refine ⟨_, rfl, fun e he hb => ?_⟩
     rcases Array.mem_push.1 he with h | h
     · exact h2 e h hb
     · subst h; exact h3 hix
   · exact ⟨o, ho, h2⟩
theorem flag_addE {l : List Oper} {x y i : Nat} (hl : lastAll (addE l x y).toArray = true → lastAll l.toArray = true) (h : (decide (i + 1 = (addE l x y).toArray.size) && lastAll (addE l x y).toArray) = true) : (decide (i + 1 = l.toArray.size) && lastAll l.toArray) = true := by
 simp only [Bool.and_eq_true, decide_eq_true_eq, List.size_toArray, addE_len] at h ⊢
 exact ⟨h.1, hl h.2⟩
theorem any_listed {l : List Oper} {x y : Nat} {Q : AA → St → Prop} (hl : lastAll (addE l x y).toArray = true → lastAll l.toArray = true) : ∀ (fuel : Nat) (listed : Array Bool) (A : AA) (st : St), listed.getD y false = true →
 wpAnyA P r ro .any (addE l x y).toArray Q fuel listed A st → wpAnyA P r ro .any l.toArray Q fuel listed A st
 | 0, listed, A, st, hy, h => by
  refine ⟨List.eq_nil_iff_forall_not_mem.2 fun i hi => ?_, h.2⟩
  have := (ready_addE (l := l) (x := x) (y := y)).2 ⟨hi, fun _ => hy⟩
  rw [h.1] at this; cases this
 | fuel + 1, listed, A, st, hy, h => by
  refine ⟨fun h0 => h.1 (List.eq_nil_iff_forall_not_mem.2 fun i hi => ?_), fun i hi o ho => ?_⟩
  · have := (ready_addE.1 hi).1
    rw [h0] at this; cases this
  · obtain ⟨o1, ho1, hs⟩ := addE_same (x := x) (y := y) (by simpa using ho)
    exact mOpA_same hs (addE_dst l x y) (flag_addE hl) (fun A st => any_listed hl fuel _ A st (getD_set_true hy)) (h.2 i (ready_addE.2 ⟨hi, fun _ => hy⟩) o1 (by simpa using ho1))
theorem listed_set {md : Region.Mode} {ops : Array Oper} {listed : Array Bool} {i : Nat} (h : i ∈ Region.ready md ops listed) : (listed.setIfInBounds i true).getD i false = true := by
 have h1 := (mem_ready.1 h).1
 rw [Array.getD_eq_getD_getElem?] at h1 ⊢
 rcases Nat.lt_or_ge i listed.size with h2 | h2
 · rw [Array.getElem?_setIfInBounds_self_of_lt h2]; rfl
 · rw [Array.getElem?_eq_none h2] at h1; cases h1
def freeB (l : List Oper) (a c : Nat) : Bool := (List.range l.length).all fun i => i == a || i == c || match l[i]? with
 | some o => freeA o || o.after.any (fun e => Region.binds .any e && (e.on == a || e.on == c))
 | none => true
theorem any_two {l : List Oper} {a c : Nat} {Q : AA → St → Prop} (hac : a ≠ c) (hfree : freeB l a c = true) (hl1 : lastAll (addE l a c).toArray = true → lastAll l.toArray = true) (hl2 : lastAll (addE l c a).toArray = true → lastAll l.toArray = true) : ∀ (fuel : Nat) (listed : Array Bool) (A : AA) (st : St), listed.getD a false = false → listed.getD c false = false →
 wpAnyA P r ro .any (addE l a c).toArray Q fuel listed A st → wpAnyA P r ro .any (addE l c a).toArray Q fuel listed A st → wpAnyA P r ro .any l.toArray Q fuel listed A st
 | 0, listed, A, st, ha, hc, h1, h2 => by
  refine ⟨List.eq_nil_iff_forall_not_mem.2 fun i hi => ?_, h1.2⟩
  by_cases hia : i = a
  · have := (ready_addE (l := l) (x := c) (y := a)).2 ⟨hi, fun e => absurd (hia.symm.trans e) hac⟩
    rw [h2.1] at this; cases this
  · have := (ready_addE (l := l) (x := a) (y := c)).2 ⟨hi, fun e => absurd e hia⟩
    rw [h1.1] at this; cases this
 | fuel + 1, listed, A, st, ha, hc, h1, h2 => by
  refine ⟨fun h0 => h1.1 (List.eq_nil_iff_forall_not_mem.2 fun i hi => ?_), fun i hi o ho => ?_⟩
  · have := (ready_addE.1 hi).1
    rw [h0] at this; cases this
  · have ho' : l[i]? = some o := by simpa using ho
    obtain ⟨o1, ho1, hs1⟩ := addE_same (x := a) (y := c) ho'
    obtain ⟨o2, ho2, hs2⟩ := addE_same (x := c) (y := a) ho'
    by_cases hia : i = a
    · subst hia
      exact mOpA_same hs2 (addE_dst l c i) (flag_addE hl2) (fun A st => any_listed hl2 fuel _ A st (listed_set hi)) (h2.2 i (ready_addE.2 ⟨hi, fun e => absurd e hac⟩) o2 (by simpa using ho2))
    · by_cases hic : i = c
      · subst hic
        exact mOpA_same hs1 (addE_dst l a i) (flag_addE hl1) (fun A st => any_listed hl1 fuel _ A st (listed_set hi)) (h1.2 i (ready_addE.2 ⟨hi, fun e => absurd e hia⟩) o1 (by simpa using ho1))
      · have hfo : freeA o = true := by
         have hlt := (List.getElem?_eq_some_iff.1 ho').1
         have := List.all_eq_true.1 hfree i (List.mem_range.2 hlt)
         rw [ho'] at this
         simp only [Bool.or_eq_true, beq_iff_eq, hia, hic, false_or, Array.any_eq_true, Bool.and_eq_true] at this
         rcases this with h | ⟨q, hq, hb, he⟩
         · exact h
         · exfalso
           obtain ⟨-, o', hoo, hall⟩ := mem_ready.1 hi
           rw [ho] at hoo
           cases hoo
           have := hall _ (Array.getElem_mem hq) hb
           rcases he with he | he
           · rw [he, ha] at this; cases this
           · rw [he, hc] at this; cases this
        have k1 := mOpA_same (f' := (decide (i + 1 = l.toArray.size) && lastAll l.toArray)) hs1 (addE_dst l a c) (flag_addE hl1) (fun _ _ h => h) (h1.2 i (ready_addE.2 ⟨hi, fun e => absurd e hia⟩) o1 (by simpa using ho1))
        have k2 := mOpA_same (f' := (decide (i + 1 = l.toArray.size) && lastAll l.toArray)) hs2 (addE_dst l c a) (flag_addE hl2) (fun _ _ h => h) (h2.2 i (ready_addE.2 ⟨hi, fun e => absurd e hic⟩) o2 (by simpa using ho2))
        refine mOpA_same (.refl o) (fun _ => rfl) id (fun A st h => ?_) (mOpA_and hfo k1 k2)
        exact any_two hac hfree hl1 hl2 fuel _ A st (by rw [getD_set_ne false hia]; exact ha) (by rw [getD_set_ne false hic]; exact hc) h.1 h.2
def wpOrdA (P : Program) (r : Option Nat) (ro : Ro) (ops : Array Oper) (Q : AA → St → Prop) : List Nat → AA → St → Prop
 | [], A, st => Q A st
 | k :: ks, A, st => ∀ o, ops[k]? = some o → mOpA P r ro (ks.isEmpty && lastAll ops) ops o (wpOrdA P r ro ops Q ks) A st
def mixOrdA (ms : List Nat) (ops : Array Oper) : List Nat → Array Bool → Bool
 | [], listed => (Region.ready .any ops listed).isEmpty
 | k :: ks, listed => (Region.ready .any ops listed).contains k && mixFreeA ms ops listed k && (!ks.isEmpty || k + 1 == ops.size) && mixOrdA ms ops ks (listed.setIfInBounds k true)
theorem wpAnyA_ord {ops : Array Oper} {ms : List Nat} (hms : MOk .any ops.toList ms) (hL : LastW ms ops) {Q : AA → St → Prop} : ∀ (ks : List Nat) (listed : Array Bool) (A : AA) (st : St), Keeps ro st → DC .any ops listed →
 mixOrdA ms ops ks listed = true → wpOrdA P r ro ops Q ks A st → wpAnyA P r ro .any ops Q ks.length listed A st
 | [], _, _, _, _, _, hB, h => ⟨by simpa [mixOrdA] using hB, h⟩
 | k :: ks, listed, A, st, hw, hdc, hB, h => by
  simp only [mixOrdA, Bool.and_eq_true] at hB
  obtain ⟨⟨⟨hr, hf⟩, hlst⟩, hB'⟩ := hB
  have hr' : k ∈ Region.ready .any ops listed := by simpa using hr
  obtain ⟨-, o, h0, -⟩ := mem_ready.1 hr'
  refine wpAnyA_first hms hL h0 ks.length listed A st hw hdc (mixFreeA_spec h0 hf) hr' ?_
  have h := h o h0
  cases ks with
  | nil =>
   have hk : k + 1 = ops.size := by simpa using hlst
   refine mOpA_same (.refl o) (fun _ => rfl) (f := true && lastAll ops) (fun q => by rw [decide_eq_true hk]; exact q) (fun A st hk => ?_) h
   exact ⟨by simpa [mixOrdA] using hB', hk⟩
  | cons k' ks =>
   refine mOpA_same (.refl o) (fun _ => rfl) (f := false) (fun q => by cases q) (fun _ _ h => h) (mOpA_put hw (fun v w' hc hk => ?_) h)
   exact wpAnyA_ord hms hL (k' :: ks) _ _ _ (hc.resolve_left (by simp)) (hdc.step hr') hB' hk
theorem ord_of_mix {l : List Oper} {ops : Array Oper} (hs : ∀ (i : Nat) (o : Oper), ops[i]? = some o → ∃ o', l[i]? = some o' ∧ SameOp o' o) (hd : ∀ j : Nat, (l.toArray[j]?).bind (fun o : Oper => o.dst) = (ops[j]?).bind (fun o : Oper => o.dst)) (hl : lastAll l.toArray = true → lastAll ops = true) {Q : AA → St → Prop} : ∀ (ks : List Nat) (A : AA) (st : St), (∀ k ∈ ks, k < l.length) →
 wpMixA P r ro l.toArray Q (ks.filterMap fun k => l[k]?) A st → wpOrdA P r ro ops Q ks A st
 | [], A, st, _, h => h
 | k :: ks, A, st, hk, h => fun o ho => by
  obtain ⟨o', ho', hso⟩ := hs k o ho
  rw [List.filterMap_cons, ho'] at h
  have he : (ks.filterMap fun k => l[k]?).isEmpty = true → ks.isEmpty = true := fun h0 => by
   cases ks with
   | nil => rfl
   | cons k' ks =>
    have hlt := hk k' (by simp)
    rw [List.filterMap_cons, List.getElem?_eq_getElem hlt] at h0
    simp at h0
  refine mOpA_same hso hd (fun q => ?_) (fun A st => ord_of_mix hs hd hl ks A st fun k' hk' => hk k' (List.mem_cons_of_mem _ hk')) h
  rw [Bool.and_eq_true] at q ⊢
  exact ⟨he q.1, hl q.2⟩
def ixs : Nat → Nat → Option Nat → List Nat
 | 0, _, _ => []
 | n + 1, k, some 0 => ixs n (k + 1) none
 | n + 1, k, some (a + 1) => k :: ixs n (k + 1) (some a)
 | n + 1, k, none => k :: ixs n (k + 1) none
theorem ixs_none {α : Type} : ∀ (l pre : List α), (ixs l.length pre.length none).filterMap (fun k => (pre ++ l)[k]?) = l
 | [], pre => rfl
 | x :: l, pre => by
  have h := ixs_none l (pre ++ [x])
  simp only [List.length_append, List.length_cons, List.length_nil, List.append_assoc, List.cons_append, List.nil_append] at h
  simp only [List.length_cons, ixs, List.filterMap_cons]
  rw [List.getElem?_append_right (Nat.le_refl _), Nat.sub_self, List.getElem?_cons_zero]
  dsimp only
  rw [h]
theorem ixs_some {α : Type} : ∀ (l pre : List α) (a : Nat), (ixs l.length pre.length (some a)).filterMap (fun k => (pre ++ l)[k]?) = l.eraseIdx a
 | [], pre, a => by cases a <;> rfl
 | x :: l, pre, 0 => by
  have h := ixs_none l (pre ++ [x])
  simp only [List.length_append, List.length_cons, List.length_nil, List.append_assoc, List.cons_append, List.nil_append] at h
  simp only [List.length_cons, ixs, List.eraseIdx_cons_zero]
  exact h
 | x :: l, pre, a + 1 => by
  have h := ixs_some l (pre ++ [x]) a
  simp only [List.length_append, List.length_cons, List.length_nil, List.append_assoc, List.cons_append, List.nil_append] at h
  simp only [List.length_cons, ixs, List.filterMap_cons, List.eraseIdx_cons_succ]
  rw [List.getElem?_append_right (Nat.le_refl _), Nat.sub_self, List.getElem?_cons_zero]
  dsimp only
  rw [h]
theorem ixs_lt : ∀ (n k : Nat) (a : Option Nat), ∀ i ∈ ixs n k a, i < k + n
 | 0, _, _, _, h => by cases h
 | n + 1, k, some 0, i, h => by have := ixs_lt n (k + 1) none i h; omega
 | n + 1, k, some (a + 1), i, h => by
  rcases List.mem_cons.1 h with rfl | h
  · omega
  · have := ixs_lt n (k + 1) (some a) i h; omega
 | n + 1, k, none, i, h => by
  rcases List.mem_cons.1 h with rfl | h
  · omega
  · have := ixs_lt n (k + 1) none i h; omega
def twoB (l : List Oper) (a c : Nat) : Bool :=
 a != c && freeB l a c && decide (a < l.length) && (lastAll (addE l a c).toArray == lastAll l.toArray) && (lastAll (addE l c a).toArray == lastAll l.toArray) &&
 mixOrdA (masks .any (addE l a c) []) (addE l a c).toArray (ixs l.length 0 none) (Array.replicate l.length false) &&
 mixOrdA (masks .any (addE l c a) []) (addE l c a).toArray (a :: ixs l.length 0 (some a)) (Array.replicate l.length false)
theorem ixs_len : ∀ (n k : Nat), (ixs n k none).length = n
 | 0, _ => rfl
 | n + 1, k => by simp [ixs, ixs_len n]
theorem ixs_len' : ∀ (n k a : Nat), a < n → (ixs n k (some a)).length + 1 = n
 | 0, _, _, h => by omega
 | n + 1, k, 0, _ => by simp [ixs, ixs_len]
 | n + 1, k, a + 1, h => by simp [ixs, ixs_len' n (k + 1) a q_o]
theorem tr_draw2 {N : Nat} {id : Nat} {l t : List Oper} {o : Oper} {A : AA} {Q : Exit → AA → St → Prop} (ro : Ro) (a c : Nat) (hm : P.follows .mixedOrders = true) (hB : twoB l a c = true) (hok : opsOk N l = true) (hC : Keeps ro st)
 (ha : l[a]? = some o) (ht : l.eraseIdx a = t) (h1 : wpMixA P r ro l.toArray (Q .normal) l A st) (h2 : wpMixA P r ro l.toArray (Q .normal) (o :: t) A st) : Tr P N r (.region id l.toArray true) A st Q := by
 intro ac w hr hh
 subst ht
 simp only [twoB, Bool.and_eq_true, bne_iff_ne, ne_eq, beq_iff_eq, decide_eq_true_eq] at hB
 obtain ⟨⟨⟨⟨⟨⟨hac, hfree⟩, halt⟩, hl1⟩, hl2⟩, hB1⟩, hB2⟩ := hB
 have hok' : ∀ (i : Nat) (o : Oper), l.toArray[i]? = some o → dstOk N o.dst = true ∧ guardOk N l.toArray o = true := fun i o ho => by
  have := List.all_eq_true.1 hok o (by simp at ho; exact List.mem_of_getElem? ho)
  simpa using this
 have he := Ext.drew (OwnS st) w
 have lw : ∀ (l : List Oper), LastW (masks .any l []) l.toArray := fun l h j i hj hi hne => by
  unfold lastAll at h
  have := List.all_eq_true.1 h i (List.mem_range.2 q_o)
  rw [show l.toArray.size - 1 = j by omega] at this
  exact this
 have mk : ∀ (l : List Oper), MOk .any l.toArray.toList (masks .any l []) := fun l => masks_ok (md := .any) l l [] (by simp) (fun k i h => by simp at h)
 have dc : ∀ (l' : List Oper) (n : Nat), DC .any l'.toArray (Array.replicate n false) := fun l' n k o _ hl => absurd hl (by rw [getD_rep]; exact Bool.false_ne_true)
 have hs : ∀ x y, ∀ (i : Nat) (o : Oper), (addE l x y).toArray[i]? = some o → ∃ o', l[i]? = some o' ∧ SameOp o' o := fun x y i o ho => by
  have hi : i < l.length := by
   have := (Array.getElem?_eq_some_iff.1 ho).1
   simpa [addE_len] using this
  obtain ⟨o1, ho1, hso⟩ := addE_same (x := x) (y := y) (List.getElem?_eq_getElem hi)
  rw [List.getElem?_toArray, ho1] at ho
  cases ho
  exact ⟨_, List.getElem?_eq_getElem hi, hso.symm⟩
 have n1 := wpAnyA_ord (P := P) (r := r) (ro := ro) (mk (addE l a c)) (lw (addE l a c)) (Q := Q .normal) (ixs l.length 0 none) (Array.replicate l.length false) A st hC (dc _ _) hB1
  (ord_of_mix (hs a c) (fun j => (addE_dst l a c j).symm) (fun h => by rw [hl1]; exact h) _ A st (fun k hk => by have := ixs_lt _ _ _ k hk; omega) (by have := ixs_none l []; simp only [List.length_nil, List.nil_append] at this; rw [this]; exact h1))
 have n2 := wpAnyA_ord (P := P) (r := r) (ro := ro) (mk (addE l c a)) (lw (addE l c a)) (Q := Q .normal) (a :: ixs l.length 0 (some a)) (Array.replicate l.length false) A st hC (dc _ _) hB2
  (ord_of_mix (hs c a) (fun j => (addE_dst l c a j).symm) (fun h => by rw [hl2]; exact h) _ A st (fun k hk => by
   rcases List.mem_cons.1 hk with rfl | hk
   · exact halt
   · have := ixs_lt _ _ _ k hk; omega) (by have := ixs_some l [] a; simp only [List.length_nil, List.nil_append] at this; rw [List.filterMap_cons, ha]; dsimp only; rw [this]; exact h2))
 rw [ixs_len] at n1
 rw [List.length_cons, ixs_len' _ _ _ halt] at n2
 have hany := any_two (P := P) (r := r) (ro := ro) hac hfree (fun h => by rw [← hl1]; exact h) (fun h => by rw [← hl2]; exact h) l.length (Array.replicate l.length false) A st (getD_rep _ _) (getD_rep _ _) n1 n2
 refine wpIn_region_any hm ?_
 have hsz : l.toArray.size = l.length := by simp
 rw [hsz]
 exact wpAnyIn_of_A (mk l) (lw l) hok' _ _ A st ac w.drew _ (.inl hC) (dc _ _) (hr.ext he) (hh.drewN 1) hany fun A' st' a' w' q1 q2 q3 q5 => ⟨A', st', q1, q2, he.trans q3, q5⟩
theorem w_draw2 {N : Nat} {id : Nat} {l t : List Oper} {o : Oper} {A : AA} {Q : Exit → AA → St → Prop} (ro : Ro) (a c : Nat) (hm : P.follows .mixedOrders = true) (hB : twoB l a c = true) (hok : opsOk N l = true) (hC : Keeps ro st)
 (ha : l[a]? = some o) (ht : l.eraseIdx a = t) (h1 : W P r (some ro) l.toArray (Q .normal) l A st) (h2 : W P r (some ro) l.toArray (Q .normal) (o :: t) A st) : Tr P N r (.region id l.toArray true) A st Q := tr_draw2 ro a c hm hB hok hC ha ht h1 h2
end
end
section
section
variable {P : Program} {r : Option Nat} {ro : Ro} {ops : Array Oper} {md : Region.Mode} {st : St}
def wpAnyP (P : Program) (r : Option Nat) (ro : Ro) (md : Region.Mode) (ops : Array Oper) (p : Nat) (Q : AA → St → Prop) : Nat → Array Bool → AA → St → Prop
 | 0, _, _, _ => False
 | fuel + 1, listed, A, st => Region.ready md ops listed ≠ [] ∧ ∀ i ∈ Region.ready md ops listed, ∀ o, ops[i]? = some o →
  if i = p then mOpA P r ro true ops o (fun A' st' => ∃ ro2, Keeps ro2 st' ∧ wpAnyA P r ro2 md ops Q fuel (listed.setIfInBounds i true) A' st') A st
  else mOpA P r ro false ops o (wpAnyP P r ro md ops p Q fuel (listed.setIfInBounds i true)) A st
def pureA (o : Oper) : Bool := freeA o && match o.op with
 | .load _ _ => false
 | _ => true
theorem frC_pure {ro ro' : Ro} {o : Oper} {e : Nat → D} (h : pureA o = true) : frC P ro o e = frC P ro' o e := by
 unfold pureA at h
 unfold frC
 split
 · rename_i t x hop
   rw [hop] at h
   simp at h
 · rfl
def Between (ms : List Nat) (ops : Array Oper) (p : Nat) : Prop := ∀ j oj, ops[j]? = some oj → j ≠ p → waitsT ms j p = true ∨ waitsT ms p j = true ∨ pureA oj = true
theorem wpAnyP_pivot {ms : List Nat} (hms : MOk md ops.toList ms) {p : Nat} (hB : Between ms ops p) {Q : AA → St → Prop} {op : Oper} (hp : ops[p]? = some op) : ∀ (fuel : Nat) (listed : Array Bool) (A : AA) (st : St), Keeps ro st → DC md ops listed →
 (∀ j oj, ops[j]? = some oj → j ≠ p → listed.getD j true = false → waitsT ms j p = false → op.apart ops oj = true) → p ∈ Region.ready md ops listed →
 mOpA P r ro true ops op (fun A' st' => ∃ ro2, Keeps ro2 st' ∧ wpAnyA P r ro2 md ops Q fuel (listed.setIfInBounds p true) A' st') A st → wpAnyP P r ro md ops p Q (fuel + 1) listed A st := by
 intro fuel
 induction fuel with
 | zero =>
  intro listed A st hw hdc hfree hr H
  refine ⟨fun h => (by rw [h] at hr; cases hr), fun i hi oi hoi => ?_⟩
  by_cases hip : i = p
  · subst hip
    rw [hp] at hoi; cases hoi
    rw [if_pos rfl]; exact H
  · exfalso
    obtain ⟨v, w', _, ro2, _, h1⟩ := mOpA_some hw H
    have h2 := ready_mono hi hip
    rw [h1.1] at h2
    cases h2
 | succ fuel ih =>
  intro listed A st hw hdc hfree hr H
  refine ⟨fun h => (by rw [h] at hr; cases hr), fun j hj oj hoj => ?_⟩
  by_cases hjp : j = p
  · subst hjp
    rw [hp] at hoj; cases hoj
    rw [if_pos rfl]; exact H
  · rw [if_neg hjp]
    have h1 := hdc.ready hms (ready_unlisted hr) hj
    have h2 := hdc.ready hms (ready_unlisted hj) hr
    have hpu : pureA oj = true := by
     rcases hB j oj hoj hjp with h | h | h
     · rw [h1] at h; cases h
     · rw [h2] at h; cases h
     · exact h
    have hfj : freeA oj = true := by
     unfold pureA at hpu
     rw [Bool.and_eq_true] at hpu
     exact hpu.1
    have hdc' := hdc.step hj
    obtain ⟨hjun, -⟩ := mem_ready.1 hj
    have hap := hfree j oj hoj hjp hjun h1
    obtain ⟨d1, d2, d3⟩ := Oper.apart_spec hap
    have hri := ready_mono hr (Ne.symm hjp)
    have hcomm : (listed.setIfInBounds j true).setIfInBounds p true = (listed.setIfInBounds p true).setIfInBounds j true := Array.setIfInBounds_comm _ _ hjp
    have hfree' : ∀ k ok, ops[k]? = some ok → k ≠ p → (listed.setIfInBounds j true).getD k true = false → waitsT ms k p = false → op.apart ops ok = true := fun k ok hk hkp hun hno => by
     refine hfree k ok hk hkp ?_ hno
     by_cases hjk : j = k
     · subst hjk; exact hjun
     · rw [getD_set_ne true hjk] at hun; exact hun
    have hij : ∀ v st' ro2, wpAnyA P r ro2 md ops Q (fuel + 1) (listed.setIfInBounds p true) (A.put op.dst v) st' →
     mOpA P r ro2 (decide (j + 1 = ops.size) && lastAll ops) ops oj (wpAnyA P r ro2 md ops Q fuel ((listed.setIfInBounds j true).setIfInBounds p true)) (A.put op.dst v) st' := fun v st' ro2 h => by
     have := h.2 j (ready_mono hj hjp) oj hoj
     rw [hcomm]; exact this
    have hjw : ∀ v, wantedA ops oj (A.put op.dst v).e = wantedA ops oj A.e := fun v => wantedA_far d1
    have hje : ∀ v ro2, frC P ro2 oj (A.put op.dst v).e = frC P ro oj A.e := fun v ro2 => (frC_congr (ev_far d1)).trans (frC_pure hpu)
    by_cases hwj : wantedA ops oj A.e = true
    · obtain ⟨v1, w1, hc1, ro1, q1, k1⟩ := mOpA_some hw H
      have k2 := hij v1 w1 ro1 k1
      unfold mOpA at k2
      rw [hjw v1, if_pos hwj, if_pos hfj, hje v1] at k2
      obtain ⟨u, hu, _⟩ := k2
      have hstep : mOpA P r ro true ops op (fun A' st' => ∃ ro2, Keeps ro2 st' ∧ wpAnyA P r ro2 md ops Q fuel ((listed.setIfInBounds j true).setIfInBounds p true) A' st') (A.put oj.dst u) st := by
       refine mOpA_far hap (mOpA_put hw (fun v w' hc ⟨ro2, g1, g2⟩ => ⟨ro2, g1, ?_⟩) H)
       have k3 := hij v w' ro2 g2
       unfold mOpA at k3
       rw [hjw v, if_pos hwj, if_pos hfj, hje v] at k3
       obtain ⟨u', hu', k4⟩ := k3
       rw [hu] at hu'
       cases hu'
       exact k4
      unfold mOpA
      rw [if_pos hwj, if_pos hfj]
      exact ⟨u, hu, ih _ _ _ hw hdc' hfree' hri hstep⟩
    · have hstep : mOpA P r ro true ops op (fun A' st' => ∃ ro2, Keeps ro2 st' ∧ wpAnyA P r ro2 md ops Q fuel ((listed.setIfInBounds j true).setIfInBounds p true) A' st') (A.put oj.dst D.un) st := by
       refine mOpA_far hap (mOpA_put hw (fun v w' hc ⟨ro2, g1, g2⟩ => ⟨ro2, g1, ?_⟩) H)
       have k3 := hij v w' ro2 g2
       unfold mOpA at k3
       rw [hjw v, if_neg hwj] at k3
       exact k3
      unfold mOpA
      rw [if_neg hwj]
      exact ih _ _ _ hw hdc' hfree' hri hstep
theorem wpAnyP_first {ms : List Nat} (hms : MOk md ops.toList ms) {p : Nat} {Q : AA → St → Prop} {i : Nat} {oi : Oper} (hi : ops[i]? = some oi) (hip : i ≠ p) (hpi : waitsT ms p i = true) :
 ∀ (fuel : Nat) (listed : Array Bool) (A : AA) (st : St), Keeps ro st → DC md ops listed →
  (∀ j oj, ops[j]? = some oj → j ≠ i → listed.getD j true = false → waitsT ms j i = false → oi.apart ops oj = true ∧ (freeA oi = true ∨ freeA oj = true)) →
  i ∈ Region.ready md ops listed →
  mOpA P r ro false ops oi (wpAnyP P r ro md ops p Q fuel (listed.setIfInBounds i true)) A st → wpAnyP P r ro md ops p Q (fuel + 1) listed A st := by
 intro fuel
 induction fuel with
 | zero =>
  intro listed A st hw _ _ hr H
  obtain ⟨v, w', _, h1⟩ := mOpA_some hw H
  exact h1.elim
 | succ fuel ih =>
  intro listed A st hw hdc hfree hr H
  refine ⟨fun h => (by rw [h] at hr; cases hr), fun j hj oj hoj => ?_⟩
  by_cases hji : j = i
  · subst hji
    rw [hi] at hoj; cases hoj
    rw [if_neg hip]; exact H
  · obtain ⟨hjun, oj', hoj', hall⟩ := mem_ready.1 hj
    rw [hoj] at hoj'; cases hoj'
    have hnot := hdc.ready hms (ready_unlisted hr) hj
    have hjp : j ≠ p := fun e => by
     subst e
     rw [hpi] at hnot; cases hnot
    rw [if_neg hjp]
    have hdc' := hdc.step hj
    obtain ⟨hap, hfk⟩ := hfree j oj hoj hji hjun hnot
    obtain ⟨d1, d2, d3⟩ := Oper.apart_spec hap
    have hfree' : ∀ k ok, ops[k]? = some ok → k ≠ i → (listed.setIfInBounds j true).getD k true = false →
     waitsT ms k i = false → oi.apart ops ok = true ∧ (freeA oi = true ∨ freeA ok = true) := fun k ok hk hki hun hno => by
     refine hfree k ok hk hki ?_ hno
     by_cases hjk : j = k
     · subst hjk; exact hjun
     · rw [getD_set_ne true hjk] at hun; exact hun
    have hri := ready_mono hr (Ne.symm hji)
    have hcomm : (listed.setIfInBounds j true).setIfInBounds i true = (listed.setIfInBounds i true).setIfInBounds j true := Array.setIfInBounds_comm _ _ hji
    have hij : ∀ v st', wpAnyP P r ro md ops p Q (fuel + 1) (listed.setIfInBounds i true) (A.put oi.dst v) st' →
     mOpA P r ro false ops oj (wpAnyP P r ro md ops p Q fuel ((listed.setIfInBounds j true).setIfInBounds i true)) (A.put oi.dst v) st' := fun v st' h => by
     have := h.2 j (ready_mono hj hji) oj hoj
     rw [if_neg hjp] at this
     rw [hcomm]; exact this
    have hjw : ∀ v, wantedA ops oj (A.put oi.dst v).e = wantedA ops oj A.e := fun v => wantedA_far d1
    have hje : ∀ v, frC P ro oj (A.put oi.dst v).e = frC P ro oj A.e := fun v => frC_congr (ev_far d1)
    have hput : ∀ v u, (A.put oi.dst v).put oj.dst u = (A.put oj.dst u).put oi.dst v := fun v u => put_comm A v u d2
    by_cases hwj : wantedA ops oj A.e = true
    · by_cases hfj : freeA oj = true
      · obtain ⟨v1, w1, hc1, k1⟩ := mOpA_some hw H
        have k2 := hij v1 w1 k1
        unfold mOpA at k2
        rw [hjw v1, if_pos hwj, if_pos hfj, hje v1] at k2
        obtain ⟨u, hu, _⟩ := k2
        have hstep : mOpA P r ro false ops oi (wpAnyP P r ro md ops p Q fuel ((listed.setIfInBounds j true).setIfInBounds i true)) (A.put oj.dst u) st := by
         refine mOpA_far hap (mOpA_put hw (fun v w' hc h => ?_) H)
         have k3 := hij v w' h
         unfold mOpA at k3
         rw [hjw v, if_pos hwj, if_pos hfj, hje v] at k3
         obtain ⟨u', hu', k4⟩ := k3
         rw [hu] at hu'
         cases hu'
         exact k4
        unfold mOpA
        rw [if_pos hwj, if_pos hfj]
        exact ⟨u, hu, ih _ _ _ hw hdc' hfree' hri hstep⟩
      · have hfi : freeA oi = true := hfk.resolve_right hfj
        have key : ∀ v, wpAnyP P r ro md ops p Q (fuel + 1) (listed.setIfInBounds i true) (A.put oi.dst v) st → (∀ u st', Keeps ro st' → wpAnyP P r ro md ops p Q fuel ((listed.setIfInBounds j true).setIfInBounds i true) ((A.put oj.dst u).put oi.dst v) st' → mOpA P r ro false ops oi (wpAnyP P r ro md ops p Q fuel ((listed.setIfInBounds j true).setIfInBounds i true)) (A.put oj.dst u) st') →
         mOpA P r ro false ops oj (wpAnyP P r ro md ops p Q (fuel + 1) (listed.setIfInBounds j true)) A st := fun v h hback => by
         have k3 := hij v st h
         unfold mOpA at k3 ⊢
         rw [hjw v, if_pos hwj, if_neg hfj] at k3
         rw [if_pos hwj, if_neg hfj]
         obtain ⟨k4, u, st', k5, k6⟩ := k3
         refine ⟨(opC_congr (ev_far d1) k4).mono fun u st' hk => ⟨hk.1, ?_⟩, u, st', k5, ?_⟩
         · have hk2 := hk.2
           rw [hput v u] at hk2
           have hk1 := hk.1.resolve_left Bool.false_ne_true
           exact ih _ _ _ hk1 hdc' hfree' hri (hback u st' hk1 hk2)
         · rw [hput v u] at k6
           have hk1 := k5.resolve_left Bool.false_ne_true
           exact ih _ _ _ hk1 hdc' hfree' hri (hback u st' hk1 k6)
        have hiw : ∀ u, wantedA ops oi (A.put oj.dst u).e = wantedA ops oi A.e := fun u => wantedA_far d3
        have hie : ∀ u, frC P ro oi (A.put oj.dst u).e = frC P ro oi A.e := fun u => frC_congr (ev_far d3)
        unfold mOpA at H
        by_cases hwi : wantedA ops oi A.e = true
        · rw [if_pos hwi, if_pos hfi] at H
          obtain ⟨v, hv, h⟩ := H
          refine key v h fun u w' hc hk => ?_
          unfold mOpA
          rw [hiw u, if_pos hwi, if_pos hfi, hie u]
          exact ⟨v, hv, hk⟩
        · rw [if_neg hwi] at H
          refine key D.un H fun u w' hc hk => ?_
          unfold mOpA
          rw [hiw u, if_neg hwi]
          exact hk
    · have hstep : mOpA P r ro false ops oi (wpAnyP P r ro md ops p Q fuel ((listed.setIfInBounds j true).setIfInBounds i true)) (A.put oj.dst D.un) st := by
       refine mOpA_far hap (mOpA_put hw (fun v w' hc h => ?_) H)
       have k3 := hij v w' h
       unfold mOpA at k3
       rw [hjw v, if_neg hwj] at k3
       exact k3
      unfold mOpA
      rw [if_neg hwj]
      exact ih _ _ _ hw hdc' hfree' hri hstep
theorem wpAnyP_lex {ms : List Nat} (hms : MOk md ops.toList ms) (hL : LastW ms ops) (hall : lastAll ops = true) {p : Nat} (hBt : Between ms ops p) {op : Oper} {l2 : List Oper} {Q : AA → St → Prop} : ∀ (l1 : List Oper) (k : Nat) (listed : Array Bool) (A : AA) (st : St), Keeps ro st → DC md ops listed → k + l1.length = p → (∀ i, k ≤ i → i < p → waitsT ms p i = true) → (∀ j, (l1 ++ op :: l2)[j]? = ops[k + j]?) →
 mixFromA md ms ops (l1 ++ op :: l2).length k listed = true → wpMixA P r ro ops (fun A' st' => ∃ ro2, Keeps ro2 st' ∧ wpMixA P r ro2 ops Q l2 A' st') (l1 ++ [op]) A st → wpAnyP P r ro md ops p Q (l1 ++ op :: l2).length listed A st
 | [], k, listed, A, st, hw, hdc, hk, hwt, hl, hB, h => by
  have hkp : k = p := hk
  subst hkp
  have h0 : ops[k]? = some op := by simpa using (hl 0).symm
  simp only [List.nil_append, List.length_cons, mixFromA, Bool.and_eq_true] at hB
  obtain ⟨⟨hr, hf⟩, hB'⟩ := hB
  have hrk : k ∈ Region.ready md ops listed := by simpa using hr
  refine wpAnyP_pivot hms hBt h0 _ _ _ _ hw hdc (fun j oj hj hne hun hno => (mixFreeA_spec h0 hf j oj hj hne hun hno).1) hrk ?_
  have h : mOpA P r ro (true && lastAll ops) ops op (fun A' st' => ∃ ro2, Keeps ro2 st' ∧ wpMixA P r ro2 ops Q l2 A' st') A st := h
  rw [hall] at h
  refine mOpA_put hw (fun v w' _ ⟨ro2, q1, q2⟩ => ⟨ro2, q1, ?_⟩) h
  exact wpAnyA_lex hms hL l2 (k + 1) _ _ _ q1 (hdc.step hrk) (fun j => by have := hl (j + 1); simpa [Nat.add_assoc, Nat.add_comm 1 j] using this) hB' q2
 | o :: l1, k, listed, A, st, hw, hdc, hk, hwt, hl, hB, h => by
  have h0 : ops[k]? = some o := by simpa using (hl 0).symm
  simp only [List.cons_append, List.length_cons, mixFromA, Bool.and_eq_true] at hB
  obtain ⟨⟨hr, hf⟩, hB'⟩ := hB
  rw [List.length_cons] at hk
  refine wpAnyP_first hms h0 q_o (hwt k (Nat.le_refl _) q_o) _ listed A st hw hdc (mixFreeA_spec h0 hf) (by simpa using hr) ?_
  have h : mOpA P r ro ((l1 ++ [op]).isEmpty && lastAll ops) ops o (wpMixA P r ro ops (fun A' st' => ∃ ro2, Keeps ro2 st' ∧ wpMixA P r ro2 ops Q l2 A' st') (l1 ++ [op])) A st := h
  have hne : (l1 ++ [op]).isEmpty = false := by simp
  rw [hne, Bool.false_and] at h
  refine mOpA_put hw (fun v w' hc hk' => ?_) h
  exact wpAnyP_lex hms hL hall hBt l1 (k + 1) _ _ _ (hc.resolve_left Bool.false_ne_true) (hdc.step (by simpa using hr)) q_o (fun i h1 h2 => hwt i q_o h2) (fun j => by have := hl (j + 1); simpa [Nat.add_assoc, Nat.add_comm 1 j] using this) hB' hk'
theorem wpAnyIn_of_P {N : Nat} {ms : List Nat} (hms : MOk md ops.toList ms) (hL : LastW ms ops) {p : Nat} {K : AA → St → Prop} (hok : ∀ (i : Nat) (o : Oper), ops[i]? = some o → dstOk N o.dst = true ∧ guardOk N ops o = true) : ∀ (fuel : Nat) (listed : Array Bool) (A : AA) (st : St) (a : Act) (w : World) (Q : Exit → Act → World → Prop), Keeps ro st → DC md ops listed → RelA N (OwnS st) w a A → Holds st w → wpAnyP P r ro md ops p K fuel listed A st →
 (∀ A' st' a' w', RelA N (OwnS st') w' a' A' → Holds st' w' → Ext (OwnS st) w (OwnS st') w' → K A' st' → Q .normal a' w') → wpAnyIn (FR r) 0 P md ops Q fuel listed a w
 | 0, listed, A, st, a, w, Q, hk, hdc, hr, hh, h, hQ => h.elim
 | fuel + 1, listed, A, st, a, w, Q, hk, hdc, hr, hh, h, hQ => by
  refine ⟨fun h0 => absurd h0 h.1, fun i hi => ?_⟩
  obtain ⟨_, o, ho, _⟩ := mem_ready.1 hi
  obtain ⟨hd, hg⟩ := hok i o ho
  have hm := h.2 i hi o ho
  unfold wpOpIn
  simp only [ho]
  rw [wantedA_eq hr ops o (guardOk_spec hg)]
  by_cases hip : i = p
  · rw [if_pos hip] at hm
    unfold mOpA at hm
    split
    · rename_i hw
      rw [if_pos hw] at hm
      refine wpIn_of_ResC ?_
      have hC : OpC P r o A.e st fun d st' => ∃ ro2, Keeps ro2 st' ∧ wpAnyA P r ro2 md ops K fuel (listed.setIfInBounds i true) (A.put o.dst d) st' := by
       split at hm
       · obtain ⟨d, k1, k2⟩ := hm
         exact (frC_sound hk k1).opC k2
       · exact hm.1.mono fun d st' hkp => hkp.2
      exact (hC a.eval w (hr.repE _) hh).mono fun v w' ⟨d, st', k1, k2, k3, ro2, k4, k5⟩ =>
       wpAnyIn_of_A hms hL hok fuel _ _ st' _ w' Q (.inl k4) (hdc.step hi) ((hr.ext k3).put hd k1) k2 k5 fun A' st'' a' w'' q1 q2 q3 q4 => hQ A' st'' a' w'' q1 q2 (k3.trans q3) q4
    · rename_i hw
      rw [if_neg hw] at hm
      obtain ⟨ro2, k4, k5⟩ := hm
      exact ⟨fun f _ => trivial, wpAnyIn_of_A hms hL hok fuel _ _ st _ w Q (.inl k4) (hdc.step hi) (hr.put hd (.s undef rfl)) hh k5 hQ⟩
  · rw [if_neg hip] at hm
    unfold mOpA at hm
    split
    · rename_i hw
      rw [if_pos hw] at hm
      refine wpIn_of_ResC ?_
      have hC : OpC P r o A.e st fun d st' => Keeps ro st' ∧ wpAnyP P r ro md ops p K fuel (listed.setIfInBounds i true) (A.put o.dst d) st' := by
       split at hm
       · obtain ⟨d, k1, k2⟩ := hm
         exact (frC_sound hk k1).opC ⟨hk, k2⟩
       · exact hm.1.mono fun d st' hkp => ⟨hkp.1.resolve_left Bool.false_ne_true, hkp.2⟩
      exact (hC a.eval w (hr.repE _) hh).mono fun v w' ⟨d, st', k1, k2, k3, k4, k5⟩ =>
       wpAnyIn_of_P hms hL hok fuel _ _ st' _ w' Q k4 (hdc.step hi) ((hr.ext k3).put hd k1) k2 k5 fun A' st'' a' w'' q1 q2 q3 q4 => hQ A' st'' a' w'' q1 q2 (k3.trans q3) q4
    · rename_i hw
      rw [if_neg hw] at hm
      exact ⟨fun f _ => trivial, wpAnyIn_of_P hms hL hok fuel _ _ st _ w Q hk (hdc.step hi) (hr.put hd (.s undef rfl)) hh hm hQ⟩
def betweenB (l : List Oper) (p : Nat) : Bool := lastAll l.toArray && (List.range l.length).all fun j => j == p || (if j < p then waitsT (masks .any l []) p j else waitsT (masks .any l []) j p || ((l[j]?).any pureA))
theorem tr_drawP {N : Nat} {id : Nat} {l : List Oper} {A : AA} {Q : Exit → AA → St → Prop} (ro : Ro) (l1 : List Oper) (op : Oper) (l2 : List Oper) (hl : l = l1 ++ op :: l2) (hm : P.follows .mixedOrders = true) (hB : mixBA .any l.toArray = true) (hok : opsOk N l = true) (hbt : betweenB l l1.length = true) (hC : Keeps ro st)
 (h : wpMixA P r ro l.toArray (fun A' st' => ∃ ro2, Keeps ro2 st' ∧ wpMixA P r ro2 l.toArray (Q .normal) l2 A' st') (l1 ++ [op]) A st) : Tr P N r (.region id l.toArray true) A st Q := by
 intro a w h1 h2
 have hok' : ∀ (i : Nat) (o : Oper), l.toArray[i]? = some o → dstOk N o.dst = true ∧ guardOk N l.toArray o = true := fun i o ho => by
  have := List.all_eq_true.1 hok o (by simp at ho; exact List.mem_of_getElem? ho)
  simpa using this
 have he := Ext.drew (OwnS st) w
 have hms := masks_ok (md := .any) l l [] (by simp) (fun k i h => by simp at h)
 have hL : LastW (masks .any l []) l.toArray := fun h j i hj hi hne => by
  unfold lastAll at h
  have := List.all_eq_true.1 h i (List.mem_range.2 q_o)
  rw [show l.toArray.size - 1 = j by omega] at this
  exact this
 unfold betweenB at hbt
 rw [Bool.and_eq_true] at hbt
 have hsz : l.toArray.size = l.length := by simp
 have hb : ∀ j, j < l.length → j ≠ l1.length → (if j < l1.length then waitsT (masks .any l []) l1.length j else waitsT (masks .any l []) j l1.length || ((l[j]?).any pureA)) = true := fun j hj hne => by
  have := List.all_eq_true.1 hbt.2 j (List.mem_range.2 hj)
  rw [Bool.or_eq_true, beq_iff_eq] at this
  exact this.resolve_left hne
 have hBt : Between (masks .any l []) l.toArray l1.length := fun j oj hj hne => by
  have hjl := (Array.getElem?_eq_some_iff.1 hj).1
  have := hb j (by rw [← hsz]; exact hjl) hne
  split at this
  · exact .inr (.inl this)
  · rw [Bool.or_eq_true] at this
    rcases this with h | h
    · exact .inl h
    · refine .inr (.inr ?_)
      rw [show l[j]? = some oj by simpa using hj] at h
      exact h
 have hdc : DC .any l.toArray (Array.replicate l.toArray.size false) := fun k o _ hl => absurd hl (by rw [getD_rep]; exact Bool.false_ne_true)
 have hlen : l1.length < l.length := by rw [hl]; simp
 have hany := wpAnyP_lex (P := P) (r := r) (ro := ro) (md := .any) hms hL hbt.1 hBt (op := op) (l2 := l2) (Q := Q .normal) l1 0 (Array.replicate l.toArray.size false) A st hC hdc q_o (fun i _ hi => by
  have := hb i q_o q_o
  rwa [if_pos hi] at this) (fun j => by rw [← hl]; simp) (by rw [← hl]; simpa [mixBA] using hB) h
 refine wpIn_region_any hm ?_
 rw [← hl] at hany
 rw [hsz] at hany hdc ⊢
 exact wpAnyIn_of_P hms hL hok' _ _ A st a w.drew _ hC hdc (h1.ext he) (h2.drewN 1) hany fun A' st' a' w' q1 q2 q3 q5 => ⟨A', st', q1, q2, he.trans q3, q5⟩
theorem mOpA_mono {f : Bool} {o : Oper} {A : AA} {K K' : AA → St → Prop} (h : ∀ A st, K A st → K' A st) (hh : mOpA P r ro f ops o K A st) : mOpA P r ro f ops o K' A st := by
 unfold mOpA at *
 split
 · rename_i hw
   rw [if_pos hw] at hh
   split
   · rename_i hf
     rw [if_pos hf] at hh
     obtain ⟨d, h1, h2⟩ := hh
     exact ⟨d, h1, h _ _ h2⟩
   · rename_i hf
     rw [if_neg hf] at hh
     obtain ⟨h1, d, st', h2, h3⟩ := hh
     exact ⟨h1.mono fun d st' hk => ⟨hk.1, h _ _ hk.2⟩, d, st', h2, h _ _ h3⟩
 · rename_i hw
   rw [if_neg hw] at hh
   exact h _ _ hh
theorem wpMixA_mono {K K' : AA → St → Prop} (h : ∀ A st, K A st → K' A st) : ∀ (l : List Oper) (A : AA) (st : St), wpMixA P r ro ops K l A st → wpMixA P r ro ops K' l A st
 | [], A, st, hh => h A st hh
 | o :: l, A, st, hh => mOpA_mono (wpMixA_mono h l) hh
def ne1 (b : Nat) : St → Prop
 | [] => True
 | .box b' _ _ :: s => ((b' == b) = false ∧ (b == b') = false) ∧ ne1 b s
 | _ :: s => ne1 b s
def nes : St → Prop
 | [] => True
 | .box b _ _ :: s => ne1 b s ∧ nes s
 | _ :: s => nes s
theorem ne1_of {b : Nat} {x : Res} (hb : x.blk = some b) : ∀ {s : St}, (∀ y ∈ s, Apart x y) → ne1 b s
 | [], _ => trivial
 | y :: s, h => by
  have ht : ne1 b s := ne1_of hb fun z hz => h z (List.mem_cons_of_mem _ hz)
  cases y with
  | box b' ty cs =>
   have hne : b' ≠ b := fun e => h _ (List.mem_cons_self ..) b hb (by rw [← e]; rfl)
   exact ⟨⟨beq_eq_false_iff_ne.2 hne, beq_eq_false_iff_ne.2 hne.symm⟩, ht⟩
  | room => exact ht
  | raw => exact ht
  | know => exact ht
theorem nes_of : ∀ {s : St}, s.Pairwise Apart → nes s
 | [], _ => trivial
 | y :: s, h => by
  have h' := List.pairwise_cons.1 h
  have ht := nes_of h'.2
  cases y with
  | box b ty cs => exact ⟨ne1_of rfl h'.1, ht⟩
  | room => exact ht
  | raw => exact ht
  | know => exact ht
theorem tr_nes {N : Nat} {c : Code} {A : AA} {Q : Exit → AA → St → Prop} (h : nes st → Tr P N r c A st Q) : Tr P N r c A st Q := fun a w ha hh => h (nes_of hh.1) a w ha hh
theorem w_drawQ {N : Nat} {id : Nat} {l : List Oper} {A : AA} {Q : Exit → AA → St → Prop} (ro : Ro) (n : Nat) {t1 t2 : List Oper} (hm : P.follows .mixedOrders = true) (hB : mixBA .any l.toArray = true) (hok : opsOk N l = true) (hbt : betweenB l n = true) (h1 : l.take (n + 1) = t1) (h2 : l.drop (n + 1) = t2) (hC : Keep (some ro) st)
 (h : nes st → W P r (some ro) l.toArray (fun A' st' => ∃ ro2, Keep (some ro2) st' ∧ W P r (some ro2) l.toArray (Q .normal) t2 A' st') t1 A st) : Tr P N r (.region id l.toArray true) A st Q := by
 refine tr_nes fun hne => ?_
 subst h1 h2
 by_cases hn : n < l.length
 · have hl : l = l.take n ++ l[n] :: l.drop (n + 1) := by rw [List.getElem_cons_drop, List.take_append_drop]
   have hlen : (l.take n).length = n := by rw [List.length_take]; omega
   refine tr_drawP ro (l.take n) l[n] (l.drop (n + 1)) hl hm hB hok (by rw [hlen]; exact hbt) hC ?_
   rw [show l.take n ++ [l[n]] = l.take (n + 1) from (List.take_succ_eq_append_getElem hn).symm]
   exact wpMixA_mono (fun A' st' ⟨ro2, k1, k2⟩ => ⟨ro2, k1, k2⟩) _ _ _ (h hne)
 · rw [List.take_of_length_le q_o, List.drop_of_length_le q_o] at h
   exact tr_draw ro hm hB hok hC (wpMixA_mono (fun A' st' ⟨ro2, k1, k2⟩ => k2) _ _ _ (h hne))
theorem w_drawN {N : Nat} {id : Nat} {l : List Oper} {A : AA} {Q : Exit → AA → St → Prop} (ro : Ro) (hm : P.follows .mixedOrders = true) (hB : mixBA .any l.toArray = true) (hok : opsOk N l = true) (hC : Keep (some ro) st)
 (h : nes st → W P r (some ro) l.toArray (Q .normal) l A st) : Tr P N r (.region id l.toArray true) A st Q := tr_nes fun hne => w_draw ro hm hB hok hC (h hne)
end
end
theorem w_drawRN {P : Program} {r : Option Nat} {st : St} {N : Nat} {id : Nat} {l : List Oper} {A : AA} {Q : Exit → AA → St → Prop} (hm : P.follows .mixedOrders = true) (hB : mixBA .any l.toArray = true) (hok : opsOk N l = true)
 (h : nes st → W P r (some (roOf st)) l.toArray (Q .normal) l A st) : Tr P N r (.region id l.toArray true) A st Q := tr_nes fun hne => w_draw (roOf st) hm hB hok (keeps_roOf st) (h hne)
theorem QW {P : Program} {r : Option Nat} {st : St} {N : Nat} {id : Nat} {l : List Oper} {A : AA} {Q : Exit → AA → St → Prop} (h : nes st → W P r (some (roOf st)) l.toArray (Q .normal) l A st) (hm : P.follows .mixedOrders = true := by kernel_rfl) (hB : mixBA .any l.toArray = true := by kernel_rfl) (hok : opsOk N l = true := by kernel_rfl) : Tr P N r (.region id l.toArray true) A st Q := w_drawRN hm hB hok h
section
attribute [local push_cast] getD' encB encI
open Go.RowKit UtfL
def encN (n : Nat) : List D := [.i n]
def countOf (b : List UInt8) : Int := if endOf b < b.length then -1 else (codesOf b).length
theorem utfIter (tb : Nat) (s : ByteArray) (hs : s.size ≤ 1000000) : IterC Tryz.prog 238 [.ptr tb 0] (fun x : Nat × Nat => [.i x.1, .i x.2]) (scan 0 s.data.toList) [.box tb 9 [.str s]] (fun K => K = [.box tb 9 [.str s]]) (fun _ K => K = [.box tb 9 [.str s]]) := by
 intro l C J Jx hY hJ
 have HY := Lib.hid hY
 have HJ := Lib.hid hJ
 clear hY hJ
 have hl : s.data.toList.length = s.size := by simp
 have hG := Lib.hid fun (o : Own) (p : Nat) => utfGetF o s.data.toList q_o p
 obtain ⟨b, hb⟩ : ∃ b, s.data.toList = b := ⟨_, rfl⟩
 rw [hb] at hl hG HY ⊢
 have hbm : (b.map encB).length = b.length := List.length_map ..
 refine Qin [] Tryz.func238 Tryz.results238 Tryz.ntmps238 ?_
 refine tr_perm (st' := .box tb 9 [.str s] :: C) (.refl _) ?_
 repeat' (first | refine QX ?_ | (refine QB ?_; intro b) | (refine QP ?_; intro o' ho') | (with_reducible refine QZ ?_ <;> (try constructor) <;> intro hb <;> try intro hb1) | fail)
 refine tr_loopd (ι := Nat) (fun p A st' => ∃ pre C' o, UtfL.At b pre p ∧ Hid (J pre.length C') ∧ A.df = [] ∧ A.e 0 = .fn (.yield l) [] [] ∧ A.e 1 = .ptr tb 0 ∧ A.e 3 = .sl o (b.map encB) ∧ A.e 4 = .i p ∧ st' = .box tb 9 [.str s] :: C') (fun p => b.length - p) 0 ⟨[], C, _, At.start b, HJ, Qf, Qf, Qf, by rw [← hb]; exact Qf, Qf, rfl⟩ ?_
 clear HJ
 rintro p A st' ⟨pre, C', o, hat, HJ, hdf, e0, e1, e3, e4, rfl⟩
 have hp := hat.1
 have HAT := Lib.hid hat
 clear hat
 have hGp := hG.out o p
 by_cases hlt : p < b.length
 · cases hg : getAt b (p : Int) with
   | none =>
    have hL : scan 0 b = pre := HAT.out.done hg
    rw [hg] at hGp
    have hJL : Hid (J (scan 0 b).length C') := Lib.hid (by rw [hL]; exact HJ.out)
    replace hGp := Lib.hid hGp
    clear HY HAT hG hg hL HJ
    repeat' (first | refine QX ?_ | (refine QB ?_; intro b) | (refine QP ?_; intro o' ho') | (with_reducible refine QZ ?_ <;> (try constructor) <;> intro hb <;> try intro hb1) | fail)
    exact retA_mk q_x q_y q_u (LE.refl _) ⟨[_], C', rfl, .inl ⟨rfl, hJL.out⟩⟩
   | some q =>
    obtain ⟨c, n⟩ := q
    obtain ⟨hat2, hn1, hn2⟩ := HAT.out.next hg
    have hp2 := hat2.1
    have hx : (scan 0 b)[pre.length]? = some (p + n, c) := by
     rw [hat2.2.1, List.append_assoc, List.getElem?_append_right (Nat.le_refl _), Nat.sub_self]; rfl
    have HA := Lib.hid hat2
    rw [hg] at hGp
    replace hGp := Lib.hid hGp
    clear HAT hG hg hat2
    repeat' (first | refine QV ?_ | ((with_reducible apply (s_yield HY.out HJ.out hx)); (focus exact q_v); (focus exact q_v); (focus exact q_l); (focus (repeat (first | exact tl_nil | apply tl_cons)); done); all_goals (intro C' hC')) | refine QY ?_ | (refine QB ?_; intro b) | (refine QP ?_; intro o' ho') | (with_reducible refine QZ ?_ <;> (try constructor) <;> intro hb <;> try intro hb1) | fail)
    rotate_left
    · exact retA_mk q_x q_y q_u (LE.refl _) ⟨[_], C', rfl, .inr ⟨_, rfl, hC'⟩⟩
    refine ⟨p + n, .box tb 9 [.str s] :: C', q_u, ⟨pre ++ [(p + n, c)], C', o, HA.out, Lib.hid (by rw [List.length_append]; exact hC'), ?_, ?_, ?_, ?_, ?_, rfl⟩, by omega⟩
    all_goals exact Qf
 · obtain rfl : p = b.length := by omega
   have hL : scan 0 b = pre := HAT.out.full
   have hJL : Hid (J (scan 0 b).length C') := Lib.hid (by rw [hL]; exact HJ.out)
   clear HY HAT hG hL HJ hGp
   repeat' (first | refine QX ?_ | (refine QB ?_; intro b) | (refine QP ?_; intro o' ho') | (with_reducible refine QZ ?_ <;> (try constructor) <;> intro hb <;> try intro hb1) | fail)
   exact retA_mk q_x q_y q_u (LE.refl _) ⟨[_], C', rfl, .inl ⟨rfl, hJL.out⟩⟩
theorem utfAllF (s : ByteArray) (st : St) : TrF Tryz.prog 237 [.str s] st fun d st' => ∃ tb : Nat, True ∧ d = .fn (.func 238) [] [.ptr tb 0] ∧ st' = .box tb 9 [.str s] :: st := by
 refine Qin [2] Tryz.func237 Tryz.results237 Tryz.ntmps237 ?_
 repeat' (first | with_reducible refine s_boxP ?_ | refine QX ?_ | (refine QB ?_; intro b) | (with_reducible refine QZ ?_ <;> (try constructor) <;> intro hb <;> try intro hb1) | fail)
 exact retA_mk (by simp) q_y (List.Sublist.refl _) (LE.of_eq rfl) ⟨_, trivial, rfl, rfl⟩
theorem utfCodesF (s : ByteArray) (hs : s.size ≤ 1000000) (st : St) : TrF Tryz.prog 235 [.str s] st fun d st' => d = .tup [.sl .shared ((codesOf s.data.toList).map encN), .i (endOf s.data.toList : Nat)] ∧ st' = st := by
 have hAF := Lib.hid (utfAllF s)
 have hIt := Lib.hid fun tb => utfIter tb s hs
 have hl : s.data.toList.length = s.size := by simp
 have hsl := (scan_len s.data.toList.length 0 s.data.toList (Nat.le_refl _)).1
 unfold codesOf endOf
 generalize scan 0 s.data.toList = L at *
 have hCF0 : Hid ((([] : List (List D)), (0 : Nat)) = (((L.take 0).map (·.2)).map encN, lastEnd 0 (L.take 0))) := rfl
 obtain ⟨CF, hCF⟩ : ∃ CF : Nat → List (List D), (fun i => ((L.take i).map (·.2)).map encN) = CF := ⟨_, rfl⟩
 obtain ⟨EF, hEF⟩ : ∃ EF : Nat → Nat, (fun i => lastEnd 0 (L.take i)) = EF := ⟨_, rfl⟩
 have hC0 : CF 0 = [] := by rw [← hCF]; rfl
 have hE0 : EF 0 = 0 := by rw [← hEF]; rfl
 have hCn : Hid ((L.map (·.2)).map encN = CF L.length) := Lib.hid (by rw [← hCF]; dsimp only; rw [List.take_length])
 have hEn : Hid (lastEnd 0 L = EF L.length) := Lib.hid (by rw [← hEF]; dsimp only; rw [List.take_length])
 have hCs : Hid (∀ (i : Nat) (x : Nat × Nat), L[i]? = some x → CF (i + 1) = CF i ++ [encN x.2] ∧ EF (i + 1) = x.1) := fun i x h => by
  rw [← hCF, ← hEF]
  dsimp only
  rw [List.take_add_one, h, Option.toList_some, List.map_append, List.map_append, lastEnd_snoc]
  exact ⟨rfl, rfl⟩
 have hCl : Hid (∀ i, (CF i).length ≤ 1000000 ∧ ∀ a ∈ CF i, a.length = 1) := fun i => by
  rw [← hCF]
  dsimp only
  refine ⟨by rw [List.length_map, List.length_map, List.length_take]; omega, fun a ha => ?_⟩
  obtain ⟨x, -, rfl⟩ := List.mem_map.1 ha
  rfl
 rw [hCn.out, hEn.out]
 clear hCF hEF hCF0 hCn hEn
 refine Qin [2,3] Tryz.func235 Tryz.results235 Tryz.ntmps235 ?_
 refine tr_room 3 1 ([] : List (List D)).length ?_
 repeat' (first | refine QX ?_ | (refine QB ?_; intro b) | (refine QP ?_; intro o' ho') | (with_reducible refine QZ ?_ <;> (try constructor) <;> intro hb <;> try intro hb1) | ((with_reducible apply (ck_ex Tryz.call237)); (focus exact LEL.refl _); (focus exact hAF.out _); (focus exact ⟨0, trivial⟩); intro tb htb) | fail)
 rename_i b1
 refine tr_perm (st' := [.box tb 9 [.str s]] ++ (.box b 3 [.i (EF 0)] :: .box b1 50 [.sl .tight (CF 0)] :: .room .tight 3 1 (CF 0).length :: st)) (by rw [hC0, hE0]; exact .refl _) ?_
 refine tr_range (hIt.out tb) Tryz.call238 q_v (fun _ => rfl) rfl (fun i C => ∃ o, o ≠ .shared ∧ C = (.box b 3 [.i (EF i)] :: .box b1 50 [.sl o (CF i)] :: .room o 3 1 (CF i).length :: st)) (fun _ _ _ => False) ⟨.tight, tight_ne, rfl⟩ (fun i _ => ⟨_, .tight, tight_ne, rfl⟩) ?_ ?_ (fun _ _ _ _ _ _ h => h.elim)
 · rintro l i ⟨y, v⟩ C K hx ⟨o, ho, rfl⟩
   obtain ⟨h1, h2⟩ := hCs.out i _ hx
   obtain ⟨h3, h4⟩ := hCl.out i
   clear hx hCs hCl hIt hAF hC0 hE0
   dsimp only at h1 h2
   refine (?_ : Tr _ _ _ _ (AA.put (AA.put ⟨_, []⟩ (some 10) (.i y)) (some 11) (.i v)) (.box b 3 [.i (EF i)] :: .box b1 50 [.sl o (CF i)] :: .room o 3 1 (CF i).length :: (st ++ K)) _)
   repeat' (first | refine QX ?_ | (refine QB ?_; intro b) | (refine QP ?_; intro o' ho') | (with_reducible refine QZ ?_ <;> (try constructor) <;> intro hb <;> try intro hb1) | fail)
   refine ⟨.box b 3 [.i (EF i)] :: .box b1 50 [.sl o (CF i)] :: .room o 3 1 (CF i).length :: st, List.Sublist.refl _, fun K' => ?_⟩
   refine (?_ : Tr _ _ _ _ _ (.box b 3 [.i (EF i)] :: .box b1 50 [.sl o (CF i)] :: .room o 3 1 (CF i).length :: (st ++ K')) _)
   repeat' (first | refine QX ?_ | (refine QB ?_; intro b) | (refine QP ?_; intro o' ho') | (with_reducible refine QZ ?_ <;> (try constructor) <;> intro hb <;> try intro hb1) | fail)
   exact ⟨_, List.Sublist.refl _, o', ho', by rw [h1, h2]⟩
 · rintro d K1 C' rfl ⟨o, ho, rfl⟩
   clear hIt hCs hCl hAF hC0 hE0
   change Tr _ _ _ _ _ _ _
   refine tr_perm (st' := .box b 3 [.i (EF L.length)] :: .box b1 50 [.sl o (CF L.length)] :: markR d :: .box tb 9 [.str s] :: .room o 3 1 (CF L.length).length :: st) (by show List.Perm (markR d :: .box tb 9 [.str s] :: .box b 3 [.i (EF L.length)] :: .box b1 50 [.sl o (CF L.length)] :: .room o 3 1 (CF L.length).length :: st) _; (repeat (first | exact List.Perm.refl _ | refine perm_cons_out (by repeat (first | exact out_here | apply out_there)) ?_))) ?_
   repeat' (first | refine QV ?_ | ((with_reducible refine QW ?_); intro hne; simp only [nes, ne1, and_assoc] at hne; repeat (have hq := hne.1; replace hne := hne.2)) | refine QY ?_ | (refine QB ?_; intro b) | (refine QP ?_; intro o' ho') | (with_reducible refine QZ ?_ <;> (try constructor) <;> intro hb <;> try intro hb1) | fail)
   all_goals (refine retA_mark (by simp) q_y (by repeat (first | exact out_here | apply out_there)) q_u ?_ ⟨rfl, rfl⟩; (try simp (disch := omega) only [push_cast, simprocAttr, *]); try (first | exact q_e | refine LE.of_eq ?_))
theorem utfCountF (s : ByteArray) (hs : s.size ≤ 1000000) (st : St) : TrF Tryz.prog 233 [.str s] st fun d st' => d = .i (countOf s.data.toList) ∧ st' = st := by
 have hC := utfCodesF s hs
 have hl : s.data.toList.length = s.size := by simp
 have hm : ((codesOf s.data.toList).map encN).length = (codesOf s.data.toList).length := List.length_map ..
 unfold countOf
 rw [hl]
 generalize (codesOf s.data.toList).map encN = CC at *
 generalize codesOf s.data.toList = C at *
 generalize endOf s.data.toList = e at *
 replace hC := Lib.hid hC
 by_cases h : e < s.size
 · rw [if_pos h]
   refine Qin [2] Tryz.func233 Tryz.results233 Tryz.ntmps233 ?_
   exact WR
 · rw [if_neg h]
   refine Qin [2] Tryz.func233 Tryz.results233 Tryz.ntmps233 ?_
   exact WR
theorem utfValidF (s : ByteArray) (hs : s.size ≤ 1000000) (st : St) : TrF Tryz.prog 230 [.str s] st fun d st' => d = .b (decide (0 ≤ countOf s.data.toList)) ∧ st' = st := by
 have hC := utfCountF s hs
 generalize countOf s.data.toList = c at *
 replace hC := Lib.hid hC
 refine Qin [2] Tryz.func230 Tryz.results230 Tryz.ntmps230 ?_
 exact WR
end
namespace UtfL
def lead (x : Nat) : Nat := if 240 ≤ x then x - 240 else if 224 ≤ x then x - 224 else if 192 ≤ x then x - 192 else x
def acc : List UInt8 → Nat
 | [] => 0
 | x :: r => r.foldl (fun c y => c * 64 + y.toNat % 64) (lead x.toNat)
theorem acc_snoc {l : List UInt8} (h : l ≠ []) (y : UInt8) : acc (l ++ [y]) = acc l * 64 + y.toNat % 64 := by
 cases l with
 | nil => exact absurd rfl h
 | cons x r => simp [acc]
theorem cont_fold : ∀ (r : List UInt8) (c d : Nat), cont c r = some d → d = r.foldl (fun c y => c * 64 + y.toNat % 64) c
 | [], c, d, h => by simp [cont] at h; simp [h]
 | y :: r, c, d, h => by
  rw [cont] at h
  split at h
  · rw [List.foldl_cons]; exact cont_fold r _ d h
  · cases h
theorem lead_first {x n c : Nat} (hx : x < 256) (h : first x = (n, c)) (hn : 1 ≤ n) : lead x = c := by
 unfold first at h
 unfold lead
 by_cases q1 : x < 128
 · rw [if_pos q1] at h; cases h
   rw [if_neg q_o, if_neg q_o, if_neg q_o]
 · rw [if_neg q1] at h
   by_cases q2 : 192 ≤ x ∧ x < 224
   · rw [if_pos q2] at h; cases h
     rw [if_neg q_o, if_neg q_o, if_pos q_o]; omega
   · rw [if_neg q2] at h
     by_cases q3 : 224 ≤ x ∧ x < 240
     · rw [if_pos q3] at h; cases h
       rw [if_neg q_o, if_pos q_o]; omega
     · rw [if_neg q3] at h
       by_cases q4 : 240 ≤ x ∧ x < 248
       · rw [if_pos q4] at h; cases h
         rw [if_pos q_o]; omega
       · rw [if_neg q4] at h; cases h; omega
theorem acc_get {l : List UInt8} {c n : Nat} (h : getL l = some (c, n)) : acc (l.take n) = c := by
 have hl := get_len h
 cases l with
 | nil => cases h
 | cons x r =>
  rw [getL] at h
  obtain ⟨fn, fc, hf⟩ : ∃ fn fc, first x.toNat = (fn, fc) := ⟨_, _, rfl⟩
  rw [hf] at h
  dsimp only at h
  split at h
  · cases h
  · cases hco : cont fc (r.take (fn - 1)) with
    | none => rw [hco] at h; cases h
    | some d =>
     rw [hco] at h
     dsimp only at h
     split at h
     · cases h
       obtain ⟨m, rfl⟩ : ∃ m, n = m + 1 := ⟨n - 1, by omega⟩
       rw [List.take_succ_cons, acc, lead_first x.toNat_lt hf q_o, cont_fold _ _ _ hco]
       rfl
     · cases h
theorem ref_hit {l : List UInt8} {n : Nat} (hn : 1 ≤ n) (hl : n ≤ l.length) (h : put (acc (l.take n) : Int) = l.take n) : getL l = some (acc (l.take n), n) := by
 have hne : (l.take n).length = n := by rw [List.length_take]; omega
 have hc : isCode (acc (l.take n) : Int) = true := by
  by_cases q : isCode (acc (l.take n) : Int) = true
  · exact q
  · rw [put, if_neg q] at h
    rw [← h] at hne
    simp at hne; omega
 have hN : isCodeN (acc (l.take n)) = true := by simpa [isCode] using hc
 rw [put, if_pos hc, Int.toNat_natCast] at h
 have hlong : longN (acc (l.take n)) = n := by rw [← putN_len, h, hne]
 have := get_of_put hN (l.drop n)
 rw [hlong, h, List.take_append_drop] at this
 exact this
theorem ref_miss {l : List UInt8} {c n : Nat} (h : getL l = some (c, n)) : put (acc (l.take n) : Int) = l.take n := by
 rw [acc_get h, get_take h, put]
 obtain ⟨hc, -, -⟩ := put_of_get h
 simp [isCode, hc]
theorem ref_none {l : List UInt8} (h : ∀ n, 1 ≤ n → n ≤ 4 → n ≤ l.length → put (acc (l.take n) : Int) ≠ l.take n) : getL l = none := by
 cases hg : getL l with
 | none => rfl
 | some q =>
  obtain ⟨c, n⟩ := q
  obtain ⟨h1, h2, h3⟩ := get_len hg
  exact absurd (ref_miss hg) (h n h1 h2 h3)
theorem acc_lt : ∀ (r : List UInt8) (c : Nat), r.foldl (fun c y => c * 64 + y.toNat % 64) c < (c + 1) * 64 ^ r.length
 | [], c => by simp
 | y :: r, c => by
  rw [List.foldl_cons, List.length_cons]
  have h := acc_lt r (c * 64 + y.toNat % 64)
  have h2 : (c * 64 + y.toNat % 64 + 1) * 64 ^ r.length ≤ ((c + 1) * 64) * 64 ^ r.length := Nat.mul_le_mul_right _ q_o
  rw [Nat.pow_succ]
  calc _ < _ := h
   _ ≤ _ := h2
   _ = _ := by rw [Nat.mul_assoc, Nat.mul_comm 64]
theorem acc_bound {l : List UInt8} (h : l.length ≤ 4) : acc l < 67108864 := by
 cases l with
 | nil => simp [acc]
 | cons x r =>
  have h1 := acc_lt r (lead x.toNat)
  have h2 : lead x.toNat + 1 ≤ 256 := by
   have := x.toNat_lt
   unfold lead
   (repeat' split) <;> omega
  have h3 : 64 ^ r.length ≤ 64 ^ 3 := Nat.pow_le_pow_right (by decide) (by simp at h; omega)
  have h4 := Nat.mul_le_mul h2 h3
  rw [acc]; omega
end UtfL
section
attribute [local push_cast] encB encI
open Go.RowKit UtfL
theorem trF_len {P : Program} {f : FuncId} {o : Own} {es : List (List D)} {ds : List D} {st : St} {R : D → St → Prop} (h : es.length ≤ maxLen → TrF P f (.sl o es :: ds) st R) : TrF P f (.sl o es :: ds) st R := fun vs w hv hw => by
 have hl : es.length ≤ maxLen := by
  obtain ⟨u, t, -, h1, -⟩ := hv.inv_cons
  cases h1 with
  | sl _ _ a cap us sz h1 h2 => exact Nat.le_trans h1 h2
 exact h hl vs w hv hw
theorem bytesF (o o' : Own) (a b : List UInt8) (st : St) : TrF Tryz.prog 18 [.sl o (a.map encB), .sl o' (b.map encB)] st fun d st' => d = .b (decide (a = b)) ∧ st' = st := by
 refine trF_len fun hl => ?_
 unfold maxLen at hl
 have hma : (a.map encB).length = a.length := List.length_map ..
 have hmb : (b.map encB).length = b.length := List.length_map ..
 have hca : Hid (∀ (i : Nat) (x : UInt8), a[i]? = some x → (a.map encB)[i]? = some [.y x]) := fun i x h => by rw [List.getElem?_map, h]; rfl
 have hcb : Hid (∀ (i : Nat) (x : UInt8), b[i]? = some x → (b.map encB)[i]? = some [.y x]) := fun i x h => by rw [List.getElem?_map, h]; rfl
 obtain ⟨q, hq⟩ : ∃ q, decide (a = b) = q := ⟨_, rfl⟩
 rw [hq]
 have HQ := Lib.hid hq
 clear hq
 rw [hma] at hl
 generalize a.map encB = AC at *
 generalize b.map encB = BC at *
 by_cases hlen : a.length = b.length
 rotate_left
 · obtain rfl : q = false := by rw [← HQ.out]; exact decide_eq_false fun h => hlen (by rw [h])
   have h2 : ((a.length : Int) != b.length) = true := by rw [bne_iff_ne]; omega
   clear HQ
   refine Qin [4] Tryz.func18 Tryz.results18 Tryz.ntmps18 ?_
   exact WRa
 have h2 : ((a.length : Int) != b.length) = false := by rw [bne_eq_false_iff_eq]; omega
 replace hlen := Lib.hid hlen
 refine Qin [4] Tryz.func18 Tryz.results18 Tryz.ntmps18 ?_
 repeat' (first | refine QX ?_ | (refine QB ?_; intro b) | (refine QP ?_; intro o' ho') | (with_reducible refine QZ ?_ <;> (try constructor) <;> intro hb <;> try intro hb1) | fail)
 refine tr_loopd (ι := Nat) (fun i A st' => i ≤ a.length ∧ Hid (a.take i = b.take i) ∧ A.df = [] ∧ A.e 0 = .sl o AC ∧ A.e 1 = .sl o' BC ∧ A.e 5 = .i i ∧ st = st') (fun i => a.length - i) 0 ⟨Nat.zero_le _, rfl, Qf, Qf, Qf, Qf, rfl⟩ ?_
 rintro i A st' ⟨hi, HT, hdf, e0, e1, e5, rfl⟩
 by_cases hlt : i < a.length
 · have hlb : i < b.length := by have := hlen.out; omega
   obtain ⟨x, hx⟩ := gEx hlt
   obtain ⟨y, hy⟩ := gEx hlb
   have g1 := hca.out i x hx
   have g2 := hcb.out i y hy
   unfold D.y at g1 g2
   by_cases hxy : x = y
   · have HN : Hid (a.take (i + 1) = b.take (i + 1)) := Lib.hid (by rw [List.take_add_one, List.take_add_one, HT.out, hx, hy, hxy])
     have h3 : ((x.toNat : Int) != y.toNat) = false := by rw [bne_eq_false_iff_eq, hxy]
     clear HQ HT hx hy hca hcb hxy
     repeat' (first | refine QV ?_ | ((with_reducible refine QW ?_); intro hne; simp only [nes, ne1, and_assoc] at hne; repeat (have hq := hne.1; replace hne := hne.2)) | refine QY ?_ | (refine QB ?_; intro b) | (refine QP ?_; intro o' ho') | (with_reducible refine QZ ?_ <;> (try constructor) <;> intro hb <;> try intro hb1) | fail)
     refine ⟨i + 1, st, q_u, ⟨hlt, HN, ?_, ?_, ?_, ?_, rfl⟩, by omega⟩
     all_goals exact Qf
   · have h3 : ((x.toNat : Int) != y.toNat) = true := by
      rw [bne_iff_ne]
      exact fun h => hxy (UInt8.toNat_inj.1 q_o)
     obtain rfl : q = false := by
      rw [← HQ.out]
      exact decide_eq_false fun h => hxy (by rw [h, hy] at hx; exact (Option.some.inj hx).symm)
     clear HQ HT hx hy hca hcb hxy
     repeat' (first | refine QV ?_ | ((with_reducible refine QW ?_); intro hne; simp only [nes, ne1, and_assoc] at hne; repeat (have hq := hne.1; replace hne := hne.2)) | refine QY ?_ | (refine QB ?_; intro b) | (refine QP ?_; intro o' ho') | (with_reducible refine QZ ?_ <;> (try constructor) <;> intro hb <;> try intro hb1) | fail)
     all_goals exact Qret
 · obtain rfl : q = true := by
    rw [← HQ.out]
    refine decide_eq_true ?_
    have := HT.out
    rwa [List.take_of_length_le q_o, List.take_of_length_le (by have := hlen.out; omega)] at this
   clear HQ HT hca hcb
   exact WRa
theorem refCodeF (c : Int) (st : St) : TrF Tryz.prog 236 [.i c] st fun d st' => d = .b (isCode c) ∧ st' = st := by
 have hc : isCode c = decide ((0 ≤ c ∧ c < 55296) ∨ (57343 < c ∧ c ≤ 1114111)) := by
  unfold isCode isCodeN
  rw [← Bool.decide_and]
  congr 1
  apply propext
  omega
 have H : c < 0 ∨ (0 ≤ c ∧ c < 55296) ∨ (55296 ≤ c ∧ c ≤ 57343) ∨ (57343 < c ∧ c ≤ 1114111) ∨ 1114111 < c := by omega
 obtain ⟨q, hq⟩ : ∃ q, isCode c = q := ⟨_, rfl⟩
 rw [hq] at hc ⊢
 clear hq
 rcases H with h | ⟨h1, h2⟩ | ⟨h1, h2⟩ | ⟨h1, h2⟩ | h
 all_goals (
  first | replace hc := hc.trans (decide_eq_false q_o) | replace hc := hc.trans (decide_eq_true q_o)
  subst hc
  first | have d1 := decide_eq_false (show ¬ 57343 < c by omega) | have d1 := decide_eq_true (show 57343 < c by omega)
  first | have d2 := decide_eq_false (show ¬ c < 55296 by omega) | have d2 := decide_eq_true (show c < 55296 by omega)
  first | have d3 := decide_eq_false (show ¬ c ≤ 1114111 by omega) | have d3 := decide_eq_true (show c ≤ 1114111 by omega)
  refine Qin [2] Tryz.func236 Tryz.results236 Tryz.ntmps236 ?_
  exact WR)
theorem refUtfPutF (c : Int) (st : St) : TrF Tryz.prog 234 [.i c] st fun d st' => d = .sl .shared ((put c).map encB) ∧ st' = st := by
 have hC := refCodeF c
 cases hq : isCode c with
 | false =>
  rw [hq] at hC
  have hp : put c = [] := by rw [put, hq]; rfl
  rw [hp]
  replace hC := Lib.hid hC
  clear hp hq
  refine Qin [2] Tryz.func234 Tryz.results234 Tryz.ntmps234 ?_
  exact WR
 | true =>
  rw [hq] at hC
  have h0 : 0 ≤ c ∧ c ≤ 1114111 := by
   simp only [isCode, isCodeN, Bool.and_eq_true, decide_eq_true_eq] at hq
   omega
  obtain ⟨c, rfl⟩ := Int.eq_ofNat_of_zero_le h0.1
  have hmax : c ≤ 1114111 := by omega
  have hp : put (c : Int) = putN c := by simp [put, hq]
  rw [hp]
  replace hC := Lib.hid hC
  have hw : ∀ n : Nat, n < 256 → Hid (encB (u n) = [.s (.int .u8 n)]) := fun n h => Lib.hid (by unfold encB D.y; rw [u_toNat h])
  have hU : Hid (∀ n : Nat, n < 256 → encB (u n) = [.s (.int .u8 n)]) := Lib.hid fun n h => (hw n h).out
  have q1 : (c : Int).tdiv 64 = (c : Int) / 64 := Int.tdiv_eq_ediv_of_nonneg q_o
  have q2 : (c : Int).tdiv 4096 = (c : Int) / 4096 := Int.tdiv_eq_ediv_of_nonneg q_o
  have q3 : (c : Int).tdiv 262144 = (c : Int) / 262144 := Int.tdiv_eq_ediv_of_nonneg q_o
  have q4 : (c : Int).tmod 64 = (c : Int) % 64 := Int.tmod_eq_emod_of_nonneg q_o
  have q5 : ((c : Int) / 64).tmod 64 = (c : Int) / 64 % 64 := Int.tmod_eq_emod_of_nonneg q_o
  have q6 : ((c : Int) / 4096).tmod 64 = (c : Int) / 4096 % 64 := Int.tmod_eq_emod_of_nonneg q_o
  clear hp hq hw h0
  by_cases c1 : c < 128
  · have e : (putN c).map encB = [[.s (.int .u8 c)]] := by rw [putN, if_pos c1, List.map_cons, List.map_nil, hU.out c q_o]
    rw [e]
    clear e hU
    refine Qin [2] Tryz.func234 Tryz.results234 Tryz.ntmps234 ?_
    exact WR
  by_cases c2 : c < 2048
  · have e : (putN c).map encB = [[.s (.int .u8 (192 + (c : Int) / 64))], [.s (.int .u8 (128 + (c : Int) % 64))]] := by
     rw [putN, if_neg c1, if_pos c2, List.map_cons, List.map_cons, List.map_nil, hU.out (192 + c / 64) q_o, hU.out (128 + c % 64) q_o]; rfl
    rw [e]
    clear e hU
    refine Qin [2] Tryz.func234 Tryz.results234 Tryz.ntmps234 ?_
    exact WR
  by_cases c3 : c < 65536
  · have e : (putN c).map encB = [[.s (.int .u8 (224 + (c : Int) / 4096))], [.s (.int .u8 (128 + (c : Int) / 64 % 64))], [.s (.int .u8 (128 + (c : Int) % 64))]] := by
     rw [putN, if_neg c1, if_neg c2, if_pos c3, List.map_cons, List.map_cons, List.map_cons, List.map_nil, hU.out (224 + c / 4096) q_o, hU.out (128 + c / 64 % 64) q_o, hU.out (128 + c % 64) q_o]; rfl
    rw [e]
    clear e hU
    refine Qin [2] Tryz.func234 Tryz.results234 Tryz.ntmps234 ?_
    exact WR
  · have e : (putN c).map encB = [[.s (.int .u8 (240 + (c : Int) / 262144))], [.s (.int .u8 (128 + (c : Int) / 4096 % 64))], [.s (.int .u8 (128 + (c : Int) / 64 % 64))], [.s (.int .u8 (128 + (c : Int) % 64))]] := by
     rw [putN, if_neg c1, if_neg c2, if_neg c3, List.map_cons, List.map_cons, List.map_cons, List.map_cons, List.map_nil, hU.out (240 + c / 262144) q_o, hU.out (128 + c / 4096 % 64) q_o, hU.out (128 + c / 64 % 64) q_o, hU.out (128 + c % 64) q_o]; rfl
    rw [e]
    clear e hU
    refine Qin [2] Tryz.func234 Tryz.results234 Tryz.ntmps234 ?_
    exact WR
end
section
attribute [local push_cast] getD' encN encI encB
open Go.RowKit UtfL
namespace UtfL
theorem take_in {b : List UInt8} {k j : Nat} : ((b.map encB).drop k).take j = ((b.drop k).take j).map encB := by
 rw [List.map_take, List.map_drop]
end UtfL
theorem refUtfGetF (o : Own) (b : List UInt8) (hb : b.length ≤ 4611686018427387904) (at_ : Int) (st : St) : TrF Tryz.prog 231 [.sl o (b.map encB), .i at_] st fun d st' => d = getD' (getAt b at_) ∧ st' = st := by
 have hm : (b.map encB).length = b.length := List.length_map ..
 have hc : Hid (∀ (i : Nat) (x : UInt8), b[i]? = some x → (b.map encB)[i]? = some [.y x]) := fun i x h => by rw [List.getElem?_map, h]; rfl
 by_cases hin : 0 ≤ at_ ∧ at_ < b.length
 case neg =>
  have hR : getAt b at_ = none := if_neg hin
  rw [hR]
  clear hc hR
  generalize b.map encB = LB at *
  by_cases q : at_ < 0
  · refine Qin [4,5,6] Tryz.func231 Tryz.results231 Tryz.ntmps231 ?_
    exact WRa
  · have q2 : (b.length : Int) ≤ at_ := by omega
    refine Qin [4,5,6] Tryz.func231 Tryz.results231 Tryz.ntmps231 ?_
    exact WRa
 case pos =>
 obtain ⟨g1, g2⟩ := hin
 obtain ⟨k, rfl⟩ := Int.eq_ofNat_of_zero_le g1
 have hk : k < b.length := by omega
 obtain ⟨R, hR⟩ : ∃ R, getAt b (k : Int) = R := ⟨_, rfl⟩
 rw [hR]
 rw [getAt_eq q_o] at hR
 have hR2 := Lib.hid hR
 have hdl : (b.drop k).length = b.length - k := List.length_drop
 have hPt := Lib.hid fun (j : Nat) => refUtfPutF (acc ((b.drop k).take j) : Nat)
 have hBy := Lib.hid fun (j : Nat) => bytesF .shared .shared (put (acc ((b.drop k).take j) : Nat)) ((b.drop k).take j)
 have hsl : Hid (∀ j : Nat, ((b.map encB).drop k).take j = ((b.drop k).take j).map encB) := Lib.hid fun j => take_in
 have hall : ((b.map encB).all fun e => e.length == 1) = true := by
  rw [List.all_eq_true]
  intro e he
  obtain ⟨x, -, rfl⟩ := List.mem_map.1 he
  rfl
 have hgd : Hid (∀ (j : Nat) (x : UInt8), b[k + j]? = some x → (b.drop k).take (j + 1) = (b.drop k).take j ++ [x]) := Lib.hid fun j x h => by
  rw [List.take_add_one, List.getElem?_drop, h, Option.toList_some]
 have hRn : Hid ((∀ n, 1 ≤ n → n ≤ 4 → n ≤ (b.drop k).length → put (acc ((b.drop k).take n) : Int) ≠ (b.drop k).take n) → R = none) := Lib.hid fun h => by rw [← hR]; exact ref_none h
 have hRh : Hid (∀ n, 1 ≤ n → n ≤ (b.drop k).length → put (acc ((b.drop k).take n) : Int) = (b.drop k).take n → R = some (acc ((b.drop k).take n), n)) := Lib.hid fun n h1 h2 h3 => by rw [← hR]; exact ref_hit h1 h2 h3
 have hab : Hid (∀ n, n ≤ 4 → acc ((b.drop k).take n) < 67108864) := Lib.hid fun n h => acc_bound (by rw [List.length_take]; omega)
 have hsn : Hid (∀ (j : Nat) (x : UInt8), 0 < j → j ≤ (b.drop k).length → acc ((b.drop k).take j ++ [x]) = acc ((b.drop k).take j) * 64 + x.toNat % 64) := Lib.hid fun j x h h2 => acc_snoc (fun e => by have := congrArg List.length e; rw [List.length_take] at this; simp at this; omega) x
 rw [hdl] at hRn hRh hsn
 clear hR hR2 hdl
 generalize b.map encB = LB at *
 generalize b.drop k = C at *
 refine Qin [4,5,6] Tryz.func231 Tryz.results231 Tryz.ntmps231 ?_
 repeat' (first | refine QX ?_ | (refine QB ?_; intro b) | (refine QP ?_; intro o' ho') | (with_reducible refine QZ ?_ <;> (try constructor) <;> intro hb <;> try intro hb1) | fail)
 refine tr_loopd (ι := Nat) (fun j A st' => j ≤ 4 ∧ k + j ≤ b.length ∧ A.df = [] ∧ A.e 0 = .sl o LB ∧ A.e 1 = .i k ∧ A.e 7 = .i (acc (C.take j) : Nat) ∧ A.e 8 = .i ((j : Int) + 1) ∧ Hid (∀ i, 1 ≤ i → i ≤ j → put (acc (C.take i) : Int) ≠ C.take i) ∧ st = st') (fun j => 5 - j) 0 ⟨by omega, by omega, Qf, Qf, Qf, Qf, Qf, Lib.hid fun i h1 h2 => by omega, rfl⟩ ?_
 rintro j A st' ⟨hj4, hjl, hdf, e0, e1, e7, e8, hno, rfl⟩
 by_cases hlt : j < 4 ∧ k + j < b.length
 case neg =>
  have hr0 : R = none := hRn.out fun n h1 h2 h3 => hno.out n h1 q_o
  subst hr0
  clear hPt hBy hsl hgd hRn hRh hab hsn hno hc
  have h4 : ¬ ((j : Int) + 1 ≤ 4) ∨ ((j : Int) + 1 ≤ 4 ∧ ¬ ((j : Int) + 1 ≤ (b.length : Int) - k)) := by omega
  rcases h4 with h4 | ⟨h4, h5⟩
  · repeat' (first | refine QX ?_ | (refine QB ?_; intro b) | (refine QP ?_; intro o' ho') | (with_reducible refine QZ ?_ <;> (try constructor) <;> intro hb <;> try intro hb1) | fail)
    all_goals exact Qret
  · repeat' (first | refine QX ?_ | (refine QB ?_; intro b) | (refine QP ?_; intro o' ho') | (with_reducible refine QZ ?_ <;> (try constructor) <;> intro hb <;> try intro hb1) | fail)
    all_goals exact Qret
 case pos =>
 obtain ⟨hl4, hlb⟩ := hlt
 obtain ⟨x, hx⟩ : ∃ x, b[k + j]? = some x := ⟨_, List.getElem?_eq_getElem hlb⟩
 have g1 := hc.out (k + j) x hx
 unfold D.y at g1
 have hT := hgd.out j x hx
 have hX : x.toNat < 256 := x.toNat_lt
 have hA1 := hab.out (j + 1) q_o
 have hA0 := hab.out j q_o
 have hval : (j = 0 ∧ acc (C.take (j + 1)) = lead x.toNat) ∨ (0 < j ∧ acc (C.take (j + 1)) = acc (C.take j) * 64 + x.toNat % 64) := by
  rcases Nat.eq_zero_or_pos j with h | h
  · subst h
    exact .inl ⟨rfl, by rw [hT, List.take_zero]; rfl⟩
  · exact .inr ⟨h, by rw [hT]; exact hsn.out j x h q_o⟩
 have hP := hPt.out (j + 1)
 have hB := hBy.out (j + 1)
 have hS := hsl.out (j + 1)
 have hHit := hRh.out (j + 1) q_o q_o
 have hMs : put (acc (C.take (j + 1)) : Int) ≠ C.take (j + 1) → Hid (∀ i, 1 ≤ i → i ≤ j + 1 → put (acc (C.take i) : Int) ≠ C.take i) := fun h => Lib.hid fun i h1 h2 => by
  by_cases e : i = j + 1
  · rw [e]; exact h
  · exact hno.out i h1 q_o
 have i1 : (k : Int) + ((j : Int) + 1) - 1 = (k : Int) + j := by omega
 have i2 : ((k : Int) + j).toNat = k + j := by omega
 have i3 : ((k : Int) + ((j : Int) + 1)).toNat = k + (j + 1) := by omega
 have i4 : (k : Int) ≤ (k : Int) + ((j : Int) + 1) := by omega
 have i5 : (k : Int) + ((j : Int) + 1) ≤ b.length := by omega
 have i6 : (x.toNat : Int).tmod 64 = (x.toNat : Int) % 64 := Int.tmod_eq_emod_of_nonneg q_o
 clear hPt hBy hsl hgd hRn hRh hab hsn hno hc hx hT
 have hTa : Hid (∃ a : Nat, acc (C.take (j + 1)) = a) := Lib.hid ⟨_, rfl⟩
 obtain ⟨a, ha⟩ := hTa.out
 rw [ha] at hP hB hHit hMs hval hA1
 clear hTa
 have hT2 : ∃ T, C.take (j + 1) = T := ⟨_, rfl⟩
 obtain ⟨T, hT2⟩ := hT2
 rw [hT2] at hS hHit hB hMs
 replace ha := Lib.hid ha
 clear hT2
 generalize acc (C.take j) = a0 at *
 generalize x.toNat = X at *
 have hform : (((j : Int) + 1 == 1) = true ∧ ((240 ≤ X ∧ (X : Int) - 240 = a) ∨ (¬ 240 ≤ X ∧ 224 ≤ X ∧ (X : Int) - 224 = a) ∨ (¬ 240 ≤ X ∧ ¬ 224 ≤ X ∧ 192 ≤ X ∧ (X : Int) - 192 = a) ∨ (¬ 240 ≤ X ∧ ¬ 224 ≤ X ∧ ¬ 192 ≤ X ∧ (X : Int) = a))) ∨ (((j : Int) + 1 == 1) = false ∧ (a0 : Int) * 64 + (X : Int) % 64 = a) := by
  rcases hval with ⟨h1, h2⟩ | ⟨h1, h2⟩
  · refine .inl ⟨by rw [beq_iff_eq]; omega, ?_⟩
    unfold lead at h2
    (repeat' split at h2) <;> omega
  · exact .inr ⟨by rw [beq_eq_false_iff_ne]; omega, by omega⟩
 clear hval
 obtain ⟨q, hq⟩ : ∃ q, decide (put (a : Int) = T) = q := ⟨_, rfl⟩
 rw [hq] at hB
 generalize (put (a : Int)).map encB = PB at *
 replace hP := Lib.hid hP
 replace hB := Lib.hid hB
 cases q with
 | true =>
  obtain rfl := hHit (of_decide_eq_true hq)
  clear hHit hMs hq
  rcases hform with ⟨hj0, ⟨q1, hf⟩ | ⟨q1, q2, hf⟩ | ⟨q1, q2, q3, hf⟩ | ⟨q1, q2, q3, hf⟩⟩ | ⟨hj0, hf⟩
  all_goals (
   repeat' (first | refine QV ?_ | ((with_reducible refine QW ?_); intro hne; simp only [nes, ne1, and_assoc] at hne; repeat (have hq := hne.1; replace hne := hne.2)) | refine QY ?_ | (refine QB ?_; intro b) | (refine QP ?_; intro o' ho') | (with_reducible refine QZ ?_ <;> (try constructor) <;> intro hb <;> try intro hb1) | fail)
   all_goals exact Qret)
 | false =>
  have hM := hMs (of_decide_eq_false hq)
  clear hHit hMs hq
  rcases hform with ⟨hj0, ⟨q1, hf⟩ | ⟨q1, q2, hf⟩ | ⟨q1, q2, q3, hf⟩ | ⟨q1, q2, q3, hf⟩⟩ | ⟨hj0, hf⟩
  all_goals (
   repeat' (first | refine QV ?_ | ((with_reducible refine QW ?_); intro hne; simp only [nes, ne1, and_assoc] at hne; repeat (have hq := hne.1; replace hne := hne.2)) | refine QY ?_ | (refine QB ?_; intro b) | (refine QP ?_; intro o' ho') | (with_reducible refine QZ ?_ <;> (try constructor) <;> intro hb <;> try intro hb1) | fail)
   refine ⟨j + 1, st, q_u, ⟨by omega, by omega, ?_, ?_, ?_, by rw [ha.out]; exact Qf, ?_, hM, rfl⟩, by omega⟩
   all_goals exact Qf)
end
section
attribute [local push_cast] getD' encN encI encB
open Go.RowKit UtfL
theorem refCodesF (s : ByteArray) (hs : s.size ≤ 1000000) (st : St) : TrF Tryz.prog 224 [.str s] st fun d st' => d = .tup [.sl .shared ((codesOf s.data.toList).map encN), .i (endOf s.data.toList : Nat)] ∧ st' = st := by
 refine trF_enter (ts := [2, 3]) Tryz.func224 rfl (by rw [Tryz.ntmps224]; exact Nat.le_of_ble_eq_true rfl) (fun tmps w => by simp [results, Tryz.results224, go_sem, resVal]) ?_
 simp only [Tryz.ntmps224]
 have hG := Lib.hid (refUtfGetF .shared s.data.toList (by simp; omega))
 have hl : s.data.toList.length = s.size := by simp
 generalize hb : s.data.toList = b at *
 repeat' (first | refine QX ?_ | (refine QB ?_; intro b) | (refine QP ?_; intro o' ho') | (with_reducible refine QZ ?_ <;> (try constructor) <;> intro hb <;> try intro hb1) | fail)
 refine tr_room 3 1 0 ?_
 refine tr_loop (ι := Nat × List (Nat × Nat)) (fun i A st' => ∃ o', o' ≠ .shared ∧ UtfL.At b i.2 i.1 ∧ A.df = [] ∧ A.e 0 = .str s ∧ A.e 4 = .sl o' ((i.2.map (·.2)).map encN) ∧ A.e 5 = .i i.1 ∧ st' = .room o' 3 1 ((i.2.map (·.2)).map encN).length :: st) (fun i => b.length - i.1) (0, []) ⟨.tight, by simp, At.start b, rfl, rfl, rfl, rfl, rfl⟩ ?_
 rintro ⟨p, pre⟩ A st' ⟨o', ho, hat, hdf, h0, h4, h5, rfl⟩
 dsimp only at hat h4 h5 ⊢
 have hp := hat.1
 have hpl : pre.length ≤ 1000000 := by
  have h1 := congrArg List.length hat.2.1
  have h2 := (scan_len b.length 0 b (Nat.le_refl _)).1
  rw [List.length_append] at h1
  omega
 have HAT := Lib.hid hat
 clear hat
 by_cases hlt : p < s.size
 · cases hg : getAt b (p : Int) with
   | none =>
    have hco : codesOf b = pre.map (·.2) := by rw [codesOf, HAT.out.done hg]
    have hen : endOf b = p := by rw [endOf, HAT.out.done hg, HAT.out.2.2]
    repeat' (first | refine QX ?_ | (refine QB ?_; intro b) | (refine QP ?_; intro o' ho') | (with_reducible refine QZ ?_ <;> (try constructor) <;> intro hb <;> try intro hb1) | refine Qc Tryz.call231 ((hG.out p _)) ?_ | fail)
    exact Qret
   | some q =>
    obtain ⟨c, n⟩ := q
    obtain ⟨hat2, hn1, hn2⟩ := HAT.out.next hg
    have hp2 := hat2.1
    have HA := Lib.hid hat2
    clear hat2
    repeat' (first | refine QX ?_ | (refine QB ?_; intro b) | (refine QP ?_; intro o' ho') | (with_reducible refine QZ ?_ <;> (try constructor) <;> intro hb <;> try intro hb1) | refine Qc Tryz.call231 ((hG.out p _)) ?_ | fail)
    refine ⟨(p + n, pre ++ [(p + n, c)]), ⟨o', ho', HA.out, hdf, ?_, ?_, ?_, ?_⟩, ?_⟩
    all_goals exact Qf
 · obtain ⟨hco, hen⟩ : codesOf b = pre.map (·.2) ∧ endOf b = p := by
    have e : p = b.length := by omega
    exact ⟨by rw [codesOf, UtfL.At.full (e ▸ HAT.out)], by rw [endOf, UtfL.At.full (e ▸ HAT.out), HAT.out.2.2]⟩
   repeat' (first | refine QX ?_ | (refine QB ?_; intro b) | (refine QP ?_; intro o' ho') | (with_reducible refine QZ ?_ <;> (try constructor) <;> intro hb <;> try intro hb1) | refine Qc Tryz.call231 ((hG.out p _)) ?_ | fail)
   exact Qret
theorem refUtfValidF (s : ByteArray) (hs : s.size ≤ 1000000) (st : St) : TrF Tryz.prog 210 [.str s] st fun d st' => d = .b (decide (0 ≤ countOf s.data.toList)) ∧ st' = st := by
 have hle := scan_len s.data.toList.length 0 s.data.toList (Nat.le_refl _)
 have hsz : s.data.toList.length = s.size := by simp
 have he : endOf s.data.toList ≤ s.data.toList.length := by
  have := hle.2.2
  rw [endOf]; omega
 have hc : decide (0 ≤ countOf s.data.toList) = decide ((endOf s.data.toList : Int) = s.size) := by
  rw [decide_eq_decide, countOf]
  split <;> omega
 rw [hc]
 refine Qin [2] Tryz.func210 Tryz.results210 Tryz.ntmps210 ?_
 repeat' (first | refine QX ?_ | (refine QB ?_; intro b) | (with_reducible refine QZ ?_ <;> (try constructor) <;> intro hb <;> try intro hb1) | refine Qc Tryz.call224 (refCodesF s hs _) ?_ | fail)
 all_goals exact Qret
end
section
attribute [local push_cast] encB encI V.cells_mk V.cells_take V.cells_len isE_eq
namespace V
def validB (l : List UInt8) : Bool := decide (0 ≤ countOf l)
def sgl (k n : Int) (s : ByteArray) (len : Nat) : Bool :=
 if k = 0 then (n == 0) && decide (s.size = 0)
 else if k = 1 then ((n == 0) || (n == 1)) && decide (s.size = 0)
 else if k = 2 then decide (s.size = 0)
 else if k = 3 then (n == 0) && isName s.data.toList
 else if k = 4 then (n == 0) && (decide (s.size ≤ 200) && validB s.data.toList)
 else if k = 5 then (n == 0) && (decide (s.size = 0) && decide (len ≤ 20))
 else false
end V
open V in
theorem valSingleF (k n : Int) (s : ByteArray) (l : List V) (st : St) : TrF Tryz.prog 220 [.agg [.i k, .i n, .str s, .sl .shared (l.map V.cells)]] st fun x st' => x = .b (sgl k n s l.length) ∧ st' = st := by
 obtain ⟨nm, hnm⟩ : ∃ nm, isName s.data.toList = nm := ⟨_, rfl⟩
 obtain ⟨vd, hvd⟩ : ∃ vd, validB s.data.toList = vd := ⟨_, rfl⟩
 have hN := valIsNameF s
 have hV := fun h => utfValidF s h
 rw [validB] at hvd
 rw [hnm] at hN
 rw [hvd] at hV
 have hS : Hid (∀ b, sgl k n s l.length = b → sgl k n s l.length = b) := fun b h => h
 have hE : sgl k n s l.length = (if k = 0 then (n == 0) && decide (s.size = 0)
 else if k = 1 then ((n == 0) || (n == 1)) && decide (s.size = 0)
 else if k = 2 then decide (s.size = 0)
 else if k = 3 then (n == 0) && nm
 else if k = 4 then (n == 0) && (decide (s.size ≤ 200) && vd)
 else if k = 5 then (n == 0) && (decide (s.size = 0) && decide (l.length ≤ 20))
 else false) := by rw [← hnm, ← hvd]; rfl
 rw [hE]
 clear hE hS hnm hvd
 have hN := Lib.hid hN
 have hV := Lib.hid hV
 refine Qin [2] Tryz.func220 Tryz.results220 Tryz.ntmps220 ?_
 by_cases k0 : k = 0
 · subst k0
   repeat' (first | refine QX ?_ | (refine QB ?_; intro b) | (with_reducible refine QZ ?_ <;> (try constructor) <;> intro hb <;> try intro hb1) | fail)
   all_goals (refine Qret (hd := ?_); (try simp (disch := omega) only [push_cast, simprocAttr, *]); try (first | exact q_e | refine LE.of_eq ?_))
   all_goals simp_all
   all_goals (try (intros; first | omega | (exfalso; omega)))
 by_cases k1 : k = 1
 · subst k1
   repeat' (first | refine QX ?_ | (refine QB ?_; intro b) | (with_reducible refine QZ ?_ <;> (try constructor) <;> intro hb <;> try intro hb1) | fail)
   all_goals (refine Qret (hd := ?_); (try simp (disch := omega) only [push_cast, simprocAttr, *]); try (first | exact q_e | refine LE.of_eq ?_))
   all_goals simp_all
   all_goals (try (intros; first | omega | (exfalso; omega)))
 by_cases k2 : k = 2
 · subst k2
   repeat' (first | refine QX ?_ | (refine QB ?_; intro b) | (with_reducible refine QZ ?_ <;> (try constructor) <;> intro hb <;> try intro hb1) | fail)
   all_goals (refine Qret (hd := ?_); (try simp (disch := omega) only [push_cast, simprocAttr, *]); try (first | exact q_e | refine LE.of_eq ?_))
   all_goals simp_all
   all_goals (try (intros; first | omega | (exfalso; omega)))
 by_cases k3 : k = 3
 · subst k3
   repeat' (first | refine QX ?_ | (refine QB ?_; intro b) | (with_reducible refine QZ ?_ <;> (try constructor) <;> intro hb <;> try intro hb1) | fail)
   all_goals (refine Qret (hd := ?_); (try simp (disch := omega) only [push_cast, simprocAttr, *]); try (first | exact q_e | refine LE.of_eq ?_))
   all_goals simp_all
   all_goals (try (intros; first | omega | (exfalso; omega)))
 by_cases k4 : k = 4
 · subst k4
   repeat' (first | refine QX ?_ | (refine QB ?_; intro b) | (with_reducible refine QZ ?_ <;> (try constructor) <;> intro hb <;> try intro hb1) | refine Qc Tryz.call230 (hV.out q_o _) ?_ | fail)
   all_goals (refine Qret (hd := ?_); (try simp (disch := omega) only [push_cast, simprocAttr, *]); try (first | exact q_e | refine LE.of_eq ?_))
   all_goals simp_all
   all_goals (try (intros; first | omega | (exfalso; omega)))
 by_cases k5 : k = 5
 · subst k5
   repeat' (first | refine QX ?_ | (refine QB ?_; intro b) | (with_reducible refine QZ ?_ <;> (try constructor) <;> intro hb <;> try intro hb1) | fail)
   all_goals (refine Qret (hd := ?_); (try simp (disch := omega) only [push_cast, simprocAttr, *]); try (first | exact q_e | refine LE.of_eq ?_))
   all_goals simp_all
   all_goals (try (intros; first | omega | (exfalso; omega)))
 have a0 : (k == 0) = false := by simpa using k0
 have a1 : (k == 1) = false := by simpa using k1
 have a2 : (k == 2) = false := by simpa using k2
 have a3 : (k == 3) = false := by simpa using k3
 have a4 : (k == 4) = false := by simpa using k4
 have a5 : (k == 5) = false := by simpa using k5
 clear hN hV
 exact WR
end
section
attribute [local push_cast] encB encI V.cells_mk V.cells_take V.cells_len isE_eq
namespace V
mutual
def parts : V → Bool
 | .mk k n s l => sgl k n s l.length && (decide (k = 5) || decide (l.length = 0)) && partsL l
def partsL : List V → Bool
 | [] => true
 | x :: l => x.parts && partsL l
end
theorem partsL_all : ∀ l : List V, partsL l = l.all parts
 | [] => rfl
 | x :: l => by rw [partsL, List.all_cons, partsL_all l]
end V
open V in
theorem valPartsF : ∀ (N : Nat) (v : V), v.nodes ≤ N → ∀ st, TrF Tryz.prog 200 [.agg v.cells] st fun x st' => x = .b v.parts ∧ st' = st
 | 0, v, h => by have := v.nodes_pos; omega
 | N + 1, .mk k n s l, hN => by
  intro st
  have IH := Lib.hid fun x (hx : x ∈ l) => valPartsF N x (by have := nodes_lt (k := k) (n := n) (s := s) hx; omega)
  rw [V.cells_mk, show (V.mk k n s l).parts = (sgl k n s l.length && (decide (k = 5) || decide (l.length = 0)) && partsL l) from parts.eq_1 ..]
  clear hN
  have hS := Lib.hid (valSingleF k n s l)
  have h20 : sgl k n s l.length = true → k = 5 → l.length ≤ 20 := fun h hk => by
   subst hk
   simp [sgl] at h
   omega
  obtain ⟨B, hB⟩ : ∃ B, sgl k n s l.length = B := ⟨_, rfl⟩
  rw [hB] at hS h20 ⊢
  clear hB
  obtain ⟨L, hL⟩ : ∃ L, partsL l = L := ⟨_, rfl⟩
  have HL : Hid (partsL (l.drop 0) = L) := hL
  rw [hL]
  clear hL
  refine Qin [2] Tryz.func200 Tryz.results200 Tryz.ntmps200 ?_
  by_cases hb0 : B = false
  · subst hb0
    clear h20
    rw [Bool.false_and, Bool.false_and]
    exact WR
  obtain rfl : B = true := by simpa using hb0
  clear hb0
  rw [Bool.true_and]
  have h20 := Lib.hid h20
  by_cases hk : k ≠ 5 ∧ 0 < l.length
  · rw [decide_eq_false hk.1, decide_eq_false (show ¬ l.length = 0 by omega), Bool.or_self, Bool.false_and]
    obtain ⟨hk, h0⟩ := hk
    have h0' : (0 : Int) < l.length := by omega
    have hk' : (k == 5) = false := by simpa using hk
    exact WR
  rw [show (decide (k = 5) || decide (l.length = 0)) = true by rw [Bool.or_eq_true, decide_eq_true_eq, decide_eq_true_eq]; omega, Bool.true_and]
  have hk : k = 5 ∨ (l.length : Int) = 0 := by omega
  have hlen : l.length ≤ 20 := by
   rcases hk with h | h
   · exact h20.out rfl h
   · omega
  clear h20
  repeat' (first | refine QX ?_ | (refine QB ?_; intro b) | (with_reducible refine QZ ?_ <;> (try constructor) <;> intro hb <;> try intro hb1) | fail)
  all_goals
   refine tr_loopd (ι := Nat) (fun i A st' => i ≤ l.length ∧ Hid (partsL (l.drop i) = L) ∧ A.df = [] ∧ A.e 20 = .sl .shared (l.map V.cells) ∧ A.e 21 = .i l.length ∧ A.e 22 = .i i ∧ st' = st) (fun i => l.length - i) 0 ⟨Nat.zero_le _, HL, Qf, Qf, Qf, Qf, rfl⟩ ?_
   rintro i A st' ⟨hi, HT, hdf, h7', h8', h9', rfl⟩
   by_cases hlt : i < l.length
   · obtain ⟨x, hx⟩ := gEx hlt
     have ih := IH.out x (mem_of hx)
     have HE := HT.out
     rw [drop_cons hx, partsL] at HE
     clear HT HL hk
     cases x with
     | mk k1 n1 s1 l1 =>
      rw [V.cells_mk] at ih
      generalize (V.mk k1 n1 s1 l1).parts = pp at *
      have ih := Lib.hid ih
      cases pp
      · rw [Bool.false_and] at HE
        rw [← HE]
        clear HE
        exact WR
      · rw [Bool.true_and] at HE
        have HE := Lib.hid HE
        repeat' (first | refine QX ?_ | (refine QB ?_; intro b) | (with_reducible refine QZ ?_ <;> (try constructor) <;> intro hb <;> try intro hb1) | fail)
        refine ⟨i + 1, _, List.sublist_cons_self _ _, ⟨hlt, HE, ?_, ?_, ?_, ?_, rfl⟩, ?_⟩
        all_goals exact Qf
   · have HE := HT.out
     rw [List.drop_eq_nil_of_le q_o, partsL] at HE
     rw [← HE]
     clear HE HT HL hk
     exact WR
end
section
attribute [local push_cast] encB encI V.cells_mk V.cells_take V.cells_len isE_eq
namespace V
def c1 (k : Int) (sz len : Nat) : Prop := k < 0 ∨ 5 < k ∨ (k ≠ 5 ∧ 0 < len) ∨ (k ≠ 3 ∧ k ≠ 4 ∧ sz ≠ 0)
instance (k : Int) (sz len : Nat) : Decidable (c1 k sz len) := by unfold c1; infer_instance
def c2 (k n : Int) : Prop := k ≠ 2 ∧ n ≠ 0 ∧ ¬ (k = 1 ∧ n = 1)
instance (k n : Int) : Decidable (c2 k n) := by unfold c2; infer_instance
def c3 (k : Int) (sz len a b : Nat) : Prop := (k = 3 ∧ a ≠ 1) ∨ (k = 4 ∧ (200 < sz ∨ b ≠ 1)) ∨ 20 < len
instance (k : Int) (sz len a b : Nat) : Decidable (c3 k sz len a b) := by unfold c3; infer_instance
theorem each_eq {k n : Int} {s : ByteArray} {len a b : Nat} (ha : isName s.data.toList = decide (a = 1)) (hb : validB s.data.toList = decide (b = 1)) : (sgl k n s len && (decide (k = 5) || decide (len = 0))) = decide (¬ c1 k s.size len ∧ ¬ c2 k n ∧ ¬ c3 k s.size len a b) := by
 rw [Bool.eq_iff_iff]
 unfold sgl c1 c2 c3
 rw [ha, hb]
 clear ha hb
 generalize s.size = z
 by_cases k0 : k = 0
 · subst k0; simp <;> omega
 by_cases k1 : k = 1
 · subst k1; simp <;> omega
 by_cases k2 : k = 2
 · subst k2; simp <;> omega
 by_cases k3 : k = 3
 · subst k3; simp <;> omega
 by_cases k4 : k = 4
 · subst k4; simp <;> omega
 by_cases k5 : k = 5
 · subst k5; simp <;> omega
 simp [k0, k1, k2, k3, k4, k5]
 omega
end V
open V in
theorem refEachF : ∀ (N : Nat) (v : V), v.nodes ≤ N → ∀ st, TrF Tryz.prog 188 [.agg v.cells] st fun x st' => x = .b v.parts ∧ st' = st
 | 0, v, h => by have := v.nodes_pos; omega
 | N + 1, .mk k n s l, hN => by
  intro st
  have IH := Lib.hid fun x (hx : x ∈ l) => refEachF N x (by have := nodes_lt (k := k) (n := n) (s := s) hx; omega)
  rw [V.cells_mk, show (V.mk k n s l).parts = (sgl k n s l.length && (decide (k = 5) || decide (l.length = 0)) && partsL l) from parts.eq_1 ..]
  clear hN
  obtain ⟨a, ha⟩ : ∃ a : Nat, isName s.data.toList = decide (a = 1) := ⟨if isName s.data.toList then 1 else 0, by cases isName s.data.toList <;> rfl⟩
  obtain ⟨b, hb⟩ : ∃ b : Nat, validB s.data.toList = decide (b = 1) := ⟨if validB s.data.toList then 1 else 0, by cases validB s.data.toList <;> rfl⟩
  rw [each_eq ha hb]
  have hNm := refIsNameF s
  have hVd := fun h => refUtfValidF s h
  rw [ha] at hNm
  rw [show decide (0 ≤ countOf s.data.toList) = decide (b = 1) from hb] at hVd
  clear ha hb
  have hNm := Lib.hid hNm
  have hVd := Lib.hid hVd
  obtain ⟨L, hL⟩ : ∃ L, partsL l = L := ⟨_, rfl⟩
  have HL : Hid (partsL (l.drop 0) = L) := hL
  rw [hL]
  clear hL
  refine Qin [2] Tryz.func188 Tryz.results188 Tryz.ntmps188 ?_
  repeat' (first | refine QV ?_ | refine tr_cutR 1 (fun A st' => A.df = [] ∧ A.e 1 = .ip [.i k, .i n, .str s, .sl .shared (l.map V.cells)] ∧ A.e 37 = .b (decide (c1 k s.size l.length)) ∧ st = st') ?_ ?_ | refine QY ?_ | (refine QB ?_; intro b) | (with_reducible refine QZ ?_ <;> (try constructor) <;> intro hb <;> try intro hb1) | fail)
  all_goals try (refine ⟨Qf, Qf, ?_, rfl⟩; simp (disch := omega) only [push_cast, simprocAttr, *]; (first | rfl | (refine congrArg D.b ?_; rw [Bool.eq_iff_iff]; simp only [Bool.true_and, Bool.false_and, Bool.and_true, Bool.and_false, Bool.or_false, Bool.or_true, Bool.true_or, Bool.false_or, true_and, and_true, Bool.not_eq_true', Bool.not_eq_false', decide_eq_true_eq, decide_eq_false_iff_not, beq_iff_eq, beq_eq_false_iff_ne, bne_iff_ne, ne_eq, reduceCtorEq, iff_true, true_iff, iff_false, false_iff, Bool.and_eq_true, Bool.or_eq_true, Bool.false_eq_true, Bool.true_eq_false]; (try simp only [c1, true_and, and_true, true_or, or_true, false_or, or_false, false_and, and_false, not_true, not_false_eq_true, ne_eq]); first | done | omega)))
  rintro A st' ⟨hdf, e1, e37, rfl⟩
  by_cases h1 : c1 k s.size l.length
  · rw [decide_eq_false (fun h => h.1 h1), Bool.false_and]
    rw [decide_eq_true h1] at e37
    clear h1
    repeat' (first | refine QX ?_ | (refine QB ?_; intro b) | (with_reducible refine QZ ?_ <;> (try constructor) <;> intro hb <;> try intro hb1) | fail)
    exact Qret
  rw [decide_eq_false h1] at e37
  rw [show decide (¬ c1 k s.size l.length ∧ ¬ c2 k n ∧ ¬ c3 k s.size l.length a b) = decide (¬ c2 k n ∧ ¬ c3 k s.size l.length a b) from decide_eq_decide.2 ⟨fun h => h.2, fun h => ⟨h1, h⟩⟩]
  clear h1
  repeat' (first | refine QV ?_ | refine tr_cutR 3 (fun A st' => A.df = [] ∧ A.e 1 = .ip [.i k, .i n, .str s, .sl .shared (l.map V.cells)] ∧ A.e 56 = .b (decide (c2 k n)) ∧ st = st') ?_ ?_ | refine QY ?_ | (refine QB ?_; intro b) | (with_reducible refine QZ ?_ <;> (try constructor) <;> intro hb <;> try intro hb1) | fail)
  all_goals try (refine ⟨Qf, Qf, ?_, rfl⟩; simp (disch := omega) only [push_cast, simprocAttr, *]; (first | rfl | (refine congrArg D.b ?_; rw [Bool.eq_iff_iff]; simp only [Bool.true_and, Bool.false_and, Bool.and_true, Bool.and_false, Bool.or_false, Bool.or_true, Bool.true_or, Bool.false_or, true_and, and_true, Bool.not_eq_true', Bool.not_eq_false', decide_eq_true_eq, decide_eq_false_iff_not, beq_iff_eq, beq_eq_false_iff_ne, bne_iff_ne, ne_eq, reduceCtorEq, iff_true, true_iff, iff_false, false_iff, Bool.and_eq_true, Bool.or_eq_true, Bool.false_eq_true, Bool.true_eq_false]; (try simp only [c2, true_and, and_true, true_or, or_true, false_or, or_false, false_and, and_false, not_true, not_false_eq_true, ne_eq]); first | done | omega)))
  clear hdf e1 e37 A
  rintro A st' ⟨hdf, e1, e37, rfl⟩
  by_cases h1 : c2 k n
  · rw [decide_eq_false (fun h => h.1 h1), Bool.false_and]
    rw [decide_eq_true h1] at e37
    clear h1
    repeat' (first | refine QX ?_ | (refine QB ?_; intro b) | (with_reducible refine QZ ?_ <;> (try constructor) <;> intro hb <;> try intro hb1) | fail)
    exact Qret
  rw [decide_eq_false h1] at e37
  rw [show decide (¬ c2 k n ∧ ¬ c3 k s.size l.length a b) = decide (¬ c3 k s.size l.length a b) from decide_eq_decide.2 ⟨fun h => h.2, fun h => ⟨h1, h⟩⟩]
  clear h1
  repeat' (first | refine QV ?_ | refine tr_cutR 5 (fun A st' => A.df = [] ∧ A.e 1 = .ip [.i k, .i n, .str s, .sl .shared (l.map V.cells)] ∧ A.e 88 = .b (decide (c3 k s.size l.length a b)) ∧ st = st') ?_ ?_ | refine QY ?_ | (refine QB ?_; intro b) | (with_reducible refine QZ ?_ <;> (try constructor) <;> intro hb <;> try intro hb1) | refine Qc Tryz.call210 (hVd.out q_o _) ?_ | fail)
  all_goals try (refine ⟨Qf, Qf, ?_, rfl⟩; simp (disch := omega) only [push_cast, simprocAttr, *]; (first | rfl | (refine congrArg D.b ?_; rw [Bool.eq_iff_iff]; simp only [Bool.true_and, Bool.false_and, Bool.and_true, Bool.and_false, Bool.or_false, Bool.or_true, Bool.true_or, Bool.false_or, true_and, and_true, Bool.not_eq_true', Bool.not_eq_false', decide_eq_true_eq, decide_eq_false_iff_not, beq_iff_eq, beq_eq_false_iff_ne, bne_iff_ne, ne_eq, reduceCtorEq, iff_true, true_iff, iff_false, false_iff, Bool.and_eq_true, Bool.or_eq_true, Bool.false_eq_true, Bool.true_eq_false]; (try simp only [c3, true_and, and_true, true_or, or_true, false_or, or_false, false_and, and_false, not_true, not_false_eq_true, ne_eq]); first | done | omega)))
  clear hdf e1 e37 A
  rintro A st' ⟨hdf, e1, e37, rfl⟩
  by_cases h1 : c3 k s.size l.length a b
  · rw [decide_eq_false (fun h => h h1), Bool.false_and]
    rw [decide_eq_true h1] at e37
    clear h1
    repeat' (first | refine QX ?_ | (refine QB ?_; intro b) | (with_reducible refine QZ ?_ <;> (try constructor) <;> intro hb <;> try intro hb1) | fail)
    exact Qret
  rw [decide_eq_false h1] at e37
  rw [decide_eq_true h1, Bool.true_and]
  have hlen : l.length ≤ 20 := by unfold c3 at h1; omega
  clear h1 hNm hVd
  repeat' (first | refine QX ?_ | (refine QB ?_; intro b) | (with_reducible refine QZ ?_ <;> (try constructor) <;> intro hb <;> try intro hb1) | fail)
  refine tr_loop (ι := Nat) (fun i A st' => i ≤ l.length ∧ Hid (partsL (l.drop i) = L) ∧ A.df = [] ∧ A.e 1 = .ip [.i k, .i n, .str s, .sl .shared (l.map V.cells)] ∧ A.e 3 = .i i ∧ st = st') (fun i => l.length - i) 0 ⟨Nat.zero_le _, HL, Qf, Qf, Qf, rfl⟩ ?_
  clear hdf e1 e37 A
  rintro i A st' ⟨hi, HT, hdf, e1, e3, rfl⟩
  by_cases hlt : i < l.length
  · obtain ⟨x, hx⟩ := gEx hlt
    have ih := IH.out x (mem_of hx)
    have HE := HT.out
    rw [drop_cons hx, partsL] at HE
    clear HT HL
    cases x with
    | mk k1 n1 s1 l1 =>
     rw [V.cells_mk] at ih
     generalize (V.mk k1 n1 s1 l1).parts = pp at *
     have ih := Lib.hid ih
     cases pp
     · rw [Bool.false_and] at HE
       rw [← HE]
       clear HE
       exact WR
     · rw [Bool.true_and] at HE
       have HE := Lib.hid HE
       repeat' (first | refine QX ?_ | (refine QB ?_; intro b) | (with_reducible refine QZ ?_ <;> (try constructor) <;> intro hb <;> try intro hb1) | fail)
       refine ⟨i + 1, ⟨hlt, HE, ?_, ?_, ?_, rfl⟩, ?_⟩
       all_goals exact Qf
  · have HE := HT.out
    rw [List.drop_eq_nil_of_le q_o, partsL] at HE
    rw [← HE]
    clear HE HT HL
    exact WR
end
section
attribute [local push_cast] encB encI V.cells_mk V.cells_take V.cells_len isE_eq
namespace V
def great (v : V) : Bool := decide (v.cnt 1000 10 < 0) || decide (10 < (v.deep : Int))
def right (v : V) : Bool := v.parts && (decide (v.deep ≤ 4) && decide (v.nodes ≤ 100))
theorem not_great {v : V} (h : v.great = false) : v.nodes ≤ 1000 ∧ v.deep ≤ 10 := by
 unfold great at h
 rw [Bool.or_eq_false_iff, decide_eq_false_iff_not, decide_eq_false_iff_not] at h
 have := cnt_eq v 1000 10 q_o
 exact ⟨by omega, by omega⟩
theorem right_iff {v : V} : v.right = true ↔ v.parts = true ∧ v.deep ≤ 4 ∧ v.nodes ≤ 100 := by
 unfold right; simp
end V
open V in
theorem refGreatF (v : V) (hok : v.Ok) (st : St) : TrF Tryz.prog 133 [.agg v.cells] st fun x st' => x = .b v.great ∧ st' = st := by
 have hC := Lib.hid (refCountF v.nodes v (Nat.le_refl _) hok 1000 10 q_o q_o q_o q_o)
 have hB : v.cnt 1000 10 < 0 ∨ v.nodes ≤ 1000 := by
  rcases Int.lt_or_le (v.cnt 1000 10) 0 with h | h
  · exact .inl h
  · have := cnt_eq v 1000 10 h; omega
 have hD := Lib.hid fun h => refDeepF v.nodes v (Nat.le_refl _) h
 unfold great
 generalize v.cnt 1000 10 = c at *
 cases v with
 | mk k n s l =>
 rw [V.cells_mk] at *
 generalize (V.mk k n s l).deep = d at *
 generalize (V.mk k n s l).nodes = nn at *
 refine Qin [2] Tryz.func133 Tryz.results133 Tryz.ntmps133 ?_
 repeat' (first | refine QX ?_ | (refine QB ?_; intro b) | (with_reducible refine QZ ?_ <;> (try constructor) <;> intro hb <;> try intro hb1) | refine Qc Tryz.call175 (hD.out q_o _) ?_ | fail)
 all_goals (refine Qret (hd := ?_); (try simp (disch := omega) only [push_cast, simprocAttr, *]); try (first | exact q_e | refine LE.of_eq ?_))
 all_goals (first | rfl | (refine congrArg D.b ?_; rw [Bool.eq_iff_iff]; simp only [Bool.true_and, Bool.false_and, Bool.and_true, Bool.and_false, Bool.or_false, Bool.or_true, Bool.true_or, Bool.false_or, true_and, and_true, Bool.not_eq_true', Bool.not_eq_false', decide_eq_true_eq, decide_eq_false_iff_not, beq_iff_eq, beq_eq_false_iff_ne, bne_iff_ne, ne_eq, reduceCtorEq, iff_true, true_iff, iff_false, false_iff, Bool.and_eq_true, Bool.or_eq_true, Bool.false_eq_true, Bool.true_eq_false]; first | done | omega))
open V in
theorem valRightF (v : V) (hB : v.nodes ≤ 4611686018427387904) (st : St) : TrF Tryz.prog 168 [.agg v.cells] st fun x st' => x = .b v.right ∧ st' = st := by
 have hD := Lib.hid (valDeepF v.nodes v (Nat.le_refl _) hB)
 have hN := Lib.hid (valNodesF v.nodes v (Nat.le_refl _) hB)
 have hP := Lib.hid (valPartsF v.nodes v (Nat.le_refl _))
 unfold right
 cases v with
 | mk k n s l =>
 rw [V.cells_mk] at *
 generalize (V.mk k n s l).deep = d at *
 generalize (V.mk k n s l).nodes = nn at *
 generalize (V.mk k n s l).parts = p at *
 refine Qin [2] Tryz.func168 Tryz.results168 Tryz.ntmps168 ?_
 repeat' (first | refine QX ?_ | (refine QB ?_; intro b) | (with_reducible refine QZ ?_ <;> (try constructor) <;> intro hb <;> try intro hb1) | fail)
 all_goals (refine Qret (hd := ?_); (try simp (disch := omega) only [push_cast, simprocAttr, *]); try (first | exact q_e | refine LE.of_eq ?_))
 all_goals (cases p <;> (first | rfl | (refine congrArg D.b ?_; rw [Bool.eq_iff_iff]; simp only [Bool.true_and, Bool.false_and, Bool.and_true, Bool.and_false, Bool.or_false, Bool.or_true, Bool.true_or, Bool.false_or, true_and, and_true, Bool.not_eq_true', Bool.not_eq_false', decide_eq_true_eq, decide_eq_false_iff_not, beq_iff_eq, beq_eq_false_iff_ne, bne_iff_ne, ne_eq, reduceCtorEq, iff_true, true_iff, iff_false, false_iff, Bool.and_eq_true, Bool.or_eq_true, Bool.false_eq_true, Bool.true_eq_false]; first | done | omega)))
end
section
attribute [local push_cast] encB encI V.cells_mk V.cells_take V.cells_len isE_eq bne_self_eq_false
namespace V
def sgn (a b : Int) : Int := if a < b then -1 else if b < a then 1 else 0
def ors : List Int → Int
 | [] => 0
 | x :: l => if x = 0 then ors l else x
def cmpB : List UInt8 → List UInt8 → Int
 | [], [] => 0
 | [], _ :: _ => -1
 | _ :: _, [] => 1
 | x :: a, y :: b => if sgn x.toNat y.toNat = 0 then cmpB a b else sgn x.toNat y.toNat
theorem cmpB_end (a b : List UInt8) (i : Nat) (ha : i ≤ a.length) (hb : i ≤ b.length) (h : i = a.length ∨ i = b.length) : cmpB (a.drop i) (b.drop i) = sgn a.length b.length := by
 have h1 : (a.drop i).length = a.length - i := List.length_drop
 have h2 : (b.drop i).length = b.length - i := List.length_drop
 cases hx : a.drop i with
 | nil =>
  rw [hx] at h1
  cases hy : b.drop i with
  | nil => rw [hy] at h2; simp at h1 h2; rw [cmpB, sgn, if_neg q_o, if_neg q_o]
  | cons y t => rw [hy] at h2; simp at h1 h2; rw [cmpB, sgn, if_pos q_o]
 | cons x s =>
  rw [hx] at h1
  cases hy : b.drop i with
  | nil => rw [hy] at h2; simp at h1 h2; rw [cmpB, sgn, if_neg q_o, if_pos q_o]
  | cons y t => rw [hy] at h2; simp at h1 h2; omega
end V
theorem nanIF (a : Int) (st : St) : TrF Tryz.prog 222 [.i a] st fun x st' => x = .b false ∧ st' = st := by
 refine Qin [2] Tryz.func222 Tryz.results222 Tryz.ntmps222 ?_
 exact WR
theorem nanLF (a : Int) (st : St) : TrF Tryz.prog 223 [.i a] st fun x st' => x = .b false ∧ st' = st := by
 refine Qin [2] Tryz.func223 Tryz.results223 Tryz.ntmps223 ?_
 exact WR
theorem nanBF (a : UInt8) (st : St) : TrF Tryz.prog 221 [.y a] st fun x st' => x = .b false ∧ st' = st := by
 refine Qin [2] Tryz.func221 Tryz.results221 Tryz.ntmps221 ?_
 exact WR
theorem cmpIF (a b : Int) (st : St) : TrF Tryz.prog 204 [.i a, .i b] st fun x st' => x = .i (V.sgn a b) ∧ st' = st := by
 refine Qin [4] Tryz.func204 Tryz.results204 Tryz.ntmps204 ?_
 repeat' (first | refine QX ?_ | (refine QB ?_; intro b) | (with_reducible refine QZ ?_ <;> (try constructor) <;> intro hb <;> try intro hb1) | refine Qc Tryz.call222 (nanIF _ _) ?_ | fail)
 all_goals (refine Qret (hd := ?_); (try simp (disch := omega) only [push_cast, simprocAttr, *]); try (first | exact q_e | refine LE.of_eq ?_))
 all_goals (unfold V.sgn; simp (disch := omega) only [push_cast, simprocAttr, *])
theorem cmpLF (a b : Int) (st : St) : TrF Tryz.prog 205 [.i a, .i b] st fun x st' => x = .i (V.sgn a b) ∧ st' = st := by
 refine Qin [4] Tryz.func205 Tryz.results205 Tryz.ntmps205 ?_
 repeat' (first | refine QX ?_ | (refine QB ?_; intro b) | (with_reducible refine QZ ?_ <;> (try constructor) <;> intro hb <;> try intro hb1) | refine Qc Tryz.call223 (nanLF _ _) ?_ | fail)
 all_goals (refine Qret (hd := ?_); (try simp (disch := omega) only [push_cast, simprocAttr, *]); try (first | exact q_e | refine LE.of_eq ?_))
 all_goals (unfold V.sgn; simp (disch := omega) only [push_cast, simprocAttr, *])
theorem cmpBF (a b : UInt8) (st : St) : TrF Tryz.prog 202 [.y a, .y b] st fun x st' => x = .i (V.sgn a.toNat b.toNat) ∧ st' = st := by
 refine Qin [4] Tryz.func202 Tryz.results202 Tryz.ntmps202 ?_
 repeat' (first | refine QX ?_ | (refine QB ?_; intro b) | (with_reducible refine QZ ?_ <;> (try constructor) <;> intro hb <;> try intro hb1) | refine Qc Tryz.call221 (nanBF _ _) ?_ | fail)
 all_goals (refine Qret (hd := ?_); (try simp (disch := omega) only [push_cast, simprocAttr, *]); try (first | exact q_e | refine LE.of_eq ?_))
 all_goals (unfold V.sgn; simp (disch := omega) only [push_cast, simprocAttr, *])
theorem cmpB1F (a b : UInt8) (st : St) : TrF Tryz.prog 201 [.y a, .y b] st fun x st' => x = .i (V.sgn a.toNat b.toNat) ∧ st' = st := by
 refine Qin [4] Tryz.func201 Tryz.results201 Tryz.ntmps201 ?_
 repeat' (first | refine QX ?_ | (refine QB ?_; intro b) | (with_reducible refine QZ ?_ <;> (try constructor) <;> intro hb <;> try intro hb1) | refine Qc Tryz.call202 (cmpBF _ _ _) ?_ | fail)
 all_goals exact Qret
theorem orF (o : Own) (l : List Int) (hl : l.length ≤ 1000) (st : St) : TrF Tryz.prog 203 [.sl o (l.map encI)] st fun x st' => x = .i (V.ors l) ∧ st' = st := by
 obtain ⟨B, hB⟩ : ∃ B, V.ors l = B := ⟨_, rfl⟩
 have HB : Hid (V.ors (l.drop 0) = B) := hB
 rw [hB]
 clear hB
 refine Qin [2] Tryz.func203 Tryz.results203 Tryz.ntmps203 ?_
 repeat' (first | refine QX ?_ | (refine QB ?_; intro b) | (refine QP ?_; intro o' ho') | (with_reducible refine QZ ?_ <;> (try constructor) <;> intro hb <;> try intro hb1) | fail)
 refine tr_loop (ι := Nat) (fun i A st' => i ≤ l.length ∧ Hid (V.ors (l.drop i) = B) ∧ A.df = [] ∧ A.e 3 = .i 0 ∧ A.e 6 = .sl o (l.map encI) ∧ A.e 7 = .i l.length ∧ A.e 8 = .i i ∧ st = st') (fun i => l.length - i) 0 ⟨Nat.zero_le _, HB, Qf, Qf, Qf, Qf, Qf, rfl⟩ ?_
 rintro i A st' ⟨hi, HT, hdf, e3, e6, e7, e8, rfl⟩
 by_cases hlt : i < l.length
 · obtain ⟨x, hx⟩ := gEx hlt
   have HE := HT.out
   rw [V.drop_cons hx, V.ors] at HE
   clear HT HB
   by_cases h0 : x = 0
   · rw [if_pos h0] at HE
     have HE := Lib.hid HE
     subst h0
     repeat' (first | refine QX ?_ | (refine QB ?_; intro b) | (refine QP ?_; intro o' ho') | (with_reducible refine QZ ?_ <;> (try constructor) <;> intro hb <;> try intro hb1) | fail)
     refine ⟨i + 1, ⟨hlt, HE, ?_, ?_, ?_, ?_, ?_, rfl⟩, ?_⟩
     all_goals exact Qf
   · rw [if_neg h0] at HE
     rw [← HE]
     clear HE
     exact WRa
 · have HE := HT.out
   rw [List.drop_eq_nil_of_le q_o, V.ors] at HE
   rw [← HE]
   clear HE HT HB
   exact WRa
theorem listsBF (o o' : Own) (a b : List UInt8) (ha : a.length ≤ maxLen) (st : St) : TrF Tryz.prog 206 [.sl o (a.map encB), .sl o' (b.map encB), .fn (.func 201) [] []] st fun x st' => x = .i (V.cmpB a b) ∧ st' = st := by
 unfold maxLen at ha
 obtain ⟨B, hB⟩ : ∃ B, V.cmpB a b = B := ⟨_, rfl⟩
 have HB : Hid (V.cmpB (a.drop 0) (b.drop 0) = B) := hB
 rw [hB]
 clear hB
 obtain ⟨m, hm, hm1, hm2, hm3⟩ : ∃ m : Nat, (if b.length < a.length then (b.length : Int) else a.length) = m ∧ m ≤ a.length ∧ m ≤ b.length ∧ (m = a.length ∨ m = b.length) := by
  by_cases h : b.length < a.length
  · exact ⟨b.length, by rw [if_pos h], by omega, by omega, by omega⟩
  · exact ⟨a.length, by rw [if_neg h], by omega, by omega, by omega⟩
 refine Qin [6] Tryz.func206 Tryz.results206 Tryz.ntmps206 ?_
 repeat' (first | refine QX ?_ | (refine QB ?_; intro b) | (refine QP ?_; intro o' ho') | (with_reducible refine QZ ?_ <;> (try constructor) <;> intro hb <;> try intro hb1) | fail)
 refine tr_loop (ι := Nat) (fun i A st' => i ≤ m ∧ Hid (V.cmpB (a.drop i) (b.drop i) = B) ∧ A.df = [] ∧ A.e 0 = .sl o (a.map encB) ∧ A.e 1 = .sl o' (b.map encB) ∧ A.e 2 = .fn (.func 201) [] [] ∧ A.e 13 = .i m ∧ A.e 14 = .i i ∧ st = st') (fun i => m - i) 0 ⟨Nat.zero_le _, HB, Qf, Qf, Qf, Qf, Qf, Qf, rfl⟩ ?_
 clear hm
 rintro i A st' ⟨hi, HT, hdf, e0, e1, e2, e13, e14, rfl⟩
 by_cases hlt : i < m
 · obtain ⟨x, hx⟩ := gEx (l := a) (i := i) q_o
   obtain ⟨y, hy⟩ := gEx (l := b) (i := i) q_o
   have HE := HT.out
   rw [V.drop_cons hx, V.drop_cons hy, V.cmpB] at HE
   have hC := cmpB1F x y
   clear HT HB
   generalize V.sgn x.toNat y.toNat = q at *
   have hC := Lib.hid hC
   by_cases h0 : q = 0
   · rw [if_pos h0] at HE
     have HE := Lib.hid HE
     subst h0
     repeat' (first | refine QX ?_ | (refine QB ?_; intro b) | (refine QP ?_; intro o' ho') | (with_reducible refine QZ ?_ <;> (try constructor) <;> intro hb <;> try intro hb1) | fail)
     refine ⟨i + 1, ⟨hlt, HE, ?_, ?_, ?_, ?_, ?_, ?_, rfl⟩, ?_⟩
     all_goals exact Qf
   · rw [if_neg h0] at HE
     rw [← HE]
     clear HE
     exact WRa
 · have HE := HT.out
   rw [V.cmpB_end a b i q_o q_o q_o] at HE
   rw [← HE]
   clear HE HT HB
   repeat' (first | refine QX ?_ | (refine QB ?_; intro b) | (refine QP ?_; intro o' ho') | (with_reducible refine QZ ?_ <;> (try constructor) <;> intro hb <;> try intro hb1) | refine Qc Tryz.call204 (cmpIF _ _ _) ?_ | fail)
   all_goals exact Qret
end
end Go.Proofs.YtgcienlfpnpbgaaGreat
