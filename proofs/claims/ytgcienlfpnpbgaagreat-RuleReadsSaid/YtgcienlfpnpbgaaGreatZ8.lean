/- Texts put together. No statement is proved here. -/
import Derived.MapKept
import Derived.Test.YtgcienlfpnpbgaaGreatZ7
set_option linter.all false
set_option maxRecDepth 10000
set_option maxHeartbeats 8000000
namespace Go.Proofs.YtgcienlfpnpbgaaGreat
open Go.RowKit
section
attribute [local push_cast] encB encI V.cells_mk V.cells_take V.cells_len Nat.mul_one
open Go.RowKit B
def V.zero : V := .mk 0 0 ⟨#[]⟩ []
def RS.val (s : RS) : V × RS := if s.bad = true then (V.zero, s) else if (RS.value 4 s).2.bad = true ∨ (RS.value 4 s).1.right = false then (V.zero, RS.fail) else RS.value 4 s
theorem rdValF (b : Nat) (s : RS) (hn : (RS.value 4 s).1.nodes ≤ 4611686018427387904) (st : St) : TrF Tryz.prog 118 [.ptr b 0] (rdR b s :: st) fun x st' => x = .agg s.val.1.cells ∧ st' = rdR b s.val.2 :: st := by
 have hBad := Lib.hid (rdBadF b s)
 have hV := Lib.hid (rdValueF 4 (Nat.le_refl _) b s)
 have hR := Lib.hid (valRightF (RS.value 4 s).1 hn)
 unfold RS.val
 cases hsb : s.bad with
 | true =>
  rw [if_pos rfl]
  rw [hsb] at hBad
  refine QinC 2 73 Tryz.func118 Tryz.ntmps118 ?_
  repeat' (first | refine QX ?_ | (refine QB ?_; intro b) | (with_reducible refine QZ ?_ <;> (try constructor) <;> intro hb <;> try intro hb1) | fail)
  all_goals exact QretC
 | false =>
  rw [if_neg Bool.false_ne_true]
  rw [hsb] at hBad
  generalize RS.value 4 s = q at *
  obtain ⟨⟨k, n, t, l⟩, s2⟩ := q
  dsimp only at *
  rw [V.cells_mk] at *
  generalize hr : (V.mk k n t l).right = r at *
  have hBad2 := Lib.hid (rdBadF b s2)
  have hF := Lib.hid (rdFailF b s2)
  cases hsb2 : s2.bad with
  | true =>
   rw [if_pos (.inl rfl)]
   rw [hsb2] at hBad2
   refine QinC 2 73 Tryz.func118 Tryz.ntmps118 ?_
   repeat' (first | refine QX ?_ | (refine QB ?_; intro b) | (with_reducible refine QZ ?_ <;> (try constructor) <;> intro hb <;> try intro hb1) | refine QR Tryz.call80 hBad.out ?_ | refine QR Tryz.call80 hBad2.out ?_ | refine QR Tryz.call167 hV.out ?_ | refine QR Tryz.call169 hF.out ?_ | fail)
   all_goals exact QretC
  | false =>
   rw [hsb2] at hBad2
   cases r with
   | false =>
    rw [if_pos (.inr rfl)]
    refine QinC 2 73 Tryz.func118 Tryz.ntmps118 ?_
    repeat' (first | refine QX ?_ | (refine QB ?_; intro b) | (with_reducible refine QZ ?_ <;> (try constructor) <;> intro hb <;> try intro hb1) | refine QR Tryz.call80 hBad.out ?_ | refine QR Tryz.call80 hBad2.out ?_ | refine QR Tryz.call167 hV.out ?_ | refine QR Tryz.call169 hF.out ?_ | refine Qc Tryz.call168 (hR.out _) ?_ | fail)
    all_goals exact QretC
   | true =>
    rw [if_neg (by simp)]
    refine QinC 2 73 Tryz.func118 Tryz.ntmps118 ?_
    repeat' (first | refine QX ?_ | (refine QB ?_; intro b) | (with_reducible refine QZ ?_ <;> (try constructor) <;> intro hb <;> try intro hb1) | refine QR Tryz.call80 hBad.out ?_ | refine QR Tryz.call80 hBad2.out ?_ | refine QR Tryz.call167 hV.out ?_ | refine QR Tryz.call169 hF.out ?_ | refine Qc Tryz.call168 (hR.out _) ?_ | fail)
    all_goals exact QretC
end
structure Ts where
 kind : Int
 slot : Int
 var : Int
 val : V
structure Pt where
 tmpl : Int
 neg : Bool
 tests : List Ts
structure Ex where
 isVar : Bool
 var : Int
 val : V
structure Ac where
 kind : Int
 pat : Int
 tmpl : Int
 slot : Int
 vals : List Ex
structure Rl where
 name : ByteArray
 sal : Int
 pats : List Pt
 acts : List Ac
def Ts.cells (t : Ts) : List D := .i t.kind :: .i t.slot :: .i t.var :: t.val.cells
def Pt.cells (p : Pt) : List D := [.i p.tmpl, .b p.neg, .sl .shared (p.tests.map Ts.cells)]
def Ex.cells (e : Ex) : List D := .b e.isVar :: .i e.var :: e.val.cells
def Ac.cells (a : Ac) : List D := [.i a.kind, .i a.pat, .i a.tmpl, .i a.slot, .sl .shared (a.vals.map Ex.cells)]
def Rl.cells (x : Rl) : List D := [.str x.name, .i x.sal, .sl .shared (x.pats.map Pt.cells), .sl .shared (x.acts.map Ac.cells)]
theorem Ts.cells_mk (kind slot var k n : Int) (s : ByteArray) (l : List V) : (Ts.mk kind slot var (.mk k n s l)).cells = [.i kind, .i slot, .i var, .i k, .i n, .str s, .sl .shared (l.map V.cells)] := by unfold Ts.cells; rw [V.cells_mk]
theorem Ex.cells_mk (iv : Bool) (var k n : Int) (s : ByteArray) (l : List V) : (Ex.mk iv var (.mk k n s l)).cells = [.b iv, .i var, .i k, .i n, .str s, .sl .shared (l.map V.cells)] := by unfold Ex.cells; rw [V.cells_mk]
theorem Ts.cells_len (t : Ts) : t.cells.length = 7 := by unfold Ts.cells; simp [V.cells_len]
theorem Ex.cells_len (e : Ex) : e.cells.length = 6 := by unfold Ex.cells; simp [V.cells_len]
namespace Rul
def slots (L : List Tm) (k : Int) : List Sl := if 0 ≤ k ∧ k < L.length then (match L[k.toNat]? with | some t => (Sch.verX t (Sch.last t)).slots | none => []) else []
def bindT (l : List Ts) : List Int := (l.filter fun t => t.kind == 5).map Ts.var
def bindP (l : List Pt) : List Int := l.flatMap fun p => bindT p.tests
def bound (x : Rl) : List Int := bindP x.pats
def testB (ns : Int) (neg : Bool) (B : List Int) (t : Ts) : Bool :=
 (decide (0 ≤ t.slot) && decide (t.slot < ns)) && (
 if t.kind = 1 ∨ t.kind = 2 ∨ t.kind = 3 ∨ t.kind = 4 then (t.var == 0) && t.val.right
 else if t.kind = 5 then (t.val.cmp V.zero == 0) && ((decide (0 ≤ t.var) && decide (t.var < 8)) && (!neg && decide (t.var ∉ B)))
 else if t.kind = 6 ∨ t.kind = 7 ∨ t.kind = 8 ∨ t.kind = 9 then (t.val.cmp V.zero == 0) && ((decide (0 ≤ t.var) && decide (t.var < 8)) && decide (t.var ∈ B))
 else false)
def testN (B : List Int) (t : Ts) : List Int := if t.kind = 5 then B ++ [t.var] else B
def testsF (ns : Int) (neg : Bool) : List Ts → List Int → Bool × List Int
 | [], B => (true, B)
 | t :: l, B => if testB ns neg B t = true then testsF ns neg l (testN B t) else (false, B)
def patF (L : List Tm) (B : List Int) (p : Pt) : Bool × List Int :=
 if 0 ≤ p.tmpl ∧ p.tmpl < L.length ∧ p.tests.length ≤ 6 then testsF (slots L p.tmpl).length p.neg p.tests B else (false, B)
def patsF (L : List Tm) : List Pt → List Int → Bool × List Int
 | [], B => (true, B)
 | p :: l, B => if (patF L B p).1 = true then patsF L l (patF L B p).2 else (false, (patF L B p).2)
def exprB (B : List Int) (e : Ex) (s : Sl) : Bool := if e.isVar = true then decide (e.var ∈ B) && (e.val.cmp V.zero == 0) else (e.var == 0) && Sch.fits s e.val
def exprsB (B : List Int) : List Ex → List Sl → Bool
 | e :: l, s :: m => exprB B e s && exprsB B l m
 | _, _ => true
def posB (ps : List Pt) (k : Int) : Bool := (decide (0 ≤ k) && decide (k < ps.length)) && !((ps[k.toNat]?).any Pt.neg)
def actB (L : List Tm) (ps : List Pt) (B : List Int) (a : Ac) : Bool :=
 if a.kind = 1 then ((a.pat == 0) && (a.slot == 0)) && ((decide ((slots L a.tmpl).length ≠ 0) && decide (a.vals.length = (slots L a.tmpl).length)) && exprsB B a.vals (slots L a.tmpl))
 else if a.kind = 2 then posB ps a.pat && ((a.tmpl == 0) && ((a.slot == 0) && decide (a.vals.length = 0)))
 else if a.kind = 3 then (posB ps a.pat && ((a.tmpl == 0) && decide (a.vals.length = 1))) && (match ps[a.pat.toNat]?, a.vals with
  | some p, [e] => decide (0 ≤ a.slot) && (decide (a.slot < (slots L p.tmpl).length) && (match (slots L p.tmpl)[a.slot.toNat]? with | some s => exprB B e s | none => false))
  | _, _ => false)
 else (a.kind == 4) && ((a.pat == 0) && ((a.tmpl == 0) && ((a.slot == 0) && decide (a.vals.length = 0))))
def headB (x : Rl) : Bool := V.isName x.name.data.toList && ((decide (-100 ≤ x.sal) && decide (x.sal ≤ 100)) && ((decide (1 ≤ x.pats.length) && decide (x.pats.length ≤ 4)) && (!((x.pats[0]?).any Pt.neg) && decide (x.acts.length ≤ 4))))
def oneB (L : List Tm) (x : Rl) : Bool := headB x && ((patsF L x.pats []).1 && x.acts.all fun a => actB L x.pats (patsF L x.pats []).2 a)
def rightL (L : List Tm) (R : List Rl) : List Rl → Nat → Bool
 | [], _ => true
 | x :: l, i => oneB L x && (!((R.take i).any fun y => y.name.toList == x.name.toList) && rightL L R l (i + 1))
def right (L : List Tm) (R : List Rl) : Bool := Reg.right L && (decide (R.length ≤ 8) && rightL L R R 0)
end Rul
section
attribute [local push_cast] encB encI encC V.cells_mk V.cells_len Nat.mul_one Int.sub_zero List.map_nil beq_self_eq_true bne_self_eq_false List.head?_cons
namespace Rul
theorem slots_in {L : List Tm} {k : Nat} {t : Tm} (h : L[k]? = some t) : slots L (k : Int) = (Sch.verX t (Sch.last t)).slots := by
 have := (List.getElem?_eq_some_iff.1 h).1
 unfold slots
 rw [if_pos ⟨by omega, by omega⟩, Int.toNat_natCast, h]
theorem slots_out {L : List Tm} {k : Int} (h : ¬ (0 ≤ k ∧ k < L.length)) : slots L k = [] := if_neg h
end Rul
theorem ruleBitF (b : Bool) (st : St) : TrF Tryz.prog 98 [.b b] st fun d st' => d = .i (if b then 1 else 0) ∧ st' = st := by
 cases b
 all_goals (
  refine Qin [2] Tryz.func98 Tryz.results98 Tryz.ntmps98 ?_
  exact WR)
theorem ruleSlotsF (L : List Tm) (hL : ∀ t ∈ L, TOk t) (hl : L.length ≤ 1000000) (k : Int) (st : St) : TrF Tryz.prog 42 [.sl .shared (L.map Tm.cells), .i k] st fun d st' => d = .sl .shared ((Rul.slots L k).map Sl.cells) ∧ st' = st := by
 have hm : (L.map Tm.cells).length = L.length := List.length_map ..
 by_cases hk : 0 ≤ k ∧ k < L.length
 · obtain ⟨n, rfl⟩ : ∃ n : Nat, (n : Int) = k := ⟨k.toNat, Int.toNat_of_nonneg hk.1⟩
   obtain ⟨t, ht⟩ := gEx (l := L) (i := n) q_o
   have hc : (L.map Tm.cells)[n]? = some t.cells := by rw [List.getElem?_map, ht]; rfl
   have hLa := schLastF t (hL t (List.mem_of_getElem? ht))
   have hAt := schAtF t (hL t (List.mem_of_getElem? ht)) (Sch.last t)
   rw [Rul.slots_in ht]
   clear hL ht
   generalize L.map Tm.cells = LS at *
   generalize Sch.verX t (Sch.last t) = x at *
   generalize Sch.verB t (Sch.last t) = xb at *
   generalize Sch.last t = la at *
   unfold Vr.cells at hAt
   generalize x.slots.map Sl.cells = X1 at *
   generalize x.cols.map encC = X2 at *
   unfold Tm.cells at *
   generalize t.slots.map Sl.cells = SL at *
   generalize t.steps.map Stp.cells = TL at *
   generalize t.name = nm at *
   replace hLa := Lib.hid hLa
   replace hAt := Lib.hid hAt
   obtain ⟨hk1, hk2⟩ := hk
   refine Qin [4] Tryz.func42 Tryz.results42 Tryz.ntmps42 ?_
   repeat' (first | refine QV ?_ | ((with_reducible apply (w_drawT (.node [0, 1, 2, 3, 4, 5, 6, 7] 13 8 (.node [8] 13 9 (.leaf [9, 10, 11, 12, 13, 14, 15]) (.leaf [13, 9, 10, 11, 12, 14, 15])) (.leaf [13, 8, 9, 10, 11, 12, 14, 15])) 16)); rfl; (iterate 3 kernel_rfl); (focus (simp only [Plan.lists, pickL, List.getElem?_cons_zero, List.getElem?_cons_succ]; exact rfl)); intro hne; (try simp only [nes, ne1, and_assoc] at hne); (repeat (have hq := hne.1; replace hne := hne.2)); simp only [wPL]) | with_reducible refine both_go ?_ ?_ | refine QY ?_ | (refine QB ?_; intro b) | (with_reducible refine QZ ?_ <;> (try constructor) <;> intro hb <;> try intro hb1) | fail)
   all_goals exact Qret
 · rw [Rul.slots_out hk]
   generalize L.map Tm.cells = LS at *
   by_cases h0 : k < 0
   · refine Qin [4] Tryz.func42 Tryz.results42 Tryz.ntmps42 ?_
     exact WR
   · have h1 : (L.length : Int) ≤ k := by omega
     refine Qin [4] Tryz.func42 Tryz.results42 Tryz.ntmps42 ?_
     exact WR
namespace Rul
theorem bindT_take {l : List Ts} {i : Nat} {t : Ts} (h : l[i]? = some t) : bindT (l.take (i + 1)) = bindT (l.take i) ++ if t.kind = 5 then [t.var] else [] := by
 unfold bindT
 rw [List.take_add_one, h, Option.toList_some, List.filter_append, List.map_append]
 congr 1
 by_cases hk : t.kind = 5
 · rw [if_pos hk]; simp [List.filter, hk]
 · have : (t.kind == 5) = false := beq_eq_false_iff_ne.2 hk
   rw [if_neg hk]; simp [List.filter, this]
theorem bindP_take {l : List Pt} {i : Nat} {p : Pt} (h : l[i]? = some p) : bindP (l.take (i + 1)) = bindP (l.take i) ++ bindT p.tests := by
 unfold bindP
 rw [List.take_add_one, h, Option.toList_some, List.flatMap_append]
 simp
theorem bindT_len (l : List Ts) : (bindT l).length ≤ l.length := by
 unfold bindT
 rw [List.length_map]
 exact List.length_filter_le ..
theorem bindP_len (c : Nat) : ∀ (l : List Pt), (∀ p ∈ l, p.tests.length ≤ c) → (bindP l).length ≤ l.length * c
 | [], _ => by simp [bindP]
 | p :: l, h => by
  have h1 := bindP_len c l fun q hq => h q (List.mem_cons_of_mem _ hq)
  have h2 := bindT_len p.tests
  have h3 := h p (List.mem_cons_self ..)
  have : bindP (p :: l) = bindT p.tests ++ bindP l := by unfold bindP; simp
  rw [this, List.length_append, List.length_cons, Nat.add_mul]
  omega
end Rul
theorem ruleBoundF (x : Rl) (hp : x.pats.length ≤ 1000) (ht : ∀ p ∈ x.pats, p.tests.length ≤ 1000) (st : St) : TrF Tryz.prog 37 [.agg x.cells] st fun d st' => d = .sl .shared ((Rul.bound x).map encI) ∧ st' = st := by
 cases x with
 | mk nm sal ps acts =>
 unfold Rul.bound Rl.cells
 dsimp only at *
 generalize acts.map Ac.cells = AS at *
 have hm : (ps.map Pt.cells).length = ps.length := List.length_map ..
 have hc := hMp Pt.cells ps
 obtain ⟨BF, hBF⟩ : ∃ BF : Nat → List Int, (fun i : Nat => Rul.bindP (ps.take i)) = BF := ⟨_, rfl⟩
 have hBi : ∀ i, Rul.bindP (ps.take i) = BF i := fun i => by rw [← hBF]
 have hB0 : Hid (BF 0 = []) := Lib.hid (by rw [← hBi]; rfl)
 have hBn : Hid (Rul.bindP ps = BF ps.length) := Lib.hid (by rw [← hBi, List.take_length])
 have hBs : Hid (∀ (i : Nat) (p : Pt), ps[i]? = some p → BF (i + 1) = BF i ++ Rul.bindT p.tests) := fun i p h => by rw [← hBi, ← hBi]; exact Rul.bindP_take h
 have hBl : Hid (∀ i, i ≤ ps.length → (BF i).length ≤ 1000000) := fun i hi => by
  rw [← hBi]
  have := Rul.bindP_len 1000 (ps.take i) fun p hp => ht p (List.mem_of_mem_take hp)
  rw [List.length_take] at this
  have h3 : min i ps.length * 1000 ≤ 1000 * 1000 := Nat.mul_le_mul_right _ q_o
  omega
 rw [hBn.out]
 have ht2 := Lib.hid ht
 clear hBF hBi hBn ht
 generalize ps.map Pt.cells = PS at *
 refine Qin [2] Tryz.func37 Tryz.results37 Tryz.ntmps37 ?_
 refine tr_room 3 1 ([] : List (List D)).length ?_
 repeat' (first | refine QX ?_ | (refine QB ?_; intro b) | (refine QP ?_; intro o' ho') | (with_reducible refine QZ ?_ <;> (try constructor) <;> intro hb <;> try intro hb1) | fail)
 refine tr_loopd (ι := Nat) (fun i A st' => i ≤ ps.length ∧ A.df = [] ∧ A.e 9 = .sl .shared PS ∧ A.e 10 = .i ps.length ∧ A.e 11 = .i i ∧ ∃ o', o' ≠ .shared ∧ A.e 3 = .sl o' ((BF i).map encI) ∧ st' = .room o' 3 1 ((BF i).map encI).length :: st) (fun i => ps.length - i) 0 ⟨Nat.zero_le _, Qf, Qf, Qf, Qf, .tight, by decide, by rw [hB0.out]; exact Qf, by rw [hB0.out]; rfl⟩ ?_
 rintro i A st' ⟨hi, hdf, e9, e10, e11, o', ho', e3, rfl⟩
 by_cases hlt : i < ps.length
 · obtain ⟨p, hp2⟩ := gEx hlt
   have h1 := hc.out i p hp2
   have hB := hBs.out i p hp2
   have hBx := hBl.out i q_o
   have htl := ht2.out p (List.mem_of_getElem? hp2)
   clear hp2 hBs hBl ht2 hc hB0
   cases p with
   | mk tmpl neg ts =>
   unfold Pt.cells at h1
   dsimp only at *
   have hmt : (ts.map Ts.cells).length = ts.length := List.length_map ..
   have hct := hMp Ts.cells ts
   generalize BF i = X0 at *
   obtain ⟨TF, hTF⟩ : ∃ TF : Nat → List Int, (fun k : Nat => X0 ++ Rul.bindT (ts.take k)) = TF := ⟨_, rfl⟩
   have hTi : ∀ i, X0 ++ Rul.bindT (ts.take i) = TF i := fun i => by rw [← hTF]
   have hT0 : Hid (X0 = TF 0) := Lib.hid (by rw [← hTi]; exact (List.append_nil _).symm)
   have hTn : Hid (BF (i + 1) = TF ts.length) := Lib.hid (by rw [← hTi, List.take_length]; exact hB)
   have hTs : Hid (∀ (k : Nat) (t : Ts), ts[k]? = some t → TF (k + 1) = TF k ++ if t.kind = 5 then [t.var] else []) := fun k t h => by
    rw [← hTi, ← hTi, Rul.bindT_take h, List.append_assoc]
   have hTl : Hid (∀ k, k ≤ ts.length → (TF k).length ≤ 2000000) := fun k hk => by
    rw [← hTi]
    have := Rul.bindT_len (ts.take k)
    rw [List.length_take] at this
    rw [List.length_append]
    omega
   clear hTF hTi hB
   generalize ts.map Ts.cells = TS at *
   repeat' (first | refine QX ?_ | (refine QB ?_; intro b) | (refine QP ?_; intro o' ho') | (with_reducible refine QZ ?_ <;> (try constructor) <;> intro hb <;> try intro hb1) | fail)
   revert b; intro bP
   refine tr_loopd (ι := Nat) (fun k A st' => k ≤ ts.length ∧ A.df = [] ∧ A.e 9 = .sl .shared PS ∧ A.e 10 = .i ps.length ∧ A.e 11 = .i i ∧ A.e 16 = .sl .shared TS ∧ A.e 17 = .i ts.length ∧ A.e 18 = .i k ∧ ∃ o', o' ≠ .shared ∧ A.e 3 = .sl o' ((TF k).map encI) ∧ st' = .box bP 105 [.i tmpl, .b neg, .sl .shared TS] :: .room o' 3 1 ((TF k).map encI).length :: st) (fun k => ts.length - k) 0 ?_ ?_
   · rw [← hT0.out]
     exact ⟨Nat.zero_le _, Qf, Qf, Qf, Qf, Qf, Qf, Qf, o', ho', Qf, rfl⟩
   clear e3 e9 e10 e11 hdf A ho' hT0
   clear o'
   rintro k A st' ⟨hk, hdf, e9, e10, e11, e16, e17, e18, o', ho', e3, rfl⟩
   by_cases hkl : k < ts.length
   · obtain ⟨t, ht⟩ := gEx hkl
     have g1 := hct.out k t ht
     have hT := hTs.out k t ht
     have hTx := hTl.out k q_o
     clear ht hTs hTl hct hTn
     generalize TF k = Y at *
     cases t with
     | mk kind slot var val =>
     cases val with
     | mk k1 n1 s1 l1 =>
     rw [Ts.cells_mk] at g1
     dsimp only at hT
     by_cases h5 : kind = 5
     · subst h5
       rw [if_pos rfl] at hT
       have hT2 := Lib.hid hT
       clear hT
       have hY : (Y.map encI).length = Y.length := List.length_map ..
       repeat' (first | refine QX ?_ | (refine QB ?_; intro b) | (refine QP ?_; intro o' ho') | (with_reducible refine QZ ?_ <;> (try constructor) <;> intro hb <;> try intro hb1) | fail)
       refine ⟨k + 1, .box bP 105 [.i tmpl, .b neg, .sl .shared TS] :: .room o' 3 1 ((Y ++ [var]).map encI).length :: st, ?_, ⟨hkl, ?_, ?_, ?_, ?_, ?_, ?_, ?_, o', ho', ?_, ?_⟩, ?_⟩
       · rw [List.map_append]; (repeat (first | exact List.Sublist.refl _ | with_reducible apply List.Sublist.cons_cons | apply List.Sublist.cons))
       rotate_right 3
       · rw [hT2.out, List.map_append]; exact Qf
       · rw [hT2.out]
       all_goals exact Qf
     · rw [if_neg h5, List.append_nil] at hT
       have h5b : (kind == 5) = false := beq_eq_false_iff_ne.2 h5
       have hT2 := Lib.hid hT
       clear hT
       repeat' (first | refine QX ?_ | (refine QB ?_; intro b) | (refine QP ?_; intro o' ho') | (with_reducible refine QZ ?_ <;> (try constructor) <;> intro hb <;> try intro hb1) | fail)
       refine ⟨k + 1, .box bP 105 [.i tmpl, .b neg, .sl .shared TS] :: .room o' 3 1 (Y.map encI).length :: st, q_u, ⟨hkl, ?_, ?_, ?_, ?_, ?_, ?_, ?_, o', ho', ?_, ?_⟩, ?_⟩
       rotate_right 3
       · rw [hT2.out]; exact Qf
       · rw [hT2.out]
       all_goals exact Qf
   · obtain rfl : k = ts.length := by omega
     have hE := hTn
     clear hTs hTl hct hTn
     repeat' (first | refine QX ?_ | (refine QB ?_; intro b) | (refine QP ?_; intro o' ho') | (with_reducible refine QZ ?_ <;> (try constructor) <;> intro hb <;> try intro hb1) | fail)
     refine ⟨i + 1, .room o' 3 1 ((TF ts.length).map encI).length :: st, q_u, ⟨hlt, ?_, ?_, ?_, ?_, o', ho', ?_, ?_⟩, by omega⟩
     rotate_right 2
     · rw [hE.out]; exact Qf
     · rw [hE.out]
     all_goals exact Qf
 · obtain rfl : i = ps.length := by omega
   exact WRa
end
section
def bent : Nat → List Int → List MapEntry
 | _, [] => []
 | i, n :: l => ⟨.int .i64 n, .bool true, i⟩ :: bent (i + 1) l
def bmapO (l : List Int) : Obj := .map (bent 0 l).toArray l.length
def bmap (r : Nat) (l : List Int) : Res := .raw r (bmapO l)
abbrev D.mp (r : Nat) : D := .s (.map (some r))
def insK (l : List Int) (n : Int) : List Int := if n ∈ l then l else l ++ [n]
theorem bent_append (l m : List Int) : ∀ i, bent i (l ++ m) = bent i l ++ bent (i + l.length) m := by
 induction l with
 | nil => intro i; rfl
 | cons n l ih => intro i; simp only [List.cons_append, bent, ih, List.length_cons]; rw [show i + 1 + l.length = i + (l.length + 1) by omega]
theorem bent_len (l : List Int) : ∀ i, (bent i l).length = l.length := by
 induction l with
 | nil => intro i; rfl
 | cons n l ih => intro i; simp only [bent, List.length_cons, ih]
theorem find_bent (n : Int) : ∀ (l : List Int) (i j : Nat), (n ∈ l → ∃ k, k < l.length ∧ Instr.findNow (.int .i64) (.int .i64 n) (bent i l) j = some (some (j + k, .bool true)) ∧ (bent i l)[k]? = some ⟨.int .i64 n, .bool true, i + k⟩) ∧ (n ∉ l → Instr.findNow (.int .i64) (.int .i64 n) (bent i l) j = some none)
 | [], i, j => ⟨fun h => (by cases h), fun _ => rfl⟩
 | m :: l, i, j => by
  have hs : Instr.sameNow (.int .i64) (.int .i64 n) (.int .i64 m) = some (n == m) := by simp [Instr.sameNow]
  have ih := find_bent n l (i + 1) (j + 1)
  by_cases h : n = m
  · subst h
    refine ⟨fun _ => ⟨0, by simp, ?_, rfl⟩, fun hn => absurd (List.mem_cons_self ..) hn⟩
    simp [bent, Instr.findNow, hs]
  · have hf : (n == m) = false := beq_eq_false_iff_ne.2 h
    refine ⟨fun hm => ?_, fun hm => ?_⟩
    · obtain ⟨k, k1, k2, k3⟩ := ih.1 ((List.mem_cons.1 hm).resolve_left h)
      refine ⟨k + 1, by simpa using k1, ?_, ?_⟩
      · simp only [bent, Instr.findNow, hs, hf, k2]
        rw [show j + 1 + k = j + (k + 1) by omega]
      · simp only [bent, List.getElem?_cons_succ, k3]
        rw [show i + 1 + k = i + (k + 1) by omega]
    · simp only [bent, Instr.findNow, hs, hf]
      exact ih.2 fun hk => hm (List.mem_cons_of_mem _ hk)
section
variable {P : Program} {r : Option Nat} {o : Oper} {e : Nat → D} {st : St} {K : D → St → Prop} {t kt et : TypeId} {b : Nat} {n : Int} {l : List Int}
theorem run_checkI (hk : P.underlying kt = some (.int .i64)) (em : Bool) (w : World) : (Instr.checkKey em 10000 kt (.int .i64 n)).run P w = .ok () w := Go.MapKept.run_checkKey (k := .int .i64 n) hk (by simp [Go.MapKept.IsKey]) em 9999
theorem run_findI (hk : P.underlying kt = some (.int .i64)) (w : World) {x : Option (Nat × Value)} (h : Instr.findNow (.int .i64) (.int .i64 n) (bent 0 l) 0 = some x) : (Instr.findKey kt (.int .i64 n) (bent 0 l)).run P w = .ok x w := Go.MapKept.run_findKey hk h
theorem opC_makeMap (ho : o.op = .makeMap t none) (h : ∀ b, K (.mp b) (bmap b [] :: st)) : OpC P r o e st K := by
 refine opC_val (by rw [ho]; intro c hc; cases hc) fun ρ w hr hh => .inl ?_
 obtain ⟨k1, k2⟩ := new_own hh (.raw w.heap.size (.map #[] 0)) (fun b e => by cases e; rfl) (.map #[] 0) fun he => heap_alloc_new w _
 unfold execOp
 rw [ho]
 exact ⟨.map (some w.heap.size), _, rfl, .mp w.heap.size, _, .s _ rfl, k1, k2, h _⟩
theorem opC_lookup {x y : Operand} (ho : o.op = .lookup t x y false) (hx : ev e x = some (.mp b)) (hy : ev e y = some (.i n)) (hm : bmap b l ∈ st) (hu : P.underlying t = some (.map kt et)) (hk : P.underlying kt = some (.int .i64)) (hz : (P.info? et).bind (·.zero) = some (.bool false)) (h : K (.b (decide (n ∈ l))) st) : OpC P r o e st K := by
 refine opC_val (by rw [ho]; intro c hc; cases hc) fun ρ w hr hh => .inl ?_
 have hp := hr _ (by simp [ho, Op.operands]) _ hx
 have hv := hr _ (by simp [ho, Op.operands]) _ hy
 have hb : w.heap[b]? = some (bmapO l) := hh.2 _ hm
 unfold execOp
 rw [ho]
 simp only
 generalize ρ x = p at hp
 generalize ρ y = v at hv
 cases hp
 cases hv
 have hz2 : (zeroValue et).run P w = .ok (.bool false) w := by
  cases hi : P.info? et with
  | none => rw [hi] at hz; cases hz
  | some i =>
   rw [hi] at hz
   simp only [Option.bind_some] at hz
   simp [zeroValue, typeInfo, hi, hz]
 have hget : (getObj b).run P w = .ok (bmapO l) w := Go.MapKept.run_getObj_map hb
 by_cases hn : n ∈ l
 · obtain ⟨k, k1, k2, k3⟩ := (find_bent n l 0 0).1 hn
   refine ⟨.bool true, w, ?_, .b (decide (n ∈ l)), st, ?_, hh, Ext.refl _ _, h⟩
   · simp [Instr.lookup, run_underlying hu, hget, bmapO, run_checkI hk, run_findI hk w k2]
   · rw [decide_eq_true hn]; exact .s _ rfl
 · have k2 := (find_bent n l 0 0).2 hn
   refine ⟨.bool false, w, ?_, .b (decide (n ∈ l)), st, ?_, hh, Ext.refl _ _, h⟩
   · simp [Instr.lookup, run_underlying hu, hget, bmapO, run_checkI hk, run_findI hk w k2, hz2]
   · rw [decide_eq_false hn]; exact .s _ rfl
theorem opC_mapUpdate {x y z : Operand} {s1 : St} (ho : o.op = .mapUpdate t x y z) (hx : ev e x = some (.mp b)) (hy : ev e y = some (.i n)) (hz : ev e z = some (.b true)) (hm : ResAt (bmap b l) (bmap b (insK l n)) st s1) (hu : P.underlying t = some (.map kt et)) (hk : P.underlying kt = some (.int .i64)) (h : K D.un s1) : OpC P r o e st K := by
 refine opC_val (by rw [ho]; intro c hc; cases hc) fun ρ w hr hh => .inr ?_
 have hp := hr _ (by simp [ho, Op.operands]) _ hx
 have hv := hr _ (by simp [ho, Op.operands]) _ hy
 have hzv := hr _ (by simp [ho, Op.operands]) _ hz
 obtain ⟨s0, p1, p2⟩ := hm.perm
 have hh' := hh.perm p1
 have hb : w.heap[b]? = some (bmapO l) := hh'.2 _ (List.mem_cons_self ..)
 unfold execOp
 rw [ho]
 simp only
 generalize ρ x = p at hp
 generalize ρ y = v at hv
 generalize ρ z = u at hzv
 cases hp
 cases hv
 cases hzv
 have hget : (getObj b).run P w = .ok (bmapO l) w := Go.MapKept.run_getObj_map hb
 have hset : ∀ o, (setObj b o).run P w = .ok () (w.putObj b o) := fun o => Go.MapKept.run_setObj_map o hb
 obtain ⟨q1, q2⟩ := raw_set (o' := bmapO (insK l n)) hh' (fun c E fr h => by cases h)
 refine ⟨_, ?_, D.un, s1, .s undef rfl, q1.perm p2.symm, q2.perm p1 p2, h⟩
 by_cases hn : n ∈ l
 · obtain ⟨k, k1, k2, k3⟩ := (find_bent n l 0 0).1 hn
   have hmod : (bent 0 l).toArray.modify k (fun e => { e with key := .int .i64 n, val := .bool true }) = (bent 0 l).toArray := by
    apply Array.ext_getElem?
    intro j
    rw [Array.getElem?_modify]
    split
    · rename_i hj; subst hj
      simp [k3]
    · rfl
   have hl2 : k < (bent 0 l).length := by rw [bent_len]; exact k1
   have hkk : (((bent 0 l).toArray[k]?).map (·.key)).getD (.int .i64 n) = .int .i64 n := by simp [k3]
   simp only [Instr.mapUpdate, Sem.run_bind, run_underlying hu, Result.andThen_ok, hget, bmapO, run_checkI hk, run_findI hk w k2, hset, insK, if_pos hn]
   have hmod2 : (bent 0 l).modify k (fun e => { e with key := .int .i64 n, val := .bool true }) = bent 0 l := by simpa using hmod
   simp [k3, Instr.keyThatStays, Instr.sameBits, hmod2, hset]
 · have k2 := (find_bent n l 0 0).2 hn
   simp only [Instr.mapUpdate, Sem.run_bind, run_underlying hu, Result.andThen_ok, hget, bmapO, run_checkI hk, run_findI hk w k2, insK, if_neg hn]
   simp [hset, bent_append, bent, bmapO]
end
def mapT (P : Program) (t : TypeId) : Bool :=
 match P.underlying t with
 | some (.map kt et) => (match P.underlying kt with | some (.int .i64) => true | _ => false) && (match (P.info? et).bind (·.zero) with | some (.bool false) => true | _ => false)
 | _ => false
theorem mapT_spec {P : Program} {t : TypeId} (h : mapT P t = true) : ∃ kt et, P.underlying t = some (.map kt et) ∧ P.underlying kt = some (.int .i64) ∧ (P.info? et).bind (·.zero) = some (.bool false) := by
 unfold mapT at h
 split at h
 · rename_i kt et hu
   rw [Bool.and_eq_true] at h
   obtain ⟨h1, h2⟩ := h
   refine ⟨kt, et, hu, ?_, ?_⟩
   · split at h1
     · assumption
     · cases h1
   · split at h2
     · assumption
     · cases h2
 · cases h
section
variable {P : Program} {r : Option Nat} {m : Option Ro} {A : AA} {st : St} {k : D → St → Prop} {dst : Option Tmp} {ty : TypeId} {pos : String} {aft : Array Edge} {gd : Option (Nat × Bool)} {t : TypeId} {b : Nat} {n : Int} {l : List Int}
def MkM (m : Option Ro) (st : St) (k : D → St → Prop) : Prop := ∀ b, Keep m (bmap b [] :: st) ∧ k (.mp b) (bmap b [] :: st)
theorem mm_go (h : ∀ b, Keep m (bmap b [] :: st) ∧ k (.mp b) (bmap b [] :: st)) : MkM m st k := h
theorem s_makeMap (h : MkM m st k) : S P r m ⟨dst, .makeMap t none, ty, pos, aft, gd⟩ A st k :=
 s_chain (R := fun d s => ∃ b, d = .mp b ∧ s = bmap b [] :: st) rfl (opC_makeMap rfl fun b => ⟨b, rfl, rfl⟩) ⟨_, _, 0, rfl, rfl⟩ fun d s ⟨b, e1, e2⟩ => by subst e1 e2; exact h b
def LkM (P : Program) (m : Option Ro) (t : TypeId) (d d' : D) (st : St) (k : D → St → Prop) : Prop :=
 ∃ b n l, d = .mp b ∧ d' = .i n ∧ bmap b l ∈ st ∧ mapT P t = true ∧ Keep m st ∧ k (.b (decide (n ∈ l))) st
theorem s_lookup {x y : Operand} (h : Ev (ev A.e x) fun d => Ev (ev A.e y) fun d' => LkM P m t d d' st k) : S P r m ⟨dst, .lookup t x y false, ty, pos, aft, gd⟩ A st k := by
 obtain ⟨d, h1, d', h2, b, n, l, rfl, rfl, hm, ht, h3⟩ := h
 obtain ⟨kt, et, t1, t2, t3⟩ := mapT_spec ht
 exact s_chain (R := fun d s => d = .b (decide (n ∈ l)) ∧ s = st) rfl (opC_lookup rfl h1 h2 hm t1 t2 t3 ⟨rfl, rfl⟩) ⟨_, _, rfl, rfl⟩ fun d s ⟨e1, e2⟩ => by subst e1 e2; exact h3
def UpM (P : Program) (m : Option Ro) (t : TypeId) (d d' d'' : D) (st : St) (k : D → St → Prop) : Prop :=
 ∃ b n l s1, d = .mp b ∧ d' = .i n ∧ d'' = .b true ∧ ResAt (bmap b l) (bmap b (insK l n)) st s1 ∧ mapT P t = true ∧ Keep m s1 ∧ k D.un s1
theorem s_mapUpdate {x y z : Operand} (h : Ev (ev A.e x) fun d => Ev (ev A.e y) fun d' => Ev (ev A.e z) fun d'' => UpM P m t d d' d'' st k) : S P r m ⟨dst, .mapUpdate t x y z, ty, pos, aft, gd⟩ A st k := by
 obtain ⟨d, h1, d', h2, d'', h4, b, n, l, s1, rfl, rfl, rfl, hm, ht, h3⟩ := h
 obtain ⟨kt, et, t1, t2, t3⟩ := mapT_spec ht
 exact s_chain (R := fun d s => d = D.un ∧ s = s1) rfl (opC_mapUpdate rfl h1 h2 h4 hm t1 t2 ⟨rfl, rfl⟩) ⟨_, _, rfl, rfl⟩ fun d s ⟨e1, e2⟩ => by subst e1 e2; exact h3
instance i_s_makeMap : Go1 (S P r m ⟨dst, .makeMap t none, ty, pos, aft, gd⟩ A st k) (MkM m st k) := ⟨s_makeMap⟩
instance i_s_lookup {x y : Operand} : Go1 (S P r m ⟨dst, .lookup t x y false, ty, pos, aft, gd⟩ A st k) (Ev (ev A.e x) fun d => Ev (ev A.e y) fun d' => LkM P m t d d' st k) := ⟨s_lookup⟩
instance i_s_mapUpdate {x y z : Operand} : Go1 (S P r m ⟨dst, .mapUpdate t x y z, ty, pos, aft, gd⟩ A st k) (Ev (ev A.e x) fun d => Ev (ev A.e y) fun d' => Ev (ev A.e z) fun d'' => UpM P m t d d' d'' st k) := ⟨s_mapUpdate⟩
end
class MpI (b : Nat) (st : St) (l : outParam (List Int)) (s1 : outParam (List Int → St)) : Prop where
 mem : bmap b l ∈ st
 go : ∀ l', ResAt (bmap b l) (bmap b l') st (s1 l')
instance mp_here {b : Nat} {l : List Int} {st : St} : MpI b (bmap b l :: st) l (fun l' => bmap b l' :: st) := ⟨List.Mem.head _, fun _ => ResAt.here⟩
instance (priority := low) mp_there {b : Nat} {l : List Int} {x : Res} {st : St} {s1 : List Int → St} [h : MpI b st l s1] : MpI b (x :: st) l (fun l' => x :: s1 l') := ⟨List.Mem.tail _ h.mem, fun l' => ResAt.there (h.go l')⟩
section
variable {P : Program} {m : Option Ro} {st : St} {k : D → St → Prop} {t : TypeId} {b : Nat} {n : Int} {l : List Int} {s1 : List Int → St}
instance i_lkm [h : MpI b st l s1] : Go5 (LkM P m t (.s (.map (some b))) (.s (.int .i64 n)) st k) (mapT P t = true) (Keep m st ∧ k (.b (decide (n ∈ l))) st) := ⟨fun ht hk => ⟨b, n, l, rfl, rfl, h.mem, ht, hk⟩⟩
instance i_upm [h : MpI b st l s1] : Go5 (UpM P m t (.s (.map (some b))) (.s (.int .i64 n)) (.s (.bool true)) st k) (mapT P t = true) (Keep m (s1 (insK l n)) ∧ k D.un (s1 (insK l n))) := ⟨fun ht hk => ⟨b, n, l, _, rfl, rfl, rfl, h.go _, ht, hk⟩⟩
end
end
section
attribute [local push_cast] encB encI encC V.cells_mk V.cells_len Nat.mul_one Int.sub_zero List.map_nil beq_self_eq_true bne_self_eq_false List.head?_cons
namespace Rul
def idx {α σ : Type} (F : σ → α → Bool × σ) : σ → List α → Nat → Int × σ
 | s, [], _ => (-1, s)
 | s, a :: l, i => if (F s a).1 = true then ((i : Int), (F s a).2) else idx F (F s a).2 l (i + 1)
def anyS {α σ : Type} (F : σ → α → Bool × σ) : σ → List α → Bool × σ
 | s, [] => (false, s)
 | s, a :: l => if (F s a).1 = true then (true, (F s a).2) else anyS F (F s a).2 l
theorem idx_any {α σ : Type} (F : σ → α → Bool × σ) : ∀ (l : List α) (s : σ) (i : Nat), (idx F s l i).2 = (anyS F s l).2 ∧ decide ((idx F s l i).1 ≥ 0) = (anyS F s l).1
 | [], s, i => ⟨rfl, rfl⟩
 | a :: l, s, i => by
  rw [idx, anyS]
  split
  · exact ⟨rfl, decide_eq_true (by show (i : Int) ≥ 0; omega)⟩
  · exact idx_any F l _ _
theorem idx_drop {α σ : Type} (F : σ → α → Bool × σ) {L : List α} {i : Nat} {a : α} (h : L[i]? = some a) (s : σ) : idx F s (L.drop i) i = if (F s a).1 = true then ((i : Int), (F s a).2) else idx F (F s a).2 (L.drop (i + 1)) (i + 1) := by
 obtain ⟨h1, rfl⟩ := List.getElem?_eq_some_iff.1 h
 rw [List.drop_eq_getElem_cons h1, idx]
theorem idx_le {α σ : Type} (F : σ → α → Bool × σ) : ∀ (l : List α) (s : σ) (i : Nat), -1 ≤ (idx F s l i).1 ∧ (idx F s l i).1 ≤ i + l.length
 | [], s, i => ⟨Int.le_refl _, by show (-1 : Int) ≤ _; omega⟩
 | a :: l, s, i => by
  rw [idx]
  split
  · dsimp only; rw [List.length_cons]; omega
  · have := idx_le F l (F s a).2 (i + 1)
    rw [List.length_cons]; omega
end Rul
theorem idxFTest {σ : Type} (fn : FuncId) (caps : List D) (hcall : ∀ args w, (callFunc fn args).run Tryz.prog w = .ok (.enter fn args) w) (L : List Ts) (hl : L.length ≤ 1000000) (F : σ → Ts → Bool × σ) (S : σ → St)
 (hF : ∀ a ∈ L, ∀ s, TrF Tryz.prog fn (.agg a.cells :: caps) (S s) fun d st' => d = .b (F s a).1 ∧ st' = S (F s a).2) (s0 : σ) : TrF Tryz.prog 208 [.sl .shared (L.map Ts.cells), .fn (.func fn) [] caps] (S s0) fun d st' => d = .i (Rul.idx F s0 L 0).1 ∧ st' = S (Rul.idx F s0 L 0).2 := by
 obtain ⟨R, hR⟩ : ∃ R, Rul.idx F s0 L 0 = R := ⟨_, rfl⟩
 rw [hR]
 have HF : Hid (Rul.idx F s0 (L.drop 0) 0 = R) := hR
 have hm : (L.map Ts.cells).length = L.length := List.length_map ..
 have hc := hMp Ts.cells L
 have hF2 := Lib.hid hF
 clear hR hF
 generalize L.map Ts.cells = LS at *
 refine Qin [4] Tryz.func208 Tryz.results208 Tryz.ntmps208 ?_
 repeat' (first | refine QX ?_ | (refine QB ?_; intro b) | (with_reducible refine QZ ?_ <;> (try constructor) <;> intro hb <;> try intro hb1) | fail)
 refine tr_loopd (ι := Nat) (fun i A st' => i ≤ L.length ∧ A.df = [] ∧ A.e 0 = .sl .shared LS ∧ A.e 1 = .fn (.func fn) [] caps ∧ A.e 7 = .i L.length ∧ A.e 8 = .i i ∧ ∃ s, Hid (Rul.idx F s (L.drop i) i = R) ∧ st' = S s) (fun i => L.length - i) 0 ⟨Nat.zero_le _, Qf, Qf, Qf, Qf, Qf, s0, HF, rfl⟩ ?_
 clear HF
 rintro i A st' ⟨hi, hdf, e0, e1, e7, e8, s, HT, rfl⟩
 by_cases hlt : i < L.length
 · obtain ⟨a, ha⟩ := gEx hlt
   have h1 := hc.out i a ha
   have hG := hF2.out a (List.mem_of_getElem? ha) s
   have HE := HT.out
   rw [Rul.idx_drop F ha] at HE
   clear HT ha hF2
   generalize F s a = q at *
   obtain ⟨q, s'⟩ := q
   dsimp only at *
   cases a with
   | mk kind slot var val =>
   cases val with
   | mk k1 n1 s1 l1 =>
   rw [Ts.cells_mk] at h1 hG
   replace hG := Lib.hid hG
   cases q with
   | true =>
    rw [if_pos rfl] at HE
    subst HE
    repeat' (first | refine QX ?_ | (refine QB ?_; intro b) | (with_reducible refine QZ ?_ <;> (try constructor) <;> intro hb <;> try intro hb1) | refine Qc hcall hG.out ?_ | fail)
    all_goals exact Qret
   | false =>
    rw [if_neg Bool.false_ne_true] at HE
    replace HE := Lib.hid HE
    repeat' (first | refine QX ?_ | (refine QB ?_; intro b) | (with_reducible refine QZ ?_ <;> (try constructor) <;> intro hb <;> try intro hb1) | refine Qc hcall hG.out ?_ | fail)
    refine ⟨i + 1, S s', q_u, ⟨hlt, ?_, ?_, ?_, ?_, ?_, s', HE, rfl⟩, by omega⟩
    all_goals exact Qf
 · have HE := HT.out
   rw [List.drop_of_length_le q_o, Rul.idx] at HE
   subst HE
   clear HT hF2
   exact WR
theorem conFTest {σ : Type} (fn : FuncId) (caps : List D) (hcall : ∀ args w, (callFunc fn args).run Tryz.prog w = .ok (.enter fn args) w) (L : List Ts) (hl : L.length ≤ 1000000) (F : σ → Ts → Bool × σ) (S : σ → St)
 (hF : ∀ a ∈ L, ∀ s, TrF Tryz.prog fn (.agg a.cells :: caps) (S s) fun d st' => d = .b (F s a).1 ∧ st' = S (F s a).2) (s0 : σ) : TrF Tryz.prog 182 [.sl .shared (L.map Ts.cells), .fn (.func fn) [] caps] (S s0) fun d st' => d = .b (Rul.anyS F s0 L).1 ∧ st' = S (Rul.anyS F s0 L).2 := by
 have hI := idxFTest fn caps hcall L hl F S hF s0
 obtain ⟨e1, e2⟩ := Rul.idx_any F L s0 0
 have hle := Rul.idx_le F L s0 0
 rw [← e1, ← e2]
 clear e1 e2 hF
 generalize Rul.idx F s0 L 0 = R at *
 obtain ⟨R, s'⟩ := R
 generalize L.map Ts.cells = LS at *
 dsimp only at *
 replace hI := Lib.hid hI
 by_cases hR : R ≥ 0
 · rw [decide_eq_true hR]
   refine Qin [4] Tryz.func182 Tryz.results182 Tryz.ntmps182 ?_
   repeat' (first | refine QX ?_ | (refine QB ?_; intro b) | (with_reducible refine QZ ?_ <;> (try constructor) <;> intro hb <;> try intro hb1) | refine Qc Tryz.call208 hI.out ?_ | fail)
   all_goals exact Qret
 · rw [decide_eq_false hR]
   refine Qin [4] Tryz.func182 Tryz.results182 Tryz.ntmps182 ?_
   repeat' (first | refine QX ?_ | (refine QB ?_; intro b) | (with_reducible refine QZ ?_ <;> (try constructor) <;> intro hb <;> try intro hb1) | refine Qc Tryz.call208 hI.out ?_ | fail)
   all_goals exact Qret
theorem idxFPat {σ : Type} (fn : FuncId) (caps : List D) (hcall : ∀ args w, (callFunc fn args).run Tryz.prog w = .ok (.enter fn args) w) (L : List Pt) (hl : L.length ≤ 1000000) (F : σ → Pt → Bool × σ) (S : σ → St)
 (hF : ∀ a ∈ L, ∀ s, TrF Tryz.prog fn (.agg a.cells :: caps) (S s) fun d st' => d = .b (F s a).1 ∧ st' = S (F s a).2) (s0 : σ) : TrF Tryz.prog 181 [.sl .shared (L.map Pt.cells), .fn (.func fn) [] caps] (S s0) fun d st' => d = .i (Rul.idx F s0 L 0).1 ∧ st' = S (Rul.idx F s0 L 0).2 := by
 obtain ⟨R, hR⟩ : ∃ R, Rul.idx F s0 L 0 = R := ⟨_, rfl⟩
 rw [hR]
 have HF : Hid (Rul.idx F s0 (L.drop 0) 0 = R) := hR
 have hm : (L.map Pt.cells).length = L.length := List.length_map ..
 have hc := hMp Pt.cells L
 have hF2 := Lib.hid hF
 clear hR hF
 generalize L.map Pt.cells = LS at *
 refine Qin [4] Tryz.func181 Tryz.results181 Tryz.ntmps181 ?_
 repeat' (first | refine QX ?_ | (refine QB ?_; intro b) | (with_reducible refine QZ ?_ <;> (try constructor) <;> intro hb <;> try intro hb1) | fail)
 refine tr_loopd (ι := Nat) (fun i A st' => i ≤ L.length ∧ A.df = [] ∧ A.e 0 = .sl .shared LS ∧ A.e 1 = .fn (.func fn) [] caps ∧ A.e 7 = .i L.length ∧ A.e 8 = .i i ∧ ∃ s, Hid (Rul.idx F s (L.drop i) i = R) ∧ st' = S s) (fun i => L.length - i) 0 ⟨Nat.zero_le _, Qf, Qf, Qf, Qf, Qf, s0, HF, rfl⟩ ?_
 clear HF
 rintro i A st' ⟨hi, hdf, e0, e1, e7, e8, s, HT, rfl⟩
 by_cases hlt : i < L.length
 · obtain ⟨a, ha⟩ := gEx hlt
   have h1 := hc.out i a ha
   have hG := hF2.out a (List.mem_of_getElem? ha) s
   have HE := HT.out
   rw [Rul.idx_drop F ha] at HE
   clear HT ha hF2
   generalize F s a = q at *
   obtain ⟨q, s'⟩ := q
   dsimp only at *
   unfold Pt.cells at h1 hG
   cases a with
   | mk tmpl neg tests =>
   dsimp only at h1 hG
   generalize tests.map Ts.cells = TS at *
   replace hG := Lib.hid hG
   cases q with
   | true =>
    rw [if_pos rfl] at HE
    subst HE
    repeat' (first | refine QX ?_ | (refine QB ?_; intro b) | (with_reducible refine QZ ?_ <;> (try constructor) <;> intro hb <;> try intro hb1) | refine Qc hcall hG.out ?_ | fail)
    all_goals exact Qret
   | false =>
    rw [if_neg Bool.false_ne_true] at HE
    replace HE := Lib.hid HE
    repeat' (first | refine QX ?_ | (refine QB ?_; intro b) | (with_reducible refine QZ ?_ <;> (try constructor) <;> intro hb <;> try intro hb1) | refine Qc hcall hG.out ?_ | fail)
    refine ⟨i + 1, S s', q_u, ⟨hlt, ?_, ?_, ?_, ?_, ?_, s', HE, rfl⟩, by omega⟩
    all_goals exact Qf
 · have HE := HT.out
   rw [List.drop_of_length_le q_o, Rul.idx] at HE
   subst HE
   clear HT hF2
   exact WR
theorem conFPat {σ : Type} (fn : FuncId) (caps : List D) (hcall : ∀ args w, (callFunc fn args).run Tryz.prog w = .ok (.enter fn args) w) (L : List Pt) (hl : L.length ≤ 1000000) (F : σ → Pt → Bool × σ) (S : σ → St)
 (hF : ∀ a ∈ L, ∀ s, TrF Tryz.prog fn (.agg a.cells :: caps) (S s) fun d st' => d = .b (F s a).1 ∧ st' = S (F s a).2) (s0 : σ) : TrF Tryz.prog 149 [.sl .shared (L.map Pt.cells), .fn (.func fn) [] caps] (S s0) fun d st' => d = .b (Rul.anyS F s0 L).1 ∧ st' = S (Rul.anyS F s0 L).2 := by
 have hI := idxFPat fn caps hcall L hl F S hF s0
 obtain ⟨e1, e2⟩ := Rul.idx_any F L s0 0
 have hle := Rul.idx_le F L s0 0
 rw [← e1, ← e2]
 clear e1 e2 hF
 generalize Rul.idx F s0 L 0 = R at *
 obtain ⟨R, s'⟩ := R
 generalize L.map Pt.cells = LS at *
 dsimp only at *
 replace hI := Lib.hid hI
 by_cases hR : R ≥ 0
 · rw [decide_eq_true hR]
   refine Qin [4] Tryz.func149 Tryz.results149 Tryz.ntmps149 ?_
   repeat' (first | refine QX ?_ | (refine QB ?_; intro b) | (with_reducible refine QZ ?_ <;> (try constructor) <;> intro hb <;> try intro hb1) | refine Qc Tryz.call181 hI.out ?_ | fail)
   all_goals exact Qret
 · rw [decide_eq_false hR]
   refine Qin [4] Tryz.func149 Tryz.results149 Tryz.ntmps149 ?_
   repeat' (first | refine QX ?_ | (refine QB ?_; intro b) | (with_reducible refine QZ ?_ <;> (try constructor) <;> intro hb <;> try intro hb1) | refine Qc Tryz.call181 hI.out ?_ | fail)
   all_goals exact Qret
theorem idxFAct {σ : Type} (fn : FuncId) (caps : List D) (hcall : ∀ args w, (callFunc fn args).run Tryz.prog w = .ok (.enter fn args) w) (L : List Ac) (hl : L.length ≤ 1000000) (F : σ → Ac → Bool × σ) (S : σ → St)
 (hF : ∀ a ∈ L, ∀ s, TrF Tryz.prog fn (.agg a.cells :: caps) (S s) fun d st' => d = .b (F s a).1 ∧ st' = S (F s a).2) (s0 : σ) : TrF Tryz.prog 185 [.sl .shared (L.map Ac.cells), .fn (.func fn) [] caps] (S s0) fun d st' => d = .i (Rul.idx F s0 L 0).1 ∧ st' = S (Rul.idx F s0 L 0).2 := by
 obtain ⟨R, hR⟩ : ∃ R, Rul.idx F s0 L 0 = R := ⟨_, rfl⟩
 rw [hR]
 have HF : Hid (Rul.idx F s0 (L.drop 0) 0 = R) := hR
 have hm : (L.map Ac.cells).length = L.length := List.length_map ..
 have hc := hMp Ac.cells L
 have hF2 := Lib.hid hF
 clear hR hF
 generalize L.map Ac.cells = LS at *
 refine Qin [4] Tryz.func185 Tryz.results185 Tryz.ntmps185 ?_
 repeat' (first | refine QX ?_ | (refine QB ?_; intro b) | (with_reducible refine QZ ?_ <;> (try constructor) <;> intro hb <;> try intro hb1) | fail)
 refine tr_loopd (ι := Nat) (fun i A st' => i ≤ L.length ∧ A.df = [] ∧ A.e 0 = .sl .shared LS ∧ A.e 1 = .fn (.func fn) [] caps ∧ A.e 7 = .i L.length ∧ A.e 8 = .i i ∧ ∃ s, Hid (Rul.idx F s (L.drop i) i = R) ∧ st' = S s) (fun i => L.length - i) 0 ⟨Nat.zero_le _, Qf, Qf, Qf, Qf, Qf, s0, HF, rfl⟩ ?_
 clear HF
 rintro i A st' ⟨hi, hdf, e0, e1, e7, e8, s, HT, rfl⟩
 by_cases hlt : i < L.length
 · obtain ⟨a, ha⟩ := gEx hlt
   have h1 := hc.out i a ha
   have hG := hF2.out a (List.mem_of_getElem? ha) s
   have HE := HT.out
   rw [Rul.idx_drop F ha] at HE
   clear HT ha hF2
   generalize F s a = q at *
   obtain ⟨q, s'⟩ := q
   dsimp only at *
   unfold Ac.cells at h1 hG
   cases a with
   | mk kind pat tmpl slot vals =>
   dsimp only at h1 hG
   generalize vals.map Ex.cells = ES at *
   replace hG := Lib.hid hG
   cases q with
   | true =>
    rw [if_pos rfl] at HE
    subst HE
    repeat' (first | refine QX ?_ | (refine QB ?_; intro b) | (with_reducible refine QZ ?_ <;> (try constructor) <;> intro hb <;> try intro hb1) | refine Qc hcall hG.out ?_ | fail)
    all_goals exact Qret
   | false =>
    rw [if_neg Bool.false_ne_true] at HE
    replace HE := Lib.hid HE
    repeat' (first | refine QX ?_ | (refine QB ?_; intro b) | (with_reducible refine QZ ?_ <;> (try constructor) <;> intro hb <;> try intro hb1) | refine Qc hcall hG.out ?_ | fail)
    refine ⟨i + 1, S s', q_u, ⟨hlt, ?_, ?_, ?_, ?_, ?_, s', HE, rfl⟩, by omega⟩
    all_goals exact Qf
 · have HE := HT.out
   rw [List.drop_of_length_le q_o, Rul.idx] at HE
   subst HE
   clear HT hF2
   exact WR
theorem conFAct {σ : Type} (fn : FuncId) (caps : List D) (hcall : ∀ args w, (callFunc fn args).run Tryz.prog w = .ok (.enter fn args) w) (L : List Ac) (hl : L.length ≤ 1000000) (F : σ → Ac → Bool × σ) (S : σ → St)
 (hF : ∀ a ∈ L, ∀ s, TrF Tryz.prog fn (.agg a.cells :: caps) (S s) fun d st' => d = .b (F s a).1 ∧ st' = S (F s a).2) (s0 : σ) : TrF Tryz.prog 152 [.sl .shared (L.map Ac.cells), .fn (.func fn) [] caps] (S s0) fun d st' => d = .b (Rul.anyS F s0 L).1 ∧ st' = S (Rul.anyS F s0 L).2 := by
 have hI := idxFAct fn caps hcall L hl F S hF s0
 obtain ⟨e1, e2⟩ := Rul.idx_any F L s0 0
 have hle := Rul.idx_le F L s0 0
 rw [← e1, ← e2]
 clear e1 e2 hF
 generalize Rul.idx F s0 L 0 = R at *
 obtain ⟨R, s'⟩ := R
 generalize L.map Ac.cells = LS at *
 dsimp only at *
 replace hI := Lib.hid hI
 by_cases hR : R ≥ 0
 · rw [decide_eq_true hR]
   refine Qin [4] Tryz.func152 Tryz.results152 Tryz.ntmps152 ?_
   repeat' (first | refine QX ?_ | (refine QB ?_; intro b) | (with_reducible refine QZ ?_ <;> (try constructor) <;> intro hb <;> try intro hb1) | refine Qc Tryz.call185 hI.out ?_ | fail)
   all_goals exact Qret
 · rw [decide_eq_false hR]
   refine Qin [4] Tryz.func152 Tryz.results152 Tryz.ntmps152 ?_
   repeat' (first | refine QX ?_ | (refine QB ?_; intro b) | (with_reducible refine QZ ?_ <;> (try constructor) <;> intro hb <;> try intro hb1) | refine Qc Tryz.call185 hI.out ?_ | fail)
   all_goals exact Qret
theorem idxFRule {σ : Type} (fn : FuncId) (caps : List D) (hcall : ∀ args w, (callFunc fn args).run Tryz.prog w = .ok (.enter fn args) w) (L : List Rl) (hl : L.length ≤ 1000000) (F : σ → Rl → Bool × σ) (S : σ → St)
 (hF : ∀ a ∈ L, ∀ s, TrF Tryz.prog fn (.agg a.cells :: caps) (S s) fun d st' => d = .b (F s a).1 ∧ st' = S (F s a).2) (s0 : σ) : TrF Tryz.prog 155 [.sl .shared (L.map Rl.cells), .fn (.func fn) [] caps] (S s0) fun d st' => d = .i (Rul.idx F s0 L 0).1 ∧ st' = S (Rul.idx F s0 L 0).2 := by
 obtain ⟨R, hR⟩ : ∃ R, Rul.idx F s0 L 0 = R := ⟨_, rfl⟩
 rw [hR]
 have HF : Hid (Rul.idx F s0 (L.drop 0) 0 = R) := hR
 have hm : (L.map Rl.cells).length = L.length := List.length_map ..
 have hc := hMp Rl.cells L
 have hF2 := Lib.hid hF
 clear hR hF
 generalize L.map Rl.cells = LS at *
 refine Qin [4] Tryz.func155 Tryz.results155 Tryz.ntmps155 ?_
 repeat' (first | refine QX ?_ | (refine QB ?_; intro b) | (with_reducible refine QZ ?_ <;> (try constructor) <;> intro hb <;> try intro hb1) | fail)
 refine tr_loopd (ι := Nat) (fun i A st' => i ≤ L.length ∧ A.df = [] ∧ A.e 0 = .sl .shared LS ∧ A.e 1 = .fn (.func fn) [] caps ∧ A.e 7 = .i L.length ∧ A.e 8 = .i i ∧ ∃ s, Hid (Rul.idx F s (L.drop i) i = R) ∧ st' = S s) (fun i => L.length - i) 0 ⟨Nat.zero_le _, Qf, Qf, Qf, Qf, Qf, s0, HF, rfl⟩ ?_
 clear HF
 rintro i A st' ⟨hi, hdf, e0, e1, e7, e8, s, HT, rfl⟩
 by_cases hlt : i < L.length
 · obtain ⟨a, ha⟩ := gEx hlt
   have h1 := hc.out i a ha
   have hG := hF2.out a (List.mem_of_getElem? ha) s
   have HE := HT.out
   rw [Rul.idx_drop F ha] at HE
   clear HT ha hF2
   generalize F s a = q at *
   obtain ⟨q, s'⟩ := q
   dsimp only at *
   unfold Rl.cells at h1 hG
   cases a with
   | mk nm sal pats acts =>
   dsimp only at h1 hG
   generalize pats.map Pt.cells = PS at *
   generalize acts.map Ac.cells = AS at *
   replace hG := Lib.hid hG
   cases q with
   | true =>
    rw [if_pos rfl] at HE
    subst HE
    repeat' (first | refine QX ?_ | (refine QB ?_; intro b) | (with_reducible refine QZ ?_ <;> (try constructor) <;> intro hb <;> try intro hb1) | refine Qc hcall hG.out ?_ | fail)
    all_goals exact Qret
   | false =>
    rw [if_neg Bool.false_ne_true] at HE
    replace HE := Lib.hid HE
    repeat' (first | refine QX ?_ | (refine QB ?_; intro b) | (with_reducible refine QZ ?_ <;> (try constructor) <;> intro hb <;> try intro hb1) | refine Qc hcall hG.out ?_ | fail)
    refine ⟨i + 1, S s', q_u, ⟨hlt, ?_, ?_, ?_, ?_, ?_, s', HE, rfl⟩, by omega⟩
    all_goals exact Qf
 · have HE := HT.out
   rw [List.drop_of_length_le q_o, Rul.idx] at HE
   subst HE
   clear HT hF2
   exact WR
theorem conFRule {σ : Type} (fn : FuncId) (caps : List D) (hcall : ∀ args w, (callFunc fn args).run Tryz.prog w = .ok (.enter fn args) w) (L : List Rl) (hl : L.length ≤ 1000000) (F : σ → Rl → Bool × σ) (S : σ → St)
 (hF : ∀ a ∈ L, ∀ s, TrF Tryz.prog fn (.agg a.cells :: caps) (S s) fun d st' => d = .b (F s a).1 ∧ st' = S (F s a).2) (s0 : σ) : TrF Tryz.prog 87 [.sl .shared (L.map Rl.cells), .fn (.func fn) [] caps] (S s0) fun d st' => d = .b (Rul.anyS F s0 L).1 ∧ st' = S (Rul.anyS F s0 L).2 := by
 have hI := idxFRule fn caps hcall L hl F S hF s0
 obtain ⟨e1, e2⟩ := Rul.idx_any F L s0 0
 have hle := Rul.idx_le F L s0 0
 rw [← e1, ← e2]
 clear e1 e2 hF
 generalize Rul.idx F s0 L 0 = R at *
 obtain ⟨R, s'⟩ := R
 generalize L.map Rl.cells = LS at *
 dsimp only at *
 replace hI := Lib.hid hI
 by_cases hR : R ≥ 0
 · rw [decide_eq_true hR]
   refine Qin [4] Tryz.func87 Tryz.results87 Tryz.ntmps87 ?_
   repeat' (first | refine QX ?_ | (refine QB ?_; intro b) | (with_reducible refine QZ ?_ <;> (try constructor) <;> intro hb <;> try intro hb1) | refine Qc Tryz.call155 hI.out ?_ | fail)
   all_goals exact Qret
 · rw [decide_eq_false hR]
   refine Qin [4] Tryz.func87 Tryz.results87 Tryz.ntmps87 ?_
   repeat' (first | refine QX ?_ | (refine QB ?_; intro b) | (with_reducible refine QZ ?_ <;> (try constructor) <;> intro hb <;> try intro hb1) | refine Qc Tryz.call155 hI.out ?_ | fail)
   all_goals exact Qret
end
section
attribute [local push_cast] encB encI V.cells_mk V.cells_take V.cells_len Nat.mul_one Int.sub_zero
theorem refNodesF (v : V) (hok : v.Ok) (hn : v.nodes ≤ 1000) (hd : v.deep ≤ 1000) (st : St) : TrF Tryz.prog 189 [.agg v.cells] st fun x st' => x = .i v.nodes ∧ st' = st := by
 have hC := refCountF v.nodes v (Nat.le_refl _) hok 1001 1000 q_o q_o q_o q_o
 rw [V.cnt_all v 1001 1000 q_o q_o] at hC
 cases v with
 | mk k n s l =>
 rw [V.cells_mk] at *
 replace hC := Lib.hid hC
 generalize (V.mk k n s l).nodes = q at *
 refine Qin [2] Tryz.func189 Tryz.results189 Tryz.ntmps189 ?_
 repeat' (first | refine QX ?_ | (refine QB ?_; intro b) | (with_reducible refine QZ ?_ <;> (try constructor) <;> intro hb <;> try intro hb1) | fail)
 all_goals (refine Qret (hd := ?_); (try simp (disch := omega) only [push_cast, simprocAttr, *]); try (first | exact q_e | refine LE.of_eq ?_))
 exact congrArg D.i q_o
theorem refRightF (v : V) (hok : v.Ok) (hn : v.nodes ≤ 1000) (hd : v.deep ≤ 1000) (st : St) : TrF Tryz.prog 156 [.agg v.cells] st fun x st' => x = .b v.right ∧ st' = st := by
 have hE := refEachF v.nodes v (Nat.le_refl _)
 have hD := refDeepF v.nodes v (Nat.le_refl _) q_o
 have hN := refNodesF v hok hn hd
 unfold V.right
 cases v with
 | mk k n s l =>
 rw [V.cells_mk] at *
 replace hE := Lib.hid hE
 replace hD := Lib.hid hD
 replace hN := Lib.hid hN
 generalize (V.mk k n s l).nodes = nn at *
 generalize (V.mk k n s l).deep = dd at *
 generalize (V.mk k n s l).parts = p at *
 refine Qin [2] Tryz.func156 Tryz.results156 Tryz.ntmps156 ?_
 repeat' (first | refine QX ?_ | (refine QB ?_; intro b) | (with_reducible refine QZ ?_ <;> (try constructor) <;> intro hb <;> try intro hb1) | fail)
 all_goals (refine Qret (hd := ?_); (try simp (disch := omega) only [push_cast, simprocAttr, *]); try (first | exact q_e | refine LE.of_eq ?_))
 all_goals (cases p <;> (first | rfl | (refine congrArg D.b ?_; rw [Bool.eq_iff_iff]; simp only [Bool.true_and, Bool.false_and, Bool.and_true, Bool.and_false, Bool.or_false, Bool.or_true, Bool.true_or, Bool.false_or, true_and, and_true, Bool.not_eq_true', Bool.not_eq_false', decide_eq_true_eq, decide_eq_false_iff_not, beq_iff_eq, beq_eq_false_iff_ne, bne_iff_ne, ne_eq, reduceCtorEq, iff_true, true_iff, iff_false, false_iff, Bool.and_eq_true, Bool.or_eq_true, Bool.false_eq_true, Bool.true_eq_false]; first | done | omega)))
end
section
attribute [local push_cast] encB encI encC V.cells_mk V.cells_len Nat.mul_one Int.sub_zero List.map_nil beq_self_eq_true List.head?_cons
def Sch.has (t k : Nat) : Bool := t / 2 ^ k % 2 == 1
theorem refHasF (tn k : Nat) (hk : k ≤ 1000) (ht : tn ≤ 9223372036854775807) (st : St) : TrF Tryz.prog 197 [.i tn, .i k] st fun d st' => d = .b (Sch.has tn k) ∧ st' = st := by
 unfold Sch.has
 refine Qin [4] Tryz.func197 Tryz.results197 Tryz.ntmps197 ?_
 repeat' (first | refine QX ?_ | (refine QB ?_; intro b) | (with_reducible refine QZ ?_ <;> (try constructor) <;> intro hb <;> try intro hb1) | fail)
 refine tr_loop (ι := Nat) (fun i A st' => i ≤ k ∧ A.df = [] ∧ A.e 1 = .i k ∧ A.e 5 = .i i ∧ st = st' ∧ ∃ m : Nat, m ≤ tn ∧ Hid (tn / 2 ^ i = m) ∧ A.e 0 = .i m) (fun i => k - i) 0 ⟨Nat.zero_le _, Qf, Qf, Qf, rfl, tn, Nat.le_refl _, Nat.div_one _, Qf⟩ ?_
 rintro i A st' ⟨hi, hdf, e1, e5, rfl, m, hm, HT, e0⟩
 by_cases hlt : i < k
 · obtain ⟨m2, hm2⟩ : ∃ m2, m / 2 = m2 := ⟨_, rfl⟩
   have hq : (m : Int).tdiv 2 = (m2 : Int) := by rw [← hm2]; rfl
   have hml : m2 ≤ tn := by omega
   have HN : Hid (tn / 2 ^ (i + 1) = m2) := Lib.hid (by rw [Nat.pow_succ, ← Nat.div_div_eq_div_mul, HT.out, hm2])
   clear HT hm2
   repeat' (first | refine QX ?_ | (refine QB ?_; intro b) | (with_reducible refine QZ ?_ <;> (try constructor) <;> intro hb <;> try intro hb1) | fail)
   refine ⟨i + 1, ⟨hlt, ?_, ?_, ?_, rfl, m2, hml, HN, ?_⟩, ?_⟩
   all_goals exact Qf
 · have hik : i = k := by omega
   subst hik
   have hr : (m : Int).tmod 2 = ((m % 2 : Nat) : Int) := rfl
   rw [HT.out]
   obtain ⟨m2, hm2⟩ : ∃ m2, m % 2 = m2 := ⟨_, rfl⟩
   rw [hm2] at hr ⊢
   clear HT
   replace hm2 := Lib.hid hm2
   repeat' (first | refine QX ?_ | (refine QB ?_; intro b) | (with_reducible refine QZ ?_ <;> (try constructor) <;> intro hb <;> try intro hb1) | fail)
   all_goals (refine Qret (hd := ?_); (try simp (disch := omega) only [push_cast, simprocAttr, *]); try (first | exact q_e | refine LE.of_eq ?_))
   all_goals (refine congrArg D.b ?_; rw [Bool.eq_iff_iff, beq_iff_eq, beq_iff_eq]; omega)
theorem i64_and1 (a : Nat) (ha : a ≤ 9223372036854775807) : bits .and .i64 (a : Int) 1 = ((a % 2 : Nat) : Int) := by
 have h1 : a &&& 1 = a % 2 := Nat.and_one_is_mod a
 show IntKind.i64.wrap ((BitVec.ofInt 64 (a : Int) &&& BitVec.ofInt 64 ((1 : Nat) : Int)).toNat : Int) = _
 rw [BitVec.toNat_and, ofInt_i64 a q_o, ofInt_i64 1 q_o, h1]
 exact IntWalk.i64_in _ q_o
theorem Sch.bit_has (t k : Nat) (ht : t ≤ 9223372036854775807) : Sch.bit t k = Sch.has t k := by
 unfold Sch.bit Sch.has
 have : ((t : Int) / 2 ^ ((k : Int).toNat)) = ((t / 2 ^ k : Nat) : Int) := by
  rw [Int.toNat_natCast]; simp
 rw [this, i64_and1 _ (Nat.le_trans (Nat.div_le_self _ _) ht)]
 rw [Bool.eq_iff_iff, beq_iff_eq, beq_iff_eq]; omega
theorem V.right_kind {k n : Int} {s : ByteArray} {l : List V} (h : (V.mk k n s l).right = true) : 0 ≤ k ∧ k ≤ 5 := by
 have := (V.right_iff.1 h).1
 rw [V.parts, Bool.and_eq_true, Bool.and_eq_true] at this
 have := this.1.1
 unfold V.sgl at this
 repeat' split at this
 all_goals (first | omega | exact absurd this (by decide))
theorem refFits10F (s : Sl) (v : V) (hok : v.Ok) (hn : v.nodes ≤ 1000) (hd : v.deep ≤ 1000) (ht : 0 ≤ s.types ∧ s.types ≤ 9223372036854775807) (st : St) : TrF Tryz.prog 190 [.agg s.cells, .agg v.cells] st fun x st' => x = .b (Sch.fits s v) ∧ st' = st := by
 have hR := refRightF v hok hn hd
 unfold Sch.fits
 obtain ⟨tn, htn⟩ := Int.eq_ofNat_of_zero_le ht.1
 rw [htn] at ht ⊢
 cases s with
 | mk nm ty rq dv =>
 dsimp only at htn
 subst htn
 cases hr : v.right with
 | false =>
  rw [hr] at hR
  cases v with
  | mk k n s l =>
  cases dv with
  | mk dk dn ds dl =>
  rw [V.cells_mk] at hR
  rw [Sl.cells_mk, V.cells_mk]
  replace hR := Lib.hid hR
  refine Qin [4] Tryz.func190 Tryz.results190 Tryz.ntmps190 ?_
  exact WR
 | true =>
  rw [hr] at hR
  cases v with
  | mk k n s l =>
  cases dv with
  | mk dk dn ds dl =>
  obtain ⟨hk1, hk2⟩ := V.right_kind hr
  obtain ⟨kn, rfl⟩ := Int.eq_ofNat_of_zero_le hk1
  have hH := refHasF tn kn q_o q_o
  dsimp only
  rw [Sch.bit_has tn kn q_o]
  rw [V.cells_mk] at hR
  rw [Sl.cells_mk, V.cells_mk]
  generalize Sch.has tn kn = q at *
  replace hR := Lib.hid hR
  replace hH := Lib.hid hH
  clear hr
  refine Qin [4] Tryz.func190 Tryz.results190 Tryz.ntmps190 ?_
  exact WR
end
section
mutual
inductive Frz (g n cap : Nat) (es : List (List D)) : D → D → Prop
 | same (d : D) : Frz g n cap es d d
 | ar : Frz g n cap es (.ar g 0 n cap) (.sl .shared es)
 | agg (cs cs' : List D) (h : FrzL g n cap es cs cs') : Frz g n cap es (.agg cs) (.agg cs')
 | tup (cs cs' : List D) (h : FrzL g n cap es cs cs') : Frz g n cap es (.tup cs) (.tup cs')
inductive FrzL (g n cap : Nat) (es : List (List D)) : List D → List D → Prop
 | nil : FrzL g n cap es [] []
 | cons (d d' : D) (l l' : List D) (h : Frz g n cap es d d') (k : FrzL g n cap es l l') : FrzL g n cap es (d :: l) (d' :: l')
end
section
variable {g n cap : Nat} {es : List (List D)} {O O' : Nat → Nat → Prop} {w : World}
mutual
theorem Frz.rep (he : Ext O w O' w) (hr : ∀ v, Rep O w v (.ar g 0 n cap) → Rep O' w v (.sl .shared es)) : ∀ {d d' : D}, Frz g n cap es d d' → ∀ v, Rep O w v d → Rep O' w v d'
 | _, _, .same d, v, h => h.ext he
 | _, _, .ar, v, h => hr v h
 | _, _, .agg cs cs' k, v, h => by
  cases h with
  | agg us _ h1 h2 =>
   obtain ⟨q1, q2⟩ := FrzL.rep he hr k us ⟨h1, h2⟩
   exact .agg us cs' q1 q2
 | _, _, .tup cs cs' k, v, h => by
  cases h with
  | tup us _ h1 h2 =>
   obtain ⟨q1, q2⟩ := FrzL.rep he hr k us ⟨h1, h2⟩
   exact .tup us cs' q1 q2
theorem FrzL.rep (he : Ext O w O' w) (hr : ∀ v, Rep O w v (.ar g 0 n cap) → Rep O' w v (.sl .shared es)) : ∀ {l l' : List D}, FrzL g n cap es l l' → ∀ us, RepL O w us l → RepL O' w us l'
 | _, _, .nil, us, h => by
  obtain rfl := h.inv_nil
  exact .nil
 | _, _, .cons d d' l l' h k, us, hh => by
  obtain ⟨u, t, rfl, k1, k2⟩ := hh.inv_cons
  exact .cons (Frz.rep he hr h u k1) (FrzL.rep he hr k t k2)
end
theorem row_rest {el : TypeId} {zs : List D} {s0 : St} {sz : Nat} (hh : Holds (.box g el (es.flatten ++ zs) :: s0) w) (hsz : 0 < sz) (hes : ∀ e ∈ es, e.length = sz) (hn : es.length = n) (v : Value) (hv : Rep (OwnS (.box g el (es.flatten ++ zs) :: s0)) w v (.ar g 0 n cap)) : Rep (OwnS s0) w v (.sl .shared es) := by
 have hch : chop sz n ((es.flatten ++ zs).drop 0) = es := by
  rw [List.drop_zero, ← hn]
  exact chop_row zs es hes
 have hr := frozen .shared (.inl rfl) (sz := sz) hh hv hsz (by rw [List.length_append, flat_len hes, hn]; omega) (by intro h; cases h)
 rwa [hch] at hr
end
section
variable {P : Program} {f : FuncId} {args : List D} {st : St}
theorem TrF.rest {ι : Type} {el : TypeId} {sz : Nat} {p : ι → Prop} {es : ι → List (List D)} {g n cap : ι → Nat} {F F' : ι → D} {zs : ι → List D} {S : ι → St} (hsz : 0 < sz) (hes : ∀ i, p i → (∀ e ∈ es i, e.length = sz) ∧ (es i).length = n i) (hF : ∀ i, Frz (g i) (n i) (cap i) (es i) (F i) (F' i))
 (h : TrF P f args st fun d st' => ∃ i, p i ∧ d = F i ∧ st' = .box (g i) el ((es i).flatten ++ zs i) :: S i) : TrF P f args st fun d st' => ∃ i, p i ∧ d = F' i ∧ st' = S i := by
 intro vs w h1 h2
 refine (h vs w h1 h2).mono fun _ w' ⟨v, ev, d, s, k1, k2, k3, i, hi, e1, e2⟩ => ?_
 subst e1 e2
 have he := Ext.drop (st := .box (g i) el ((es i).flatten ++ zs i) :: S i) (st' := S i) (fun _ h => List.mem_cons_of_mem _ h) w'
 exact ⟨v, ev, _, S i, (hF i).rep he (row_rest k2 hsz (hes i hi).1 (hes i hi).2) v k1, k2.sub (List.sublist_cons_self _ _), k3.trans he, i, hi, rfl, rfl⟩
end
section
variable {P : Program} {N : Nat} {r : Option Nat} {A : AA} {st : St} {Q : Exit → AA → St → Prop}
theorem tr_rest {c : Code} {g b n cap sz : Nat} {el ty : TypeId} {es : List (List D)} {zs cs cs' : List D} {s : St} (hp : st.Perm (.box g el (es.flatten ++ zs) :: .box b ty cs :: s)) (hsz : 0 < sz) (hes : ∀ e ∈ es, e.length = sz) (hn : es.length = n) (hF : FrzL g n cap es cs cs') (hl : ∀ d ∈ cs', d.leaf = true) (h : Tr P N r c A (.box b ty cs' :: s) Q) : Tr P N r c A st Q := by
 refine tr_perm hp ?_
 intro a w h1 h2
 obtain ⟨⟨us, hb, hr⟩, hlc⟩ := h2.2 (.box b ty cs) (List.mem_cons_of_mem _ (List.mem_cons_self ..))
 have he := Ext.drop (st := .box g el (es.flatten ++ zs) :: .box b ty cs :: s) (st' := .box b ty cs :: s) (fun _ h => List.mem_cons_of_mem _ h) w
 have hO : OwnS (.box b ty cs :: s) = OwnS (.box b ty cs' :: s) := by
  funext b' off; apply propext
  rw [OwnS.cons_iff, OwnS.cons_iff]; exact Iff.rfl
 have h3 := h2.sub (List.sublist_cons_self (.box g el (es.flatten ++ zs)) (.box b ty cs :: s))
 have hr' := hF.rep he (row_rest h2 hsz hes hn) us.toList hr
 have h4 : Holds (.box b ty cs' :: s) w := by
  refine ⟨List.pairwise_cons.2 ⟨fun x hx b' hb' => (List.pairwise_cons.1 h3.1).1 x hx b' hb', (List.pairwise_cons.1 h3.1).2⟩, fun x hx => ?_⟩
  rcases List.mem_cons.1 hx with rfl | hx
  · exact ⟨⟨us, hb, by rw [← hO]; exact hr'⟩, hl⟩
  · rw [← hO]; exact h3.2 x (List.mem_cons_of_mem _ hx)
 rw [hO] at he
 exact wpIn_mono (h a w (h1.ext he) h4) fun _ _ _ => PostA.ext he
end
end
section
attribute [local push_cast] encB encI encC V.cells_mk V.cells_len Nat.mul_one Int.sub_zero List.map_nil beq_self_eq_true List.head?_cons
structure VQ (v : V) : Prop where
 ok : v.Ok
 nodes : v.nodes ≤ 1000
 deep : v.deep ≤ 1000
theorem refSoundF (s : Sl) (hv : VQ s.dv) (ht : -9223372036854775808 ≤ s.types ∧ s.types ≤ 9223372036854775807) (st : St) : TrF Tryz.prog 162 [.agg s.cells] st fun x st' => x = .b (Sch.sound s) ∧ st' = st := by
 have hN := Lib.hid (refIsNameF s.name)
 have hF : 0 ≤ s.types → Hid (∀ st, TrF Tryz.prog 190 [.agg s.cells, .agg s.dv.cells] st fun x st' => x = .b (Sch.fits s s.dv) ∧ st' = st) := fun h => refFits10F s s.dv hv.ok hv.nodes hv.deep ⟨h, ht.2⟩
 unfold Sch.sound Sch.takes
 cases s with
 | mk nm ty rq dv =>
 dsimp only at hN hF ht ⊢
 generalize V.isName nm.data.toList = q1 at *
 generalize Sch.fits (Sl.mk nm ty rq dv) dv = q3 at *
 clear hv
 cases dv with
 | mk k n s l =>
 rw [Sl.cells_mk] at *
 rw [V.cells_mk] at hF
 by_cases h1 : 0 < ty
 · have hF2 := hF q_o
   clear hF
   by_cases h2 : ty < 64
   · rw [decide_eq_true (show 1 ≤ ty by omega), decide_eq_true (show ty ≤ 63 by omega)]
     cases q1 <;> cases q3
     all_goals skip
     all_goals (
      refine Qin [2] Tryz.func162 Tryz.results162 Tryz.ntmps162 ?_
      exact WR)
   · rw [decide_eq_false (show ¬ ty ≤ 63 by omega), Bool.and_false, Bool.and_false, Bool.false_and]
     clear hF2
     cases q1
     all_goals skip
     all_goals (
      refine Qin [2] Tryz.func162 Tryz.results162 Tryz.ntmps162 ?_
      exact WR)
 · rw [decide_eq_false (show ¬ 1 ≤ ty by omega), Bool.false_and, Bool.and_false, Bool.false_and]
   clear hF
   cases q1
   all_goals skip
   all_goals (
    refine Qin [2] Tryz.func162 Tryz.results162 Tryz.ntmps162 ?_
    exact WR)
theorem refColF (slots : List Sl) (cols : List Nat) (name : ByteArray) (hl : slots.length ≤ 1000000) (hc : cols.length ≤ 1000000) (hcs : ∀ c ∈ cols, c < slots.length) (st : St) : TrF Tryz.prog 163 [.agg [.sl .shared (slots.map Sl.cells), .sl .shared (cols.map encC)], .str name] st fun x st' => x = .i (Sch.colL slots name cols) ∧ st' = st := by
 obtain ⟨B, hB⟩ : ∃ B, Sch.colL slots name cols = B := ⟨_, rfl⟩
 have HB : Hid (Sch.colL slots name (cols.drop 0) = B) := hB
 rw [hB]
 clear hB
 have hcs2 := Lib.hid hcs
 clear hcs
 refine Qin [4] Tryz.func163 Tryz.results163 Tryz.ntmps163 ?_
 repeat' (first | refine QX ?_ | (refine QB ?_; intro b) | (with_reducible refine QZ ?_ <;> (try constructor) <;> intro hb <;> try intro hb1) | fail)
 refine tr_loop (ι := Nat) (fun i A st' => i ≤ cols.length ∧ Hid (Sch.colL slots name (cols.drop i) = B) ∧ A.df = [] ∧ A.e 1 = .str name ∧ A.e 2 = .ip [.sl .shared (slots.map Sl.cells), .sl .shared (cols.map encC)] ∧ A.e 5 = .i i ∧ st = st') (fun i => cols.length - i) 0 ⟨Nat.zero_le _, HB, Qf, Qf, Qf, Qf, rfl⟩ ?_
 rintro i A st' ⟨hi, HT, hdf, e1, e2, e5, rfl⟩
 clear HB
 by_cases hlt : i < cols.length
 · obtain ⟨c, hx⟩ := gEx hlt
   have hcs := hcs2.out c (List.mem_of_getElem? hx)
   have HE := HT.out
   rw [colL_drop hx] at HE
   clear HT
   obtain ⟨s, hs⟩ := gEx hcs
   cases s with
   | mk nm ty rq dv =>
   cases dv with
   | mk k n sv l =>
   obtain ⟨q, hq⟩ : ∃ q, (nm.toList == name.toList) = q := ⟨_, rfl⟩
   have hnm : Sch.named slots name c = q := by
    unfold Sch.named
    rw [hs, ← hq]; rfl
   rw [hnm] at HE
   clear hnm
   have hcell : (slots.map Sl.cells)[c]? = some [.str nm, .i ty, .b rq, .i k, .i n, .str sv, .sl .shared (l.map V.cells)] := by
    rw [List.getElem?_map, hs, ← Sl.cells_mk]; rfl
   clear hs
   have hsl : (slots.map Sl.cells).length = slots.length := List.length_map ..
   generalize slots.map Sl.cells = SL at *
   cases q with
   | true =>
    rw [if_pos rfl] at HE
    rw [← HE]
    clear HE
    exact WR
   | false =>
    rw [if_neg (by decide)] at HE
    replace HE := Lib.hid HE
    repeat' (first | refine QX ?_ | (refine QB ?_; intro b) | (with_reducible refine QZ ?_ <;> (try constructor) <;> intro hb <;> try intro hb1) | fail)
    refine ⟨i + 1, ⟨hlt, HE, ?_, ?_, ?_, ?_, rfl⟩, ?_⟩
    all_goals exact Qf
 · have HE := HT.out
   rw [List.drop_of_length_le q_o, Sch.colL] at HE
   rw [← HE]
   clear HE HT
   exact WR
def CopyR (x : Vr) (st : St) (d : D) (st' : St) : Prop := ∃ gs cS zS gc cC zC, VL cS zS cC zC x ∧ d = .agg [.ar gs 0 x.slots.length cS, .ar gc 0 x.cols.length cC] ∧ st' = .box gc 3 (colC x.cols ++ zC) :: .box gs 75 (slotC x.slots ++ zS) :: st
theorem refCopyF (x : Vr) (h1 : 1 ≤ x.slots.length) (h2 : 1 ≤ x.cols.length) (hl : x.slots.length ≤ 1000) (hc : x.cols.length ≤ 1000) (st : St) : TrF Tryz.prog 195 [.agg x.cells] st (CopyR x st) := by
 unfold CopyR VL Vr.cells
 have e1 := Lib.hid (slots_each x.slots)
 have e2 := Lib.hid (cols_each x.cols)
 have l1 : Hid ((x.slots.map Sl.cells).length = x.slots.length) := List.length_map ..
 have l2 : Hid ((x.cols.map encC).length = x.cols.length) := List.length_map ..
 have f1 : Hid ((x.slots.map Sl.cells).flatten = slotC x.slots) := rfl
 have f2 : Hid ((x.cols.map encC).flatten = colC x.cols) := rfl
 generalize slotC x.slots = R1 at *
 generalize colC x.cols = R2 at *
 generalize x.slots.map Sl.cells = L1 at *
 generalize x.cols.map encC = L2 at *
 generalize x.slots.length = m1 at *
 generalize x.cols.length = m2 at *
 refine trF_enterG (G := cellA 2 147 Tryz.prog) Tryz.func195 rfl (by rw [Tryz.ntmps195]; exact Nat.le_of_ble_eq_true rfl) (fun h1 h2 h3 => res_cell rfl h1 h2 h3) ?_
 simp only [Tryz.ntmps195]
 repeat' (first | refine QV ?_ | with_reducible refine s_appN ?_ | with_reducible refine rn_go ?_ | ((with_reducible apply (rn2_go (ys := L1))); (focus (have := l1.out; omega)); (focus exact e1.out); (focus (have := l1.out; omega)); (focus (have := l1.out; omega)); intro gl1 cl1 zl1 hcl1 hll1) | ((with_reducible apply (rn2_go (ys := L2))); (focus (have := l2.out; omega)); (focus exact e2.out); (focus (have := l2.out; omega)); (focus (have := l2.out; omega)); intro gl2 cl2 zl2 hcl2 hll2) | refine QY ?_ | (refine QB ?_; intro b) | (with_reducible refine QZ ?_ <;> (try constructor) <;> intro hb <;> try intro hb1) | fail)
 rw [l1.out] at *
 rw [l2.out] at *
 rw [f1.out] at *
 rw [f2.out] at *
 refine retG_mk (rs := []) q_x q_y (List.Perm.refl _) (cell_mk q_s q_m q_s q_v) q_t (LE.refl _) ⟨gl1, cl1, zl1, gl2, cl2, zl2, ⟨hll1, hll2⟩, rfl, rfl⟩
def Sch.restV (s : Stp) : Bool :=
 if s.kind = 1 then decide (s.order.length = 0) && (s.col == 0)
 else if s.kind = 2 then bare s.slot false false && decide (s.order.length = 0)
 else if s.kind = 3 then bare s.slot true false && decide (s.order.length = 0)
 else if s.kind = 4 then bare s.slot false true && decide (s.order.length = 0)
 else bare s.slot false false && (s.col == 0)
theorem refRestF (s : Stp) (hv : s.slot.dv.Ok) (hk : 1 ≤ s.kind ∧ s.kind ≤ 5) (ho : s.order.length ≤ 1000) (st : St) : TrF Tryz.prog 196 [.agg s.cells] st fun x st' => x = .b (Sch.restV s) ∧ st' = st := by
 have hS := refSameF s.slot.dv Sch.zeroV hv
 unfold Sch.restV Sch.bare Stp.cells
 cases s with
 | mk kd col slot order =>
 cases slot with
 | mk nm ty rq dv =>
 dsimp only at hS hk ho ⊢
 have hE := isE_eq nm
 generalize decide (nm.size = 0) = q1 at *
 generalize (dv.cmp Sch.zeroV == 0) = q3 at *
 unfold Sch.zeroV at hS
 clear hv
 cases dv with
 | mk k n sv l =>
 rw [V.cells_mk, V.cells_mk, List.map_nil] at hS
 rw [Sl.cells_mk]
 dsimp only [List.cons_append, List.nil_append]
 replace hS := Lib.hid hS
 obtain ⟨q2, h2⟩ : ∃ q2, (ty == 0) = q2 := ⟨_, rfl⟩
 have h2' : (ty != 0) = !q2 := by rw [← h2]; rfl
 rw [h2]
 have hno : (order.length = 0 ∧ ¬ (0 : Int) < order.length) ∨ (order.length ≠ 0 ∧ (0 : Int) < order.length) := by omega
 obtain ⟨hk1, hk2⟩ := hk
 have hkk : kd = 1 ∨ kd = 2 ∨ kd = 3 ∨ kd = 4 ∨ kd = 5 := by omega
 clear hk1 hk2
 rcases hno with ⟨h0, h0'⟩ | ⟨h0, h0'⟩
 · simp only [h0, decide_true, Bool.and_true, Bool.true_and]
   replace h0 := Lib.hid h0
   rcases hkk with rfl | rfl | rfl | rfl | rfl
   all_goals skip
   all_goals (
    refine Qin [2] Tryz.func196 Tryz.results196 Tryz.ntmps196 ?_
    repeat' (first | refine QX ?_ | (refine QB ?_; intro b) | (with_reducible refine QZ ?_ <;> (try constructor) <;> intro hb <;> try intro hb1) | refine QL Tryz.call111 (hS.out _) ?_ | fail)
    all_goals (refine Qret (hd := ?_); (try simp (disch := omega) only [push_cast, simprocAttr, *]); try (first | exact q_e | refine LE.of_eq ?_))
    all_goals (first | done | (simp_all; done)))
 · simp only [h0, decide_false, Bool.and_false, Bool.false_and]
   replace h0 := Lib.hid h0
   rcases hkk with rfl | rfl | rfl | rfl | rfl
   all_goals skip
   all_goals (
    refine Qin [2] Tryz.func196 Tryz.results196 Tryz.ntmps196 ?_
    repeat' (first | refine QX ?_ | (refine QB ?_; intro b) | (with_reducible refine QZ ?_ <;> (try constructor) <;> intro hb <;> try intro hb1) | refine QL Tryz.call111 (hS.out _) ?_ | fail)
    all_goals (refine Qret (hd := ?_); (try simp (disch := omega) only [push_cast, simprocAttr, *]); try (first | exact q_e | refine LE.of_eq ?_))
    all_goals (first | done | (simp_all; done)))
end
section
attribute [local push_cast] encB encI encC V.cells_mk V.cells_len Nat.mul_one Int.sub_zero List.map_nil beq_self_eq_true bne_self_eq_false List.head?_cons
set_option maxHeartbeats 16000000
theorem zero_ok : V.zero.Ok := .mk q_o q_o (Nat.zero_le _) (Nat.zero_le _) fun x h => by cases h
theorem zero_cells : V.zero.cells = [.i 0, .i 0, .str ⟨#[]⟩, .sl .shared []] := by unfold V.zero; rw [V.cells_mk]; rfl
theorem ruleTestF (L : List Tm) (hL : ∀ t ∈ L, TOk t) (hl : L.length ≤ 1000000) (nm : ByteArray) (sal : Int) (PS AS : List (List D)) (r : Nat) (p : Pt) (t : Ts) (ht : VQ t.val) (B : List Int) (st : St) : TrF Tryz.prog 184 [.ip [.sl .shared (L.map Tm.cells), .str nm, .i sal, .sl .shared PS, .sl .shared AS, .mp r], .agg p.cells, .agg t.cells] (bmap r B :: st) fun d st' => d = .b (Rul.testB (Rul.slots L p.tmpl).length p.neg B t) ∧ st' = bmap r (if Rul.testB (Rul.slots L p.tmpl).length p.neg B t = true then Rul.testN B t else B) :: st := by
 have hS := ruleSlotsF L hL hl p.tmpl
 have hm : ((Rul.slots L p.tmpl).map Sl.cells).length = (Rul.slots L p.tmpl).length := List.length_map ..
 have hV := valSameB t.val V.zero ht.ok.bg zero_ok.bg
 have hR := valRightF t.val (by have := ht.nodes; omega)
 rw [zero_cells] at hV
 generalize (Rul.slots L p.tmpl).map Sl.cells = SS at *
 generalize (Rul.slots L p.tmpl).length = ns at *
 generalize L.map Tm.cells = LS at *
 clear hL ht hl
 cases p with
 | mk tmpl neg tests =>
 cases t with
 | mk kind slot var val =>
 unfold Pt.cells
 dsimp only at *
 generalize tests.map Ts.cells = TS at *
 have eT : Rul.testB ns neg B ⟨kind, slot, var, val⟩ = ((decide (0 ≤ slot) && decide (slot < ns)) && (if kind = 1 ∨ kind = 2 ∨ kind = 3 ∨ kind = 4 then (var == 0) && val.right
  else if kind = 5 then (val.cmp V.zero == 0) && ((decide (0 ≤ var) && decide (var < 8)) && (!neg && decide (var ∉ B)))
  else if kind = 6 ∨ kind = 7 ∨ kind = 8 ∨ kind = 9 then (val.cmp V.zero == 0) && ((decide (0 ≤ var) && decide (var < 8)) && decide (var ∈ B)) else false)) := rfl
 have eN : Rul.testN B ⟨kind, slot, var, val⟩ = if kind = 5 then B ++ [var] else B := rfl
 rw [eT, eN]
 clear eT eN
 generalize (val.cmp V.zero == 0) = qv at *
 generalize val.right = qr at *
 have hnot : decide (var ∉ B) = !decide (var ∈ B) := by simp
 have hins : decide (var ∈ B) = false → insK B var = B ++ [var] := fun h => if_neg (of_decide_eq_false h)
 rw [hnot]
 clear hnot
 generalize hqb : decide (var ∈ B) = qb at *
 cases val with
 | mk k1 n1 s1 l1 =>
 rw [Ts.cells_mk]
 rw [V.cells_mk] at hV hR
 generalize l1.map V.cells = VL at *
 replace hS := Lib.hid hS
 replace hV := Lib.hid hV
 replace hR := Lib.hid hR
 replace hins := Lib.hid hins
 by_cases hs0 : slot < 0
 · rw [decide_eq_false (show ¬ 0 ≤ slot by omega), Bool.false_and, Bool.false_and, if_neg Bool.false_ne_true]
   refine Qin [6] Tryz.func184 Tryz.results184 Tryz.ntmps184 ?_
   repeat' (first | refine QX ?_ | (refine QB ?_; intro b) | (with_reducible refine QZ ?_ <;> (try constructor) <;> intro hb <;> try intro hb1) | refine QL Tryz.call140 (hV.out _) ?_ | fail)
   all_goals exact Qret
 by_cases hs1 : (ns : Int) ≤ slot
 · rw [decide_eq_false (show ¬ slot < ns by omega), Bool.and_false, Bool.false_and, if_neg Bool.false_ne_true]
   refine Qin [6] Tryz.func184 Tryz.results184 Tryz.ntmps184 ?_
   repeat' (first | refine QX ?_ | (refine QB ?_; intro b) | (with_reducible refine QZ ?_ <;> (try constructor) <;> intro hb <;> try intro hb1) | refine QL Tryz.call140 (hV.out _) ?_ | fail)
   all_goals exact Qret
 rw [decide_eq_true (show 0 ≤ slot by omega), decide_eq_true (show slot < ns by omega), Bool.true_and, Bool.true_and]
 by_cases k14 : kind = 1 ∨ kind = 2 ∨ kind = 3 ∨ kind = 4
 · rw [if_pos k14, if_neg (show ¬ kind = 5 by omega), ite_self]
   by_cases hv : var = 0
   · rw [beq_iff_eq.2 hv, Bool.true_and]
     rcases k14 with rfl | rfl | rfl | rfl
     all_goals (
      refine Qin [6] Tryz.func184 Tryz.results184 Tryz.ntmps184 ?_
      repeat' (first | refine QX ?_ | (refine QB ?_; intro b) | (with_reducible refine QZ ?_ <;> (try constructor) <;> intro hb <;> try intro hb1) | refine QL Tryz.call140 (hV.out _) ?_ | fail)
      all_goals exact Qret)
   · rw [beq_eq_false_iff_ne.2 hv, Bool.false_and]
     have hv2 : (var == 0) = false := beq_eq_false_iff_ne.2 hv
     rcases k14 with rfl | rfl | rfl | rfl
     all_goals (
      refine Qin [6] Tryz.func184 Tryz.results184 Tryz.ntmps184 ?_
      repeat' (first | refine QX ?_ | (refine QB ?_; intro b) | (with_reducible refine QZ ?_ <;> (try constructor) <;> intro hb <;> try intro hb1) | refine QL Tryz.call140 (hV.out _) ?_ | fail)
      all_goals exact Qret)
 rw [if_neg k14]
 by_cases hk0 : kind < 1
 · rw [if_neg q_o, if_neg q_o, if_neg Bool.false_ne_true]
   have b1 : (kind == 1) = false := beq_eq_false_iff_ne.2 q_o
   have b2 : (kind == 2) = false := beq_eq_false_iff_ne.2 q_o
   have b3 : (kind == 3) = false := beq_eq_false_iff_ne.2 q_o
   have b4 : (kind == 4) = false := beq_eq_false_iff_ne.2 q_o
   have b5 : (kind == 5) = false := beq_eq_false_iff_ne.2 q_o
   have b6 : (kind == 6) = false := beq_eq_false_iff_ne.2 q_o
   have b7 : (kind == 7) = false := beq_eq_false_iff_ne.2 q_o
   have b8 : (kind == 8) = false := beq_eq_false_iff_ne.2 q_o
   have b9 : (kind == 9) = false := beq_eq_false_iff_ne.2 q_o
   refine Qin [6] Tryz.func184 Tryz.results184 Tryz.ntmps184 ?_
   repeat' (first | refine QX ?_ | (refine QB ?_; intro b) | (with_reducible refine QZ ?_ <;> (try constructor) <;> intro hb <;> try intro hb1) | refine QL Tryz.call140 (hV.out _) ?_ | fail)
   all_goals exact Qret
 have hbad : qv = false ∨ var < 0 ∨ 8 ≤ var ∨ (qv = true ∧ 0 ≤ var ∧ var < 8) := by
  cases qv
  · exact .inl rfl
  · rcases Int.lt_or_le var 0 with h | h
    · exact .inr (.inl h)
    · rcases Int.lt_or_le var 8 with h' | h'
      · exact .inr (.inr (.inr ⟨rfl, h, h'⟩))
      · exact .inr (.inr (.inl h'))
 have hno : (qv = false ∨ var < 0 ∨ 8 ≤ var) → ∀ q : Bool, (qv && ((decide (0 ≤ var) && decide (var < 8)) && q)) = false := fun h q => by
  rcases h with h | h | h
  · rw [h]; rfl
  · rw [decide_eq_false (show ¬ 0 ≤ var by omega)]; simp
  · rw [decide_eq_false (show ¬ var < 8 by omega)]; simp
 rcases hbad with hb | hb | hb | ⟨hq, hv0, hv8⟩
 · rw [hno (.inl hb), hno (.inl hb), ite_self, ite_self, if_neg Bool.false_ne_true]
   clear hno
   try subst hb
   have g5 : ¬ kind < 5 := by omega
   refine Qin [6] Tryz.func184 Tryz.results184 Tryz.ntmps184 ?_
   repeat' (first | refine QX ?_ | (refine QB ?_; intro b) | (with_reducible refine QZ ?_ <;> (try constructor) <;> intro hb <;> try intro hb1) | refine QL Tryz.call140 (hV.out _) ?_ | fail)
   all_goals exact Qret
 · rw [hno (.inr (.inl hb)), hno (.inr (.inl hb)), ite_self, ite_self, if_neg Bool.false_ne_true]
   clear hno
   try subst hb
   have g5 : ¬ kind < 5 := by omega
   refine Qin [6] Tryz.func184 Tryz.results184 Tryz.ntmps184 ?_
   repeat' (first | refine QX ?_ | (refine QB ?_; intro b) | (with_reducible refine QZ ?_ <;> (try constructor) <;> intro hb <;> try intro hb1) | refine QL Tryz.call140 (hV.out _) ?_ | fail)
   all_goals exact Qret
 · rw [hno (.inr (.inr hb)), hno (.inr (.inr hb)), ite_self, ite_self, if_neg Bool.false_ne_true]
   clear hno
   try subst hb
   have g5 : ¬ kind < 5 := by omega
   refine Qin [6] Tryz.func184 Tryz.results184 Tryz.ntmps184 ?_
   repeat' (first | refine QX ?_ | (refine QB ?_; intro b) | (with_reducible refine QZ ?_ <;> (try constructor) <;> intro hb <;> try intro hb1) | refine QL Tryz.call140 (hV.out _) ?_ | fail)
   all_goals exact Qret
 clear hno
 subst hq
 rw [decide_eq_true hv0, decide_eq_true hv8, Bool.true_and, Bool.true_and, Bool.true_and, Bool.true_and]
 by_cases k5 : kind = 5
 · subst k5
   rw [if_pos rfl, if_pos rfl]
   cases neg with
   | true =>
    rw [Bool.not_true, Bool.false_and, if_neg Bool.false_ne_true]
    refine Qin [6] Tryz.func184 Tryz.results184 Tryz.ntmps184 ?_
    repeat' (first | refine QX ?_ | (refine QB ?_; intro b) | (with_reducible refine QZ ?_ <;> (try constructor) <;> intro hb <;> try intro hb1) | refine QL Tryz.call140 (hV.out _) ?_ | fail)
    all_goals exact Qret
   | false =>
    rw [Bool.not_false, Bool.true_and]
    cases qb with
    | true =>
     rw [Bool.not_true, if_neg Bool.false_ne_true]
     refine Qin [6] Tryz.func184 Tryz.results184 Tryz.ntmps184 ?_
     repeat' (first | refine QX ?_ | (refine QB ?_; intro b) | (with_reducible refine QZ ?_ <;> (try constructor) <;> intro hb <;> try intro hb1) | refine QL Tryz.call140 (hV.out _) ?_ | fail)
     all_goals exact Qret
    | false =>
     rw [Bool.not_false, if_pos rfl]
     have hi := hins.out rfl
     have hmem : decide (var ∈ insK B var) = true := by rw [hi]; simp
     rw [← hi]
     clear hi hins
     refine Qin [6] Tryz.func184 Tryz.results184 Tryz.ntmps184 ?_
     repeat' (first | refine QX ?_ | (refine QB ?_; intro b) | (with_reducible refine QZ ?_ <;> (try constructor) <;> intro hb <;> try intro hb1) | refine QL Tryz.call140 (hV.out _) ?_ | fail)
     all_goals exact Qret
 rw [if_neg k5, if_neg k5, ite_self]
 by_cases k69 : kind = 6 ∨ kind = 7 ∨ kind = 8 ∨ kind = 9
 · rw [if_pos k69]
   rcases k69 with rfl | rfl | rfl | rfl
   all_goals (
    refine Qin [6] Tryz.func184 Tryz.results184 Tryz.ntmps184 ?_
    repeat' (first | refine QX ?_ | (refine QB ?_; intro b) | (with_reducible refine QZ ?_ <;> (try constructor) <;> intro hb <;> try intro hb1) | refine QL Tryz.call140 (hV.out _) ?_ | fail)
    all_goals exact Qret)
 rw [if_neg k69]
 have b5 : (kind == 5) = false := beq_eq_false_iff_ne.2 k5
 have b1 : (kind == 1) = false := beq_eq_false_iff_ne.2 q_o
 have b2 : (kind == 2) = false := beq_eq_false_iff_ne.2 q_o
 have b3 : (kind == 3) = false := beq_eq_false_iff_ne.2 q_o
 have b4 : (kind == 4) = false := beq_eq_false_iff_ne.2 q_o
 have b6 : (kind == 6) = false := beq_eq_false_iff_ne.2 q_o
 have b7 : (kind == 7) = false := beq_eq_false_iff_ne.2 q_o
 have b8 : (kind == 8) = false := beq_eq_false_iff_ne.2 q_o
 have b9 : (kind == 9) = false := beq_eq_false_iff_ne.2 q_o
 refine Qin [6] Tryz.func184 Tryz.results184 Tryz.ntmps184 ?_
 repeat' (first | refine QX ?_ | (refine QB ?_; intro b) | (with_reducible refine QZ ?_ <;> (try constructor) <;> intro hb <;> try intro hb1) | refine QL Tryz.call140 (hV.out _) ?_ | fail)
 all_goals exact Qret
end
section
attribute [local push_cast] encB encI encC V.cells_mk V.cells_len Nat.mul_one Int.sub_zero List.map_nil beq_self_eq_true bne_self_eq_false List.head?_cons
abbrev lookC (LS : List (List D)) (nm : ByteArray) (sal : Int) (PS AS : List (List D)) (r : Nat) : List D := [.sl .shared LS, .str nm, .i sal, .sl .shared PS, .sl .shared AS, .mp r]
namespace Rul
def testS (ns : Int) (neg : Bool) (B : List Int) (t : Ts) : Bool × List Int := (!testB ns neg B t, if testB ns neg B t = true then testN B t else B)
theorem anyS_tests (ns : Int) (neg : Bool) : ∀ (l : List Ts) (B : List Int), anyS (testS ns neg) B l = (!(testsF ns neg l B).1, (testsF ns neg l B).2)
 | [], B => rfl
 | t :: l, B => by
  rw [anyS, testsF]
  unfold testS
  cases h : testB ns neg B t with
  | true =>
   dsimp only
   rw [if_neg (by decide), if_pos rfl, if_pos rfl]
   exact anyS_tests ns neg l _
  | false => rfl
def patS (L : List Tm) (B : List Int) (p : Pt) : Bool × List Int := (!(patF L B p).1, (patF L B p).2)
theorem anyS_pats (L : List Tm) : ∀ (l : List Pt) (B : List Int), anyS (patS L) B l = (!(patsF L l B).1, (patsF L l B).2)
 | [], B => rfl
 | p :: l, B => by
  rw [anyS, patsF]
  unfold patS
  cases h : (patF L B p).1 with
  | true =>
   dsimp only
   rw [if_neg (by decide), if_pos rfl]
   exact anyS_pats L l _
  | false => rfl
end Rul
theorem rulePat1F (L : List Tm) (hL : ∀ t ∈ L, TOk t) (hl : L.length ≤ 1000000) (nm : ByteArray) (sal : Int) (PS AS : List (List D)) (r : Nat) (p : Pt) (t : Ts) (ht : VQ t.val) (B : List Int) (st : St) : TrF Tryz.prog 183 [.agg t.cells, .ip [.ip (lookC (L.map Tm.cells) nm sal PS AS r)], .ip p.cells] (bmap r B :: st) fun d st' => d = .b (Rul.testS (Rul.slots L p.tmpl).length p.neg B t).1 ∧ st' = bmap r (Rul.testS (Rul.slots L p.tmpl).length p.neg B t).2 :: st := by
 have hT := ruleTestF L hL hl nm sal PS AS r p t ht B st
 unfold Rul.testS
 dsimp only
 generalize (if Rul.testB _ _ _ _ = true then Rul.testN B t else B) = B2 at *
 generalize Rul.testB _ _ _ _ = q at *
 generalize L.map Tm.cells = LS at *
 cases p with
 | mk tmpl neg tests =>
 cases t with
 | mk kind slot var val =>
 cases val with
 | mk k1 n1 s1 l1 =>
 unfold Pt.cells at *
 rw [Ts.cells_mk] at *
 dsimp only at *
 generalize tests.map Ts.cells = TS at *
 replace hT := Lib.hid hT
 refine Qin [4] Tryz.func183 Tryz.results183 Tryz.ntmps183 ?_
 repeat' (first | refine QX ?_ | (refine QB ?_; intro b) | (with_reducible refine QZ ?_ <;> (try constructor) <;> intro hb <;> try intro hb1) | refine Qc Tryz.call184 hT.out ?_ | fail)
 all_goals exact Qret
theorem rulePatF (L : List Tm) (hL : ∀ t ∈ L, TOk t) (hl : L.length ≤ 1000000) (nm : ByteArray) (sal : Int) (PS AS : List (List D)) (r : Nat) (p : Pt) (ht : ∀ t ∈ p.tests, VQ t.val) (htl : p.tests.length ≤ 1000000) (B : List Int) (st : St) : TrF Tryz.prog 151 [.ip (lookC (L.map Tm.cells) nm sal PS AS r), .agg p.cells] (bmap r B :: st) fun d st' => d = .b (Rul.patF L B p).1 ∧ st' = bmap r (Rul.patF L B p).2 :: st := by
 have hC := conFTest 183 [.ip [.ip (lookC (L.map Tm.cells) nm sal PS AS r)], .ip p.cells] Tryz.call183 p.tests htl (Rul.testS (Rul.slots L p.tmpl).length p.neg) (fun B => bmap r B :: st) (fun t h B => rulePat1F L hL hl nm sal PS AS r p t (ht t h) B st) B
 rw [Rul.anyS_tests] at hC
 unfold Rul.patF
 have hm : (L.map Tm.cells).length = L.length := List.length_map ..
 have hm2 : (p.tests.map Ts.cells).length = p.tests.length := List.length_map ..
 dsimp only at hC
 generalize Rul.testsF _ _ _ _ = q at *
 obtain ⟨q, B2⟩ := q
 dsimp only at *
 generalize L.map Tm.cells = LS at *
 clear ht hL
 cases p with
 | mk tmpl neg tests =>
 unfold Pt.cells at *
 dsimp only at *
 generalize tests.map Ts.cells = TS at *
 replace hC := Lib.hid hC
 by_cases h1 : tmpl < 0
 · rw [if_neg q_o]
   refine Qin [4] Tryz.func151 Tryz.results151 Tryz.ntmps151 ?_
   exact WR
 by_cases h2 : (L.length : Int) ≤ tmpl
 · rw [if_neg q_o]
   refine Qin [4] Tryz.func151 Tryz.results151 Tryz.ntmps151 ?_
   exact WR
 by_cases h3 : 6 < (tests.length : Int)
 · rw [if_neg q_o]
   refine Qin [4] Tryz.func151 Tryz.results151 Tryz.ntmps151 ?_
   exact WR
 rw [if_pos q_o]
 cases q
 all_goals (
  refine Qin [4] Tryz.func151 Tryz.results151 Tryz.ntmps151 ?_
  repeat' (first | refine QX ?_ | (refine QB ?_; intro b) | (with_reducible refine QZ ?_ <;> (try constructor) <;> intro hb <;> try intro hb1) | refine Qc Tryz.call182 hC.out ?_ | fail)
  all_goals exact Qret)
theorem ruleOne1F (L : List Tm) (hL : ∀ t ∈ L, TOk t) (hl : L.length ≤ 1000000) (nm : ByteArray) (sal : Int) (PS AS : List (List D)) (r b : Nat) (p : Pt) (ht : ∀ t ∈ p.tests, VQ t.val) (htl : p.tests.length ≤ 1000000) (B : List Int) (st : St) : TrF Tryz.prog 150 [.agg p.cells, .ptr b 0] (.box b 172 [.ip (lookC (L.map Tm.cells) nm sal PS AS r)] :: bmap r B :: st) fun d st' => d = .b (Rul.patS L B p).1 ∧ st' = .box b 172 [.ip (lookC (L.map Tm.cells) nm sal PS AS r)] :: bmap r (Rul.patS L B p).2 :: st := by
 have hP := rulePatF L hL hl nm sal PS AS r p ht htl B
 unfold Rul.patS
 generalize Rul.patF L B p = q at *
 obtain ⟨q, B2⟩ := q
 dsimp only at *
 generalize L.map Tm.cells = LS at *
 clear ht hL htl
 cases p with
 | mk tmpl neg tests =>
 unfold Pt.cells at *
 dsimp only at *
 generalize tests.map Ts.cells = TS at *
 replace hP := Lib.hid hP
 cases q
 all_goals (
  refine Qin [3] Tryz.func150 Tryz.results150 Tryz.ntmps150 ?_
  exact WR)
theorem ruleExprF (LS : List (List D)) (nm : ByteArray) (sal : Int) (PS AS : List (List D)) (r : Nat) (e : Ex) (s : Sl) (he : VQ e.val) (B : List Int) (st : St) : TrF Tryz.prog 186 [.ip (lookC LS nm sal PS AS r), .agg e.cells, .agg s.cells] (bmap r B :: st) fun d st' => d = .b (Rul.exprB B e s) ∧ st' = bmap r B :: st := by
 have hV := valSameB e.val V.zero he.ok.bg zero_ok.bg
 have hF := schFitsF s.name s.types s.req s.dv e.val (by have := he.nodes; omega)
 rw [zero_cells] at hV
 cases e with
 | mk iv var val =>
 cases s with
 | mk sn sty srq sdv =>
 unfold Rul.exprB
 dsimp only at *
 generalize (val.cmp V.zero == 0) = qv at *
 generalize Sch.fits _ val = qf at *
 generalize hqb : decide (var ∈ B) = qb at *
 clear he
 cases val with
 | mk k1 n1 s1 l1 =>
 cases sdv with
 | mk k2 n2 s2 l2 =>
 rw [Ex.cells_mk]
 rw [Sl.cells_mk] at *
 rw [V.cells_mk] at hV hF
 generalize l1.map V.cells = VL at *
 generalize l2.map V.cells = VL2 at *
 replace hV := Lib.hid hV
 replace hF := Lib.hid hF
 cases iv with
 | true =>
  rw [if_pos rfl]
  cases qb
  all_goals (
   refine Qin [6] Tryz.func186 Tryz.results186 Tryz.ntmps186 ?_
   repeat' (first | refine QX ?_ | (refine QB ?_; intro b) | (with_reducible refine QZ ?_ <;> (try constructor) <;> intro hb <;> try intro hb1) | refine QL Tryz.call140 (hV.out _) ?_ | fail)
   all_goals exact Qret)
 | false =>
  rw [if_neg Bool.false_ne_true]
  by_cases hv : var = 0
  · rw [beq_iff_eq.2 hv, Bool.true_and]
    refine Qin [6] Tryz.func186 Tryz.results186 Tryz.ntmps186 ?_
    exact WR
  · have hv2 : (var == 0) = false := beq_eq_false_iff_ne.2 hv
    rw [hv2, Bool.false_and]
    refine Qin [6] Tryz.func186 Tryz.results186 Tryz.ntmps186 ?_
    exact WR
theorem rulePosF (LS : List (List D)) (nm : ByteArray) (sal : Int) (ps : List Pt) (AS : List (List D)) (r : Nat) (k : Int) (st : St) : TrF Tryz.prog 187 [.ip (lookC LS nm sal (ps.map Pt.cells) AS r), .i k] st fun d st' => d = .b (Rul.posB ps k) ∧ st' = st := by
 have hm : (ps.map Pt.cells).length = ps.length := List.length_map ..
 unfold Rul.posB
 by_cases h0 : k < 0
 · rw [decide_eq_false (show ¬ 0 ≤ k by omega), Bool.false_and, Bool.false_and]
   generalize ps.map Pt.cells = PS at *
   refine Qin [4] Tryz.func187 Tryz.results187 Tryz.ntmps187 ?_
   exact WR
 by_cases h1 : (ps.length : Int) ≤ k
 · rw [decide_eq_false (show ¬ k < ps.length by omega), Bool.and_false, Bool.false_and]
   generalize ps.map Pt.cells = PS at *
   refine Qin [4] Tryz.func187 Tryz.results187 Tryz.ntmps187 ?_
   exact WR
 rw [decide_eq_true (show 0 ≤ k by omega), decide_eq_true (show k < ps.length by omega), Bool.true_and, Bool.true_and]
 obtain ⟨n, rfl⟩ : ∃ n : Nat, (n : Int) = k := ⟨k.toNat, Int.toNat_of_nonneg q_o⟩
 obtain ⟨p, hp⟩ := gEx (l := ps) (i := n) q_o
 have hc : (ps.map Pt.cells)[n]? = some p.cells := by rw [List.getElem?_map, hp]; rfl
 rw [Int.toNat_natCast, hp, Option.any_some]
 clear hp
 generalize ps.map Pt.cells = PS at *
 cases p with
 | mk tmpl neg tests =>
 unfold Pt.cells at *
 dsimp only at *
 generalize tests.map Ts.cells = TS at *
 refine Qin [4] Tryz.func187 Tryz.results187 Tryz.ntmps187 ?_
 exact WR
end
section
attribute [local push_cast] encB encI encC V.cells_mk V.cells_len Nat.mul_one Int.sub_zero List.map_nil beq_self_eq_true bne_self_eq_false List.head?_cons
set_option maxHeartbeats 16000000
namespace Rul
theorem exprsB_drop {B : List Int} {l : List Ex} {m : List Sl} {i : Nat} {e : Ex} {s : Sl} (h1 : l[i]? = some e) (h2 : m[i]? = some s) : exprsB B (l.drop i) (m.drop i) = (exprB B e s && exprsB B (l.drop (i + 1)) (m.drop (i + 1))) := by
 obtain ⟨k1, rfl⟩ := List.getElem?_eq_some_iff.1 h1
 obtain ⟨k2, rfl⟩ := List.getElem?_eq_some_iff.1 h2
 rw [List.drop_eq_getElem_cons k1, List.drop_eq_getElem_cons k2, exprsB]
end Rul
theorem ruleActMakeF (L : List Tm) (hL : ∀ t ∈ L, TOk t) (hl : L.length ≤ 1000000) (nm : ByteArray) (sal : Int) (ps : List Pt) (AS : List (List D)) (r : Nat) (pat tmpl slot : Int) (vals : List Ex) (ha : ∀ e ∈ vals, VQ e.val) (hvl : vals.length ≤ 1000000) (B : List Int) (st : St) : TrF Tryz.prog 154 [.ip (lookC (L.map Tm.cells) nm sal (ps.map Pt.cells) AS r), .agg (Ac.mk 1 pat tmpl slot vals).cells] (bmap r B :: st) fun d st' => d = .b (Rul.actB L ps B ⟨1, pat, tmpl, slot, vals⟩) ∧ st' = bmap r B :: st := by
 have hS := ruleSlotsF L hL hl tmpl
 have e0 : Rul.actB L ps B ⟨1, pat, tmpl, slot, vals⟩ = (((pat == 0) && (slot == 0)) && ((decide ((Rul.slots L tmpl).length ≠ 0) && decide (vals.length = (Rul.slots L tmpl).length)) && Rul.exprsB B vals (Rul.slots L tmpl))) := rfl
 rw [e0]
 clear e0 hL hl
 generalize Rul.slots L tmpl = SL at *
 generalize L.map Tm.cells = LS at *
 generalize ps.map Pt.cells = PS at *
 unfold Ac.cells
 dsimp only
 have hm1 : (vals.map Ex.cells).length = vals.length := List.length_map ..
 have hm2 : (SL.map Sl.cells).length = SL.length := List.length_map ..
 have hc1 := hMp Ex.cells vals
 have hc2 := hMp Sl.cells SL
 have hE := Lib.hid fun (e : Ex) (he : e ∈ vals) (s : Sl) => ruleExprF LS nm sal PS AS r e s (ha e he) B
 clear ha
 generalize vals.map Ex.cells = ES at *
 generalize SL.map Sl.cells = SS at *
 replace hS := Lib.hid hS
 by_cases h1 : pat = 0
 rotate_left
 · have b1 : (pat == 0) = false := beq_eq_false_iff_ne.2 h1
   rw [b1, Bool.false_and, Bool.false_and]
   refine Qin [4] Tryz.func154 Tryz.results154 Tryz.ntmps154 ?_
   exact WR
 subst h1
 by_cases h2 : slot = 0
 rotate_left
 · have b2 : (slot == 0) = false := beq_eq_false_iff_ne.2 h2
   rw [b2, Bool.and_false, Bool.false_and]
   refine Qin [4] Tryz.func154 Tryz.results154 Tryz.ntmps154 ?_
   exact WR
 subst h2
 rw [beq_self_eq_true, Bool.true_and, Bool.true_and]
 by_cases h3 : SL.length = 0
 · rw [decide_eq_false (fun h => h h3), Bool.false_and, Bool.false_and]
   refine Qin [4] Tryz.func154 Tryz.results154 Tryz.ntmps154 ?_
   exact WR
 by_cases h4 : vals.length = SL.length
 rotate_left
 · rw [decide_eq_false h4, Bool.and_false, Bool.false_and]
   have h5 : ¬ (vals.length : Int) = (SL.length : Int) := by omega
   refine Qin [4] Tryz.func154 Tryz.results154 Tryz.ntmps154 ?_
   exact WR
 rw [decide_eq_true h3, decide_eq_true h4, Bool.true_and, Bool.true_and]
 obtain ⟨Q, hQ⟩ : ∃ Q, Rul.exprsB B vals SL = Q := ⟨_, rfl⟩
 rw [hQ]
 have HQ : Hid (Rul.exprsB B (vals.drop 0) (SL.drop 0) = Q) := hQ
 clear hQ
 have h5 : (vals.length : Int) = (SL.length : Int) := by omega
 have h6 : ¬ (SL.length : Int) = 0 := by omega
 refine Qin [4] Tryz.func154 Tryz.results154 Tryz.ntmps154 ?_
 repeat' (first | refine QX ?_ | (refine QB ?_; intro b) | (with_reducible refine QZ ?_ <;> (try constructor) <;> intro hb <;> try intro hb1) | fail)
 clear hS
 refine tr_loopd (ι := Nat) (fun i A st' => i ≤ vals.length ∧ Hid (Rul.exprsB B (vals.drop i) (SL.drop i) = Q) ∧ A.df = [] ∧ A.e 0 = .ip (lookC LS nm sal PS AS r) ∧ A.e 5 = .sl .shared SS ∧ A.e 42 = .sl .shared ES ∧ A.e 43 = .i vals.length ∧ A.e 44 = .i i ∧ st' = bmap r B :: st) (fun i => vals.length - i) 0 ⟨Nat.zero_le _, HQ, Qf, Qf, Qf, Qf, Qf, Qf, rfl⟩ ?_
 clear HQ
 rintro i A st' ⟨hi, HT, hdf, e0, e5, e42, e43, e44, rfl⟩
 by_cases hlt : i < vals.length
 · obtain ⟨e, he⟩ := gEx hlt
   obtain ⟨s, hs⟩ := gEx (l := SL) (i := i) q_o
   have g1 := hc1.out i e he
   have g2 := hc2.out i s hs
   have hF := hE.out e (List.mem_of_getElem? he) s
   have HE := HT.out
   rw [Rul.exprsB_drop he hs] at HE
   clear HT he hs hE hc1 hc2
   obtain ⟨G, hGG⟩ : ∃ G, Rul.exprsB B (vals.drop (i + 1)) (SL.drop (i + 1)) = G := ⟨_, rfl⟩
   rw [hGG] at HE
   replace hGG := Lib.hid hGG
   generalize Rul.exprB B e s = q at *
   cases e with
   | mk iv var val =>
   cases s with
   | mk an at_ ar av =>
   cases val with
   | mk k1 n1 s1 l1 =>
   cases av with
   | mk k2 n2 s2 l2 =>
   rw [Ex.cells_mk] at g1 hF
   rw [Sl.cells_mk] at g2 hF
   replace hF := Lib.hid hF
   have hi5 : i < SL.length := by omega
   cases q with
   | true =>
    rw [Bool.true_and] at HE
    replace HE := Lib.hid (hGG.out.trans HE)
    clear hGG
    repeat' (first | refine QV ?_ | ((with_reducible refine QW ?_); intro hne; simp only [nes, ne1, and_assoc] at hne; repeat (have hq := hne.1; replace hne := hne.2)) | refine QY ?_ | (refine QB ?_; intro b) | (with_reducible refine QZ ?_ <;> (try constructor) <;> intro hb <;> try intro hb1) | fail)
    refine ⟨i + 1, bmap r B :: st, q_u, ⟨hlt, HE, ?_, ?_, ?_, ?_, ?_, ?_, rfl⟩, by omega⟩
    all_goals exact Qf
   | false =>
    rw [Bool.false_and] at HE
    subst HE
    clear hGG
    repeat' (first | refine QV ?_ | ((with_reducible refine QW ?_); intro hne; simp only [nes, ne1, and_assoc] at hne; repeat (have hq := hne.1; replace hne := hne.2)) | refine QY ?_ | (refine QB ?_; intro b) | (with_reducible refine QZ ?_ <;> (try constructor) <;> intro hb <;> try intro hb1) | fail)
    all_goals exact Qret
 · have HE := HT.out
   rw [List.drop_of_length_le q_o, Rul.exprsB] at HE
   · subst HE
     clear HT
     exact WR
   · intro _ _ _ _ h; cases h
theorem ruleActF (L : List Tm) (hL : ∀ t ∈ L, TOk t) (hl : L.length ≤ 1000000) (nm : ByteArray) (sal : Int) (ps : List Pt) (AS : List (List D)) (r : Nat) (a : Ac) (ha : ∀ e ∈ a.vals, VQ e.val) (hvl : a.vals.length ≤ 1000000) (B : List Int) (st : St) : TrF Tryz.prog 154 [.ip (lookC (L.map Tm.cells) nm sal (ps.map Pt.cells) AS r), .agg a.cells] (bmap r B :: st) fun d st' => d = .b (Rul.actB L ps B a) ∧ st' = bmap r B :: st := by
 cases a with
 | mk kind pat tmpl slot vals =>
 by_cases k1 : kind = 1
 · subst k1
   exact ruleActMakeF L hL hl nm sal ps AS r pat tmpl slot vals ha hvl B st
 have hP := rulePosF (L.map Tm.cells) nm sal ps AS r pat
 have hm1 : (vals.map Ex.cells).length = vals.length := List.length_map ..
 have b1 : (kind == 1) = false := beq_eq_false_iff_ne.2 k1
 by_cases k2 : kind = 2
 · subst k2
   have e0 : Rul.actB L ps B ⟨2, pat, tmpl, slot, vals⟩ = (Rul.posB ps pat && ((tmpl == 0) && ((slot == 0) && decide (vals.length = 0)))) := rfl
   rw [e0]
   unfold Ac.cells
   dsimp only
   generalize Rul.posB ps pat = q at *
   generalize L.map Tm.cells = LS at *
   generalize ps.map Pt.cells = PS at *
   generalize vals.map Ex.cells = ES at *
   replace hP := Lib.hid hP
   cases q with
   | false =>
    rw [Bool.false_and]
    refine Qin [4] Tryz.func154 Tryz.results154 Tryz.ntmps154 ?_
    exact WR
   | true =>
   rw [Bool.true_and]
   by_cases h1 : tmpl = 0
   rotate_left
   · have b1 : (tmpl == 0) = false := beq_eq_false_iff_ne.2 h1
     rw [b1, Bool.false_and]
     refine Qin [4] Tryz.func154 Tryz.results154 Tryz.ntmps154 ?_
     exact WR
   subst h1
   by_cases h2 : slot = 0
   rotate_left
   · have b2 : (slot == 0) = false := beq_eq_false_iff_ne.2 h2
     rw [b2, Bool.false_and, Bool.and_false]
     refine Qin [4] Tryz.func154 Tryz.results154 Tryz.ntmps154 ?_
     exact WR
   subst h2
   rw [beq_self_eq_true, Bool.true_and, Bool.true_and]
   by_cases h3 : vals.length = 0
   · rw [decide_eq_true h3]
     have h4 : (vals.length : Int) = 0 := by omega
     refine Qin [4] Tryz.func154 Tryz.results154 Tryz.ntmps154 ?_
     exact WR
   · rw [decide_eq_false h3]
     have h4 : ¬ (vals.length : Int) = 0 := by omega
     have h5 : ((vals.length : Int) == 0) = false := beq_eq_false_iff_ne.2 h4
     refine Qin [4] Tryz.func154 Tryz.results154 Tryz.ntmps154 ?_
     exact WR
 have b2 : (kind == 2) = false := beq_eq_false_iff_ne.2 k2
 by_cases k3 : kind = 3
 · subst k3
   have e0 : Rul.actB L ps B ⟨3, pat, tmpl, slot, vals⟩ = ((Rul.posB ps pat && ((tmpl == 0) && decide (vals.length = 1))) && (match (generalizing := false) ps[pat.toNat]?, vals with
    | some p, [e] => decide (0 ≤ slot) && (decide (slot < (Rul.slots L p.tmpl).length) && (match (Rul.slots L p.tmpl)[slot.toNat]? with | some s => Rul.exprB B e s | none => false))
    | _, _ => false)) := rfl
   rw [e0]
   clear e0
   cases hq : Rul.posB ps pat with
   | false =>
    rw [hq] at hP
    rw [Bool.false_and, Bool.false_and]
    unfold Ac.cells
    dsimp only
    generalize L.map Tm.cells = LS at *
    generalize ps.map Pt.cells = PS at *
    generalize vals.map Ex.cells = ES at *
    replace hP := Lib.hid hP
    refine Qin [4] Tryz.func154 Tryz.results154 Tryz.ntmps154 ?_
    exact WR
   | true =>
   rw [hq] at hP
   rw [Bool.true_and]
   by_cases h1 : tmpl = 0
   rotate_left
   · have b1 : (tmpl == 0) = false := beq_eq_false_iff_ne.2 h1
     rw [b1, Bool.false_and, Bool.false_and]
     unfold Ac.cells
     dsimp only
     generalize L.map Tm.cells = LS at *
     generalize ps.map Pt.cells = PS at *
     generalize vals.map Ex.cells = ES at *
     replace hP := Lib.hid hP
     refine Qin [4] Tryz.func154 Tryz.results154 Tryz.ntmps154 ?_
     exact WR
   subst h1
   rw [beq_self_eq_true, Bool.true_and]
   by_cases h2 : vals.length = 1
   rotate_left
   · rw [decide_eq_false h2, Bool.false_and]
     have h3 : ¬ (vals.length : Int) = 1 := by omega
     unfold Ac.cells
     dsimp only
     generalize L.map Tm.cells = LS at *
     generalize ps.map Pt.cells = PS at *
     generalize vals.map Ex.cells = ES at *
     replace hP := Lib.hid hP
     refine Qin [4] Tryz.func154 Tryz.results154 Tryz.ntmps154 ?_
     exact WR
   rw [decide_eq_true h2, Bool.true_and]
   obtain ⟨e, rfl⟩ : ∃ e, vals = [e] := List.length_eq_one_iff.1 h2
   unfold Rul.posB at hq
   rw [Bool.and_eq_true, Bool.and_eq_true, decide_eq_true_eq, decide_eq_true_eq] at hq
   obtain ⟨⟨hp0, hp1⟩, -⟩ := hq
   obtain ⟨n, rfl⟩ : ∃ n : Nat, (n : Int) = pat := ⟨pat.toNat, Int.toNat_of_nonneg hp0⟩
   obtain ⟨p, hp⟩ := gEx (l := ps) (i := n) q_o
   have hpc : (ps.map Pt.cells)[n]? = some p.cells := by rw [List.getElem?_map, hp]; rfl
   have hpl : (ps.map Pt.cells).length = ps.length := List.length_map ..
   rw [Int.toNat_natCast, hp]
   dsimp only
   have hS := ruleSlotsF L hL hl p.tmpl
   have hE := fun s => ruleExprF (L.map Tm.cells) nm sal (ps.map Pt.cells) AS r e s (ha e (List.mem_singleton.2 rfl)) B
   have hm2 : ((Rul.slots L p.tmpl).map Sl.cells).length = (Rul.slots L p.tmpl).length := List.length_map ..
   have hc2 : ∀ (i : Nat) (v : Sl), (Rul.slots L p.tmpl)[i]? = some v → ((Rul.slots L p.tmpl).map Sl.cells)[i]? = some v.cells := fun i v h => by rw [List.getElem?_map, h]; rfl
   generalize Rul.slots L p.tmpl = SL at *
   clear hp ha hL hl hvl h2 hm1
   generalize L.map Tm.cells = LS at *
   generalize ps.map Pt.cells = PS at *
   generalize SL.map Sl.cells = SS at *
   unfold Ac.cells Pt.cells at *
   dsimp only at *
   rw [List.map_cons, List.map_nil]
   cases p with
   | mk ptm pneg pts =>
   dsimp only at *
   generalize pts.map Ts.cells = TS at *
   replace hP := Lib.hid hP
   replace hS := Lib.hid hS
   cases e with
   | mk iv var val =>
   cases val with
   | mk ek en es el =>
   rw [Ex.cells_mk] at *
   by_cases s0 : slot < 0
   · rw [decide_eq_false (show ¬ 0 ≤ slot by omega), Bool.false_and]
     clear hE hc2
     refine Qin [4] Tryz.func154 Tryz.results154 Tryz.ntmps154 ?_
     repeat' (first | refine QV ?_ | ((with_reducible refine QW ?_); intro hne; simp only [nes, ne1, and_assoc] at hne; repeat (have hq := hne.1; replace hne := hne.2)) | refine QY ?_ | (refine QB ?_; intro b) | (with_reducible refine QZ ?_ <;> (try constructor) <;> intro hb <;> try intro hb1) | fail)
     all_goals exact Qret
   by_cases s1 : (SL.length : Int) ≤ slot
   · rw [decide_eq_false (show ¬ slot < SL.length by omega), Bool.false_and, Bool.and_false]
     clear hE hc2
     refine Qin [4] Tryz.func154 Tryz.results154 Tryz.ntmps154 ?_
     repeat' (first | refine QV ?_ | ((with_reducible refine QW ?_); intro hne; simp only [nes, ne1, and_assoc] at hne; repeat (have hq := hne.1; replace hne := hne.2)) | refine QY ?_ | (refine QB ?_; intro b) | (with_reducible refine QZ ?_ <;> (try constructor) <;> intro hb <;> try intro hb1) | fail)
     all_goals exact Qret
   rw [decide_eq_true (show 0 ≤ slot by omega), decide_eq_true (show slot < SL.length by omega), Bool.true_and, Bool.true_and]
   obtain ⟨m, rfl⟩ : ∃ m : Nat, (m : Int) = slot := ⟨slot.toNat, Int.toNat_of_nonneg q_o⟩
   obtain ⟨s, hs⟩ := gEx (l := SL) (i := m) q_o
   have hsc := hc2 m s hs
   have hF := hE s
   rw [Int.toNat_natCast, hs]
   dsimp only
   clear hE hc2 hs
   generalize Rul.exprB B _ s = q at *
   cases s with
   | mk an at_ ar av =>
   cases av with
   | mk k2 n2 s2 l2 =>
   rw [Sl.cells_mk] at hsc hF
   replace hF := Lib.hid hF
   have hm3 : m < SL.length := by omega
   have hn3 : n < ps.length := by omega
   refine Qin [4] Tryz.func154 Tryz.results154 Tryz.ntmps154 ?_
   repeat' (first | refine QV ?_ | ((with_reducible refine QW ?_); intro hne; simp only [nes, ne1, and_assoc] at hne; repeat (have hq := hne.1; replace hne := hne.2)) | refine QY ?_ | (refine QB ?_; intro b) | (with_reducible refine QZ ?_ <;> (try constructor) <;> intro hb <;> try intro hb1) | fail)
   all_goals exact Qret
 have b3 : (kind == 3) = false := beq_eq_false_iff_ne.2 k3
 have e0 : Rul.actB L ps B ⟨kind, pat, tmpl, slot, vals⟩ = ((kind == 4) && ((pat == 0) && ((tmpl == 0) && ((slot == 0) && decide (vals.length = 0))))) := by
  unfold Rul.actB
  rw [if_neg k1, if_neg k2, if_neg k3]
 rw [e0]
 unfold Ac.cells
 dsimp only
 clear e0 hP ha
 generalize L.map Tm.cells = LS at *
 generalize ps.map Pt.cells = PS at *
 generalize vals.map Ex.cells = ES at *
 by_cases h0 : kind = 4
 rotate_left
 · have c1 : (kind == 4) = false := beq_eq_false_iff_ne.2 h0
   rw [c1, Bool.false_and]
   refine Qin [4] Tryz.func154 Tryz.results154 Tryz.ntmps154 ?_
   exact WR
 subst h0
 rw [beq_self_eq_true, Bool.true_and]
 by_cases h1 : pat = 0
 rotate_left
 · have c1 : (pat == 0) = false := beq_eq_false_iff_ne.2 h1
   rw [c1, Bool.false_and]
   refine Qin [4] Tryz.func154 Tryz.results154 Tryz.ntmps154 ?_
   exact WR
 subst h1
 rw [beq_self_eq_true, Bool.true_and]
 by_cases h2 : tmpl = 0
 rotate_left
 · have c1 : (tmpl == 0) = false := beq_eq_false_iff_ne.2 h2
   rw [c1, Bool.false_and]
   refine Qin [4] Tryz.func154 Tryz.results154 Tryz.ntmps154 ?_
   exact WR
 subst h2
 rw [beq_self_eq_true, Bool.true_and]
 by_cases h3 : slot = 0
 rotate_left
 · have c1 : (slot == 0) = false := beq_eq_false_iff_ne.2 h3
   rw [c1, Bool.false_and]
   refine Qin [4] Tryz.func154 Tryz.results154 Tryz.ntmps154 ?_
   exact WR
 subst h3
 rw [beq_self_eq_true, Bool.true_and]
 by_cases h3 : vals.length = 0
 · rw [decide_eq_true h3]
   have h4 : (vals.length : Int) = 0 := by omega
   refine Qin [4] Tryz.func154 Tryz.results154 Tryz.ntmps154 ?_
   exact WR
 · rw [decide_eq_false h3]
   have h4 : ¬ (vals.length : Int) = 0 := by omega
   have h5 : ((vals.length : Int) == 0) = false := beq_eq_false_iff_ne.2 h4
   refine Qin [4] Tryz.func154 Tryz.results154 Tryz.ntmps154 ?_
   exact WR
namespace Rul
def actS (L : List Tm) (ps : List Pt) (B : List Int) (a : Ac) : Bool × List Int := (!actB L ps B a, B)
theorem anyS_acts (L : List Tm) (ps : List Pt) (B : List Int) : ∀ l : List Ac, anyS (actS L ps) B l = (!(l.all fun a => actB L ps B a), B)
 | [] => rfl
 | a :: l => by
  rw [anyS, List.all_cons]
  unfold actS
  cases h : actB L ps B a with
  | true =>
   dsimp only
   rw [if_neg (by decide), Bool.true_and]
   exact anyS_acts L ps B l
  | false => rfl
structure RK (x : Rl) : Prop where
 nm : x.name.size ≤ 900000
 np : x.pats.length ≤ 100
 na : x.acts.length ≤ 100
 nt : ∀ p ∈ x.pats, p.tests.length ≤ 100
 nv : ∀ a ∈ x.acts, a.vals.length ≤ 100
 vt : ∀ p ∈ x.pats, ∀ t ∈ p.tests, VQ t.val
 va : ∀ a ∈ x.acts, ∀ e ∈ a.vals, VQ e.val
end Rul
theorem ruleOne2F (L : List Tm) (hL : ∀ t ∈ L, TOk t) (hl : L.length ≤ 1000000) (nm : ByteArray) (sal : Int) (ps : List Pt) (AS : List (List D)) (r b : Nat) (a : Ac) (ha : ∀ e ∈ a.vals, VQ e.val) (hvl : a.vals.length ≤ 1000000) (B : List Int) (st : St) : TrF Tryz.prog 153 [.agg a.cells, .ptr b 0] (.box b 172 [.ip (lookC (L.map Tm.cells) nm sal (ps.map Pt.cells) AS r)] :: bmap r B :: st) fun d st' => d = .b (Rul.actS L ps B a).1 ∧ st' = .box b 172 [.ip (lookC (L.map Tm.cells) nm sal (ps.map Pt.cells) AS r)] :: bmap r (Rul.actS L ps B a).2 :: st := by
 have hP := ruleActF L hL hl nm sal ps AS r a ha hvl B
 unfold Rul.actS
 dsimp only
 generalize Rul.actB L ps B a = q at *
 generalize L.map Tm.cells = LS at *
 generalize ps.map Pt.cells = PS at *
 clear ha hL hl hvl
 cases a with
 | mk kind pat tmpl slot vals =>
 unfold Ac.cells at *
 dsimp only at *
 generalize vals.map Ex.cells = ES at *
 replace hP := Lib.hid hP
 cases q
 all_goals (
  refine Qin [3] Tryz.func153 Tryz.results153 Tryz.ntmps153 ?_
  exact WR)
theorem ruleOneF (L : List Tm) (hL : ∀ t ∈ L, TOk t) (hl : L.length ≤ 1000000) (x : Rl) (hx : Rul.RK x) (st : St) : TrF Tryz.prog 86 [.sl .shared (L.map Tm.cells), .agg x.cells] st fun d st' => d = .b (Rul.oneB L x) ∧ st' = st := by
 have hC := fun (r b : Nat) => conFPat 150 [.ptr b 0] Tryz.call150 x.pats (by have := hx.np; omega) (Rul.patS L) (fun B => .box b 172 [.ip (lookC (L.map Tm.cells) x.name x.sal (x.pats.map Pt.cells) (x.acts.map Ac.cells) r)] :: bmap r B :: st) (fun p h B => ruleOne1F L hL hl x.name x.sal _ _ r b p (hx.vt p h) (by have := hx.nt p h; omega) B st) []
 have hA := fun (r b : Nat) => conFAct 153 [.ptr b 0] Tryz.call153 x.acts (by have := hx.na; omega) (Rul.actS L x.pats) (fun B => .box b 172 [.ip (lookC (L.map Tm.cells) x.name x.sal (x.pats.map Pt.cells) (x.acts.map Ac.cells) r)] :: bmap r B :: st) (fun a h B => ruleOne2F L hL hl x.name x.sal x.pats _ r b a (hx.va a h) (by have := hx.nv a h; omega) B st) (Rul.patsF L x.pats []).2
 have hN := valIsNameF x.name
 have hm1 : (x.pats.map Pt.cells).length = x.pats.length := List.length_map ..
 have hm2 : (x.acts.map Ac.cells).length = x.acts.length := List.length_map ..
 have hc0 : ∀ p, x.pats[0]? = some p → (x.pats.map Pt.cells)[0]? = some p.cells := fun p h => by rw [List.getElem?_map, h]; rfl
 rw [Rul.anyS_pats] at hC
 rw [Rul.anyS_acts] at hA
 unfold Rul.oneB Rul.headB
 dsimp only at hC hA
 generalize (x.acts.all fun a => Rul.actB L x.pats (Rul.patsF L x.pats []).2 a) = q2 at *
 generalize Rul.patsF L x.pats [] = qq at *
 obtain ⟨q1, B2⟩ := qq
 dsimp only at *
 cases x with
 | mk nm sal ps acts =>
 unfold Rl.cells
 dsimp only at *
 clear hx hL
 generalize V.isName nm.data.toList = qn at *
 generalize L.map Tm.cells = LS at *
 generalize ps.map Pt.cells = PS at *
 generalize acts.map Ac.cells = AS at *
 replace hN := Lib.hid hN
 replace hC := Lib.hid hC
 replace hA := Lib.hid hA
 cases qn with
 | false =>
  rw [Bool.false_and, Bool.false_and]
  refine Qin [4] Tryz.func86 Tryz.results86 Tryz.ntmps86 ?_
  exact WR
 | true =>
 rw [Bool.true_and]
 by_cases s1 : sal < -100
 · rw [decide_eq_false (show ¬ -100 ≤ sal by omega), Bool.false_and, Bool.false_and, Bool.false_and]
   refine Qin [4] Tryz.func86 Tryz.results86 Tryz.ntmps86 ?_
   exact WR
 by_cases s2 : 100 < sal
 · rw [decide_eq_false (show ¬ sal ≤ 100 by omega), Bool.and_false, Bool.false_and, Bool.false_and]
   refine Qin [4] Tryz.func86 Tryz.results86 Tryz.ntmps86 ?_
   exact WR
 rw [decide_eq_true (show -100 ≤ sal by omega), decide_eq_true (show sal ≤ 100 by omega), Bool.true_and, Bool.true_and]
 by_cases s3 : (ps.length : Int) < 1
 · rw [decide_eq_false (show ¬ 1 ≤ ps.length by omega), Bool.false_and, Bool.false_and, Bool.false_and]
   refine Qin [4] Tryz.func86 Tryz.results86 Tryz.ntmps86 ?_
   exact WR
 by_cases s4 : 4 < (ps.length : Int)
 · rw [decide_eq_false (show ¬ ps.length ≤ 4 by omega), Bool.and_false, Bool.false_and, Bool.false_and]
   refine Qin [4] Tryz.func86 Tryz.results86 Tryz.ntmps86 ?_
   exact WR
 rw [decide_eq_true (show 1 ≤ ps.length by omega), decide_eq_true (show ps.length ≤ 4 by omega), Bool.true_and, Bool.true_and]
 obtain ⟨p, hp⟩ := gEx (l := ps) (i := 0) q_o
 have hpc := hc0 p hp
 rw [hp, Option.any_some]
 clear hp hc0
 unfold Pt.cells at hpc
 cases p with
 | mk ptm png pts =>
 dsimp only at *
 generalize pts.map Ts.cells = TS at *
 cases png with
 | true =>
  rw [Bool.not_true, Bool.false_and, Bool.false_and]
  refine Qin [4] Tryz.func86 Tryz.results86 Tryz.ntmps86 ?_
  exact WR
 | false =>
 rw [Bool.not_false, Bool.true_and]
 by_cases s5 : 4 < (acts.length : Int)
 · rw [decide_eq_false (show ¬ acts.length ≤ 4 by omega), Bool.false_and]
   refine Qin [4] Tryz.func86 Tryz.results86 Tryz.ntmps86 ?_
   exact WR
 rw [decide_eq_true (show acts.length ≤ 4 by omega), Bool.true_and]
 cases q1 with
 | false =>
  rw [Bool.false_and]
  refine Qin [4] Tryz.func86 Tryz.results86 Tryz.ntmps86 ?_
  repeat' (first | refine QV ?_ | ((with_reducible refine mm_go ?_); intro bm) | refine QY ?_ | (refine QB ?_; intro b) | (with_reducible refine QZ ?_ <;> (try constructor) <;> intro hb <;> try intro hb1) | refine Qc Tryz.call149 (hC.out _ _) ?_ | fail)
  all_goals exact Qret
 | true =>
 rw [Bool.true_and]
 cases q2
 all_goals (
  refine Qin [4] Tryz.func86 Tryz.results86 Tryz.ntmps86 ?_
  repeat' (first | refine QV ?_ | ((with_reducible refine mm_go ?_); intro bm) | refine QY ?_ | (refine QB ?_; intro b) | (with_reducible refine QZ ?_ <;> (try constructor) <;> intro hb <;> try intro hb1) | refine Qc Tryz.call149 (hC.out _ _) ?_ | refine Qc Tryz.call152 (hA.out _ _) ?_ | fail)
  all_goals exact Qret)
theorem ruleRight1F (x y : Rl) (b : Nat) (st : St) : TrF Tryz.prog 88 [.agg y.cells, .ptr b 0] (.box b 55 x.cells :: st) fun d st' => d = .b (y.name.toList == x.name.toList) ∧ st' = .box b 55 x.cells :: st := by
 unfold Rl.cells
 cases x with
 | mk nm sal ps acts =>
 cases y with
 | mk nm2 sal2 ps2 acts2 =>
 dsimp only
 generalize ps.map Pt.cells = PS at *
 generalize acts.map Ac.cells = AS at *
 generalize ps2.map Pt.cells = PS2 at *
 generalize acts2.map Ac.cells = AS2 at *
 refine Qin [3] Tryz.func88 Tryz.results88 Tryz.ntmps88 ?_
 exact WR
namespace Rul
def nmS (x : Rl) (s : Unit) (y : Rl) : Bool × Unit := (y.name.toList == x.name.toList, s)
theorem anyS_nm (x : Rl) : ∀ l : List Rl, anyS (nmS x) () l = (l.any fun y => y.name.toList == x.name.toList, ())
 | [] => rfl
 | y :: l => by
  rw [anyS, List.any_cons]
  unfold nmS
  cases h : (y.name.toList == x.name.toList) with
  | true => rfl
  | false =>
   dsimp only
   rw [if_neg Bool.false_ne_true, Bool.false_or]
   exact anyS_nm x l
theorem rightL_drop {L : List Tm} {R l : List Rl} {i : Nat} {x : Rl} (h : l[i]? = some x) : rightL L R (l.drop i) i = (oneB L x && (!((R.take i).any fun y => y.name.toList == x.name.toList) && rightL L R (l.drop (i + 1)) (i + 1))) := by
 obtain ⟨h1, rfl⟩ := List.getElem?_eq_some_iff.1 h
 rw [List.drop_eq_getElem_cons h1, rightL]
end Rul
theorem ruleRightF (L : List Tm) (hL : ∀ t ∈ L, TOk t) (hl : L.length ≤ 1000000) (R : List Rl) (hR : ∀ x ∈ R, Rul.RK x) (hRl : R.length ≤ 1000000) (st : St) : TrF Tryz.prog 34 [.sl .shared (L.map Tm.cells), .sl .shared (R.map Rl.cells)] st fun d st' => d = .b (Rul.right L R) ∧ st' = st := by
 have hReg := regRightF L hL hl
 have hO := Lib.hid fun (x : Rl) (h : x ∈ R) => ruleOneF L hL hl x (hR x h)
 have hC := Lib.hid fun (x : Rl) (i b : Nat) => conFRule 88 [.ptr b 0] Tryz.call88 (R.take i) (by rw [List.length_take]; omega) (Rul.nmS x) (fun _ => .box b 55 x.cells :: st) (fun y h s => ruleRight1F x y b st) ()
 have hm : (R.map Rl.cells).length = R.length := List.length_map ..
 have hc := hMp Rl.cells R
 have htk : Hid (∀ i : Nat, (R.take i).map Rl.cells = (R.map Rl.cells).take i) := fun i => List.map_take
 unfold Rul.right
 generalize L.map Tm.cells = LS at *
 obtain ⟨RS, hRS⟩ : ∃ RS, R.map Rl.cells = RS := ⟨_, rfl⟩
 rw [hRS] at hm hc htk ⊢
 have hall : (RS.all fun e => e.length == 4) = true := by
  rw [← hRS, List.all_eq_true]
  intro e he
  obtain ⟨x, -, rfl⟩ := List.mem_map.1 he
  rfl
 clear hRS hR
 cases hq : Reg.right L with
 | false =>
  rw [hq] at hReg
  rw [Bool.false_and]
  replace hReg := Lib.hid hReg
  refine Qin [4] Tryz.func34 Tryz.results34 Tryz.ntmps34 ?_
  exact WR
 | true =>
 rw [hq] at hReg
 rw [Bool.true_and]
 replace hReg := Lib.hid hReg
 by_cases h8 : 8 < (R.length : Int)
 · rw [decide_eq_false (show ¬ R.length ≤ 8 by omega), Bool.false_and]
   refine Qin [4] Tryz.func34 Tryz.results34 Tryz.ntmps34 ?_
   exact WR
 rw [decide_eq_true (show R.length ≤ 8 by omega), Bool.true_and]
 obtain ⟨Q, hQ⟩ : ∃ Q, Rul.rightL L R R 0 = Q := ⟨_, rfl⟩
 rw [hQ]
 have HQ : Hid (Rul.rightL L R (R.drop 0) 0 = Q) := hQ
 clear hQ
 refine Qin [4] Tryz.func34 Tryz.results34 Tryz.ntmps34 ?_
 repeat' (first | refine QX ?_ | (refine QB ?_; intro b) | (with_reducible refine QZ ?_ <;> (try constructor) <;> intro hb <;> try intro hb1) | fail)
 clear hReg
 refine tr_loopd (ι := Nat) (fun i A st' => i ≤ R.length ∧ Hid (Rul.rightL L R (R.drop i) i = Q) ∧ A.df = [] ∧ A.e 0 = .sl .shared LS ∧ A.e 1 = .sl .shared RS ∧ A.e 15 = .sl .shared RS ∧ A.e 16 = .i R.length ∧ A.e 17 = .i i ∧ st = st') (fun i => R.length - i) 0 ⟨Nat.zero_le _, HQ, Qf, Qf, Qf, Qf, Qf, Qf, rfl⟩ ?_
 rintro i A st' ⟨hi, HT, hdf, e0, e1, e15, e16, e17, rfl⟩
 clear HQ
 by_cases hlt : i < R.length
 · have hle : (i : Int) ≤ R.length := by omega
   have hle2 : i ≤ R.length := by omega
   obtain ⟨x, hx⟩ := gEx hlt
   have h1 := hc.out i x hx
   have hOx := hO.out x (List.mem_of_getElem? hx)
   have hCx := hC.out x i
   have HE := HT.out
   rw [Rul.rightL_drop hx] at HE
   have htki := htk.out i
   rw [htki, Rul.anyS_nm] at hCx
   dsimp only at hCx
   clear HT hx hO hC hc htk htki
   obtain ⟨G, hGG⟩ : ∃ G, Rul.rightL L R (R.drop (i + 1)) (i + 1) = G := ⟨_, rfl⟩
   rw [hGG] at HE
   replace hGG := Lib.hid hGG
   generalize Rul.oneB L x = q1 at *
   generalize ((R.take i).any fun y => y.name.toList == x.name.toList) = q2 at *
   unfold Rl.cells at h1 hOx hCx
   generalize x.pats.map Pt.cells = PS at *
   generalize x.acts.map Ac.cells = AS at *
   generalize x.name = nm at *
   generalize x.sal = sal at *
   replace hOx := Lib.hid hOx
   replace hCx := Lib.hid hCx
   cases q1 with
   | false =>
    rw [Bool.false_and] at HE
    subst HE
    clear hGG
    exact WR
   | true =>
    rw [Bool.true_and] at HE
    cases q2 with
    | true =>
     rw [Bool.not_true, Bool.false_and] at HE
     subst HE
     clear hGG
     repeat' (first | refine QX ?_ | (refine QB ?_; intro b) | (with_reducible refine QZ ?_ <;> (try constructor) <;> intro hb <;> try intro hb1) | refine Qc Tryz.call87 ((hCx.out _)) ?_ | fail)
     skip
     all_goals exact Qret
    | false =>
     rw [Bool.not_false, Bool.true_and] at HE
     replace HE := Lib.hid (hGG.out.trans HE)
     clear hGG
     repeat' (first | refine QX ?_ | (refine QB ?_; intro b) | (with_reducible refine QZ ?_ <;> (try constructor) <;> intro hb <;> try intro hb1) | refine Qc Tryz.call87 ((hCx.out _)) ?_ | fail)
     refine ⟨i + 1, st, q_u, ⟨hlt, HE, ?_, ?_, ?_, ?_, ?_, ?_, rfl⟩, by omega⟩
     all_goals exact Qf
 · have HE := HT.out
   rw [List.drop_of_length_le q_o, Rul.rightL] at HE
   subst HE
   clear HT
   exact WR
end
section
attribute [local push_cast] encB encI Nat.mul_one Int.sub_zero
def encBs (b : List UInt8) : List D := [.sl .shared (b.map encB)]
attribute [local push_cast] encBs
theorem growBF (n : Nat) (hn : n ≤ 1000000) (st : St) : TrF Tryz.prog 176 [.sl .tight [], .i n] st fun d st' => ∃ o', o' ≠ .shared ∧ d = .sl o' [] ∧ st' = .room o' 5 1 ([] : List (List D)).length :: st := by
 refine Qin [4] Tryz.func176 Tryz.results176 Tryz.ntmps176 ?_
 by_cases h0 : n = 0
 · subst h0
   refine tr_room 5 1 0 ?_
   repeat' (first | refine QX ?_ | (refine QB ?_; intro b) | (refine QP ?_; intro o' ho') | (with_reducible refine QZ ?_ <;> (try constructor) <;> intro hb <;> try intro hb1) | fail)
   all_goals ((apply ret_own (by simp) q_y); (focus exact q_v); (focus (first | assumption | (intro h; cases h))); (focus exact q_u))
   all_goals rfl
 · have h1 : (0 : Int) < n := by omega
   have h2 : 0 < n := by omega
   repeat' (first | refine QV ?_ | (refine tr_cutB 6 (fun A' st' => ∃ (g cap : Nat) (cs : List D), A'.df = [] ∧ A'.e 0 = .ar g 0 0 cap ∧ cs.length = cap * 1 ∧ st' = .box g 5 cs :: st) ?_ ?_) | ((with_reducible apply s_sliceT); (focus exact q_v); (focus exact q_v); (focus exact q_v)) | with_reducible refine s_zeros ?_ | with_reducible refine zr_go ?_ | ((with_reducible apply zr2_go); (focus omega); (focus omega); (focus omega); (focus exact rfl); intro g cap hgc) | refine QY ?_ | (refine QB ?_; intro b) | (refine QP ?_; intro o' ho') | (with_reducible refine QZ ?_ <;> (try constructor) <;> intro hb <;> try intro hb1) | fail)
   · refine ⟨g, cap, _, Qf, Qf, ?_, rfl⟩
     rw [List.length_replicate, Nat.mul_one]
   · rintro A' st' ⟨g, cap, cs, hdf, e0, hcl, rfl⟩
     refine tr_reroomA [0] 1 (.refl _) q_o hcl (fun t ht => by rw [List.mem_singleton.1 ht]; exact e0) fun A2 hdf2 q1 q2 => ?_
     have e0' := q1 0 (List.mem_singleton.2 rfl)
     rw [hdf] at hdf2
     clear q1 q2 e0 hdf
     repeat' (first | refine QX ?_ | (refine QB ?_; intro b) | (refine QP ?_; intro o' ho') | (with_reducible refine QZ ?_ <;> (try constructor) <;> intro hb <;> try intro hb1) | fail)
     all_goals ((apply ret_own (by simp) q_y); (focus exact q_v); (focus (first | assumption | (intro h; cases h))); (focus exact q_u))
     all_goals rfl
theorem concatBF (o : Own) (bs : List (List UInt8)) (hl : bs.flatten.length ≤ 1000000) (hb : bs.length ≤ 1000000) (st : St) : TrF Tryz.prog 135 [.sl o (bs.map encBs)] st fun d st' => ∃ o', o' ≠ .shared ∧ d = .sl o' (bs.flatten.map encB) ∧ st' = .room o' 5 1 (bs.flatten.map encB).length :: st := by
 have hF : ∀ i x, bs[i]? = some x → (bs.take (i + 1)).flatten = (bs.take i).flatten ++ x ∧ (bs.take (i + 1)).flatten.length ≤ 1000000 := fun i x hx => by
  have h1 : (bs.take (i + 1)).flatten = (bs.take i).flatten ++ x := by rw [List.take_succ, hx]; simp
  refine ⟨h1, ?_⟩
  have h2 := congrArg List.length (congrArg List.flatten (List.take_append_drop (i + 1) bs))
  rw [List.flatten_append, List.length_append] at h2
  omega
 refine Qin [2] Tryz.func135 Tryz.results135 Tryz.ntmps135 ?_
 repeat' (first | refine QX ?_ | (refine QB ?_; intro b) | (refine QP ?_; intro o' ho') | (with_reducible refine QZ ?_ <;> (try constructor) <;> intro hb <;> try intro hb1) | fail)
 refine tr_loop (ι := Nat) (fun i A st' => i ≤ bs.length ∧ A.df = [] ∧ A.e 0 = .sl o (bs.map encBs) ∧ A.e 9 = .sl o (bs.map encBs) ∧ A.e 10 = .i bs.length ∧ A.e 11 = .i i ∧ A.e 3 = .i (bs.take i).flatten.length ∧ st = st') (fun i => bs.length - i) 0 ⟨Nat.zero_le _, Qf, Qf, Qf, Qf, Qf, Qf, rfl⟩ ?_
 rintro i A st' ⟨hi, hdf, e0, e9, e10, e11, e3, rfl⟩
 by_cases hlt : i < bs.length
 · obtain ⟨x, hx⟩ := gEx hlt
   obtain ⟨hf, hfl⟩ := hF i x hx
   have hfl2 : ((bs.take (i + 1)).flatten.length : Int) = (bs.take i).flatten.length + x.length := by rw [hf, List.length_append]; omega
   clear hF hf
   obtain ⟨q1, hq1⟩ : ∃ q, (bs.take (i + 1)).flatten.length = q := ⟨_, rfl⟩
   rw [hq1] at hfl hfl2
   generalize (bs.take i).flatten.length = q0 at *
   repeat' (first | refine QX ?_ | (refine QB ?_; intro b) | (refine QP ?_; intro o' ho') | (with_reducible refine QZ ?_ <;> (try constructor) <;> intro hb <;> try intro hb1) | fail)
   refine ⟨i + 1, ⟨hlt, ?_, ?_, ?_, ?_, ?_, ?_, rfl⟩, ?_⟩
   all_goals exact Qf
 · rw [List.take_of_length_le q_o] at e3
   have hG := fun st => growBF bs.flatten.length hl st
   replace hF := Lib.hid hF
   replace hG := Lib.hid hG
   repeat' (first | refine QX ?_ | (refine QB ?_; intro b) | (refine QP ?_; intro o' ho') | (with_reducible refine QZ ?_ <;> (try constructor) <;> intro hb <;> try intro hb1) | (refine QE Tryz.call176 (hG.out _) ?_; intro o1 ho1) | fail)
   refine tr_loopd (ι := Nat) (fun i A st' => i ≤ bs.length ∧ A.df = [] ∧ A.e 25 = .sl o (bs.map encBs) ∧ A.e 26 = .i bs.length ∧ A.e 27 = .i i ∧ ∃ o' B, o' ≠ .shared ∧ Hid (B = (bs.take i).flatten) ∧ B.length = (bs.take i).flatten.length ∧ A.e 6 = .sl o' (B.map encB) ∧ st' = .room o' 5 1 (B.map encB).length :: st) (fun i => bs.length - i) 0 ⟨Nat.zero_le _, Qf, Qf, Qf, Qf, o1, [], ho1, rfl, rfl, Qf, rfl⟩ ?_
   clear hlt hi e0 e3 e9 e10 e11 hdf A i hG o1 ho1
   rintro i A st' ⟨hi, hdf, e25, e26, e27, o', B, ho', HB, hBl, e6, rfl⟩
   by_cases hlt : i < bs.length
   · obtain ⟨x, hx⟩ := gEx hlt
     obtain ⟨hf, hfl⟩ := hF.out i x hx
     have HB2 : Hid (B ++ x = (bs.take (i + 1)).flatten) := by show _ = _; rw [hf, HB.out]
     have hBl2 : (B ++ x).length = (bs.take (i + 1)).flatten.length := by rw [hf, List.length_append, List.length_append, hBl]
     have hBx : B.length + x.length ≤ 1000000 := by
      have := hBl2
      rw [List.length_append] at this; omega
     replace hBl2 := Lib.hid hBl2
     clear hF hf HB hfl hBl
     repeat' (first | refine QX ?_ | (refine QB ?_; intro b) | (refine QP ?_; intro o' ho') | (with_reducible refine QZ ?_ <;> (try constructor) <;> intro hb <;> try intro hb1) | fail)
     refine ⟨i + 1, .room o' 5 1 ((B ++ x).map encB).length :: st, ?_, ⟨hlt, ?_, ?_, ?_, ?_, o', B ++ x, ho', HB2, hBl2.out, ?_, rfl⟩, ?_⟩
     · rw [List.map_append]; (repeat (first | exact List.Sublist.refl _ | apply List.Sublist.cons))
     all_goals exact Qf
   · have hBe := HB.out
     rw [List.take_of_length_le q_o] at hBe
     rw [← hBe]
     clear hBe HB hBl hF
     repeat' (first | refine QX ?_ | (refine QB ?_; intro b) | (refine QP ?_; intro o' ho') | (with_reducible refine QZ ?_ <;> (try constructor) <;> intro hb <;> try intro hb1) | fail)
     all_goals ((apply ret_own (by simp) q_y); (focus exact q_v); (focus (first | assumption | (intro h; cases h))); (focus exact q_u))
     all_goals rfl
end
section
attribute [local push_cast] encB encI encBs V.cells_mk V.cells_take V.cells_len Nat.mul_one Int.sub_zero
open Go.RowKit B
theorem binAllF (o : Own) (bs : List (List UInt8)) (hl : bs.flatten.length ≤ 1000000) (hb : bs.length ≤ 1000000) (st : St) : TrF Tryz.prog 54 [.sl o (bs.map encBs)] st fun d st' => ∃ o', o' ≠ .shared ∧ d = .sl o' (bs.flatten.map encB) ∧ st' = .room o' 5 1 (bs.flatten.map encB).length :: st := by
 have hC := Lib.hid (concatBF o bs hl hb)
 generalize bs.flatten = l at *
 refine Qin [2] Tryz.func54 Tryz.results54 Tryz.ntmps54 ?_
 repeat' (first | refine QX ?_ | (refine QB ?_; intro b) | (refine QP ?_; intro o' ho') | (with_reducible refine QZ ?_ <;> (try constructor) <;> intro hb <;> try intro hb1) | (refine QE Tryz.call135 (hC.out _) ?_; intro o1 ho1) | fail)
 all_goals ((apply ret_own (by simp) q_y); (focus exact q_v); (focus (first | assumption | (intro h; cases h))); (focus exact q_u))
 all_goals rfl
end
section
attribute [local push_cast] encB encI encC encBs V.cells_mk V.cells_len Nat.mul_one Int.sub_zero List.map_nil beq_self_eq_true bne_self_eq_false List.head?_cons
open Go.RowKit B
namespace Reg
def byteB (n : Int) : List UInt8 := if 0 ≤ n ∧ n ≤ 255 then [UInt8.ofNat n.toNat] else []
def slotP (s : Sl) : List (List UInt8) := [tx s.name.data.toList, byteB s.types, byteB (if s.req then 1 else 0), s.dv.bin]
def slotB (s : Sl) : List UInt8 := (slotP s).flatten
theorem bin_len (v : V) : v.bin.length ≤ 20500 := by
 unfold V.bin
 split
 · rename_i h
   obtain ⟨hp, -, hn⟩ := V.right_iff.1 h
   have := V.put_le v hp
   omega
 · exact Nat.zero_le _
end Reg
namespace Reg
def b8 (n : Int) : UInt8 := UInt8.ofNat (n % 256).toNat
def stepA (p : Stp) : List UInt8 :=
 if p.kind = 1 then [byteB p.kind, slotB p.slot].flatten
 else if p.kind = 2 ∨ p.kind = 3 ∨ p.kind = 4 then [byteB p.kind, byteB p.col].flatten
 else if p.kind = 5 then [byteB p.kind, be 4 p.order.length].flatten ++ p.order.map b8
 else byteB p.kind
def stepB (p : Stp) : List UInt8 :=
 if p.kind = 3 then [stepA p, tx p.slot.name.data.toList].flatten
 else if p.kind = 4 then [stepA p, byteB p.slot.types].flatten
 else stepA p
end Reg
theorem u8_wrapI (n : Int) : IntKind.u8.wrap n = ((Reg.b8 n).toNat : Int) := by
 have h1 : 0 ≤ n % 256 := Int.emod_nonneg _ (by decide)
 have h2 : n % 256 < 256 := Int.emod_lt_of_pos _ (by decide)
 have h3 : IntKind.u8.wrap n = IntKind.u8.wrap ((n % 256).toNat : Int) := by
  rw [Int.toNat_of_nonneg h1]
  unfold IntKind.wrap
  have e : (2 : Int) ^ IntKind.u8.bits = 256 := by decide
  rw [e, Int.emod_emod_of_dvd n (Int.dvd_refl 256)]
 rw [h3, u8_wrap]; rfl
end
end Go.Proofs.YtgcienlfpnpbgaaGreat
