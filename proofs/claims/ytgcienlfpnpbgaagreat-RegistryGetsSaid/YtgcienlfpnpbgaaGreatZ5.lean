/- Texts put together: Bin06g, Bin06h, Bin06i, Bin06j, RegB, RegC, RegD, RegE, Nodes4, RegF, RegG, BinLaw, BinLaw2, SchO, RefRight, SchN, CastL, RegL, RegM, ReadsS, SchP, SchGr, RegN, AmFrz, RefA, RefB, RefC, RefD, RefE, ReoL, RefF. No statement is proved here. -/
import Derived.Test.YtgcienlfpnpbgaaGreatZ4
set_option linter.all false
section
namespace Go.Proofs.YtgcienlfpnpbgaaGreat
set_option linter.unusedSimpArgs false
attribute [local push_cast] encB encI V.cells_mk V.cells_take V.cells_len Nat.mul_one
open Go.RowKit B
set_option maxRecDepth 10000
set_option maxHeartbeats 4000000
theorem tr_once {P : Program} {N : Nat} {r : Option Nat} {A : AA} {st : St} {Q : Exit → AA → St → Prop} {c : Code} (h : Tr P N r c A st (thenA (fun _ _ => False) Q)) : Tr P N r (.loop c) A st Q :=
 tr_loop (fun (_ : Unit) A' st' => A' = A ∧ st' = st) (fun _ => 0) () ⟨rfl, rfl⟩ fun _ A' st' ⟨e1, e2⟩ => by
  subst e1 e2
  exact tr_mono h fun ex A s hq => by cases ex <;> first | exact hq.elim | exact hq
theorem keep_one {b : Nat} {ty : TypeId} {cs : List D} {st : St} (h : Res.box b ty cs ∈ st) : Keep (some [(b, cs)]) st := fun b' cs' hl => by
 rw [List.lookup_cons] at hl
 split at hl
 · rename_i he
   cases hl
   have : b' = b := eq_of_beq he
   subst this
   exact ⟨ty, h⟩
 · cases hl
namespace RS
def sub : Nat → Option (RS → V × RS)
 | 0 => none
 | e + 1 => some (value e)
theorem value_eq (d : Nat) (s : RS) : value d s = body (sub d) s := by cases d <;> rfl
end RS
open RS in
theorem rdValueF : ∀ (d : Nat), d ≤ 4 → ∀ (rb : Nat) (s : RS) (st : St), TrF Tryz.prog 167 [.ptr rb 0, .i d] (rdR rb s :: st) fun x st' => x = .agg (RS.value d s).1.cells ∧ st' = rdR rb (RS.value d s).2 :: st := fun d => by
 induction d using Nat.strongRecOn with
 | _ d IHd =>
 intro hd4 rb s st
 have IH : ∀ f, sub d = some f → ∀ b s st, TrF Tryz.prog 167 [.ptr b 0, .i ((d : Int) - 1)] (rdR b s :: st) fun x st' => x = .agg (f s).1.cells ∧ st' = rdR b (f s).2 :: st := by
  intro f hf
  cases d with
  | zero => cases hf
  | succ e =>
   cases hf
   intro b s st
   have := IHd e (by omega) (by omega) b s st
   rwa [show (((e + 1 : Nat) : Int) - 1) = (e : Int) by omega]
 have hd0 : d = 0 ↔ sub d = none := by cases d <;> simp [sub]
 rw [value_eq]
 clear IHd
 generalize sub d = f? at *
 have hB := Lib.hid (rdByteF rb s)
 unfold body
 generalize s.byte = q at *
 obtain ⟨k, s1⟩ := q
 dsimp only at *
 refine QinC 4 73 Tryz.func167 Tryz.ntmps167 ?_
 refine tr_room 73 4 0 ?_
 by_cases k1 : k = 1
 · subst k1
   rw [if_pos rfl]
   have hB2 := Lib.hid (rdByteF rb s1)
   generalize s1.byte = q2 at *
   clear IH hd0
   repeat' (first | (with_reducible first | refine Q1 ?_ | refine Qe ?_ | refine QQ ?_ | (refine al_go ?_; intro b) | (refine Qa ?_; intro o' ho') | (refine Qp ?_; intro o' ho') | (refine QD ?_ <;> (try constructor) <;> intro hb <;> try intro hb1) | fail) | refine QR Tryz.call116 hB.out ?_ | refine QR Tryz.call116 hB2.out ?_ | fail)
   all_goals exact QretC
 rw [if_neg k1]
 have b1 : (k == 1) = false := by simpa using k1
 by_cases k2 : k = 2
 · subst k2
   rw [if_pos rfl]
   have hB2 := Lib.hid (rdLongF rb s1)
   generalize s1.long = q2 at *
   clear IH hd0
   repeat' (with_reducible first | refine Q1 ?_ | refine Qe ?_ | refine QQ ?_ | (refine al_go ?_; intro b) | (refine Qa ?_; intro o' ho') | (refine Qp ?_; intro o' ho') | (refine QD ?_ <;> (try constructor) <;> intro hb <;> try intro hb1) | fail)
   all_goals exact QretC
 rw [if_neg k2]
 have b2 : (k == 2) = false := by simpa using k2
 by_cases k3 : k = 3 ∨ k = 4
 · rw [if_pos k3]
   have hB2 := Lib.hid (rdTextF rb s1)
   generalize s1.text = q2 at *
   clear IH hd0 b1 b2 k1 k2
   rcases k3 with rfl | rfl
   · repeat' (with_reducible first | refine Q1 ?_ | refine Qe ?_ | refine QQ ?_ | (refine al_go ?_; intro b) | (refine Qa ?_; intro o' ho') | (refine Qp ?_; intro o' ho') | (refine QD ?_ <;> (try constructor) <;> intro hb <;> try intro hb1) | fail)
     all_goals exact QretC
   · repeat' (with_reducible first | refine Q1 ?_ | refine Qe ?_ | refine QQ ?_ | (refine al_go ?_; intro b) | (refine Qa ?_; intro o' ho') | (refine Qp ?_; intro o' ho') | (refine QD ?_ <;> (try constructor) <;> intro hb <;> try intro hb1) | fail)
     all_goals exact QretC
 rw [if_neg k3]
 have b3 : (k == 3) = false := by simp; omega
 have b4 : (k == 4) = false := by simp; omega
 by_cases k5 : k = 5
 case neg =>
  rw [if_neg k5]
  have b5 : (k == 5) = false := by simpa using k5
  clear IH hd0
  repeat' (with_reducible first | refine Q1 ?_ | refine Qe ?_ | refine QQ ?_ | (refine al_go ?_; intro b) | (refine Qa ?_; intro o' ho') | (refine Qp ?_; intro o' ho') | (refine QD ?_ <;> (try constructor) <;> intro hb <;> try intro hb1) | fail)
  all_goals exact QretC
 subst k5
 rw [if_pos rfl]
 have hN := Lib.hid (rdNumF rb s1)
 have hnp := rnum_pos s1
 clear k1 k2 k3 b1 b2 b3 b4
 generalize s1.rnum = q2 at *
 obtain ⟨n, s2⟩ := q2
 dsimp only at *
 have hF := Lib.hid (rdFailF rb s2)
 have hBad := Lib.hid (rdBadF rb)
 by_cases hbad : d = 0 ∨ 20 < n
 · have hres : list5 f? n s2 = (V.mk 5 0 ⟨#[]⟩ [], fail) := by
    unfold list5
    cases f? with
    | none => rfl
    | some f =>
     have : d ≠ 0 := fun h => by have := hd0.1 h; cases this
     exact if_pos (by omega)
   rw [hres]
   clear hres hd0 IH
   have hbad' : (d : Int) = 0 ∨ 20 < n := by omega
   clear hbad
   repeat' (with_reducible first | refine Q1 ?_ | refine Qe ?_ | refine QQ ?_ | (refine al_go ?_; intro b) | (refine Qa ?_; intro o' ho') | (refine Qp ?_; intro o' ho') | (refine QD ?_ <;> (try constructor) <;> intro hb <;> try intro hb1) | fail)
   all_goals
    refine tr_once ?_
    by_cases hn0 : 0 < n
    · repeat' (first | (with_reducible first | refine Q1 ?_ | refine Qe ?_ | refine QQ ?_ | (refine al_go ?_; intro b) | (refine Qa ?_; intro o' ho') | (refine Qp ?_; intro o' ho') | (refine QD ?_ <;> (try constructor) <;> intro hb <;> try intro hb1) | fail) | refine QR Tryz.call80 (hBad.out fail) ?_ | fail)
      all_goals exact QretC
    · repeat' (with_reducible first | refine Q1 ?_ | refine Qe ?_ | refine QQ ?_ | (refine al_go ?_; intro b) | (refine Qa ?_; intro o' ho') | (refine Qp ?_; intro o' ho') | (refine QD ?_ <;> (try constructor) <;> intro hb <;> try intro hb1) | fail)
      all_goals exact QretC
 obtain ⟨f, rfl⟩ : ∃ f, f? = some f := by
  cases f? with
  | none => exact absurd (.inl (hd0.2 rfl)) hbad
  | some f => exact ⟨f, rfl⟩
 have hI := Lib.hid (IH f rfl rb)
 obtain ⟨m, rfl⟩ : ∃ m : Nat, n = m := ⟨n.toNat, by omega⟩
 rw [show list5 (some f) m s2 = (V.mk 5 0 ⟨#[]⟩ (vals f m s2).1, (vals f m s2).2) from if_neg (by omega)]
 have hd1 : ¬ (d : Int) = 0 := by omega
 have hm20 : m ≤ 20 := by omega
 obtain ⟨res, hres⟩ : ∃ r, vals f m s2 = r := ⟨_, rfl⟩
 have hE : Hid ([] ++ (vals f (m - 0) s2).1 = res.1 ∧ (vals f (m - 0) s2).2 = res.2) := by
  show _ ∧ _
  rw [Nat.sub_zero, hres]
  exact ⟨rfl, rfl⟩
 rw [hres]
 clear hres
 clear IH hd0 hbad hF
 repeat' (with_reducible first | refine Q1 ?_ | refine Qe ?_ | refine QQ ?_ | (refine al_go ?_; intro b) | (refine Qa ?_; intro o' ho') | (refine Qp ?_; intro o' ho') | (refine QD ?_ <;> (try constructor) <;> intro hb <;> try intro hb1) | fail)
 rename_i b4 _
 clear hB hN
 refine tr_loopd (ι := Nat) (fun i A st' => i ≤ m ∧ A.df = [] ∧ A.e 0 = .ptr rb 0 ∧ A.e 1 = .i d ∧ A.e 4 = .ptr b4 0 ∧ A.e 5 = .ptr b 0 ∧ A.e 40 = .i m ∧ A.e 41 = .i i ∧ ∃ o' L s' zs, o' ≠ .shared ∧ L.length ≤ i ∧ zs.length = 4 ∧ Hid (L ++ (vals f (m - i) s').1 = res.1 ∧ (vals f (m - i) s').2 = res.2) ∧ st' = .box b 73 [.i 5, .i 0, .str ⟨#[]⟩, .sl o' (L.map V.cells)] :: .box b4 73 zs :: .room o' 73 4 (L.map V.cells).length :: rdR rb s' :: st) (fun i => m - i) 0 ⟨Nat.zero_le _, Qf, Qf, Qf, Qf, Qf, Qf, Qf, .tight, [], s2, _, by simp, Nat.le_refl _, rfl, hE, rfl⟩ ?_
 clear hE hnp
 rintro i A st' ⟨hi, hdf, e0, e1, e4, e5, e40, e41, o', L, s', zs, ho', hLi, hzs, hE, rfl⟩
 have hLc : (L.map V.cells).length = L.length := List.length_map _
 by_cases hlt : i < m
 · have hHE := hE.out
   rw [show m - i = (m - (i + 1)) + 1 by omega, vals] at hHE
   cases hsb : s'.bad with
   | true =>
    rw [hsb, if_pos rfl] at hHE
    obtain ⟨r1, r2⟩ := res
    obtain ⟨hr1, hr2⟩ := hHE
    dsimp only at hr1 hr2
    rw [List.append_nil] at hr1
    subst hr1 hr2
    have hBs := hBad.out s'
    rw [hsb] at hBs
    replace hBs := Lib.hid hBs
    clear hE hI hBad
    repeat' (with_reducible first | refine Q1 ?_ | refine Qe ?_ | refine QQ ?_ | (refine al_go ?_; intro b) | (refine Qa ?_; intro o' ho') | (refine Qp ?_; intro o' ho') | (refine QD ?_ <;> (try constructor) <;> intro hb <;> try intro hb1) | fail)
    all_goals exact QretC
   | false =>
    rw [hsb, if_neg Bool.false_ne_true] at hHE
    have hIs := hI.out s'
    have hBs := hBad.out s'
    rw [hsb] at hBs
    generalize f s' = x3 at *
    obtain ⟨⟨k1, n1, t1, l1⟩, s3⟩ := x3
    dsimp only at hHE hIs
    rw [V.cells_mk] at hIs
    have hE2 : Hid ((L ++ [V.mk k1 n1 t1 l1]) ++ (vals f (m - (i + 1)) s3).1 = res.1 ∧ (vals f (m - (i + 1)) s3).2 = res.2) := by
     show _ ∧ _
     rw [List.append_assoc]
     exact hHE
    replace hBs := Lib.hid hBs
    replace hIs := Lib.hid hIs
    clear hE hI hBad hHE
    have hL4 : ∀ a ∈ L.map V.cells, a.length = 4 := fun a ha => by
     obtain ⟨x, -, rfl⟩ := List.mem_map.1 ha
     exact V.cells_len x
    repeat' (first | (with_reducible first | refine Q1 ?_ | refine Qe ?_ | fail) | ((with_reducible refine w_draw [(b, [.i 5, .i 0, .str ⟨#[]⟩, .sl o' (L.map V.cells)])] ?_ ?_ ?_ ?_ ?_); (focus kernel_rfl); (focus kernel_rfl); (focus kernel_rfl); (focus exact keep_one (List.Mem.head _))) | ((with_reducible refine And.intro ?_ ?_); (focus exact keep_one (by repeat (first | exact mm_h | apply mm_t)))) | ((with_reducible apply (a2_go ho')); (focus (intro o'; repeat (first | exact ra_h | apply ra_t))); (focus exact hL4); (focus exact len_one rfl); (focus (simp only [List.length_map, List.length_cons, List.length_nil]; omega)); (focus (simp only [List.length_map, List.length_cons, List.length_nil]; omega)); intro o' ho') | (with_reducible first | refine QQ ?_ | (refine al_go ?_; intro b) | (refine Qa ?_; intro o' ho') | (refine Qp ?_; intro o' ho') | (refine QD ?_ <;> (try constructor) <;> intro hb <;> try intro hb1) | fail) | fail)
    refine ⟨i + 1, .box b 73 [.i 5, .i 0, .str ⟨#[]⟩, .sl o' ((L ++ [V.mk k1 n1 t1 l1]).map V.cells)] :: .box b4 73 zs :: .room o' 73 4 ((L ++ [V.mk k1 n1 t1 l1]).map V.cells).length :: rdR rb s3 :: st, ?_, ⟨hlt, ?_, ?_, ?_, ?_, ?_, ?_, ?_, o', L ++ [V.mk k1 n1 t1 l1], s3, zs, ho', ?_, hzs, hE2, rfl⟩, ?_⟩
    · simp only [List.map_append, List.map_cons, List.map_nil, V.cells_mk]; (repeat (first | exact List.Sublist.refl _ | apply List.Sublist.cons))
    · exact Qf
    · exact Qf
    · exact Qf
    · exact Qf
    · exact Qf
    · exact Qf
    · exact Qf
    · rw [List.length_append, List.length_singleton]; omega
    · omega
 · have hHE := hE.out
   rw [show m - i = 0 by omega, vals] at hHE
   obtain ⟨r1, r2⟩ := res
   obtain ⟨hr1, hr2⟩ := hHE
   dsimp only at hr1 hr2
   rw [List.append_nil] at hr1
   subst hr1 hr2
   clear hE hI hBad
   repeat' (with_reducible first | refine Q1 ?_ | refine Qe ?_ | refine QQ ?_ | (refine al_go ?_; intro b) | (refine Qa ?_; intro o' ho') | (refine Qp ?_; intro o' ho') | (refine QD ?_ <;> (try constructor) <;> intro hb <;> try intro hb1) | fail)
   all_goals exact QretC
end Go.Proofs.YtgcienlfpnpbgaaGreat
end
section
namespace Go.Proofs.YtgcienlfpnpbgaaGreat
attribute [local push_cast] encB encI V.cells_mk V.cells_take V.cells_len Nat.mul_one
open Go.RowKit B
set_option maxHeartbeats 4000000
set_option maxRecDepth 10000
def V.zero : V := .mk 0 0 ⟨#[]⟩ []
def RS.val (s : RS) : V × RS := if s.bad = true then (V.zero, s) else if (RS.value 4 s).2.bad = true ∨ (RS.value 4 s).1.right = false then (V.zero, RS.fail) else RS.value 4 s
theorem rdValF (b : Nat) (s : RS) (hn : (RS.value 4 s).1.nodes ≤ 4611686018427387904) (st : St) : TrF Tryz.prog 118 [.ptr b 0] (rdR b s :: st) fun x st' => x = .agg s.val.1.cells ∧ st' = rdR b s.val.2 :: st := by
 have hBad := Lib.hid (rdBadF b s)
 have hV := Lib.hid (rdValueF 4 (Nat.le_refl _) b s)
 have hR := Lib.hid (valRightF (RS.value 4 s).1 hn)
 unfold RS.val
 cases hsb : s.bad with
 | true =>
  rw [if_pos rfl]
  rw [hsb] at hBad
  refine QinC 2 73 Tryz.func118 Tryz.ntmps118 ?_
  repeat' (with_reducible first | refine Q1 ?_ | refine Qe ?_ | refine QQ ?_ | (refine al_go ?_; intro b) | (refine QD ?_ <;> (try constructor) <;> intro hb <;> try intro hb1) | fail)
  all_goals exact QretC
 | false =>
  rw [if_neg Bool.false_ne_true]
  rw [hsb] at hBad
  generalize RS.value 4 s = q at *
  obtain ⟨⟨k, n, t, l⟩, s2⟩ := q
  dsimp only at *
  rw [V.cells_mk] at *
  generalize hr : (V.mk k n t l).right = r at *
  have hBad2 := Lib.hid (rdBadF b s2)
  have hF := Lib.hid (rdFailF b s2)
  cases hsb2 : s2.bad with
  | true =>
   rw [if_pos (.inl rfl)]
   rw [hsb2] at hBad2
   refine QinC 2 73 Tryz.func118 Tryz.ntmps118 ?_
   repeat' (first | (with_reducible first | refine Q1 ?_ | refine Qe ?_ | refine QQ ?_ | (refine al_go ?_; intro b) | (refine QD ?_ <;> (try constructor) <;> intro hb <;> try intro hb1) | fail) | refine QR Tryz.call80 hBad.out ?_ | refine QR Tryz.call80 hBad2.out ?_ | refine QR Tryz.call167 hV.out ?_ | refine QR Tryz.call169 hF.out ?_ | fail)
   all_goals exact QretC
  | false =>
   rw [hsb2] at hBad2
   cases r with
   | false =>
    rw [if_pos (.inr rfl)]
    refine QinC 2 73 Tryz.func118 Tryz.ntmps118 ?_
    repeat' (first | (with_reducible first | refine Q1 ?_ | refine Qe ?_ | refine QQ ?_ | (refine al_go ?_; intro b) | (refine QD ?_ <;> (try constructor) <;> intro hb <;> try intro hb1) | fail) | refine QR Tryz.call80 hBad.out ?_ | refine QR Tryz.call80 hBad2.out ?_ | refine QR Tryz.call167 hV.out ?_ | refine QR Tryz.call169 hF.out ?_ | refine Qc Tryz.call168 (hR.out _) ?_ | fail)
    all_goals exact QretC
   | true =>
    rw [if_neg (by simp)]
    refine QinC 2 73 Tryz.func118 Tryz.ntmps118 ?_
    repeat' (first | (with_reducible first | refine Q1 ?_ | refine Qe ?_ | refine QQ ?_ | (refine al_go ?_; intro b) | (refine QD ?_ <;> (try constructor) <;> intro hb <;> try intro hb1) | fail) | refine QR Tryz.call80 hBad.out ?_ | refine QR Tryz.call80 hBad2.out ?_ | refine QR Tryz.call167 hV.out ?_ | refine QR Tryz.call169 hF.out ?_ | refine Qc Tryz.call168 (hR.out _) ?_ | fail)
    all_goals exact QretC
end Go.Proofs.YtgcienlfpnpbgaaGreat
end
section
namespace Go.Proofs.YtgcienlfpnpbgaaGreat
set_option linter.unusedSimpArgs false
attribute [local push_cast] encB encI Nat.mul_one Int.sub_zero
open Go.RowKit
set_option maxRecDepth 10000
set_option maxHeartbeats 4000000
def encBs (b : List UInt8) : List D := [.sl .shared (b.map encB)]
attribute [local push_cast] encBs
theorem growBF (n : Nat) (hn : n ≤ 1000000) (st : St) : TrF Tryz.prog 176 [.sl .tight [], .i n] st fun d st' => ∃ o', o' ≠ .shared ∧ d = .sl o' [] ∧ st' = .room o' 5 1 ([] : List (List D)).length :: st := by
 refine Qin [4] Tryz.func176 Tryz.results176 Tryz.ntmps176 ?_
 by_cases h0 : n = 0
 · subst h0
   refine tr_room 5 1 0 ?_
   repeat' (with_reducible first | refine Q1 ?_ | refine Qe ?_ | refine QQ ?_ | (refine al_go ?_; intro b) | (refine Qa ?_; intro o' ho') | (refine Qp ?_; intro o' ho') | (refine QD ?_ <;> (try constructor) <;> intro hb <;> try intro hb1) | fail)
   all_goals ((apply ret_own (by simp) (by first | rfl | assumption)); (focus ((try simp (disch := omega) only [push_cast, simprocAttr, *]); (try exact rfl); done)); (focus (first | assumption | (intro h; cases h))); (focus ((repeat (first | exact List.Sublist.refl _ | apply List.Sublist.cons)); done)))
   all_goals rfl
 · have h1 : (0 : Int) < n := by omega
   have h2 : 0 < n := by omega
   repeat' (first | (with_reducible first | refine Q1 ?_ | refine Qe ?_ | fail) | (refine tr_cutB 6 (fun A' st' => ∃ (g cap : Nat) (cs : List D), A'.df = [] ∧ A'.e 0 = .ar g 0 0 cap ∧ cs.length = cap * 1 ∧ st' = .box g 5 cs :: st) ?_ ?_) | ((with_reducible apply s_sliceT); (focus ((try simp (disch := omega) only [push_cast, simprocAttr, *]); (try exact rfl); done)); (focus ((try simp (disch := omega) only [push_cast, simprocAttr, *]); (try exact rfl); done)); (focus ((try simp (disch := omega) only [push_cast, simprocAttr, *]); (try exact rfl); done))) | with_reducible refine s_zeros ?_ | with_reducible refine zr_go ?_ | ((with_reducible apply zr2_go); (focus omega); (focus omega); (focus omega); (focus exact rfl); intro g cap hgc) | (with_reducible first | refine QQ ?_ | (refine al_go ?_; intro b) | (refine Qa ?_; intro o' ho') | (refine Qp ?_; intro o' ho') | (refine QD ?_ <;> (try constructor) <;> intro hb <;> try intro hb1) | fail) | fail)
   · refine ⟨g, cap, _, Qf, Qf, ?_, rfl⟩
     rw [List.length_replicate, Nat.mul_one]
   · rintro A' st' ⟨g, cap, cs, hdf, e0, hcl, rfl⟩
     refine tr_reroomA [0] 1 (.refl _) (by omega) hcl (fun t ht => by rw [List.mem_singleton.1 ht]; exact e0) fun A2 hdf2 q1 q2 => ?_
     have e0' := q1 0 (List.mem_singleton.2 rfl)
     rw [hdf] at hdf2
     clear q1 q2 e0 hdf
     repeat' (with_reducible first | refine Q1 ?_ | refine Qe ?_ | refine QQ ?_ | (refine al_go ?_; intro b) | (refine Qa ?_; intro o' ho') | (refine Qp ?_; intro o' ho') | (refine QD ?_ <;> (try constructor) <;> intro hb <;> try intro hb1) | fail)
     all_goals ((apply ret_own (by simp) (by first | rfl | assumption)); (focus ((try simp (disch := omega) only [push_cast, simprocAttr, *]); (try exact rfl); done)); (focus (first | assumption | (intro h; cases h))); (focus ((repeat (first | exact List.Sublist.refl _ | apply List.Sublist.cons)); done)))
     all_goals rfl
theorem concatBF (o : Own) (bs : List (List UInt8)) (hl : bs.flatten.length ≤ 1000000) (hb : bs.length ≤ 1000000) (st : St) : TrF Tryz.prog 135 [.sl o (bs.map encBs)] st fun d st' => ∃ o', o' ≠ .shared ∧ d = .sl o' (bs.flatten.map encB) ∧ st' = .room o' 5 1 (bs.flatten.map encB).length :: st := by
 have hF : ∀ i x, bs[i]? = some x → (bs.take (i + 1)).flatten = (bs.take i).flatten ++ x ∧ (bs.take (i + 1)).flatten.length ≤ 1000000 := fun i x hx => by
  have h1 : (bs.take (i + 1)).flatten = (bs.take i).flatten ++ x := by rw [List.take_succ, hx]; simp
  refine ⟨h1, ?_⟩
  have h2 := congrArg List.length (congrArg List.flatten (List.take_append_drop (i + 1) bs))
  rw [List.flatten_append, List.length_append] at h2
  omega
 refine Qin [2] Tryz.func135 Tryz.results135 Tryz.ntmps135 ?_
 repeat' (with_reducible first | refine Q1 ?_ | refine Qe ?_ | refine QQ ?_ | (refine al_go ?_; intro b) | (refine Qa ?_; intro o' ho') | (refine Qp ?_; intro o' ho') | (refine QD ?_ <;> (try constructor) <;> intro hb <;> try intro hb1) | fail)
 refine tr_loop (ι := Nat) (fun i A st' => i ≤ bs.length ∧ A.df = [] ∧ A.e 0 = .sl o (bs.map encBs) ∧ A.e 9 = .sl o (bs.map encBs) ∧ A.e 10 = .i bs.length ∧ A.e 11 = .i i ∧ A.e 3 = .i (bs.take i).flatten.length ∧ st = st') (fun i => bs.length - i) 0 ⟨Nat.zero_le _, Qf, Qf, Qf, Qf, Qf, Qf, rfl⟩ ?_
 rintro i A st' ⟨hi, hdf, e0, e9, e10, e11, e3, rfl⟩
 by_cases hlt : i < bs.length
 · obtain ⟨x, hx⟩ := gEx hlt
   obtain ⟨hf, hfl⟩ := hF i x hx
   have hfl2 : ((bs.take (i + 1)).flatten.length : Int) = (bs.take i).flatten.length + x.length := by rw [hf, List.length_append]; omega
   clear hF hf
   obtain ⟨q1, hq1⟩ : ∃ q, (bs.take (i + 1)).flatten.length = q := ⟨_, rfl⟩
   rw [hq1] at hfl hfl2
   generalize (bs.take i).flatten.length = q0 at *
   repeat' (with_reducible first | refine Q1 ?_ | refine Qe ?_ | refine QQ ?_ | (refine al_go ?_; intro b) | (refine Qa ?_; intro o' ho') | (refine Qp ?_; intro o' ho') | (refine QD ?_ <;> (try constructor) <;> intro hb <;> try intro hb1) | fail)
   refine ⟨i + 1, ⟨hlt, ?_, ?_, ?_, ?_, ?_, ?_, rfl⟩, ?_⟩
   all_goals exact Qf
 · rw [List.take_of_length_le (by omega)] at e3
   have hG := fun st => growBF bs.flatten.length hl st
   replace hF := Lib.hid hF
   replace hG := Lib.hid hG
   repeat' (first | (with_reducible first | refine Q1 ?_ | refine Qe ?_ | refine QQ ?_ | (refine al_go ?_; intro b) | (refine Qa ?_; intro o' ho') | (refine Qp ?_; intro o' ho') | (refine QD ?_ <;> (try constructor) <;> intro hb <;> try intro hb1) | fail) | (refine QE Tryz.call176 (hG.out _) ?_; intro o1 ho1) | fail)
   refine tr_loopd (ι := Nat) (fun i A st' => i ≤ bs.length ∧ A.df = [] ∧ A.e 25 = .sl o (bs.map encBs) ∧ A.e 26 = .i bs.length ∧ A.e 27 = .i i ∧ ∃ o' B, o' ≠ .shared ∧ Hid (B = (bs.take i).flatten) ∧ B.length = (bs.take i).flatten.length ∧ A.e 6 = .sl o' (B.map encB) ∧ st' = .room o' 5 1 (B.map encB).length :: st) (fun i => bs.length - i) 0 ⟨Nat.zero_le _, Qf, Qf, Qf, Qf, o1, [], ho1, rfl, rfl, Qf, rfl⟩ ?_
   clear hlt hi e0 e3 e9 e10 e11 hdf A i hG o1 ho1
   rintro i A st' ⟨hi, hdf, e25, e26, e27, o', B, ho', HB, hBl, e6, rfl⟩
   by_cases hlt : i < bs.length
   · obtain ⟨x, hx⟩ := gEx hlt
     obtain ⟨hf, hfl⟩ := hF.out i x hx
     have HB2 : Hid (B ++ x = (bs.take (i + 1)).flatten) := by show _ = _; rw [hf, HB.out]
     have hBl2 : (B ++ x).length = (bs.take (i + 1)).flatten.length := by rw [hf, List.length_append, List.length_append, hBl]
     have hBx : B.length + x.length ≤ 1000000 := by
      have := hBl2
      rw [List.length_append] at this; omega
     replace hBl2 := Lib.hid hBl2
     clear hF hf HB hfl hBl
     repeat' (with_reducible first | refine Q1 ?_ | refine Qe ?_ | refine QQ ?_ | (refine al_go ?_; intro b) | (refine Qa ?_; intro o' ho') | (refine Qp ?_; intro o' ho') | (refine QD ?_ <;> (try constructor) <;> intro hb <;> try intro hb1) | fail)
     refine ⟨i + 1, .room o' 5 1 ((B ++ x).map encB).length :: st, ?_, ⟨hlt, ?_, ?_, ?_, ?_, o', B ++ x, ho', HB2, hBl2.out, ?_, rfl⟩, ?_⟩
     · rw [List.map_append]; (repeat (first | exact List.Sublist.refl _ | apply List.Sublist.cons))
     all_goals exact Qf
   · have hBe := HB.out
     rw [List.take_of_length_le (by omega)] at hBe
     rw [← hBe]
     clear hBe HB hBl hF
     repeat' (with_reducible first | refine Q1 ?_ | refine Qe ?_ | refine QQ ?_ | (refine al_go ?_; intro b) | (refine Qa ?_; intro o' ho') | (refine Qp ?_; intro o' ho') | (refine QD ?_ <;> (try constructor) <;> intro hb <;> try intro hb1) | fail)
     all_goals ((apply ret_own (by simp) (by first | rfl | assumption)); (focus ((try simp (disch := omega) only [push_cast, simprocAttr, *]); (try exact rfl); done)); (focus (first | assumption | (intro h; cases h))); (focus ((repeat (first | exact List.Sublist.refl _ | apply List.Sublist.cons)); done)))
     all_goals rfl
end Go.Proofs.YtgcienlfpnpbgaaGreat
end
section
namespace Go.Proofs.YtgcienlfpnpbgaaGreat
attribute [local push_cast] encB encI encBs V.cells_mk V.cells_take V.cells_len Nat.mul_one Int.sub_zero
open Go.RowKit B
set_option maxHeartbeats 4000000
set_option maxRecDepth 10000
theorem bytesF (o o' : Own) (a b : List UInt8) (st : St) : TrF Tryz.prog 18 [.sl o (a.map encB), .sl o' (b.map encB)] st fun d st' => d = .b (decide (a = b)) ∧ st' = st :=
 trF_pure fun vs w hv => by
  obtain ⟨v, v', rfl, h1, h2⟩ := args2 hv
  exact ⟨_, fun _ _ => .s _ rfl, (bytes_any v v' a b w (sees_bytes h1) (sees_bytes h2)).mono fun _ _ ⟨h, n, e⟩ => ⟨h, by subst e; exact ⟨rfl, rfl, rfl, Nat.le_refl _, fun _ _ => rfl⟩⟩⟩
theorem binAllF (o : Own) (bs : List (List UInt8)) (hl : bs.flatten.length ≤ 1000000) (hb : bs.length ≤ 1000000) (st : St) : TrF Tryz.prog 54 [.sl o (bs.map encBs)] st fun d st' => ∃ o', o' ≠ .shared ∧ d = .sl o' (bs.flatten.map encB) ∧ st' = .room o' 5 1 (bs.flatten.map encB).length :: st := by
 have hC := Lib.hid (concatBF o bs hl hb)
 generalize bs.flatten = l at *
 refine Qin [2] Tryz.func54 Tryz.results54 Tryz.ntmps54 ?_
 repeat' (first | (with_reducible first | refine Q1 ?_ | refine Qe ?_ | refine QQ ?_ | (refine al_go ?_; intro b) | (refine Qa ?_; intro o' ho') | (refine Qp ?_; intro o' ho') | (refine QD ?_ <;> (try constructor) <;> intro hb <;> try intro hb1) | fail) | (refine QE Tryz.call135 (hC.out _) ?_; intro o1 ho1) | fail)
 all_goals ((apply ret_own (by simp) (by first | rfl | assumption)); (focus ((try simp (disch := omega) only [push_cast, simprocAttr, *]); (try exact rfl); done)); (focus (first | assumption | (intro h; cases h))); (focus ((repeat (first | exact List.Sublist.refl _ | apply List.Sublist.cons)); done)))
 all_goals rfl
end Go.Proofs.YtgcienlfpnpbgaaGreat
end
section
namespace Go.Proofs.YtgcienlfpnpbgaaGreat
attribute [local push_cast] encB encI encC encBs V.cells_mk V.cells_len Nat.mul_one Int.sub_zero List.map_nil beq_self_eq_true bne_self_eq_false List.head?_cons
open Go.RowKit B
set_option maxHeartbeats 8000000
set_option maxRecDepth 10000
namespace Reg
def byteB (n : Int) : List UInt8 := if 0 ≤ n ∧ n ≤ 255 then [UInt8.ofNat n.toNat] else []
def slotP (s : Sl) : List (List UInt8) := [tx s.name.data.toList, byteB s.types, byteB (if s.req then 1 else 0), s.dv.bin]
def slotB (s : Sl) : List UInt8 := (slotP s).flatten
theorem byteB_len (n : Int) : (byteB n).length ≤ 1 := by
 unfold byteB
 split <;> simp
theorem bin_len (v : V) : v.bin.length ≤ 20500 := by
 unfold V.bin
 split
 · rename_i h
   obtain ⟨hp, -, hn⟩ := V.right_iff.1 h
   have := V.put_le v hp
   omega
 · exact Nat.zero_le _
theorem slotB_len (s : Sl) (hs : s.name.size ≤ 300) : (slotB s).length ≤ 21000 := by
 unfold slotB slotP tx
 have h1 := byteB_len s.types
 have h2 := byteB_len (if s.req then 1 else 0)
 have h3 := bin_len s.dv
 have h4 : s.name.data.toList.length = s.name.size := by simp
 simp only [List.flatten_cons, List.flatten_nil, List.length_append, List.length_nil, be_len]
 omega
end Reg
theorem regBitF (b : Bool) (st : St) : TrF Tryz.prog 137 [.b b] st fun d st' => d = .i (if b then 1 else 0) ∧ st' = st := by
 cases b
 all_goals (
  refine Qin [2] Tryz.func137 Tryz.results137 Tryz.ntmps137 ?_
  exact WR)
theorem regPutSlotF (s : Sl) (hs : s.name.size ≤ 300) (hn : s.dv.nodes ≤ 1000) (hok : s.dv.Ok) (st : St) : TrF Tryz.prog 57 [.agg s.cells] st fun d st' => d = .sl .shared ((Reg.slotB s).map encB) ∧ st' = st := by
 have hT := binTextF s.name (by omega)
 have hB := binByteF s.types
 have hR := binByteF (if s.req then 1 else 0)
 have hBi := regBitF s.req
 have hV := binValueF s.dv.nodes s.dv (Nat.le_refl _) (by omega) hok
 have hA := binAllF .tight (Reg.slotP s) (by have := Reg.slotB_len s hs; unfold Reg.slotB at this; omega) (by show 4 ≤ 1000000; omega)
 unfold Reg.slotB
 generalize (Reg.slotP s).flatten = F at *
 unfold Reg.slotP Reg.byteB at hA
 cases s with
 | mk snm ty rq dv =>
 dsimp only at *
 generalize tx snm.data.toList = b1 at *
 generalize (if 0 ≤ ty ∧ ty ≤ 255 then [UInt8.ofNat ty.toNat] else []) = b2 at *
 generalize (if rq = true then (1 : Int) else 0) = ri at *
 generalize (if 0 ≤ ri ∧ ri ≤ 255 then [UInt8.ofNat ri.toNat] else []) = b3 at *
 generalize dv.bin = b4 at *
 clear hs hn hok
 cases dv with
 | mk k n sv lv =>
 rw [Sl.cells_mk]
 rw [V.cells_mk] at hV
 simp only [List.map_cons, List.map_nil, encBs] at hA
 replace hT := Lib.hid hT
 replace hB := Lib.hid hB
 replace hR := Lib.hid hR
 replace hBi := Lib.hid hBi
 replace hV := Lib.hid hV
 replace hA := Lib.hid hA
 refine Qin [2] Tryz.func57 Tryz.results57 Tryz.ntmps57 ?_
 repeat' (first | (with_reducible first | refine Q1 ?_ | refine Qe ?_ | refine QQ ?_ | (refine al_go ?_; intro b) | (refine Qa ?_; intro o' ho') | (refine Qp ?_; intro o' ho') | (refine QD ?_ <;> (try constructor) <;> intro hb <;> try intro hb1) | fail) | (refine QE Tryz.call138 (hV.out _) ?_; intro o1 ho1) | (refine QE Tryz.call54 (hA.out _) ?_; intro o2 ho2) | fail)
 all_goals exact Qret
namespace Reg
def b8 (n : Int) : UInt8 := UInt8.ofNat (n % 256).toNat
def stepA (p : Stp) : List UInt8 :=
 if p.kind = 1 then [byteB p.kind, slotB p.slot].flatten
 else if p.kind = 2 ∨ p.kind = 3 ∨ p.kind = 4 then [byteB p.kind, byteB p.col].flatten
 else if p.kind = 5 then [byteB p.kind, be 4 p.order.length].flatten ++ p.order.map b8
 else byteB p.kind
def stepB (p : Stp) : List UInt8 :=
 if p.kind = 3 then [stepA p, tx p.slot.name.data.toList].flatten
 else if p.kind = 4 then [stepA p, byteB p.slot.types].flatten
 else stepA p
end Reg
theorem u8_wrapI (n : Int) : IntKind.u8.wrap n = ((Reg.b8 n).toNat : Int) := by
 have h1 : 0 ≤ n % 256 := Int.emod_nonneg _ (by decide)
 have h2 : n % 256 < 256 := Int.emod_lt_of_pos _ (by decide)
 have h3 : IntKind.u8.wrap n = IntKind.u8.wrap ((n % 256).toNat : Int) := by
  rw [Int.toNat_of_nonneg h1]
  unfold IntKind.wrap
  have e : (2 : Int) ^ IntKind.u8.bits = 256 := by decide
  rw [e, Int.emod_emod_of_dvd n (Int.dvd_refl 256)]
 rw [h3, u8_wrap]; rfl
theorem regPutStepF (p : Stp) (hs : p.slot.name.size ≤ 300) (hn : p.slot.dv.nodes ≤ 1000) (hok : p.slot.dv.Ok) (ho : p.order.length ≤ 1000) (st : St) : TrF Tryz.prog 59 [.agg p.cells] st fun d st' => d = .sl .shared ((Reg.stepB p).map encB) ∧ st' = st := by
 have hB1 := binByteF p.kind
 have hBc := binByteF p.col
 have hBt := binByteF p.slot.types
 have hT := binTextF p.slot.name (by omega)
 have hPS := regPutSlotF p.slot hs hn hok
 have l1 := Reg.byteB_len p.kind
 have l2 := Reg.byteB_len p.col
 have l3 := Reg.byteB_len p.slot.types
 have l4 := Reg.slotB_len p.slot hs
 have l5 : (tx p.slot.name.data.toList).length ≤ 304 := by
  unfold tx
  have : p.slot.name.data.toList.length = p.slot.name.size := by simp
  rw [List.length_append, be_len]
  omega
 have all2 := fun (a b : List UInt8) (h : a.length + b.length ≤ 100000) => binAllF .tight [a, b] (by simp only [List.flatten_cons, List.flatten_nil, List.length_append, List.length_nil]; omega) (by show 2 ≤ 1000000; omega)
 have fl2 : ∀ a b : List UInt8, [a, b].flatten.length = a.length + b.length := fun a b => by simp
 simp only [List.map_cons, List.map_nil, encBs] at all2
 unfold Reg.stepB Reg.stepA
 unfold Reg.byteB at *
 cases p with
 | mk kind col slot order =>
 cases slot with
 | mk snm ty rq dv =>
 cases dv with
 | mk k n sv lv =>
 unfold Stp.cells
 rw [Sl.cells_mk] at *
 dsimp only [List.cons_append, List.nil_append] at *
 generalize tx snm.data.toList = bt at *
 generalize Reg.slotB _ = bs at *
 generalize (if 0 ≤ ty ∧ ty ≤ 255 then [UInt8.ofNat ty.toNat] else []) = by3 at *
 generalize (if 0 ≤ col ∧ col ≤ 255 then [UInt8.ofNat col.toNat] else []) = by2 at *
 generalize (if 0 ≤ kind ∧ kind ≤ 255 then [UInt8.ofNat kind.toNat] else []) = by1 at *
 clear hs hn hok
 by_cases hk1 : kind = 1
 · subst hk1
   have hA1 := all2 by1 bs (by omega)
   rw [if_neg (by decide), if_neg (by decide), if_pos rfl]
   generalize [by1, bs].flatten = f1 at *
   clear all2 fl2 hBc hBt hT l1 l2 l3 l4 l5
   replace hB1 := Lib.hid hB1
   replace hPS := Lib.hid hPS
   replace hA1 := Lib.hid hA1
   refine Qin [2] Tryz.func59 Tryz.results59 Tryz.ntmps59 ?_
   repeat' (first | (with_reducible first | refine Q1 ?_ | refine Qe ?_ | refine QQ ?_ | (refine al_go ?_; intro b) | (refine Qa ?_; intro o' ho') | (refine Qp ?_; intro o' ho') | (refine QD ?_ <;> (try constructor) <;> intro hb <;> try intro hb1) | fail) | (refine QE Tryz.call54 (hA1.out _) ?_; intro o1 ho1) | fail)
   all_goals exact Qret
 by_cases hk2 : kind = 2
 · subst hk2
   have hA1 := all2 by1 by2 (by omega)
   rw [if_neg (by decide), if_neg (by decide), if_neg (by decide), if_pos (by decide)]
   generalize [by1, by2].flatten = f1 at *
   clear all2 fl2 hBt hT hPS l1 l2 l3 l4 l5
   replace hB1 := Lib.hid hB1
   replace hBc := Lib.hid hBc
   replace hA1 := Lib.hid hA1
   refine Qin [2] Tryz.func59 Tryz.results59 Tryz.ntmps59 ?_
   repeat' (first | (with_reducible first | refine Q1 ?_ | refine Qe ?_ | refine QQ ?_ | (refine al_go ?_; intro b) | (refine Qa ?_; intro o' ho') | (refine Qp ?_; intro o' ho') | (refine QD ?_ <;> (try constructor) <;> intro hb <;> try intro hb1) | fail) | (refine QE Tryz.call54 (hA1.out _) ?_; intro o1 ho1) | fail)
   all_goals exact Qret
 by_cases hk3 : kind = 3
 · subst hk3
   have hA1 := all2 by1 by2 (by omega)
   have hA2 := all2 [by1, by2].flatten bt (by rw [fl2]; omega)
   rw [if_pos rfl, if_neg (by decide), if_pos (by decide)]
   generalize [by1, by2].flatten = f1 at *
   generalize [f1, bt].flatten = f2 at *
   clear all2 fl2 hBt hPS l1 l2 l3 l4 l5
   replace hB1 := Lib.hid hB1
   replace hBc := Lib.hid hBc
   replace hT := Lib.hid hT
   replace hA1 := Lib.hid hA1
   replace hA2 := Lib.hid hA2
   refine Qin [2] Tryz.func59 Tryz.results59 Tryz.ntmps59 ?_
   repeat' (first | (with_reducible first | refine Q1 ?_ | refine Qe ?_ | refine QQ ?_ | (refine al_go ?_; intro b) | (refine Qa ?_; intro o' ho') | (refine Qp ?_; intro o' ho') | (refine QD ?_ <;> (try constructor) <;> intro hb <;> try intro hb1) | fail) | (refine QE Tryz.call54 (hA1.out _) ?_; intro o1 ho1) | (refine QE Tryz.call54 (hA2.out _) ?_; intro o2 ho2) | fail)
   all_goals exact Qret
 by_cases hk4 : kind = 4
 · subst hk4
   have hA1 := all2 by1 by2 (by omega)
   have hA2 := all2 [by1, by2].flatten by3 (by rw [fl2]; omega)
   rw [if_neg (by decide), if_pos rfl, if_neg (by decide), if_pos (by decide)]
   generalize [by1, by2].flatten = f1 at *
   generalize [f1, by3].flatten = f2 at *
   clear all2 fl2 hT hPS l1 l2 l3 l4 l5
   replace hB1 := Lib.hid hB1
   replace hBc := Lib.hid hBc
   replace hBt := Lib.hid hBt
   replace hA1 := Lib.hid hA1
   replace hA2 := Lib.hid hA2
   refine Qin [2] Tryz.func59 Tryz.results59 Tryz.ntmps59 ?_
   repeat' (first | (with_reducible first | refine Q1 ?_ | refine Qe ?_ | refine QQ ?_ | (refine al_go ?_; intro b) | (refine Qa ?_; intro o' ho') | (refine Qp ?_; intro o' ho') | (refine QD ?_ <;> (try constructor) <;> intro hb <;> try intro hb1) | fail) | (refine QE Tryz.call54 (hA1.out _) ?_; intro o1 ho1) | (refine QE Tryz.call54 (hA2.out _) ?_; intro o2 ho2) | fail)
   all_goals exact Qret
 rw [if_neg hk3, if_neg hk4, if_neg hk1, if_neg (by omega)]
 by_cases hk5 : kind = 5
 · subst hk5
   rw [if_pos rfl]
   have hN := binNumF order.length
   rw [if_pos (by omega), Int.toNat_natCast] at hN
   have hA1 := all2 by1 (be 4 order.length) (by rw [be_len]; omega)
   have hb4 : (be 4 order.length).length = 4 := be_len ..
   generalize be 4 order.length = bn at *
   generalize hf1 : [by1, bn].flatten = f1 at *
   have hm : (order.map encI).length = order.length := List.length_map ..
   have hc : Hid (∀ (i : Nat) (n : Int), order[i]? = some n → (order.map encI)[i]? = some [.i n]) := fun i n h => by rw [List.getElem?_map, h]; rfl
   have hT2 : Hid (∀ (i : Nat) (n : Int), order[i]? = some n → f1 ++ (order.take (i + 1)).map Reg.b8 = (f1 ++ (order.take i).map Reg.b8) ++ [Reg.b8 n]) := fun i n h => by
    rw [List.take_add_one, h, Option.toList_some, List.map_append, ← List.append_assoc]; rfl
   have hfl : f1.length ≤ 100000 := by rw [← hf1, fl2]; omega
   clear all2 fl2 hBc hBt hT hPS l1 l2 l3 l4 l5 hf1 hb4
   generalize order.map encI = OS at *
   replace hB1 := Lib.hid hB1
   replace hN := Lib.hid hN
   replace hA1 := Lib.hid hA1
   refine Qin [2] Tryz.func59 Tryz.results59 Tryz.ntmps59 ?_
   repeat' (first | (with_reducible first | refine Q1 ?_ | refine Qe ?_ | refine QQ ?_ | (refine al_go ?_; intro b) | (refine Qa ?_; intro o' ho') | (refine Qp ?_; intro o' ho') | (refine QD ?_ <;> (try constructor) <;> intro hb <;> try intro hb1) | fail) | (refine QE Tryz.call54 (hA1.out _) ?_; intro o1 ho1) | fail)
   refine tr_loopd (ι := Nat) (fun i A st' => i ≤ order.length ∧ A.df = [] ∧ A.e 39 = .sl .shared OS ∧ A.e 40 = .i order.length ∧ A.e 41 = .i i ∧ A.e 1 = .ip [.i 5, .i col, .str snm, .i ty, .b rq, .i k, .i n, .str sv, .sl .shared (lv.map V.cells), .sl .shared OS] ∧ ∃ o' B, o' ≠ .shared ∧ Hid (B = f1 ++ (order.take i).map Reg.b8) ∧ B.length = f1.length + i ∧ A.e 3 = .sl o' (B.map encB) ∧ st' = .room o' 5 1 (B.map encB).length :: st) (fun i => order.length - i) 0 ⟨Nat.zero_le _, Qf, Qf, Qf, Qf, Qf, o1, f1, ho1, Lib.hid (by rw [List.take_zero, List.map_nil, List.append_nil]), rfl, Qf, rfl⟩ ?_
   rintro i A st' ⟨hi, hdf, e39, e40, e41, e1, o', B, ho', HB, hBl, e3, rfl⟩
   by_cases hlt : i < order.length
   · obtain ⟨m, hm2⟩ := gEx hlt
     have h1 := hc.out i m hm2
     have HB2 : Hid (B ++ [Reg.b8 m] = f1 ++ (order.take (i + 1)).map Reg.b8) := by show _ = _; rw [hT2.out i m hm2, HB.out]
     have hw := u8_wrapI m
     clear hm2 hT2 HB
     generalize Reg.b8 m = w at *
     have hBx : B.length + 1 ≤ 1000000 := by omega
     have hBl2 : Hid ((B ++ [w]).length = f1.length + (i + 1)) := Lib.hid (by rw [List.length_append, hBl]; rfl)
     clear hBl
     repeat' (with_reducible first | refine Q1 ?_ | refine Qe ?_ | refine QQ ?_ | (refine al_go ?_; intro b) | (refine Qa ?_; intro o' ho') | (refine Qp ?_; intro o' ho') | (refine QD ?_ <;> (try constructor) <;> intro hb <;> try intro hb1) | fail)
     refine ⟨i + 1, .room o' 5 1 ((B ++ [w]).map encB).length :: st, ?_, ⟨hlt, ?_, ?_, ?_, ?_, ?_, o', B ++ [w], ho', HB2, hBl2.out, ?_, rfl⟩, ?_⟩
     · rw [List.map_append]; (repeat (first | exact List.Sublist.refl _ | apply List.Sublist.cons))
     all_goals exact Qf
   · have hBe := HB.out
     rw [List.take_of_length_le (by omega)] at hBe
     rw [← hBe]
     clear hBe HB hBl hT2
     exact WRa
 · rw [if_neg hk5]
   clear all2 fl2 hBc hBt hT hPS l1 l2 l3 l4 l5
   replace hB1 := Lib.hid hB1
   refine Qin [2] Tryz.func59 Tryz.results59 Tryz.ntmps59 ?_
   exact WRa
namespace Reg
def SlP (s : Sl) : Prop := s.name.size ≤ 300 ∧ s.dv.nodes ≤ 1000 ∧ s.dv.Ok
def StP (p : Stp) : Prop := SlP p.slot ∧ p.order.length ≤ 1000
structure TmP (t : Tm) : Prop where
 nm : t.name.size ≤ 300
 ls : t.slots.length ≤ 8
 lt : t.steps.length ≤ 8
 os : ∀ s ∈ t.slots, SlP s
 ot : ∀ s ∈ t.steps, StP s
theorem stepB_len (p : Stp) (h : StP p) : (stepB p).length ≤ 22000 := by
 obtain ⟨⟨h1, -⟩, h2⟩ := h
 have hs := slotB_len p.slot h1
 have e1 := byteB_len p.kind
 have e2 := byteB_len p.col
 have e3 := byteB_len p.slot.types
 have h4 : p.slot.name.data.toList.length = p.slot.name.size := by simp
 have hA : (stepA p).length ≤ 21100 := by
  unfold stepA
  repeat' split
  all_goals (first | omega | (simp only [List.flatten_cons, List.flatten_nil, List.length_append, List.length_nil, be_len, List.length_map]; omega))
 unfold stepB
 repeat' split
 all_goals (first | (simp only [List.flatten_cons, List.flatten_nil, List.length_append, List.length_nil, tx, be_len]; omega) | omega)
def listB {α : Type} (f : α → List UInt8) (l : List α) : List UInt8 := be 4 l.length ++ (l.map f).flatten
theorem listB_len {α : Type} (f : α → List UInt8) (k : Nat) : ∀ (l : List α), (∀ x ∈ l, (f x).length ≤ k) → (listB f l).length ≤ 4 + l.length * k := fun l h => by
 unfold listB
 rw [List.length_append, be_len]
 have : ∀ l : List α, (∀ x ∈ l, (f x).length ≤ k) → (l.map f).flatten.length ≤ l.length * k := fun l => by
  induction l with
  | nil => intro _; simp
  | cons a l ih =>
   intro h
   have h1 := ih fun x hx => h x (List.mem_cons_of_mem _ hx)
   have h2 := h a (List.mem_cons_self ..)
   rw [List.map_cons, List.flatten_cons, List.length_append, List.length_cons, Nat.add_mul]
   omega
 have := this l h
 omega
def tmP (t : Tm) : List (List UInt8) := [tx t.name.data.toList, listB slotB t.slots, listB stepB t.steps]
def tmB (t : Tm) : List UInt8 := (tmP t).flatten
theorem tmB_len (t : Tm) (h : TmP t) : (tmB t).length ≤ 350000 := by
 unfold tmB tmP
 have h1 := listB_len slotB 21000 t.slots fun s hs => slotB_len s (h.os s hs).1
 have h2 := listB_len stepB 22000 t.steps fun s hs => stepB_len s (h.ot s hs)
 have h3 : t.name.data.toList.length = t.name.size := by simp
 have := h.nm
 have := h.ls
 have := h.lt
 simp only [List.flatten_cons, List.flatten_nil, List.length_append, List.length_nil, tx, be_len]
 omega
def put (L : List Tm) : List UInt8 := if right L = true then listB tmB L else []
end Reg
theorem regListSlotFL (s : Sl) (h : Reg.SlP s) : (Reg.slotB s).length ≤ 21000 := Reg.slotB_len s h.1
theorem regListSlotF (l : List Sl) (h : ∀ s ∈ l, Reg.SlP s) (hl : l.length ≤ 40) (st : St) : TrF Tryz.prog 56 [.sl .shared (l.map Sl.cells), .fn (.func 57) [] []] st fun d st' => d = .sl .shared ((Reg.listB Reg.slotB l).map encB) ∧ st' = st := by
 have hN := binNumF l.length
 rw [if_pos (by omega), Int.toNat_natCast] at hN
 have hm : (l.map Sl.cells).length = l.length := List.length_map ..
 have hc : Hid (∀ (i : Nat) (s : Sl), l[i]? = some s → (l.map Sl.cells)[i]? = some (Sl.cells s)) := fun i s h => by rw [List.getElem?_map, h]; rfl
 obtain ⟨BF, hBF⟩ : ∃ BF : Nat → List UInt8, (fun i : Nat => be 4 l.length ++ ((l.take i).map Reg.slotB).flatten) = BF := ⟨_, rfl⟩
 have hBi : ∀ i, be 4 l.length ++ ((l.take i).map Reg.slotB).flatten = BF i := fun i => by rw [← hBF]
 have hB0 : Hid (BF 0 = be 4 l.length) := Lib.hid (by rw [← hBi]; show _ ++ [] = _; rw [List.append_nil])
 have hBn : Hid (Reg.listB Reg.slotB l = BF l.length) := Lib.hid (by rw [← hBi, List.take_length]; rfl)
 have hBs : Hid (∀ (i : Nat) (s : Sl), l[i]? = some s → BF (i + 1) = BF i ++ Reg.slotB s) := fun i s h => by
  rw [← hBi, ← hBi, List.take_add_one, h, Option.toList_some, List.map_append, List.flatten_append, List.append_assoc]
  congr 2
  show [Reg.slotB s].flatten = _
  rw [List.flatten_cons, List.flatten_nil, List.append_nil]
 have hBl : Hid (∀ (i : Nat), i ≤ l.length → (BF i).length ≤ 4 + i * 21000) := fun i => by
  induction i with
  | zero => intro _; rw [hB0.out, be_len]; omega
  | succ i ih =>
   intro hi
   obtain ⟨s, hs⟩ := gEx (l := l) (i := i) (by omega)
   have h1 := ih (by omega)
   have h2 := regListSlotFL s (h s (List.mem_of_getElem? hs))
   rw [hBs.out i s hs, List.length_append, Nat.add_mul]
   omega
 have hG := Lib.hid fun (s : Sl) (hs : s ∈ l) => (fun s (h : Reg.SlP s) => regPutSlotF s h.1 h.2.1 h.2.2) s (h s hs)
 rw [hBn.out]
 rw [← hB0.out] at hN
 have hN4 : ((BF 0).map encB).length = 4 := by rw [hB0.out, List.length_map, be_len]
 clear hBi hBF h hB0 hBn
 generalize l.map Sl.cells = LS at *
 replace hN := Lib.hid hN
 refine Qin [4] Tryz.func56 Tryz.results56 Tryz.ntmps56 ?_
 refine tr_room 5 1 ((BF 0).map encB).length ?_
 repeat' (with_reducible first | refine Q1 ?_ | refine Qe ?_ | refine QQ ?_ | (refine al_go ?_; intro b) | (refine Qa ?_; intro o' ho') | (refine Qp ?_; intro o' ho') | (refine QD ?_ <;> (try constructor) <;> intro hb <;> try intro hb1) | fail)
 refine tr_loopd (ι := Nat) (fun i A st' => i ≤ l.length ∧ A.df = [] ∧ A.e 1 = .fn (.func 57) [] [] ∧ A.e 11 = .sl .shared LS ∧ A.e 12 = .i l.length ∧ A.e 13 = .i i ∧ ∃ o', o' ≠ .shared ∧ A.e 5 = .sl o' ((BF i).map encB) ∧ st' = .room o' 5 1 ((BF i).map encB).length :: st) (fun i => l.length - i) 0 ⟨Nat.zero_le _, Qf, Qf, Qf, Qf, Qf, .tight, by decide, Qf, rfl⟩ ?_
 clear hN hN4
 rintro i A st' ⟨hi, hdf, e1, e11, e12, e13, o', ho', e5, rfl⟩
 by_cases hlt : i < l.length
 · obtain ⟨s, hs⟩ := gEx hlt
   have h1 := hc.out i s hs
   have hP := hG.out s (List.mem_of_getElem? hs)
   have hB := hBs.out i s hs
   have hBx : (BF i).length + (Reg.slotB s).length ≤ 1000000 * 1 := by
    have := hBl.out (i + 1) hlt
    rw [hB, List.length_append] at this
    omega
   clear hs hBs hBl hG hc
   generalize BF i = X1 at *
   generalize Reg.slotB s = X2 at *
   cases s with
   | mk nm ty rq dv =>
   cases dv with
   | mk k n sv lv =>
   rw [Sl.cells_mk] at *
   replace hP := Lib.hid hP
   replace hB := Lib.hid hB
   repeat' (with_reducible first | refine Q1 ?_ | refine Qe ?_ | refine QQ ?_ | (refine al_go ?_; intro b) | (refine Qa ?_; intro o' ho') | (refine Qp ?_; intro o' ho') | (refine QD ?_ <;> (try constructor) <;> intro hb <;> try intro hb1) | fail)
   refine ⟨i + 1, .room o' 5 1 ((X1 ++ X2).map encB).length :: st, ?_, ⟨hlt, ?_, ?_, ?_, ?_, ?_, o', ho', ?_, ?_⟩, ?_⟩
   · rw [List.map_append]; (repeat (first | exact List.Sublist.refl _ | apply List.Sublist.cons))
   rotate_right 3
   · rw [hB.out, List.map_append]; exact Qf
   · rw [hB.out]
   all_goals exact Qf
 · obtain rfl : i = l.length := by omega
   exact WRa
theorem regListStepFL (s : Stp) (h : Reg.StP s) : (Reg.stepB s).length ≤ 22000 := Reg.stepB_len s h
theorem regListStepF (l : List Stp) (h : ∀ s ∈ l, Reg.StP s) (hl : l.length ≤ 40) (st : St) : TrF Tryz.prog 58 [.sl .shared (l.map Stp.cells), .fn (.func 59) [] []] st fun d st' => d = .sl .shared ((Reg.listB Reg.stepB l).map encB) ∧ st' = st := by
 have hN := binNumF l.length
 rw [if_pos (by omega), Int.toNat_natCast] at hN
 have hm : (l.map Stp.cells).length = l.length := List.length_map ..
 have hc : Hid (∀ (i : Nat) (s : Stp), l[i]? = some s → (l.map Stp.cells)[i]? = some (Stp.cells s)) := fun i s h => by rw [List.getElem?_map, h]; rfl
 obtain ⟨BF, hBF⟩ : ∃ BF : Nat → List UInt8, (fun i : Nat => be 4 l.length ++ ((l.take i).map Reg.stepB).flatten) = BF := ⟨_, rfl⟩
 have hBi : ∀ i, be 4 l.length ++ ((l.take i).map Reg.stepB).flatten = BF i := fun i => by rw [← hBF]
 have hB0 : Hid (BF 0 = be 4 l.length) := Lib.hid (by rw [← hBi]; show _ ++ [] = _; rw [List.append_nil])
 have hBn : Hid (Reg.listB Reg.stepB l = BF l.length) := Lib.hid (by rw [← hBi, List.take_length]; rfl)
 have hBs : Hid (∀ (i : Nat) (s : Stp), l[i]? = some s → BF (i + 1) = BF i ++ Reg.stepB s) := fun i s h => by
  rw [← hBi, ← hBi, List.take_add_one, h, Option.toList_some, List.map_append, List.flatten_append, List.append_assoc]
  congr 2
  show [Reg.stepB s].flatten = _
  rw [List.flatten_cons, List.flatten_nil, List.append_nil]
 have hBl : Hid (∀ (i : Nat), i ≤ l.length → (BF i).length ≤ 4 + i * 22000) := fun i => by
  induction i with
  | zero => intro _; rw [hB0.out, be_len]; omega
  | succ i ih =>
   intro hi
   obtain ⟨s, hs⟩ := gEx (l := l) (i := i) (by omega)
   have h1 := ih (by omega)
   have h2 := regListStepFL s (h s (List.mem_of_getElem? hs))
   rw [hBs.out i s hs, List.length_append, Nat.add_mul]
   omega
 have hG := Lib.hid fun (s : Stp) (hs : s ∈ l) => (fun s (h : Reg.StP s) => regPutStepF s h.1.1 h.1.2.1 h.1.2.2 h.2) s (h s hs)
 rw [hBn.out]
 rw [← hB0.out] at hN
 have hN4 : ((BF 0).map encB).length = 4 := by rw [hB0.out, List.length_map, be_len]
 clear hBi hBF h hB0 hBn
 generalize l.map Stp.cells = LS at *
 replace hN := Lib.hid hN
 refine Qin [4] Tryz.func58 Tryz.results58 Tryz.ntmps58 ?_
 refine tr_room 5 1 ((BF 0).map encB).length ?_
 repeat' (with_reducible first | refine Q1 ?_ | refine Qe ?_ | refine QQ ?_ | (refine al_go ?_; intro b) | (refine Qa ?_; intro o' ho') | (refine Qp ?_; intro o' ho') | (refine QD ?_ <;> (try constructor) <;> intro hb <;> try intro hb1) | fail)
 refine tr_loopd (ι := Nat) (fun i A st' => i ≤ l.length ∧ A.df = [] ∧ A.e 1 = .fn (.func 59) [] [] ∧ A.e 11 = .sl .shared LS ∧ A.e 12 = .i l.length ∧ A.e 13 = .i i ∧ ∃ o', o' ≠ .shared ∧ A.e 5 = .sl o' ((BF i).map encB) ∧ st' = .room o' 5 1 ((BF i).map encB).length :: st) (fun i => l.length - i) 0 ⟨Nat.zero_le _, Qf, Qf, Qf, Qf, Qf, .tight, by decide, Qf, rfl⟩ ?_
 clear hN hN4
 rintro i A st' ⟨hi, hdf, e1, e11, e12, e13, o', ho', e5, rfl⟩
 by_cases hlt : i < l.length
 · obtain ⟨s, hs⟩ := gEx hlt
   have h1 := hc.out i s hs
   have hP := hG.out s (List.mem_of_getElem? hs)
   have hB := hBs.out i s hs
   have hBx : (BF i).length + (Reg.stepB s).length ≤ 1000000 * 1 := by
    have := hBl.out (i + 1) hlt
    rw [hB, List.length_append] at this
    omega
   clear hs hBs hBl hG hc
   generalize BF i = X1 at *
   generalize Reg.stepB s = X2 at *
   cases s with
   | mk kind col slot order =>
   cases slot with
   | mk nm ty rq dv =>
   cases dv with
   | mk k n sv lv =>
   unfold Stp.cells at h1 hP
   rw [Sl.cells_mk] at *
   dsimp only [List.cons_append, List.nil_append] at *
   generalize order.map encI = OS at *
   replace hP := Lib.hid hP
   replace hB := Lib.hid hB
   repeat' (with_reducible first | refine Q1 ?_ | refine Qe ?_ | refine QQ ?_ | (refine al_go ?_; intro b) | (refine Qa ?_; intro o' ho') | (refine Qp ?_; intro o' ho') | (refine QD ?_ <;> (try constructor) <;> intro hb <;> try intro hb1) | fail)
   refine ⟨i + 1, .room o' 5 1 ((X1 ++ X2).map encB).length :: st, ?_, ⟨hlt, ?_, ?_, ?_, ?_, ?_, o', ho', ?_, ?_⟩, ?_⟩
   · rw [List.map_append]; (repeat (first | exact List.Sublist.refl _ | apply List.Sublist.cons))
   rotate_right 3
   · rw [hB.out, List.map_append]; exact Qf
   · rw [hB.out]
   all_goals exact Qf
 · obtain rfl : i = l.length := by omega
   exact WRa
theorem regPut1F (t : Tm) (h : Reg.TmP t) (st : St) : TrF Tryz.prog 53 [.agg t.cells] st fun d st' => d = .sl .shared ((Reg.tmB t).map encB) ∧ st' = st := by
 have hT := binTextF t.name (by have := h.nm; omega)
 have hS := regListSlotF t.slots h.os (by have := h.ls; omega)
 have hP := regListStepF t.steps h.ot (by have := h.lt; omega)
 have hA := binAllF .tight (Reg.tmP t) (by have := Reg.tmB_len t h; unfold Reg.tmB at this; omega) (by show 3 ≤ 1000000; omega)
 unfold Reg.tmB
 generalize (Reg.tmP t).flatten = F at *
 unfold Reg.tmP at hA
 simp only [List.map_cons, List.map_nil, encBs] at hA
 clear h
 unfold Tm.cells
 generalize tx t.name.data.toList = b1 at *
 generalize Reg.listB Reg.slotB t.slots = b2 at *
 generalize Reg.listB Reg.stepB t.steps = b3 at *
 generalize t.slots.map Sl.cells = SL at *
 generalize t.steps.map Stp.cells = TL at *
 generalize t.name = nm at *
 replace hT := Lib.hid hT
 replace hS := Lib.hid hS
 replace hP := Lib.hid hP
 replace hA := Lib.hid hA
 refine Qin [2] Tryz.func53 Tryz.results53 Tryz.ntmps53 ?_
 repeat' (first | (with_reducible first | refine Q1 ?_ | refine Qe ?_ | refine QQ ?_ | (refine al_go ?_; intro b) | (refine Qa ?_; intro o' ho') | (refine Qp ?_; intro o' ho') | (refine QD ?_ <;> (try constructor) <;> intro hb <;> try intro hb1) | fail) | (refine QE Tryz.call54 (hA.out _) ?_; intro o2 ho2) | fail)
 all_goals exact Qret
theorem regListTmFL (s : Tm) (h : Reg.TmP s) : (Reg.tmB s).length ≤ 350000 := Reg.tmB_len s h
theorem regListTmF (l : List Tm) (h : ∀ s ∈ l, Reg.TmP s) (hl : l.length ≤ 6) (st : St) : TrF Tryz.prog 52 [.sl .shared (l.map Tm.cells), .fn (.func 53) [] []] st fun d st' => ∃ o', o' ≠ .shared ∧ d = .sl o' ((Reg.listB Reg.tmB l).map encB) ∧ st' = .room o' 5 1 ((Reg.listB Reg.tmB l).map encB).length :: st := by
 have hN := binNumF l.length
 rw [if_pos (by omega), Int.toNat_natCast] at hN
 have hm : (l.map Tm.cells).length = l.length := List.length_map ..
 have hc : Hid (∀ (i : Nat) (s : Tm), l[i]? = some s → (l.map Tm.cells)[i]? = some (Tm.cells s)) := fun i s h => by rw [List.getElem?_map, h]; rfl
 obtain ⟨BF, hBF⟩ : ∃ BF : Nat → List UInt8, (fun i : Nat => be 4 l.length ++ ((l.take i).map Reg.tmB).flatten) = BF := ⟨_, rfl⟩
 have hBi : ∀ i, be 4 l.length ++ ((l.take i).map Reg.tmB).flatten = BF i := fun i => by rw [← hBF]
 have hB0 : Hid (BF 0 = be 4 l.length) := Lib.hid (by rw [← hBi]; show _ ++ [] = _; rw [List.append_nil])
 have hBn : Hid (Reg.listB Reg.tmB l = BF l.length) := Lib.hid (by rw [← hBi, List.take_length]; rfl)
 have hBs : Hid (∀ (i : Nat) (s : Tm), l[i]? = some s → BF (i + 1) = BF i ++ Reg.tmB s) := fun i s h => by
  rw [← hBi, ← hBi, List.take_add_one, h, Option.toList_some, List.map_append, List.flatten_append, List.append_assoc]
  congr 2
  show [Reg.tmB s].flatten = _
  rw [List.flatten_cons, List.flatten_nil, List.append_nil]
 have hBl : Hid (∀ (i : Nat), i ≤ l.length → (BF i).length ≤ 4 + i * 350000) := fun i => by
  induction i with
  | zero => intro _; rw [hB0.out, be_len]; omega
  | succ i ih =>
   intro hi
   obtain ⟨s, hs⟩ := gEx (l := l) (i := i) (by omega)
   have h1 := ih (by omega)
   have h2 := regListTmFL s (h s (List.mem_of_getElem? hs))
   rw [hBs.out i s hs, List.length_append, Nat.add_mul]
   omega
 have hG := Lib.hid fun (s : Tm) (hs : s ∈ l) => (fun s (h : Reg.TmP s) => regPut1F s h) s (h s hs)
 rw [hBn.out]
 rw [← hB0.out] at hN
 have hN4 : ((BF 0).map encB).length = 4 := by rw [hB0.out, List.length_map, be_len]
 clear hBi hBF h hB0 hBn
 generalize l.map Tm.cells = LS at *
 replace hN := Lib.hid hN
 refine Qin [4] Tryz.func52 Tryz.results52 Tryz.ntmps52 ?_
 refine tr_room 5 1 ((BF 0).map encB).length ?_
 repeat' (with_reducible first | refine Q1 ?_ | refine Qe ?_ | refine QQ ?_ | (refine al_go ?_; intro b) | (refine Qa ?_; intro o' ho') | (refine Qp ?_; intro o' ho') | (refine QD ?_ <;> (try constructor) <;> intro hb <;> try intro hb1) | fail)
 refine tr_loopd (ι := Nat) (fun i A st' => i ≤ l.length ∧ A.df = [] ∧ A.e 1 = .fn (.func 53) [] [] ∧ A.e 11 = .sl .shared LS ∧ A.e 12 = .i l.length ∧ A.e 13 = .i i ∧ ∃ o', o' ≠ .shared ∧ A.e 5 = .sl o' ((BF i).map encB) ∧ st' = .room o' 5 1 ((BF i).map encB).length :: st) (fun i => l.length - i) 0 ⟨Nat.zero_le _, Qf, Qf, Qf, Qf, Qf, .tight, by decide, Qf, rfl⟩ ?_
 clear hN hN4
 rintro i A st' ⟨hi, hdf, e1, e11, e12, e13, o', ho', e5, rfl⟩
 by_cases hlt : i < l.length
 · obtain ⟨s, hs⟩ := gEx hlt
   have h1 := hc.out i s hs
   have hP := hG.out s (List.mem_of_getElem? hs)
   have hB := hBs.out i s hs
   have hBx : (BF i).length + (Reg.tmB s).length ≤ 1000000 * 10 := by
    have := hBl.out (i + 1) hlt
    rw [hB, List.length_append] at this
    omega
   clear hs hBs hBl hG hc
   generalize BF i = X1 at *
   generalize Reg.tmB s = X2 at *
   unfold Tm.cells at h1 hP
   generalize s.slots.map Sl.cells = SL at *
   generalize s.steps.map Stp.cells = TL at *
   generalize s.name = nm at *
   replace hP := Lib.hid hP
   replace hB := Lib.hid hB
   repeat' (with_reducible first | refine Q1 ?_ | refine Qe ?_ | refine QQ ?_ | (refine al_go ?_; intro b) | (refine Qa ?_; intro o' ho') | (refine Qp ?_; intro o' ho') | (refine QD ?_ <;> (try constructor) <;> intro hb <;> try intro hb1) | fail)
   refine ⟨i + 1, .room o' 5 1 ((X1 ++ X2).map encB).length :: st, ?_, ⟨hlt, ?_, ?_, ?_, ?_, ?_, o', ho', ?_, ?_⟩, ?_⟩
   · rw [List.map_append]; (repeat (first | exact List.Sublist.refl _ | apply List.Sublist.cons))
   rotate_right 3
   · rw [hB.out, List.map_append]; exact Qf
   · rw [hB.out]
   all_goals exact Qf
 · obtain rfl : i = l.length := by omega
   repeat' (with_reducible first | refine Q1 ?_ | refine Qe ?_ | refine QQ ?_ | (refine al_go ?_; intro b) | (refine Qa ?_; intro o' ho') | (refine Qp ?_; intro o' ho') | (refine QD ?_ <;> (try constructor) <;> intro hb <;> try intro hb1) | fail)
   all_goals ((apply ret_own (by simp) (by first | rfl | assumption)); (focus ((try simp (disch := omega) only [push_cast, simprocAttr, *]); (try exact rfl); done)); (focus (first | assumption | (intro h; cases h))); (focus ((repeat (first | exact List.Sublist.refl _ | apply List.Sublist.cons)); done)))
   all_goals rfl
theorem regPutF (L : List Tm) (hL : ∀ t ∈ L, TOk t) (hl : L.length ≤ 1000000) (hP : Reg.right L = true → L.length ≤ 6 ∧ ∀ t ∈ L, Reg.TmP t) (st : St) : TrF Tryz.prog 19 [.sl .shared (L.map Tm.cells)] st fun d st' => d = .sl .shared ((Reg.put L).map encB) ∧ st' = st := by
 have hR := regRightF L hL hl
 have hQ : Reg.right L = true → ∀ st : St, TrF Tryz.prog 52 [.sl .shared (L.map Tm.cells), .fn (.func 53) [] []] st fun d st' => ∃ o', o' ≠ .shared ∧ d = .sl o' ((Reg.put L).map encB) ∧ st' = .room o' 5 1 ((Reg.put L).map encB).length :: st := fun h st => by
  unfold Reg.put
  rw [if_pos h]
  exact regListTmF L (hP h).2 (hP h).1 st
 have h0 : Reg.right L = false → Reg.put L = [] := fun h => by unfold Reg.put; rw [if_neg (by rw [h]; exact Bool.false_ne_true)]
 clear hP hL
 generalize Reg.put L = B at *
 generalize L.map Tm.cells = LS at *
 generalize Reg.right L = q at *
 cases q with
 | false =>
  rw [h0 rfl]
  clear h0 hQ
  replace hR := Lib.hid hR
  refine Qin [2] Tryz.func19 Tryz.results19 Tryz.ntmps19 ?_
  exact WRa
 | true =>
  have hQ2 := hQ rfl
  clear h0 hQ
  replace hR := Lib.hid hR
  replace hQ2 := Lib.hid hQ2
  refine Qin [2] Tryz.func19 Tryz.results19 Tryz.ntmps19 ?_
  repeat' (first | (with_reducible first | refine Q1 ?_ | refine Qe ?_ | refine QQ ?_ | (refine al_go ?_; intro b) | (refine Qa ?_; intro o' ho') | (refine Qp ?_; intro o' ho') | (refine QD ?_ <;> (try constructor) <;> intro hb <;> try intro hb1) | fail) | (refine QE Tryz.call52 (hQ2.out _) ?_; intro o1 ho1) | fail)
  all_goals exact Qret
theorem regPutOF (L : List Tm) (hL : ∀ t ∈ L, TOk t) (hl : L.length ≤ 6) (hr : Reg.right L = true) (hP : ∀ t ∈ L, Reg.TmP t) (st : St) : TrF Tryz.prog 19 [.sl .shared (L.map Tm.cells)] st fun d st' => ∃ o', o' ≠ .shared ∧ d = .sl o' ((Reg.put L).map encB) ∧ st' = .room o' 5 1 ((Reg.put L).map encB).length :: st := by
 have hR := regRightF L hL (by omega)
 have hQ := regListTmF L hP hl
 unfold Reg.put
 rw [if_pos hr]
 rw [hr] at hR
 clear hP hL hr
 generalize Reg.listB Reg.tmB L = B at *
 generalize L.map Tm.cells = LS at *
 replace hR := Lib.hid hR
 replace hQ := Lib.hid hQ
 refine Qin [2] Tryz.func19 Tryz.results19 Tryz.ntmps19 ?_
 repeat' (first | (with_reducible first | refine Q1 ?_ | refine Qe ?_ | refine QQ ?_ | (refine al_go ?_; intro b) | (refine Qa ?_; intro o' ho') | (refine Qp ?_; intro o' ho') | (refine QD ?_ <;> (try constructor) <;> intro hb <;> try intro hb1) | fail) | (refine QE Tryz.call52 (hQ.out _) ?_; intro o1 ho1) | fail)
 all_goals ((apply ret_own (by simp) (by first | rfl | assumption)); (focus ((try simp (disch := omega) only [push_cast, simprocAttr, *]); (try exact rfl); done)); (focus (first | assumption | (intro h; cases h))); (focus ((repeat (first | exact List.Sublist.refl _ | apply List.Sublist.cons)); done)))
 all_goals rfl
end Go.Proofs.YtgcienlfpnpbgaaGreat
end
section
namespace Go.Proofs.YtgcienlfpnpbgaaGreat
attribute [local push_cast] encB encI encC V.cells_mk V.cells_len Nat.mul_one Int.sub_zero List.map_nil beq_self_eq_true bne_self_eq_false List.head?_cons
open Go.RowKit
set_option maxHeartbeats 8000000
set_option maxRecDepth 10000
namespace Reg
def all2 {α : Type} (f : α → α → Bool) : List α → List α → Bool
 | [], [] => true
 | a :: l, b :: m => f a b && all2 f l m
 | _, _ => false
theorem all2_len {α : Type} {f : α → α → Bool} : ∀ (a b : List α), all2 f a b = true → a.length = b.length
 | [], [], _ => rfl
 | s :: a, v :: b, h => by
  rw [all2, Bool.and_eq_true] at h
  rw [List.length_cons, List.length_cons, all2_len a b h.2]
 | [], _ :: _, h => by cases h
 | _ :: _, [], h => by cases h
theorem all2_drop {α : Type} {f : α → α → Bool} {a b : List α} {i : Nat} {s v : α} (h1 : a[i]? = some s) (h2 : b[i]? = some v) : all2 f (a.drop i) (b.drop i) = (f s v && all2 f (a.drop (i + 1)) (b.drop (i + 1))) := by
 obtain ⟨k1, rfl⟩ := List.getElem?_eq_some_iff.1 h1
 obtain ⟨k2, rfl⟩ := List.getElem?_eq_some_iff.1 h2
 rw [List.drop_eq_getElem_cons k1, List.drop_eq_getElem_cons k2, all2]
def slotS (a b : Sl) : Bool := (a.name.toList == b.name.toList) && ((a.types == b.types) && ((a.req == b.req) && (a.dv.cmp b.dv == 0)))
def stepS (a b : Stp) : Bool := (a.kind == b.kind) && ((a.col == b.col) && (slotS a.slot b.slot && all2 (· == ·) a.order b.order))
def tmS (a b : Tm) : Bool := (a.name.toList == b.name.toList) && (all2 slotS a.slots b.slots && all2 stepS a.steps b.steps)
def same (a b : List Tm) : Bool := all2 tmS a b
structure TmQ (t : Tm) : Prop where
 ls : t.slots.length ≤ 1000000
 lt : t.steps.length ≤ 1000000
 os : ∀ s ∈ t.slots, s.dv.Bg
 ot : ∀ s ∈ t.steps, s.slot.dv.Bg ∧ s.order.length ≤ 1000000
end Reg
theorem regSlotF (a b : Sl) (ha : a.dv.Bg) (hb : b.dv.Bg) (st : St) : TrF Tryz.prog 68 [.agg a.cells, .agg b.cells] st fun d st' => d = .b (Reg.slotS a b) ∧ st' = st := by
 have hV := valSameB a.dv b.dv ha hb
 clear ha hb
 cases a with
 | mk an at_ ar av =>
 cases b with
 | mk bn bt br bv =>
 unfold Reg.slotS
 dsimp only at *
 generalize (av.cmp bv == 0) = q4 at *
 generalize hq1 : (an.toList == bn.toList) = q1
 cases av with
 | mk k n s l =>
 cases bv with
 | mk k' n' s' l' =>
 rw [Sl.cells_mk, Sl.cells_mk]
 rw [V.cells_mk] at hV
 rw [V.cells_mk] at hV
 replace hV := Lib.hid hV
 cases q1 with
 | false =>
  rw [Bool.false_and]
  refine Qin [4] Tryz.func68 Tryz.results68 Tryz.ntmps68 ?_
  exact WR
 | true =>
  by_cases h2 : at_ = bt
  · subst h2
    rw [beq_self_eq_true, Bool.true_and, Bool.true_and]
    cases ar
    all_goals (
     cases br
     all_goals (
      simp only [beq_self_eq_true, Bool.true_and, show (true == false) = false from rfl, show (false == true) = false from rfl, Bool.false_and]
      refine Qin [4] Tryz.func68 Tryz.results68 Tryz.ntmps68 ?_
      exact WR))
  · rw [beq_eq_false_iff_ne.2 h2, Bool.false_and, Bool.and_false]
    refine Qin [4] Tryz.func68 Tryz.results68 Tryz.ntmps68 ?_
    exact WR
theorem intsEqF (a b : List Int) (hl : a.length ≤ 1000000) (hlb : b.length ≤ 1000000) (st : St) : TrF Tryz.prog 141 [.sl .shared (a.map encI), .sl .shared (b.map encI)] st fun d st' => d = .b (Reg.all2 (· == ·) a b) ∧ st' = st := by
 obtain ⟨B, hB⟩ : ∃ B, Reg.all2 (· == ·) a b = B := ⟨_, rfl⟩
 rw [hB]
 have hm1 : (a.map encI).length = a.length := List.length_map ..
 have hm2 : (b.map encI).length = b.length := List.length_map ..
 have hc1 : Hid (∀ (i : Nat) (v : Int), a[i]? = some v → (a.map encI)[i]? = some [.i v]) := fun i v h => by rw [List.getElem?_map, h]; rfl
 have hc2 : Hid (∀ (i : Nat) (v : Int), b[i]? = some v → (b.map encI)[i]? = some [.i v]) := fun i v h => by rw [List.getElem?_map, h]; rfl
 generalize a.map encI = AS at *
 generalize b.map encI = BS at *
 by_cases hlen : a.length = b.length
 · have HB : Hid (Reg.all2 (· == ·) (a.drop 0) (b.drop 0) = B) := hB
   clear hB
   refine Qin [4] Tryz.func141 Tryz.results141 Tryz.ntmps141 ?_
   repeat' (with_reducible first | refine Q1 ?_ | refine Qe ?_ | refine QQ ?_ | (refine al_go ?_; intro b) | (refine QD ?_ <;> (try constructor) <;> intro hb <;> try intro hb1) | fail)
   refine tr_loopd (ι := Nat) (fun i A st' => i ≤ a.length ∧ Hid (Reg.all2 (· == ·) (a.drop i) (b.drop i) = B) ∧ A.df = [] ∧ A.e 0 = .sl .shared AS ∧ A.e 1 = .sl .shared BS ∧ A.e 12 = .i a.length ∧ A.e 13 = .i i ∧ st = st') (fun i => a.length - i) 0 ⟨Nat.zero_le _, HB, Qf, Qf, Qf, Qf, Qf, rfl⟩ ?_
   rintro i A st' ⟨hi, HT, hdf, e0, e1, e12, e13, rfl⟩
   clear HB
   by_cases hlt : i < a.length
   · obtain ⟨s, hs⟩ := gEx hlt
     obtain ⟨v, hv⟩ := gEx (l := b) (i := i) (by omega)
     have HE := HT.out
     rw [Reg.all2_drop hs hv] at HE
     have h1 := hc1.out i s hs
     have h2 := hc2.out i v hv
     clear HT hs hv
     obtain ⟨G, hGG⟩ : ∃ G, Reg.all2 (· == ·) (a.drop (i + 1)) (b.drop (i + 1)) = G := ⟨_, rfl⟩
     rw [hGG] at HE
     replace hGG := Lib.hid hGG
     by_cases hq : s = v
     · subst hq
       rw [beq_self_eq_true, Bool.true_and] at HE
       replace HE := Lib.hid (hGG.out.trans HE)
       clear hGG
       repeat' (with_reducible first | refine Q1 ?_ | refine Qe ?_ | refine QQ ?_ | (refine al_go ?_; intro b) | (refine QD ?_ <;> (try constructor) <;> intro hb <;> try intro hb1) | fail)
       refine ⟨i + 1, st, (by (repeat (first | exact List.Sublist.refl _ | apply List.Sublist.cons))), ⟨hlt, HE, ?_, ?_, ?_, ?_, ?_, rfl⟩, by omega⟩
       all_goals exact Qf
     · rw [beq_eq_false_iff_ne.2 hq, Bool.false_and] at HE
       subst HE
       clear hGG
       exact WR
   · have HE := HT.out
     rw [List.drop_of_length_le (by omega), List.drop_of_length_le (by omega), Reg.all2] at HE
     subst HE
     clear HT
     exact WR
 · have hBf : B = false := by
    cases B with
    | false => rfl
    | true => exact absurd (Reg.all2_len _ _ hB) hlen
   subst hBf
   clear hB
   have hl2 : ¬ (a.length : Int) = (b.length : Int) := by omega
   clear hlen
   refine Qin [4] Tryz.func141 Tryz.results141 Tryz.ntmps141 ?_
   exact WR
theorem regEqSlF (a b : List Sl) (ha : ∀ s ∈ a, s.dv.Bg) (hb : ∀ s ∈ b, s.dv.Bg) (hl : a.length ≤ 1000000) (hlb : b.length ≤ 1000000) (st : St) : TrF Tryz.prog 67 [.sl .shared (a.map Sl.cells), .sl .shared (b.map Sl.cells), .fn (.func 68) [] []] st fun d st' => d = .b (Reg.all2 Reg.slotS a b) ∧ st' = st := by
 obtain ⟨B, hB⟩ : ∃ B, Reg.all2 Reg.slotS a b = B := ⟨_, rfl⟩
 rw [hB]
 have hm1 : (a.map Sl.cells).length = a.length := List.length_map ..
 have hm2 : (b.map Sl.cells).length = b.length := List.length_map ..
 have hc1 : Hid (∀ (i : Nat) (v : Sl), a[i]? = some v → (a.map Sl.cells)[i]? = some (Sl.cells v)) := fun i v h => by rw [List.getElem?_map, h]; rfl
 have hc2 : Hid (∀ (i : Nat) (v : Sl), b[i]? = some v → (b.map Sl.cells)[i]? = some (Sl.cells v)) := fun i v h => by rw [List.getElem?_map, h]; rfl
 have ha2 := Lib.hid ha
 have hb2 := Lib.hid hb
 clear ha hb
 generalize a.map Sl.cells = AS at *
 generalize b.map Sl.cells = BS at *
 by_cases hlen : a.length = b.length
 · have HB : Hid (Reg.all2 Reg.slotS (a.drop 0) (b.drop 0) = B) := hB
   clear hB
   refine Qin [6] Tryz.func67 Tryz.results67 Tryz.ntmps67 ?_
   repeat' (with_reducible first | refine Q1 ?_ | refine Qe ?_ | refine QQ ?_ | (refine al_go ?_; intro b) | (refine QD ?_ <;> (try constructor) <;> intro hb <;> try intro hb1) | fail)
   refine tr_loopd (ι := Nat) (fun i A st' => i ≤ a.length ∧ Hid (Reg.all2 Reg.slotS (a.drop i) (b.drop i) = B) ∧ A.df = [] ∧ A.e 1 = .sl .shared BS ∧ A.e 2 = .fn (.func 68) [] [] ∧ A.e 15 = .sl .shared AS ∧ A.e 16 = .i a.length ∧ A.e 17 = .i i ∧ st = st') (fun i => a.length - i) 0 ⟨Nat.zero_le _, HB, Qf, Qf, Qf, Qf, Qf, Qf, rfl⟩ ?_
   rintro i A st' ⟨hi, HT, hdf, e1, e2, e15, e16, e17, rfl⟩
   clear HB
   by_cases hlt : i < a.length
   · obtain ⟨s, hs⟩ := gEx hlt
     obtain ⟨v, hv⟩ := gEx (l := b) (i := i) (by omega)
     have HE := HT.out
     rw [Reg.all2_drop hs hv] at HE
     have h1 := hc1.out i s hs
     have h2 := hc2.out i v hv
     have hF := regSlotF s v (ha2.out s (List.mem_of_getElem? hs)) (hb2.out v (List.mem_of_getElem? hv))
     clear HT hs hv
     obtain ⟨G, hGG⟩ : ∃ G, Reg.all2 Reg.slotS (a.drop (i + 1)) (b.drop (i + 1)) = G := ⟨_, rfl⟩
     rw [hGG] at HE
     replace hGG := Lib.hid hGG
     generalize Reg.slotS s v = q at *
     cases s with
     | mk an at_ ar av =>
     cases v with
     | mk bn bt br bv =>
     cases av with
     | mk k n s l =>
     cases bv with
     | mk k' n' s' l' =>
     rw [Sl.cells_mk] at h1 hF
     rw [Sl.cells_mk] at h2 hF
     replace hF := Lib.hid hF
     cases q with
     | true =>
      rw [Bool.true_and] at HE
      replace HE := Lib.hid (hGG.out.trans HE)
      clear hGG
      repeat' (with_reducible first | refine Q1 ?_ | refine Qe ?_ | refine QQ ?_ | (refine al_go ?_; intro b) | (refine QD ?_ <;> (try constructor) <;> intro hb <;> try intro hb1) | fail)
      refine ⟨i + 1, st, (by (repeat (first | exact List.Sublist.refl _ | apply List.Sublist.cons))), ⟨hlt, HE, ?_, ?_, ?_, ?_, ?_, ?_, rfl⟩, by omega⟩
      all_goals exact Qf
     | false =>
      rw [Bool.false_and] at HE
      subst HE
      clear hGG
      exact WR
   · have HE := HT.out
     rw [List.drop_of_length_le (by omega), List.drop_of_length_le (by omega), Reg.all2] at HE
     subst HE
     clear HT
     exact WR
 · have hBf : B = false := by
    cases B with
    | false => rfl
    | true => exact absurd (Reg.all2_len _ _ hB) hlen
   subst hBf
   clear hB
   have hl2 : ¬ (a.length : Int) = (b.length : Int) := by omega
   clear hlen
   refine Qin [6] Tryz.func67 Tryz.results67 Tryz.ntmps67 ?_
   exact WR
theorem regStepSF (a b : Stp) (ha : a.slot.dv.Bg ∧ a.order.length ≤ 1000000) (hb : b.slot.dv.Bg ∧ b.order.length ≤ 1000000) (st : St) : TrF Tryz.prog 70 [.agg a.cells, .agg b.cells] st fun d st' => d = .b (Reg.stepS a b) ∧ st' = st := by
 have hS := regSlotF a.slot b.slot ha.1 hb.1
 have hI := intsEqF a.order b.order ha.2 hb.2
 clear ha hb
 unfold Reg.stepS
 generalize Reg.slotS a.slot b.slot = q3 at *
 generalize Reg.all2 (· == ·) a.order b.order = q4 at *
 cases a with
 | mk ak ac as_ ao =>
 cases b with
 | mk bk bc bs bo =>
 unfold Stp.cells
 dsimp only at *
 generalize ao.map encI = AO at *
 generalize bo.map encI = BO at *
 cases as_ with
 | mk an at_ ar av =>
 cases bs with
 | mk bn bt br bv =>
 cases av with
 | mk k n s l =>
 cases bv with
 | mk k' n' s' l' =>
 rw [Sl.cells_mk] at *
 rw [Sl.cells_mk] at *
 dsimp only [List.cons_append, List.nil_append] at *
 replace hS := Lib.hid hS
 replace hI := Lib.hid hI
 by_cases h1 : ak = bk
 · subst h1
   by_cases h2 : ac = bc
   · subst h2
     rw [beq_self_eq_true, beq_self_eq_true, Bool.true_and, Bool.true_and]
     cases q3
     all_goals (
      simp only [Bool.true_and, Bool.false_and]
      refine Qin [4] Tryz.func70 Tryz.results70 Tryz.ntmps70 ?_
      exact WR)
   · rw [beq_eq_false_iff_ne.2 h2, Bool.false_and, Bool.and_false]
     refine Qin [4] Tryz.func70 Tryz.results70 Tryz.ntmps70 ?_
     exact WR
 · rw [beq_eq_false_iff_ne.2 h1, Bool.false_and]
   refine Qin [4] Tryz.func70 Tryz.results70 Tryz.ntmps70 ?_
   exact WR
theorem regEqStpF (a b : List Stp) (ha : ∀ s ∈ a, s.slot.dv.Bg ∧ s.order.length ≤ 1000000) (hb : ∀ s ∈ b, s.slot.dv.Bg ∧ s.order.length ≤ 1000000) (hl : a.length ≤ 1000000) (hlb : b.length ≤ 1000000) (st : St) : TrF Tryz.prog 69 [.sl .shared (a.map Stp.cells), .sl .shared (b.map Stp.cells), .fn (.func 70) [] []] st fun d st' => d = .b (Reg.all2 Reg.stepS a b) ∧ st' = st := by
 obtain ⟨B, hB⟩ : ∃ B, Reg.all2 Reg.stepS a b = B := ⟨_, rfl⟩
 rw [hB]
 have hm1 : (a.map Stp.cells).length = a.length := List.length_map ..
 have hm2 : (b.map Stp.cells).length = b.length := List.length_map ..
 have hc1 : Hid (∀ (i : Nat) (v : Stp), a[i]? = some v → (a.map Stp.cells)[i]? = some (Stp.cells v)) := fun i v h => by rw [List.getElem?_map, h]; rfl
 have hc2 : Hid (∀ (i : Nat) (v : Stp), b[i]? = some v → (b.map Stp.cells)[i]? = some (Stp.cells v)) := fun i v h => by rw [List.getElem?_map, h]; rfl
 have ha2 := Lib.hid ha
 have hb2 := Lib.hid hb
 clear ha hb
 generalize a.map Stp.cells = AS at *
 generalize b.map Stp.cells = BS at *
 by_cases hlen : a.length = b.length
 · have HB : Hid (Reg.all2 Reg.stepS (a.drop 0) (b.drop 0) = B) := hB
   clear hB
   refine Qin [6] Tryz.func69 Tryz.results69 Tryz.ntmps69 ?_
   repeat' (with_reducible first | refine Q1 ?_ | refine Qe ?_ | refine QQ ?_ | (refine al_go ?_; intro b) | (refine QD ?_ <;> (try constructor) <;> intro hb <;> try intro hb1) | fail)
   refine tr_loopd (ι := Nat) (fun i A st' => i ≤ a.length ∧ Hid (Reg.all2 Reg.stepS (a.drop i) (b.drop i) = B) ∧ A.df = [] ∧ A.e 1 = .sl .shared BS ∧ A.e 2 = .fn (.func 70) [] [] ∧ A.e 15 = .sl .shared AS ∧ A.e 16 = .i a.length ∧ A.e 17 = .i i ∧ st = st') (fun i => a.length - i) 0 ⟨Nat.zero_le _, HB, Qf, Qf, Qf, Qf, Qf, Qf, rfl⟩ ?_
   rintro i A st' ⟨hi, HT, hdf, e1, e2, e15, e16, e17, rfl⟩
   clear HB
   by_cases hlt : i < a.length
   · obtain ⟨s, hs⟩ := gEx hlt
     obtain ⟨v, hv⟩ := gEx (l := b) (i := i) (by omega)
     have HE := HT.out
     rw [Reg.all2_drop hs hv] at HE
     have h1 := hc1.out i s hs
     have h2 := hc2.out i v hv
     have hF := regStepSF s v (ha2.out s (List.mem_of_getElem? hs)) (hb2.out v (List.mem_of_getElem? hv))
     clear HT hs hv
     obtain ⟨G, hGG⟩ : ∃ G, Reg.all2 Reg.stepS (a.drop (i + 1)) (b.drop (i + 1)) = G := ⟨_, rfl⟩
     rw [hGG] at HE
     replace hGG := Lib.hid hGG
     generalize Reg.stepS s v = q at *
     cases s with
     | mk ak ac as_ ao =>
     cases v with
     | mk bk bc bs bo =>
     cases as_ with
     | mk an at_ ar av =>
     cases bs with
     | mk bn bt br bv =>
     cases av with
     | mk k n s l =>
     cases bv with
     | mk k' n' s' l' =>
     unfold Stp.cells at h1 h2 hF
     dsimp only at *
     rw [Sl.cells_mk] at h1 hF
     rw [Sl.cells_mk] at h2 hF
     dsimp only [List.cons_append, List.nil_append] at *
     generalize ao.map encI = AO at *
     generalize bo.map encI = BO at *
     replace hF := Lib.hid hF
     cases q with
     | true =>
      rw [Bool.true_and] at HE
      replace HE := Lib.hid (hGG.out.trans HE)
      clear hGG
      repeat' (with_reducible first | refine Q1 ?_ | refine Qe ?_ | refine QQ ?_ | (refine al_go ?_; intro b) | (refine QD ?_ <;> (try constructor) <;> intro hb <;> try intro hb1) | fail)
      refine ⟨i + 1, st, (by (repeat (first | exact List.Sublist.refl _ | apply List.Sublist.cons))), ⟨hlt, HE, ?_, ?_, ?_, ?_, ?_, ?_, rfl⟩, by omega⟩
      all_goals exact Qf
     | false =>
      rw [Bool.false_and] at HE
      subst HE
      clear hGG
      exact WR
   · have HE := HT.out
     rw [List.drop_of_length_le (by omega), List.drop_of_length_le (by omega), Reg.all2] at HE
     subst HE
     clear HT
     exact WR
 · have hBf : B = false := by
    cases B with
    | false => rfl
    | true => exact absurd (Reg.all2_len _ _ hB) hlen
   subst hBf
   clear hB
   have hl2 : ¬ (a.length : Int) = (b.length : Int) := by omega
   clear hlen
   refine Qin [6] Tryz.func69 Tryz.results69 Tryz.ntmps69 ?_
   exact WR
theorem regTmSF (a b : Tm) (ha : Reg.TmQ a) (hb : Reg.TmQ b) (st : St) : TrF Tryz.prog 66 [.agg a.cells, .agg b.cells] st fun d st' => d = .b (Reg.tmS a b) ∧ st' = st := by
 have hS := regEqSlF a.slots b.slots ha.os hb.os ha.ls hb.ls
 have hP := regEqStpF a.steps b.steps ha.ot hb.ot ha.lt hb.lt
 clear ha hb
 unfold Reg.tmS Tm.cells
 generalize Reg.all2 Reg.slotS a.slots b.slots = q2 at *
 generalize Reg.all2 Reg.stepS a.steps b.steps = q3 at *
 generalize a.slots.map Sl.cells = S1 at *
 generalize a.steps.map Stp.cells = T1 at *
 generalize a.name = n1 at *
 generalize b.slots.map Sl.cells = S2 at *
 generalize b.steps.map Stp.cells = T2 at *
 generalize b.name = n2 at *
 generalize hq1 : (n1.toList == n2.toList) = q1
 replace hS := Lib.hid hS
 replace hP := Lib.hid hP
 cases q1
 all_goals (
  cases q2
  all_goals (
   simp only [Bool.true_and, Bool.false_and]
   refine Qin [4] Tryz.func66 Tryz.results66 Tryz.ntmps66 ?_
   exact WR))
theorem regEqTmF (a b : List Tm) (ha : ∀ s ∈ a, Reg.TmQ s) (hb : ∀ s ∈ b, Reg.TmQ s) (hl : a.length ≤ 1000000) (hlb : b.length ≤ 1000000) (st : St) : TrF Tryz.prog 65 [.sl .shared (a.map Tm.cells), .sl .shared (b.map Tm.cells), .fn (.func 66) [] []] st fun d st' => d = .b (Reg.all2 Reg.tmS a b) ∧ st' = st := by
 obtain ⟨B, hB⟩ : ∃ B, Reg.all2 Reg.tmS a b = B := ⟨_, rfl⟩
 rw [hB]
 have hm1 : (a.map Tm.cells).length = a.length := List.length_map ..
 have hm2 : (b.map Tm.cells).length = b.length := List.length_map ..
 have hc1 : Hid (∀ (i : Nat) (v : Tm), a[i]? = some v → (a.map Tm.cells)[i]? = some (Tm.cells v)) := fun i v h => by rw [List.getElem?_map, h]; rfl
 have hc2 : Hid (∀ (i : Nat) (v : Tm), b[i]? = some v → (b.map Tm.cells)[i]? = some (Tm.cells v)) := fun i v h => by rw [List.getElem?_map, h]; rfl
 have ha2 := Lib.hid ha
 have hb2 := Lib.hid hb
 clear ha hb
 generalize a.map Tm.cells = AS at *
 generalize b.map Tm.cells = BS at *
 by_cases hlen : a.length = b.length
 · have HB : Hid (Reg.all2 Reg.tmS (a.drop 0) (b.drop 0) = B) := hB
   clear hB
   refine Qin [6] Tryz.func65 Tryz.results65 Tryz.ntmps65 ?_
   repeat' (with_reducible first | refine Q1 ?_ | refine Qe ?_ | refine QQ ?_ | (refine al_go ?_; intro b) | (refine QD ?_ <;> (try constructor) <;> intro hb <;> try intro hb1) | fail)
   refine tr_loopd (ι := Nat) (fun i A st' => i ≤ a.length ∧ Hid (Reg.all2 Reg.tmS (a.drop i) (b.drop i) = B) ∧ A.df = [] ∧ A.e 1 = .sl .shared BS ∧ A.e 2 = .fn (.func 66) [] [] ∧ A.e 15 = .sl .shared AS ∧ A.e 16 = .i a.length ∧ A.e 17 = .i i ∧ st = st') (fun i => a.length - i) 0 ⟨Nat.zero_le _, HB, Qf, Qf, Qf, Qf, Qf, Qf, rfl⟩ ?_
   rintro i A st' ⟨hi, HT, hdf, e1, e2, e15, e16, e17, rfl⟩
   clear HB
   by_cases hlt : i < a.length
   · obtain ⟨s, hs⟩ := gEx hlt
     obtain ⟨v, hv⟩ := gEx (l := b) (i := i) (by omega)
     have HE := HT.out
     rw [Reg.all2_drop hs hv] at HE
     have h1 := hc1.out i s hs
     have h2 := hc2.out i v hv
     have hF := regTmSF s v (ha2.out s (List.mem_of_getElem? hs)) (hb2.out v (List.mem_of_getElem? hv))
     clear HT hs hv
     obtain ⟨G, hGG⟩ : ∃ G, Reg.all2 Reg.tmS (a.drop (i + 1)) (b.drop (i + 1)) = G := ⟨_, rfl⟩
     rw [hGG] at HE
     replace hGG := Lib.hid hGG
     generalize Reg.tmS s v = q at *
     unfold Tm.cells at h1 h2 hF
     generalize s.slots.map Sl.cells = S1 at *
     generalize s.steps.map Stp.cells = T1 at *
     generalize s.name = n1 at *
     generalize v.slots.map Sl.cells = S2 at *
     generalize v.steps.map Stp.cells = T2 at *
     generalize v.name = n2 at *
     replace hF := Lib.hid hF
     cases q with
     | true =>
      rw [Bool.true_and] at HE
      replace HE := Lib.hid (hGG.out.trans HE)
      clear hGG
      repeat' (with_reducible first | refine Q1 ?_ | refine Qe ?_ | refine QQ ?_ | (refine al_go ?_; intro b) | (refine QD ?_ <;> (try constructor) <;> intro hb <;> try intro hb1) | fail)
      refine ⟨i + 1, st, (by (repeat (first | exact List.Sublist.refl _ | apply List.Sublist.cons))), ⟨hlt, HE, ?_, ?_, ?_, ?_, ?_, ?_, rfl⟩, by omega⟩
      all_goals exact Qf
     | false =>
      rw [Bool.false_and] at HE
      subst HE
      clear hGG
      exact WR
   · have HE := HT.out
     rw [List.drop_of_length_le (by omega), List.drop_of_length_le (by omega), Reg.all2] at HE
     subst HE
     clear HT
     exact WR
 · have hBf : B = false := by
    cases B with
    | false => rfl
    | true => exact absurd (Reg.all2_len _ _ hB) hlen
   subst hBf
   clear hB
   have hl2 : ¬ (a.length : Int) = (b.length : Int) := by omega
   clear hlen
   refine Qin [6] Tryz.func65 Tryz.results65 Tryz.ntmps65 ?_
   exact WR
theorem regSameF (a b : List Tm) (ha : ∀ t ∈ a, Reg.TmQ t) (hb : ∀ t ∈ b, Reg.TmQ t) (hl : a.length ≤ 1000000) (hlb : b.length ≤ 1000000) (st : St) : TrF Tryz.prog 23 [.sl .shared (a.map Tm.cells), .sl .shared (b.map Tm.cells)] st fun d st' => d = .b (Reg.same a b) ∧ st' = st := by
 have hE := regEqTmF a b ha hb hl hlb
 unfold Reg.same
 generalize Reg.all2 Reg.tmS a b = q at *
 generalize a.map Tm.cells = AS at *
 generalize b.map Tm.cells = BS at *
 replace hE := Lib.hid hE
 clear ha hb
 refine Qin [4] Tryz.func23 Tryz.results23 Tryz.ntmps23 ?_
 exact WR
end Go.Proofs.YtgcienlfpnpbgaaGreat
end
section
namespace Go.Proofs.YtgcienlfpnpbgaaGreat
open Go.RowKit
namespace RS
theorem vals_nodes {f : RS → V × RS} {B : Nat} (hf : ∀ s, (f s).1.nodes ≤ B) : ∀ n s, V.nodesL (vals f n s).1 ≤ n * B
 | 0, s => by rw [vals]; simp [V.nodesL]
 | n + 1, s => by
  rw [vals]
  split
  · simp [V.nodesL]
  · have h1 := vals_nodes hf n (f s).2
    have h2 := hf s
    dsimp only
    rw [V.nodesL, Nat.succ_mul]
    omega
theorem body_nodes {f : Option (RS → V × RS)} {B : Nat} (hf : ∀ g, f = some g → ∀ s, (g s).1.nodes ≤ B) (s : RS) : (body f s).1.nodes ≤ 1 + 20 * B := by
 unfold body
 split
 · simp [V.nodes, V.nodesL]
 split
 · simp [V.nodes, V.nodesL]
 split
 · simp [V.nodes, V.nodesL]
 split
 · unfold list5
   cases f with
   | none => simp [V.nodes, V.nodesL]
   | some g =>
    dsimp only
    split
    · simp [V.nodes, V.nodesL]
    · rename_i hn
      have h1 := vals_nodes (hf g rfl) s.byte.2.rnum.1.toNat s.byte.2.rnum.2
      have h2 : s.byte.2.rnum.1.toNat * B ≤ 20 * B := Nat.mul_le_mul_right _ (by omega)
      dsimp only
      rw [V.nodes]
      omega
 · simp [V.nodes, V.nodesL]
theorem value_nodes4 (s : RS) : (value 4 s).1.nodes ≤ 4611686018427387904 := by
 have h0 := fun s => body_nodes (f := none) (B := 0) (fun g h => by cases h) s
 have h1 := fun s => body_nodes (f := some (value 0)) (B := 1 + 20 * 0) (fun g h => by cases h; exact h0) s
 have h2 := fun s => body_nodes (f := some (value 1)) (B := 1 + 20 * (1 + 20 * 0)) (fun g h => by cases h; exact h1) s
 have h3 := fun s => body_nodes (f := some (value 2)) (B := 1 + 20 * (1 + 20 * (1 + 20 * 0))) (fun g h => by cases h; exact h2) s
 have h4 := body_nodes (f := some (value 3)) (B := 1 + 20 * (1 + 20 * (1 + 20 * (1 + 20 * 0)))) (fun g h => by cases h; exact h3) s
 exact Nat.le_trans h4 (by decide)
end RS
end Go.Proofs.YtgcienlfpnpbgaaGreat
end
section
namespace Go.Proofs.YtgcienlfpnpbgaaGreat
attribute [local push_cast] encB encI RS.cells V.cells_mk V.cells_len Nat.mul_one Int.sub_zero List.map_nil beq_self_eq_true bne_self_eq_false List.head?_cons
open Go.RowKit B
set_option maxHeartbeats 8000000
set_option maxRecDepth 10000
namespace Reg
def rdL {α : Type} (f : RS → α × RS) : Nat → RS → List α × RS
 | 0, s => ([], s)
 | n + 1, s => if s.bad = true then ([], s) else ((f s).1 :: (rdL f n (f s).2).1, (rdL f n (f s).2).2)
def rlist {α : Type} (f : RS → α × RS) (k : Int) (s : RS) : List α × RS := rdL f (if k < s.rnum.1 then k else s.rnum.1).toNat s.rnum.2
def slot0 : Sl := ⟨⟨#[]⟩, 0, false, V.zero⟩
def getSlot (s : RS) : Sl × RS :=
 (⟨if 1 < s.text.2.byte.2.byte.1 then ⟨#[]⟩ else s.text.1, s.text.2.byte.1, s.text.2.byte.2.byte.1 == 1, s.text.2.byte.2.byte.2.val.1⟩, s.text.2.byte.2.byte.2.val.2)
def getStep (s : RS) : Stp × RS :=
 if s.byte.1 = 1 then (⟨1, 0, (getSlot s.byte.2).1, []⟩, (getSlot s.byte.2).2)
 else if s.byte.1 = 2 then (⟨2, s.byte.2.byte.1, slot0, []⟩, s.byte.2.byte.2)
 else if s.byte.1 = 3 then (⟨3, s.byte.2.byte.1, { slot0 with name := s.byte.2.byte.2.text.1 }, []⟩, s.byte.2.byte.2.text.2)
 else if s.byte.1 = 4 then (⟨4, s.byte.2.byte.1, { slot0 with types := s.byte.2.byte.2.byte.1 }, []⟩, s.byte.2.byte.2.byte.2)
 else if s.byte.1 = 5 then (⟨5, 0, slot0, (rlist RS.byte 9 s.byte.2).1⟩, (rlist RS.byte 9 s.byte.2).2)
 else (⟨s.byte.1, 0, slot0, []⟩, s.byte.2)
def getTm (s : RS) : Tm × RS :=
 (⟨s.text.1, (rlist getSlot 9 s.text.2).1, (rlist getStep 9 (rlist getSlot 9 s.text.2).2).1⟩, (rlist getStep 9 (rlist getSlot 9 s.text.2).2).2)
def read (s : RS) : Option (List Tm) × RS :=
 if (rlist getTm 7 s).2.bad = true ∨ right (rlist getTm 7 s).1 = false then (none, (rlist getTm 7 s).2) else (some (rlist getTm 7 s).1, (rlist getTm 7 s).2)
end Reg
theorem regGetSlotF (rb : Nat) (s : RS) (st : St) : TrF Tryz.prog 77 [.ptr rb 0] (rdR rb s :: st) fun x st' => x = .agg (Reg.getSlot s).1.cells ∧ st' = rdR rb (Reg.getSlot s).2 :: st := by
 have hT := rdTextF rb s
 unfold Reg.getSlot
 generalize s.text = q1 at *
 obtain ⟨nm, s1⟩ := q1
 dsimp only at *
 have hB1 := rdByteF rb s1
 generalize s1.byte = q2 at *
 obtain ⟨ty, s2⟩ := q2
 dsimp only at *
 have hB2 := rdByteF rb s2
 generalize s2.byte = q3 at *
 obtain ⟨rq, s3⟩ := q3
 dsimp only at *
 have hV := rdValF rb s3 (RS.value_nodes4 s3)
 generalize s3.val = q4 at *
 obtain ⟨⟨k, n, sv, lv⟩, s4⟩ := q4
 dsimp only at *
 rw [V.cells_mk] at hV
 rw [Sl.cells_mk]
 replace hT := Lib.hid hT
 replace hB1 := Lib.hid hB1
 replace hB2 := Lib.hid hB2
 replace hV := Lib.hid hV
 by_cases h1 : 1 < rq
 · rw [if_pos h1]
   refine QinC 2 75 Tryz.func77 Tryz.ntmps77 ?_
   repeat' (first | (with_reducible first | refine Q1 ?_ | refine Qe ?_ | refine QQ ?_ | (refine al_go ?_; intro b) | (refine QD ?_ <;> (try constructor) <;> intro hb <;> try intro hb1) | fail) | refine QR Tryz.call75 hT.out ?_ | refine QR Tryz.call116 hB1.out ?_ | refine QR Tryz.call116 hB2.out ?_ | refine QR Tryz.call118 hV.out ?_ | fail)
   all_goals exact QretC
 · rw [if_neg h1]
   refine QinC 2 75 Tryz.func77 Tryz.ntmps77 ?_
   repeat' (first | (with_reducible first | refine Q1 ?_ | refine Qe ?_ | refine QQ ?_ | (refine al_go ?_; intro b) | (refine QD ?_ <;> (try constructor) <;> intro hb <;> try intro hb1) | fail) | refine QR Tryz.call75 hT.out ?_ | refine QR Tryz.call116 hB1.out ?_ | refine QR Tryz.call116 hB2.out ?_ | refine QR Tryz.call118 hV.out ?_ | fail)
   all_goals exact QretC
theorem regGetByteF (rb : Nat) (s : RS) (st : St) : TrF Tryz.prog 146 [.ptr rb 0] (rdR rb s :: st) fun x st' => x = .i s.byte.1 ∧ st' = rdR rb s.byte.2 :: st := by
 have hB := rdByteF rb s
 generalize s.byte = q at *
 replace hB := Lib.hid hB
 refine Qin [2] Tryz.func146 Tryz.results146 Tryz.ntmps146 ?_
 exact WR
theorem regReadSlF (rb : Nat) (s : RS) (st : St) : TrF Tryz.prog 76 [.ptr rb 0, .i 8, .fn (.func 77) [] []] (rdR rb s :: st) fun x st' => x = .sl .shared ((Reg.rlist Reg.getSlot 9 s).1.map Sl.cells) ∧ st' = rdR rb (Reg.rlist Reg.getSlot 9 s).2 :: st := by
 have hN := Lib.hid (rdNumF rb s)
 have hnp := RS.rnum_pos s
 have hBad := Lib.hid (rdBadF rb)
 have hI := Lib.hid fun s st => regGetSlotF rb s st
 unfold Reg.rlist
 generalize s.rnum = q at *
 obtain ⟨n, s2⟩ := q
 dsimp only at *
 obtain ⟨m, hm⟩ : ∃ m : Nat, (if (9 : Int) < n then (9 : Int) else n) = m := ⟨(if (9 : Int) < n then (9 : Int) else n).toNat, by split <;> omega⟩
 have hm9 : m ≤ 9 := by split at hm <;> omega
 rw [hm, Int.toNat_natCast]
 obtain ⟨res, hres⟩ : ∃ r, Reg.rdL Reg.getSlot m s2 = r := ⟨_, rfl⟩
 have hE : Hid ([] ++ (Reg.rdL Reg.getSlot (m - 0) s2).1 = res.1 ∧ (Reg.rdL Reg.getSlot (m - 0) s2).2 = res.2) := by
  show _ ∧ _
  rw [Nat.sub_zero, hres]
  exact ⟨rfl, rfl⟩
 rw [hres]
 clear hres hnp
 refine Qin [6] Tryz.func76 Tryz.results76 Tryz.ntmps76 ?_
 refine tr_room 75 7 ([] : List (List D)).length ?_
 repeat' (with_reducible first | refine Q1 ?_ | refine Qe ?_ | refine QQ ?_ | (refine al_go ?_; intro b) | (refine Qa ?_; intro o' ho') | (refine Qp ?_; intro o' ho') | (refine QD ?_ <;> (try constructor) <;> intro hb <;> try intro hb1) | fail)
 clear hN
 refine tr_loopd (ι := Nat) (fun i A st' => i ≤ m ∧ A.df = [] ∧ A.e 0 = .ptr rb 0 ∧ A.e 2 = .fn (.func 77) [] [] ∧ A.e 14 = .i m ∧ A.e 15 = .i i ∧ ∃ o' L s', o' ≠ .shared ∧ L.length ≤ i ∧ Hid (L ++ (Reg.rdL Reg.getSlot (m - i) s').1 = res.1 ∧ (Reg.rdL Reg.getSlot (m - i) s').2 = res.2) ∧ A.e 8 = .sl o' (L.map Sl.cells) ∧ st' = .room o' 75 7 (L.map Sl.cells).length :: rdR rb s' :: st) (fun i => m - i) 0 ⟨Nat.zero_le _, Qf, Qf, Qf, Qf, Qf, .tight, [], s2, by decide, Nat.le_refl _, hE, Qf, rfl⟩ ?_
 clear hE hm
 rintro i A st' ⟨hi, hdf, e0, e2, e14, e15, o', L, s', ho', hLi, hE, e8, rfl⟩
 have hLc : (L.map Sl.cells).length = L.length := List.length_map ..
 by_cases hlt : i < m
 · have hHE := hE.out
   rw [show m - i = (m - (i + 1)) + 1 by omega, Reg.rdL] at hHE
   cases hsb : s'.bad with
   | true =>
    rw [hsb, if_pos rfl] at hHE
    obtain ⟨r1, r2⟩ := res
    obtain ⟨hr1, hr2⟩ := hHE
    dsimp only at hr1 hr2
    rw [List.append_nil] at hr1
    subst hr1 hr2
    have hBs := hBad.out s'
    rw [hsb] at hBs
    replace hBs := Lib.hid hBs
    clear hE hI hBad
    exact WRa
   | false =>
    rw [hsb, if_neg Bool.false_ne_true] at hHE
    have hIs := hI.out s'
    have hBs := hBad.out s'
    rw [hsb] at hBs
    generalize Reg.getSlot s' = x3 at *
    obtain ⟨x, s3⟩ := x3
    dsimp only at hHE hIs
    have hE2 : Hid ((L ++ [x]) ++ (Reg.rdL Reg.getSlot (m - (i + 1)) s3).1 = res.1 ∧ (Reg.rdL Reg.getSlot (m - (i + 1)) s3).2 = res.2) := by
     show _ ∧ _
     rw [List.append_assoc]
     exact hHE
    have hL4 : ∀ a ∈ L.map Sl.cells, a.length = 7 := fun a ha => by
     obtain ⟨x, -, rfl⟩ := List.mem_map.1 ha
     exact Sl.cells_len x
    have hLs : (L ++ [x]).map Sl.cells = L.map Sl.cells ++ [Sl.cells x] := List.map_append ..
    have hLk : (L ++ [x]).length ≤ i + 1 := by rw [List.length_append, List.length_singleton]; omega
    generalize L.map Sl.cells = M at *
    cases x with
    | mk nm ty rq dv =>
    cases dv with
    | mk k n sv lv =>
    rw [Sl.cells_mk] at hLs hIs
    replace hBs := Lib.hid hBs
    replace hIs := Lib.hid hIs
    replace hLs := Lib.hid hLs
    clear hE hI hBad hHE
    repeat' (with_reducible first | refine Q1 ?_ | refine Qe ?_ | refine QQ ?_ | (refine al_go ?_; intro b) | (refine Qa ?_; intro o' ho') | (refine Qp ?_; intro o' ho') | (refine QD ?_ <;> (try constructor) <;> intro hb <;> try intro hb1) | fail)
    refine ⟨i + 1, .room o' 75 7 ((L ++ [(⟨nm, ty, rq, .mk k n sv lv⟩ : Sl)]).map Sl.cells).length :: rdR rb s3 :: st, ?_, ⟨hlt, ?_, ?_, ?_, ?_, ?_, o', L ++ [⟨nm, ty, rq, .mk k n sv lv⟩], s3, ho', hLk, hE2, ?_, rfl⟩, ?_⟩
    · rw [hLs.out]; (repeat (first | exact List.Sublist.refl _ | apply List.Sublist.cons))
    rotate_right 2
    · rw [hLs.out]; exact Qf
    all_goals exact Qf
 · have hHE := hE.out
   rw [show m - i = 0 by omega, Reg.rdL] at hHE
   obtain ⟨r1, r2⟩ := res
   obtain ⟨hr1, hr2⟩ := hHE
   dsimp only at hr1 hr2
   rw [List.append_nil] at hr1
   subst hr1 hr2
   clear hE hI hBad
   exact WRa
theorem regReadIF (rb : Nat) (s : RS) (st : St) : TrF Tryz.prog 145 [.ptr rb 0, .i 8, .fn (.func 146) [] []] (rdR rb s :: st) fun x st' => x = .sl .shared ((Reg.rlist RS.byte 9 s).1.map encI) ∧ st' = rdR rb (Reg.rlist RS.byte 9 s).2 :: st := by
 have hN := Lib.hid (rdNumF rb s)
 have hnp := RS.rnum_pos s
 have hBad := Lib.hid (rdBadF rb)
 have hI := Lib.hid fun s st => regGetByteF rb s st
 unfold Reg.rlist
 generalize s.rnum = q at *
 obtain ⟨n, s2⟩ := q
 dsimp only at *
 obtain ⟨m, hm⟩ : ∃ m : Nat, (if (9 : Int) < n then (9 : Int) else n) = m := ⟨(if (9 : Int) < n then (9 : Int) else n).toNat, by split <;> omega⟩
 have hm9 : m ≤ 9 := by split at hm <;> omega
 rw [hm, Int.toNat_natCast]
 obtain ⟨res, hres⟩ : ∃ r, Reg.rdL RS.byte m s2 = r := ⟨_, rfl⟩
 have hE : Hid ([] ++ (Reg.rdL RS.byte (m - 0) s2).1 = res.1 ∧ (Reg.rdL RS.byte (m - 0) s2).2 = res.2) := by
  show _ ∧ _
  rw [Nat.sub_zero, hres]
  exact ⟨rfl, rfl⟩
 rw [hres]
 clear hres hnp
 refine Qin [6] Tryz.func145 Tryz.results145 Tryz.ntmps145 ?_
 refine tr_room 3 1 ([] : List (List D)).length ?_
 repeat' (with_reducible first | refine Q1 ?_ | refine Qe ?_ | refine QQ ?_ | (refine al_go ?_; intro b) | (refine Qa ?_; intro o' ho') | (refine Qp ?_; intro o' ho') | (refine QD ?_ <;> (try constructor) <;> intro hb <;> try intro hb1) | fail)
 clear hN
 refine tr_loopd (ι := Nat) (fun i A st' => i ≤ m ∧ A.df = [] ∧ A.e 0 = .ptr rb 0 ∧ A.e 2 = .fn (.func 146) [] [] ∧ A.e 14 = .i m ∧ A.e 15 = .i i ∧ ∃ o' L s', o' ≠ .shared ∧ L.length ≤ i ∧ Hid (L ++ (Reg.rdL RS.byte (m - i) s').1 = res.1 ∧ (Reg.rdL RS.byte (m - i) s').2 = res.2) ∧ A.e 8 = .sl o' (L.map encI) ∧ st' = .room o' 3 1 (L.map encI).length :: rdR rb s' :: st) (fun i => m - i) 0 ⟨Nat.zero_le _, Qf, Qf, Qf, Qf, Qf, .tight, [], s2, by decide, Nat.le_refl _, hE, Qf, rfl⟩ ?_
 clear hE hm
 rintro i A st' ⟨hi, hdf, e0, e2, e14, e15, o', L, s', ho', hLi, hE, e8, rfl⟩
 have hLc : (L.map encI).length = L.length := List.length_map ..
 by_cases hlt : i < m
 · have hHE := hE.out
   rw [show m - i = (m - (i + 1)) + 1 by omega, Reg.rdL] at hHE
   cases hsb : s'.bad with
   | true =>
    rw [hsb, if_pos rfl] at hHE
    obtain ⟨r1, r2⟩ := res
    obtain ⟨hr1, hr2⟩ := hHE
    dsimp only at hr1 hr2
    rw [List.append_nil] at hr1
    subst hr1 hr2
    have hBs := hBad.out s'
    rw [hsb] at hBs
    replace hBs := Lib.hid hBs
    clear hE hI hBad
    exact WRa
   | false =>
    rw [hsb, if_neg Bool.false_ne_true] at hHE
    have hIs := hI.out s'
    have hBs := hBad.out s'
    rw [hsb] at hBs
    generalize RS.byte s' = x3 at *
    obtain ⟨x, s3⟩ := x3
    dsimp only at hHE hIs
    have hE2 : Hid ((L ++ [x]) ++ (Reg.rdL RS.byte (m - (i + 1)) s3).1 = res.1 ∧ (Reg.rdL RS.byte (m - (i + 1)) s3).2 = res.2) := by
     show _ ∧ _
     rw [List.append_assoc]
     exact hHE
    have hL4 : ∀ a ∈ L.map encI, a.length = 1 := fun a ha => by
     obtain ⟨x, -, rfl⟩ := List.mem_map.1 ha
     exact rfl
    have hLs : (L ++ [x]).map encI = L.map encI ++ [encI x] := List.map_append ..
    have hLk : (L ++ [x]).length ≤ i + 1 := by rw [List.length_append, List.length_singleton]; omega
    generalize L.map encI = M at *
    replace hBs := Lib.hid hBs
    replace hIs := Lib.hid hIs
    replace hLs := Lib.hid hLs
    clear hE hI hBad hHE
    repeat' (with_reducible first | refine Q1 ?_ | refine Qe ?_ | refine QQ ?_ | (refine al_go ?_; intro b) | (refine Qa ?_; intro o' ho') | (refine Qp ?_; intro o' ho') | (refine QD ?_ <;> (try constructor) <;> intro hb <;> try intro hb1) | fail)
    refine ⟨i + 1, .room o' 3 1 ((L ++ [(x : Int)]).map encI).length :: rdR rb s3 :: st, ?_, ⟨hlt, ?_, ?_, ?_, ?_, ?_, o', L ++ [x], s3, ho', hLk, hE2, ?_, rfl⟩, ?_⟩
    · rw [hLs.out]; (repeat (first | exact List.Sublist.refl _ | apply List.Sublist.cons))
    rotate_right 2
    · rw [hLs.out]; exact Qf
    all_goals exact Qf
 · have hHE := hE.out
   rw [show m - i = 0 by omega, Reg.rdL] at hHE
   obtain ⟨r1, r2⟩ := res
   obtain ⟨hr1, hr2⟩ := hHE
   dsimp only at hr1 hr2
   rw [List.append_nil] at hr1
   subst hr1 hr2
   clear hE hI hBad
   exact WRa
theorem Stp.cells_len2 (s : Stp) : s.cells.length = 10 := by
 unfold Stp.cells
 rw [List.length_cons, List.length_cons, List.length_append, Sl.cells_len]; rfl
theorem Stp.cells_mk (kind col : Int) (nm : ByteArray) (ty : Int) (rq : Bool) (k n : Int) (sv : ByteArray) (lv : List V) (order : List Int) : (Stp.mk kind col (Sl.mk nm ty rq (.mk k n sv lv)) order).cells = [.i kind, .i col, .str nm, .i ty, .b rq, .i k, .i n, .str sv, .sl .shared (lv.map V.cells), .sl .shared (order.map encI)] := by
 unfold Stp.cells
 rw [Sl.cells_mk]; rfl
theorem Tm.cells_mk (nm : ByteArray) (ss : List Sl) (tt : List Stp) : (Tm.mk nm ss tt).cells = [.str nm, .sl .shared (ss.map Sl.cells), .sl .shared (tt.map Stp.cells)] := rfl
theorem slot0C : Reg.slot0.cells = [.str ⟨#[]⟩, .i 0, .b false, .i 0, .i 0, .str ⟨#[]⟩, .sl .shared []] := by unfold Reg.slot0 V.zero; rw [Sl.cells_mk]; rfl
theorem regGetStepF (rb : Nat) (s : RS) (st : St) : TrF Tryz.prog 79 [.ptr rb 0] (rdR rb s :: st) fun x st' => x = .agg (Reg.getStep s).1.cells ∧ st' = rdR rb (Reg.getStep s).2 :: st := by
 have hB := rdByteF rb s
 unfold Reg.getStep Stp.cells
 generalize s.byte = q at *
 obtain ⟨k, s1⟩ := q
 dsimp only at *
 have hB2 := rdByteF rb s1
 replace hB := Lib.hid hB
 by_cases h1 : k = 1
 · subst h1
   rw [if_pos rfl]
   have hS := regGetSlotF rb s1
   generalize Reg.getSlot s1 = q2 at *
   obtain ⟨⟨nm, ty, rq, ⟨k, n, sv, lv⟩⟩, s2⟩ := q2
   clear hB2
   dsimp only at *
   rw [Sl.cells_mk] at *
   replace hS := Lib.hid hS
   refine QinC 2 79 Tryz.func79 Tryz.ntmps79 ?_
   repeat' (with_reducible first | refine Q1 ?_ | refine Qe ?_ | refine QQ ?_ | (refine al_go ?_; intro b) | (refine QD ?_ <;> (try constructor) <;> intro hb <;> try intro hb1) | fail)
   all_goals exact QretC
 rw [if_neg h1]
 have b1 : (k == 1) = false := beq_eq_false_iff_ne.2 h1
 by_cases h2 : k = 2
 · subst h2
   rw [if_pos rfl]
   generalize s1.byte = q2 at *
   obtain ⟨c, s2⟩ := q2
   dsimp only at *
   rw [slot0C]
   replace hB2 := Lib.hid hB2
   refine QinC 2 79 Tryz.func79 Tryz.ntmps79 ?_
   repeat' (first | (with_reducible first | refine Q1 ?_ | refine Qe ?_ | refine QQ ?_ | (refine al_go ?_; intro b) | (refine QD ?_ <;> (try constructor) <;> intro hb <;> try intro hb1) | fail) | refine QR Tryz.call116 hB.out ?_ | refine QR Tryz.call116 hB2.out ?_ | fail)
   all_goals exact QretC
 rw [if_neg h2]
 have b2 : (k == 2) = false := beq_eq_false_iff_ne.2 h2
 by_cases h3 : k = 3
 · subst h3
   rw [if_pos rfl]
   generalize s1.byte = q2 at *
   obtain ⟨c, s2⟩ := q2
   dsimp only at *
   have hT := rdTextF rb s2
   generalize s2.text = q3 at *
   obtain ⟨nm, s3⟩ := q3
   unfold Reg.slot0 V.zero
   dsimp only at *
   rw [Sl.cells_mk]
   replace hB2 := Lib.hid hB2
   replace hT := Lib.hid hT
   refine QinC 2 79 Tryz.func79 Tryz.ntmps79 ?_
   repeat' (first | (with_reducible first | refine Q1 ?_ | refine Qe ?_ | refine QQ ?_ | (refine al_go ?_; intro b) | (refine QD ?_ <;> (try constructor) <;> intro hb <;> try intro hb1) | fail) | refine QR Tryz.call116 hB.out ?_ | refine QR Tryz.call116 hB2.out ?_ | refine QR Tryz.call75 hT.out ?_ | fail)
   all_goals exact QretC
 rw [if_neg h3]
 have b3 : (k == 3) = false := beq_eq_false_iff_ne.2 h3
 by_cases h4 : k = 4
 · subst h4
   rw [if_pos rfl]
   generalize s1.byte = q2 at *
   obtain ⟨c, s2⟩ := q2
   dsimp only at *
   have hB3 := rdByteF rb s2
   generalize s2.byte = q3 at *
   obtain ⟨ty, s3⟩ := q3
   unfold Reg.slot0 V.zero
   dsimp only at *
   rw [Sl.cells_mk]
   replace hB2 := Lib.hid hB2
   replace hB3 := Lib.hid hB3
   refine QinC 2 79 Tryz.func79 Tryz.ntmps79 ?_
   repeat' (first | (with_reducible first | refine Q1 ?_ | refine Qe ?_ | refine QQ ?_ | (refine al_go ?_; intro b) | (refine QD ?_ <;> (try constructor) <;> intro hb <;> try intro hb1) | fail) | refine QR Tryz.call116 hB.out ?_ | refine QR Tryz.call116 hB2.out ?_ | refine QR Tryz.call116 hB3.out ?_ | fail)
   all_goals exact QretC
 rw [if_neg h4]
 have b4 : (k == 4) = false := beq_eq_false_iff_ne.2 h4
 by_cases h5 : k = 5
 · subst h5
   rw [if_pos rfl]
   have hR := regReadIF rb s1
   generalize Reg.rlist RS.byte 9 s1 = q2 at *
   obtain ⟨o, s2⟩ := q2
   dsimp only at *
   generalize o.map encI = OS at *
   rw [slot0C]
   clear hB2
   replace hR := Lib.hid hR
   refine QinC 2 79 Tryz.func79 Tryz.ntmps79 ?_
   repeat' (with_reducible first | refine Q1 ?_ | refine Qe ?_ | refine QQ ?_ | (refine al_go ?_; intro b) | (refine QD ?_ <;> (try constructor) <;> intro hb <;> try intro hb1) | fail)
   all_goals exact QretC
 rw [if_neg h5]
 have b5 : (k == 5) = false := beq_eq_false_iff_ne.2 h5
 rw [slot0C]
 clear hB2
 refine QinC 2 79 Tryz.func79 Tryz.ntmps79 ?_
 repeat' (with_reducible first | refine Q1 ?_ | refine Qe ?_ | refine QQ ?_ | (refine al_go ?_; intro b) | (refine QD ?_ <;> (try constructor) <;> intro hb <;> try intro hb1) | fail)
 all_goals exact QretC
theorem regReadStpF (rb : Nat) (s : RS) (st : St) : TrF Tryz.prog 78 [.ptr rb 0, .i 8, .fn (.func 79) [] []] (rdR rb s :: st) fun x st' => x = .sl .shared ((Reg.rlist Reg.getStep 9 s).1.map Stp.cells) ∧ st' = rdR rb (Reg.rlist Reg.getStep 9 s).2 :: st := by
 have hN := Lib.hid (rdNumF rb s)
 have hnp := RS.rnum_pos s
 have hBad := Lib.hid (rdBadF rb)
 have hI := Lib.hid fun s st => regGetStepF rb s st
 unfold Reg.rlist
 generalize s.rnum = q at *
 obtain ⟨n, s2⟩ := q
 dsimp only at *
 obtain ⟨m, hm⟩ : ∃ m : Nat, (if (9 : Int) < n then (9 : Int) else n) = m := ⟨(if (9 : Int) < n then (9 : Int) else n).toNat, by split <;> omega⟩
 have hm9 : m ≤ 9 := by split at hm <;> omega
 rw [hm, Int.toNat_natCast]
 obtain ⟨res, hres⟩ : ∃ r, Reg.rdL Reg.getStep m s2 = r := ⟨_, rfl⟩
 have hE : Hid ([] ++ (Reg.rdL Reg.getStep (m - 0) s2).1 = res.1 ∧ (Reg.rdL Reg.getStep (m - 0) s2).2 = res.2) := by
  show _ ∧ _
  rw [Nat.sub_zero, hres]
  exact ⟨rfl, rfl⟩
 rw [hres]
 clear hres hnp
 refine Qin [6] Tryz.func78 Tryz.results78 Tryz.ntmps78 ?_
 refine tr_room 79 10 ([] : List (List D)).length ?_
 repeat' (with_reducible first | refine Q1 ?_ | refine Qe ?_ | refine QQ ?_ | (refine al_go ?_; intro b) | (refine Qa ?_; intro o' ho') | (refine Qp ?_; intro o' ho') | (refine QD ?_ <;> (try constructor) <;> intro hb <;> try intro hb1) | fail)
 clear hN
 refine tr_loopd (ι := Nat) (fun i A st' => i ≤ m ∧ A.df = [] ∧ A.e 0 = .ptr rb 0 ∧ A.e 2 = .fn (.func 79) [] [] ∧ A.e 14 = .i m ∧ A.e 15 = .i i ∧ ∃ o' L s', o' ≠ .shared ∧ L.length ≤ i ∧ Hid (L ++ (Reg.rdL Reg.getStep (m - i) s').1 = res.1 ∧ (Reg.rdL Reg.getStep (m - i) s').2 = res.2) ∧ A.e 8 = .sl o' (L.map Stp.cells) ∧ st' = .room o' 79 10 (L.map Stp.cells).length :: rdR rb s' :: st) (fun i => m - i) 0 ⟨Nat.zero_le _, Qf, Qf, Qf, Qf, Qf, .tight, [], s2, by decide, Nat.le_refl _, hE, Qf, rfl⟩ ?_
 clear hE hm
 rintro i A st' ⟨hi, hdf, e0, e2, e14, e15, o', L, s', ho', hLi, hE, e8, rfl⟩
 have hLc : (L.map Stp.cells).length = L.length := List.length_map ..
 by_cases hlt : i < m
 · have hHE := hE.out
   rw [show m - i = (m - (i + 1)) + 1 by omega, Reg.rdL] at hHE
   cases hsb : s'.bad with
   | true =>
    rw [hsb, if_pos rfl] at hHE
    obtain ⟨r1, r2⟩ := res
    obtain ⟨hr1, hr2⟩ := hHE
    dsimp only at hr1 hr2
    rw [List.append_nil] at hr1
    subst hr1 hr2
    have hBs := hBad.out s'
    rw [hsb] at hBs
    replace hBs := Lib.hid hBs
    clear hE hI hBad
    exact WRa
   | false =>
    rw [hsb, if_neg Bool.false_ne_true] at hHE
    have hIs := hI.out s'
    have hBs := hBad.out s'
    rw [hsb] at hBs
    generalize Reg.getStep s' = x3 at *
    obtain ⟨x, s3⟩ := x3
    dsimp only at hHE hIs
    have hE2 : Hid ((L ++ [x]) ++ (Reg.rdL Reg.getStep (m - (i + 1)) s3).1 = res.1 ∧ (Reg.rdL Reg.getStep (m - (i + 1)) s3).2 = res.2) := by
     show _ ∧ _
     rw [List.append_assoc]
     exact hHE
    have hL4 : ∀ a ∈ L.map Stp.cells, a.length = 10 := fun a ha => by
     obtain ⟨x, -, rfl⟩ := List.mem_map.1 ha
     exact Stp.cells_len2 x
    have hLs : (L ++ [x]).map Stp.cells = L.map Stp.cells ++ [Stp.cells x] := List.map_append ..
    have hLk : (L ++ [x]).length ≤ i + 1 := by rw [List.length_append, List.length_singleton]; omega
    generalize L.map Stp.cells = M at *
    cases x with
    | mk kind col slot order =>
    cases slot with
    | mk nm ty rq dv =>
    cases dv with
    | mk k n sv lv =>
    rw [Stp.cells_mk] at hLs hIs
    generalize order.map encI = OS at *
    replace hBs := Lib.hid hBs
    replace hIs := Lib.hid hIs
    replace hLs := Lib.hid hLs
    clear hE hI hBad hHE
    repeat' (with_reducible first | refine Q1 ?_ | refine Qe ?_ | refine QQ ?_ | (refine al_go ?_; intro b) | (refine Qa ?_; intro o' ho') | (refine Qp ?_; intro o' ho') | (refine QD ?_ <;> (try constructor) <;> intro hb <;> try intro hb1) | fail)
    refine ⟨i + 1, .room o' 79 10 ((L ++ [(⟨kind, col, ⟨nm, ty, rq, .mk k n sv lv⟩, order⟩ : Stp)]).map Stp.cells).length :: rdR rb s3 :: st, ?_, ⟨hlt, ?_, ?_, ?_, ?_, ?_, o', L ++ [⟨kind, col, ⟨nm, ty, rq, .mk k n sv lv⟩, order⟩], s3, ho', hLk, hE2, ?_, rfl⟩, ?_⟩
    · rw [hLs.out]; (repeat (first | exact List.Sublist.refl _ | apply List.Sublist.cons))
    rotate_right 2
    · rw [hLs.out]; exact Qf
    all_goals exact Qf
 · have hHE := hE.out
   rw [show m - i = 0 by omega, Reg.rdL] at hHE
   obtain ⟨r1, r2⟩ := res
   obtain ⟨hr1, hr2⟩ := hHE
   dsimp only at hr1 hr2
   rw [List.append_nil] at hr1
   subst hr1 hr2
   clear hE hI hBad
   exact WRa
theorem regGetTmF (rb : Nat) (s : RS) (st : St) : TrF Tryz.prog 74 [.ptr rb 0] (rdR rb s :: st) fun x st' => x = .agg (Reg.getTm s).1.cells ∧ st' = rdR rb (Reg.getTm s).2 :: st := by
 have hT := rdTextF rb s
 unfold Reg.getTm Tm.cells
 generalize s.text = q at *
 obtain ⟨nm, s1⟩ := q
 dsimp only at *
 have hS := regReadSlF rb s1
 generalize Reg.rlist Reg.getSlot 9 s1 = q at *
 obtain ⟨ss, s2⟩ := q
 dsimp only at *
 have hP := regReadStpF rb s2
 generalize Reg.rlist Reg.getStep 9 s2 = q at *
 obtain ⟨tt, s3⟩ := q
 dsimp only at *
 generalize ss.map Sl.cells = SS at *
 generalize tt.map Stp.cells = TT at *
 replace hT := Lib.hid hT
 replace hS := Lib.hid hS
 replace hP := Lib.hid hP
 refine QinC 2 36 Tryz.func74 Tryz.ntmps74 ?_
 repeat' (with_reducible first | refine Q1 ?_ | refine Qe ?_ | refine QQ ?_ | (refine al_go ?_; intro b) | (refine QD ?_ <;> (try constructor) <;> intro hb <;> try intro hb1) | fail)
 all_goals exact QretC
theorem regReadTmF (rb : Nat) (s : RS) (st : St) : TrF Tryz.prog 73 [.ptr rb 0, .i 6, .fn (.func 74) [] []] (rdR rb s :: st) fun x st' => x = .sl .shared ((Reg.rlist Reg.getTm 7 s).1.map Tm.cells) ∧ st' = rdR rb (Reg.rlist Reg.getTm 7 s).2 :: st := by
 have hN := Lib.hid (rdNumF rb s)
 have hnp := RS.rnum_pos s
 have hBad := Lib.hid (rdBadF rb)
 have hI := Lib.hid fun s st => regGetTmF rb s st
 unfold Reg.rlist
 generalize s.rnum = q at *
 obtain ⟨n, s2⟩ := q
 dsimp only at *
 obtain ⟨m, hm⟩ : ∃ m : Nat, (if (7 : Int) < n then (7 : Int) else n) = m := ⟨(if (7 : Int) < n then (7 : Int) else n).toNat, by split <;> omega⟩
 have hm9 : m ≤ 7 := by split at hm <;> omega
 rw [hm, Int.toNat_natCast]
 obtain ⟨res, hres⟩ : ∃ r, Reg.rdL Reg.getTm m s2 = r := ⟨_, rfl⟩
 have hE : Hid ([] ++ (Reg.rdL Reg.getTm (m - 0) s2).1 = res.1 ∧ (Reg.rdL Reg.getTm (m - 0) s2).2 = res.2) := by
  show _ ∧ _
  rw [Nat.sub_zero, hres]
  exact ⟨rfl, rfl⟩
 rw [hres]
 clear hres hnp
 refine Qin [6] Tryz.func73 Tryz.results73 Tryz.ntmps73 ?_
 refine tr_room 36 3 ([] : List (List D)).length ?_
 repeat' (with_reducible first | refine Q1 ?_ | refine Qe ?_ | refine QQ ?_ | (refine al_go ?_; intro b) | (refine Qa ?_; intro o' ho') | (refine Qp ?_; intro o' ho') | (refine QD ?_ <;> (try constructor) <;> intro hb <;> try intro hb1) | fail)
 clear hN
 refine tr_loopd (ι := Nat) (fun i A st' => i ≤ m ∧ A.df = [] ∧ A.e 0 = .ptr rb 0 ∧ A.e 2 = .fn (.func 74) [] [] ∧ A.e 14 = .i m ∧ A.e 15 = .i i ∧ ∃ o' L s', o' ≠ .shared ∧ L.length ≤ i ∧ Hid (L ++ (Reg.rdL Reg.getTm (m - i) s').1 = res.1 ∧ (Reg.rdL Reg.getTm (m - i) s').2 = res.2) ∧ A.e 8 = .sl o' (L.map Tm.cells) ∧ st' = .room o' 36 3 (L.map Tm.cells).length :: rdR rb s' :: st) (fun i => m - i) 0 ⟨Nat.zero_le _, Qf, Qf, Qf, Qf, Qf, .tight, [], s2, by decide, Nat.le_refl _, hE, Qf, rfl⟩ ?_
 clear hE hm
 rintro i A st' ⟨hi, hdf, e0, e2, e14, e15, o', L, s', ho', hLi, hE, e8, rfl⟩
 have hLc : (L.map Tm.cells).length = L.length := List.length_map ..
 by_cases hlt : i < m
 · have hHE := hE.out
   rw [show m - i = (m - (i + 1)) + 1 by omega, Reg.rdL] at hHE
   cases hsb : s'.bad with
   | true =>
    rw [hsb, if_pos rfl] at hHE
    obtain ⟨r1, r2⟩ := res
    obtain ⟨hr1, hr2⟩ := hHE
    dsimp only at hr1 hr2
    rw [List.append_nil] at hr1
    subst hr1 hr2
    have hBs := hBad.out s'
    rw [hsb] at hBs
    replace hBs := Lib.hid hBs
    clear hE hI hBad
    exact WRa
   | false =>
    rw [hsb, if_neg Bool.false_ne_true] at hHE
    have hIs := hI.out s'
    have hBs := hBad.out s'
    rw [hsb] at hBs
    generalize Reg.getTm s' = x3 at *
    obtain ⟨x, s3⟩ := x3
    dsimp only at hHE hIs
    have hE2 : Hid ((L ++ [x]) ++ (Reg.rdL Reg.getTm (m - (i + 1)) s3).1 = res.1 ∧ (Reg.rdL Reg.getTm (m - (i + 1)) s3).2 = res.2) := by
     show _ ∧ _
     rw [List.append_assoc]
     exact hHE
    have hL4 : ∀ a ∈ L.map Tm.cells, a.length = 3 := fun a ha => by
     obtain ⟨x, -, rfl⟩ := List.mem_map.1 ha
     exact rfl
    have hLs : (L ++ [x]).map Tm.cells = L.map Tm.cells ++ [Tm.cells x] := List.map_append ..
    have hLk : (L ++ [x]).length ≤ i + 1 := by rw [List.length_append, List.length_singleton]; omega
    generalize L.map Tm.cells = M at *
    cases x with
    | mk nm ss tt =>
    rw [Tm.cells_mk] at hLs hIs
    generalize ss.map Sl.cells = SS at *
    generalize tt.map Stp.cells = TT at *
    replace hBs := Lib.hid hBs
    replace hIs := Lib.hid hIs
    replace hLs := Lib.hid hLs
    clear hE hI hBad hHE
    repeat' (with_reducible first | refine Q1 ?_ | refine Qe ?_ | refine QQ ?_ | (refine al_go ?_; intro b) | (refine Qa ?_; intro o' ho') | (refine Qp ?_; intro o' ho') | (refine QD ?_ <;> (try constructor) <;> intro hb <;> try intro hb1) | fail)
    refine ⟨i + 1, .room o' 36 3 ((L ++ [(⟨nm, ss, tt⟩ : Tm)]).map Tm.cells).length :: rdR rb s3 :: st, ?_, ⟨hlt, ?_, ?_, ?_, ?_, ?_, o', L ++ [⟨nm, ss, tt⟩], s3, ho', hLk, hE2, ?_, rfl⟩, ?_⟩
    · rw [hLs.out]; (repeat (first | exact List.Sublist.refl _ | apply List.Sublist.cons))
    rotate_right 2
    · rw [hLs.out]; exact Qf
    all_goals exact Qf
 · have hHE := hE.out
   rw [show m - i = 0 by omega, Reg.rdL] at hHE
   obtain ⟨r1, r2⟩ := res
   obtain ⟨hr1, hr2⟩ := hHE
   dsimp only at hr1 hr2
   rw [List.append_nil] at hr1
   subst hr1 hr2
   clear hE hI hBad
   exact WRa
namespace Reg
theorem rdL_len {α : Type} (f : RS → α × RS) : ∀ (n : Nat) (s : RS), (rdL f n s).1.length ≤ n
 | 0, s => Nat.le_refl _
 | n + 1, s => by
  rw [rdL]
  split
  · exact Nat.zero_le _
  · rw [List.length_cons]
    have := rdL_len f n (f s).2
    omega
theorem rlist_len {α : Type} (f : RS → α × RS) (k : Int) (s : RS) : (rlist f k s).1.length ≤ k.toNat := by
 unfold rlist
 have := rdL_len f (if k < s.rnum.1 then k else s.rnum.1).toNat s.rnum.2
 split at this <;> split <;> omega
def get (b : List UInt8) : Option (List Tm) := if (read ⟨.shared, b, false⟩).1.isSome = true ∧ (read ⟨.shared, b, false⟩).2.bad = false ∧ (read ⟨.shared, b, false⟩).2.l.length = 0 then (read ⟨.shared, b, false⟩).1 else none
end Reg
theorem cloneB2F (o : Own) (l : List UInt8) (hl : l.length ≤ 10000000) (st : St) : TrF Tryz.prog 72 [.sl o (l.map encB)] st fun d st' => d = .sl .shared (l.map encB) ∧ st' = st := by
 refine Qin [2] Tryz.func72 Tryz.results72 Tryz.ntmps72 ?_
 refine tr_room 5 1 0 ?_
 repeat' (first | (with_reducible first | refine Q1 ?_ | refine Qe ?_ | fail) | ((with_reducible apply s_isNil); (focus ((try simp (disch := omega) only [push_cast, simprocAttr, *]); (try exact rfl); done)); (focus ((try simp (disch := omega) only [push_cast, simprocAttr, *]); (try exact rfl); done)); intro bn hbn) | (with_reducible first | refine QQ ?_ | (refine al_go ?_; intro b) | (refine Qa ?_; intro o' ho') | (refine Qp ?_; intro o' ho') | (refine QD ?_ <;> (try constructor) <;> intro hb <;> try intro hb1) | fail) | fail)
 · have h := hbn hb
   rw [h]
   clear hbn hb h
   exact Qret
 · exact Qret
theorem binRead2F (o : Own) (l : List UInt8) (hl : l.length ≤ 10000000) (st : St) : TrF Tryz.prog 27 [.sl o (l.map encB)] st fun d st' => ∃ b, d = .ptr b 0 ∧ st' = rdR b ⟨.shared, l, false⟩ :: st := by
 have hC := Lib.hid (cloneB2F o l hl)
 refine Qin [2] Tryz.func27 Tryz.results27 Tryz.ntmps27 ?_
 repeat' (with_reducible first | refine Q1 ?_ | refine Qe ?_ | refine s_boxP ?_ | refine QQ ?_ | (refine al_go ?_; intro b) | (refine Qa ?_; intro o' ho') | (refine Qp ?_; intro o' ho') | (refine QD ?_ <;> (try constructor) <;> intro hb <;> try intro hb1) | fail)
 refine ret_new (b := b) (B := fun b => rdR b ⟨.shared, l, false⟩) (by first | exact .inl rfl | exact .inr rfl) (Qf) (Qf) (.refl _)
theorem regReadF (rb : Nat) (s : RS) (hL : ∀ t ∈ (Reg.rlist Reg.getTm 7 s).1, TOk t) (st : St) : TrF Tryz.prog 28 [.ptr rb 0] (rdR rb s :: st) fun x st' => x = .tup [.sl .shared (((Reg.read s).1.getD []).map Tm.cells), .b (Reg.read s).1.isSome] ∧ st' = rdR rb (Reg.read s).2 :: st := by
 have hR := regReadTmF rb s
 have hT := regRightF _ hL (by have := Reg.rlist_len Reg.getTm 7 s; omega)
 have hB := rdBadF rb (Reg.rlist Reg.getTm 7 s).2
 unfold Reg.read
 clear hL
 generalize Reg.rlist Reg.getTm 7 s = q at *
 obtain ⟨L, s2⟩ := q
 dsimp only at *
 obtain ⟨LS, hLS⟩ : ∃ LS, L.map Tm.cells = LS := ⟨_, rfl⟩
 rw [hLS] at hR hT
 generalize Reg.right L = q at *
 obtain ⟨bd, hbd⟩ : ∃ b, s2.bad = b := ⟨_, rfl⟩
 rw [hbd] at hB ⊢
 replace hR := Lib.hid hR
 replace hT := Lib.hid hT
 replace hB := Lib.hid hB
 cases bd with
 | true =>
  rw [if_pos (.inl rfl)]
  dsimp only [Option.getD, Option.isSome]
  clear hLS
  refine Qin [2,3] Tryz.func28 Tryz.results28 Tryz.ntmps28 ?_
  exact WR
 | false =>
  cases q with
  | false =>
   rw [if_pos (.inr rfl)]
   dsimp only [Option.getD, Option.isSome]
   clear hLS
   refine Qin [2,3] Tryz.func28 Tryz.results28 Tryz.ntmps28 ?_
   exact WR
  | true =>
   rw [if_neg (by rintro (h | h) <;> cases h)]
   dsimp only [Option.getD, Option.isSome]
   rw [hLS]
   clear hLS
   refine Qin [2,3] Tryz.func28 Tryz.results28 Tryz.ntmps28 ?_
   exact WR
theorem regGetF (o : Own) (l : List UInt8) (hl : l.length ≤ 10000000) (hL : ∀ t ∈ (Reg.rlist Reg.getTm 7 ⟨.shared, l, false⟩).1, TOk t) (st : St) : TrF Tryz.prog 25 [.sl o (l.map encB)] st fun x st' => x = .tup [.sl .shared (((Reg.get l).getD []).map Tm.cells), .b (Reg.get l).isSome] ∧ st' = st := by
 have hR := binRead2F o l hl
 have hG := fun rb => regReadF rb ⟨.shared, l, false⟩ hL
 have hD := fun rb => rdDoneF rb (Reg.read ⟨.shared, l, false⟩).2
 unfold Reg.get
 clear hL
 generalize Reg.read ⟨.shared, l, false⟩ = q at *
 obtain ⟨m, s2⟩ := q
 dsimp only at *
 replace hR := Lib.hid hR
 replace hG := Lib.hid hG
 cases m with
 | none =>
  rw [if_neg (fun h => by cases h.1)]
  dsimp only [Option.getD, Option.isSome] at *
  replace hD := Lib.hid hD
  refine Qin [2,3] Tryz.func25 Tryz.results25 Tryz.ntmps25 ?_
  repeat' (first | (with_reducible first | refine Q1 ?_ | refine Qe ?_ | refine QQ ?_ | (refine al_go ?_; intro b) | (refine Qa ?_; intro o' ho') | (refine Qp ?_; intro o' ho') | (refine QD ?_ <;> (try constructor) <;> intro hb <;> try intro hb1) | fail) | (refine QN Tryz.call27 (hR.out _) ?_; intro rb) | refine QR Tryz.call28 ((hG.out _)) ?_ | refine QR Tryz.call45 ((hD.out _)) ?_ | fail)
  all_goals exact Qret
 | some L =>
  dsimp only [Option.getD, Option.isSome] at hG
  obtain ⟨LS, hLS⟩ : ∃ LS, L.map Tm.cells = LS := ⟨_, rfl⟩
  rw [hLS] at hG
  by_cases h : s2.bad = false ∧ s2.l.length = 0
  · rw [if_pos ⟨rfl, h⟩]
    dsimp only [Option.getD, Option.isSome]
    rw [hLS]
    clear hLS
    rw [show (!s2.bad && decide (s2.l.length = 0)) = true by rw [h.1, decide_eq_true h.2]; rfl] at hD
    replace hD := Lib.hid hD
    clear h
    refine Qin [2,3] Tryz.func25 Tryz.results25 Tryz.ntmps25 ?_
    repeat' (first | (with_reducible first | refine Q1 ?_ | refine Qe ?_ | refine QQ ?_ | (refine al_go ?_; intro b) | (refine Qa ?_; intro o' ho') | (refine Qp ?_; intro o' ho') | (refine QD ?_ <;> (try constructor) <;> intro hb <;> try intro hb1) | fail) | (refine QN Tryz.call27 (hR.out _) ?_; intro rb) | refine QR Tryz.call28 ((hG.out _)) ?_ | refine QR Tryz.call45 ((hD.out _)) ?_ | fail)
    all_goals exact Qret
  · rw [if_neg (fun k => h k.2)]
    dsimp only [Option.getD, Option.isSome]
    clear hLS
    rw [show (!s2.bad && decide (s2.l.length = 0)) = false by
     by_cases hb : s2.bad = false
     · rw [hb, decide_eq_false fun k => h ⟨hb, k⟩]; rfl
     · rw [show s2.bad = true by cases hq : s2.bad with | false => exact absurd hq hb | true => rfl]; rfl] at hD
    replace hD := Lib.hid hD
    clear h
    refine Qin [2,3] Tryz.func25 Tryz.results25 Tryz.ntmps25 ?_
    repeat' (first | (with_reducible first | refine Q1 ?_ | refine Qe ?_ | refine QQ ?_ | (refine al_go ?_; intro b) | (refine Qa ?_; intro o' ho') | (refine Qp ?_; intro o' ho') | (refine QD ?_ <;> (try constructor) <;> intro hb <;> try intro hb1) | fail) | (refine QN Tryz.call27 (hR.out _) ?_; intro rb) | refine QR Tryz.call28 ((hG.out _)) ?_ | refine QR Tryz.call45 ((hD.out _)) ?_ | fail)
    all_goals exact Qret
end Go.Proofs.YtgcienlfpnpbgaaGreat
end
section
namespace Go.Proofs.YtgcienlfpnpbgaaGreat
open Go.RowKit B
namespace B
theorem fold_num : ∀ (l : List UInt8) (a : Nat), l.foldl (fun n c => n * 256 + c.toNat) a = a * 256 ^ l.length + num l
 | [], a => by simp [num]
 | c :: l, a => by
  have h1 := fold_num l (a * 256 + c.toNat)
  have h2 := fold_num l (0 * 256 + c.toNat)
  unfold num
  rw [List.foldl_cons, List.foldl_cons, h1, h2, List.length_cons, Nat.pow_succ, Nat.zero_mul, Nat.zero_add, Nat.add_mul, Nat.mul_assoc, Nat.mul_comm 256 (256 ^ l.length)]
  omega
theorem num_cons (c : UInt8) (l : List UInt8) : num (c :: l) = c.toNat * 256 ^ l.length + num l := by
 have := fold_num l (0 * 256 + c.toNat)
 rw [Nat.zero_mul, Nat.zero_add] at this
 rw [← this]; unfold num; rw [List.foldl_cons, Nat.zero_mul, Nat.zero_add]
theorem num_be : ∀ m x, num (be m x) = x % 256 ^ m
 | 0, x => by simp [be, num, Nat.mod_one]
 | m + 1, x => by
  rw [be, num_cons, be_len, num_be m x, UInt8.toNat_ofNat', show 256 ^ (m + 1) = 256 ^ m * 256 from Nat.pow_succ .., Nat.mod_mul (x := x) (a := 256 ^ m) (b := 256), Nat.mul_comm, Nat.add_comm]
end B
namespace RS
theorem byte_cons (o : Own) (c : UInt8) (l : List UInt8) : byte ⟨o, c :: l, false⟩ = ((c.toNat : Int), (⟨.shared, l, false⟩ : RS)) := rfl
theorem rnum_be (o : Own) (n : Nat) (hn : n ≤ 2147483647) (l : List UInt8) : rnum ⟨o, be 4 n ++ l, false⟩ = ((n : Int), (⟨.shared, l, false⟩ : RS)) := by
 have h4 := be_len 4 n
 unfold rnum
 dsimp only
 rw [if_neg (by rw [List.length_append, h4]; simp <;> omega), show (be 4 n ++ l).take 4 = be 4 n from List.take_left' h4, num_be]
 have : n % 256 ^ 4 = n := Nat.mod_eq_of_lt (by omega)
 rw [this, if_pos hn]
 unfold cut
 dsimp only
 rw [show (be 4 n ++ l).drop 4 = l from List.drop_left' h4]
theorem wrap_wrap (m : Int) (hm : -9223372036854775808 ≤ m ∧ m ≤ 9223372036854775807) : IntKind.i64.wrap ((IntKind.u64.wrap m).toNat : Int) = m := by
 simp [IntKind.wrap, IntKind.bits, IntKind.signed]; omega
theorem long_be (o : Own) (m : Int) (hm : -9223372036854775808 ≤ m ∧ m ≤ 9223372036854775807) (l : List UInt8) : long ⟨o, be 8 (IntKind.u64.wrap m).toNat ++ l, false⟩ = (m, (⟨.shared, l, false⟩ : RS)) := by
 have h8 := be_len 8 (IntKind.u64.wrap m).toNat
 unfold long
 dsimp only
 rw [if_neg (by rw [List.length_append, h8]; simp <;> omega), show (be 8 (IntKind.u64.wrap m).toNat ++ l).take 8 = be 8 (IntKind.u64.wrap m).toNat from List.take_left' h8, num_be]
 have : (IntKind.u64.wrap m).toNat % 256 ^ 8 = (IntKind.u64.wrap m).toNat := Nat.mod_eq_of_lt (by simp [IntKind.wrap, IntKind.bits, IntKind.signed] <;> omega)
 rw [this, wrap_wrap m hm]
 unfold cut
 dsimp only
 rw [show (be 8 (IntKind.u64.wrap m).toNat ++ l).drop 8 = l from List.drop_left' h8]
theorem text_tx (o : Own) (s : ByteArray) (hs : s.size ≤ 2147483647) (l : List UInt8) : text ⟨o, tx s.data.toList ++ l, false⟩ = (s, (⟨.shared, l, false⟩ : RS)) := by
 have hl : s.data.toList.length = s.size := by simp
 unfold text tx
 rw [List.append_assoc, hl, rnum_be o s.size hs]
 unfold textN
 dsimp only
 rw [if_neg (by rw [List.length_append, hl]; simp <;> omega), Int.toNat_natCast]
 unfold cut
 dsimp only
 rw [show (s.data.toList ++ l).take s.size = s.data.toList from List.take_left' hl, show (s.data.toList ++ l).drop s.size = l from List.drop_left' hl]
theorem vals_put {f : RS → V × RS} (l0 : List UInt8) : ∀ (l : List V), (∀ x ∈ l, ∀ r, f ⟨.shared, x.put ++ r, false⟩ = (x, ⟨.shared, r, false⟩)) → vals f l.length ⟨.shared, V.putL l ++ l0, false⟩ = (l, ⟨.shared, l0, false⟩)
 | [], _ => by simp [vals, V.putL]
 | x :: l, h => by
  rw [List.length_cons, vals, if_neg (by simp), V.putL, List.append_assoc, h x (List.mem_cons_self ..)]
  dsimp only
  rw [vals_put l0 l fun y hy => h y (List.mem_cons_of_mem _ hy)]
theorem empty_of {s : ByteArray} (h : s.size = 0) : s = ⟨#[]⟩ := by
 apply ByteArray.ext
 apply Array.ext'
 have : s.data.toList.length = s.size := by simp
 exact List.eq_nil_of_length_eq_zero (by omega)
theorem deepL_mem {x : V} : ∀ {l : List V}, x ∈ l → x.deep ≤ V.deepL l
 | y :: l, h => by
  rw [V.deepL]
  rcases List.mem_cons.1 h with rfl | h
  · omega
  · have := deepL_mem h; omega
theorem value_put : ∀ (d : Nat) (v : V), v.parts = true → v.deep ≤ d → v.Ok → ∀ (o : Own) (r : List UInt8), value d ⟨o, v.put ++ r, false⟩ = (v, (⟨.shared, r, false⟩ : RS)) := fun d => by
 induction d using Nat.strongRecOn with
 | _ d IH =>
 intro v
 cases v with
 | mk k n s l =>
 intro hp hd hok o r
 obtain ⟨-, hkn, -, -, hall⟩ := hok
 obtain ⟨h1, h2, h3⟩ := V.parts_facts hp
 obtain ⟨f1, f2, f3, f4, f5, f6⟩ := V.sgl_facts h1
 have hsub : value d = body (match d with | 0 => none | e + 1 => some (value e)) := by cases d <;> rfl
 rw [hsub, V.put, List.cons_append]
 have hkb : ((UInt8.ofNat k.toNat).toNat : Int) = k := by rw [UInt8.toNat_ofNat']; omega
 unfold body
 rw [byte_cons, hkb]
 dsimp only
 have hse : k ≠ 3 ∧ k ≠ 4 → s = ⟨#[]⟩ := fun h => empty_of (f5 h)
 have hle : k ≠ 5 → l = [] := fun h => h2.resolve_left h
 have hn0 : k ≠ 1 ∧ k ≠ 2 → n = 0 := fun h => by
  unfold V.sgl at h1
  by_cases k0 : k = 0
  · subst k0; simp at h1; exact h1.1
  rw [if_neg k0, if_neg h.1, if_neg h.2] at h1
  by_cases k3 : k = 3
  · subst k3; simp at h1; exact h1.1
  rw [if_neg k3] at h1
  by_cases k4 : k = 4
  · subst k4; simp at h1; exact h1.1
  rw [if_neg k4] at h1
  by_cases k5 : k = 5
  · subst k5; simp at h1; exact h1.1
  rw [if_neg k5] at h1; cases h1
 by_cases k1 : k = 1
 · subst k1
   have hn := f3 (by omega)
   have hnb : ((UInt8.ofNat n.toNat).toNat : Int) = n := by rw [UInt8.toNat_ofNat']; omega
   rw [if_pos rfl, if_pos rfl, List.singleton_append, byte_cons, hnb, hse (by omega), hle (by omega)]
 rw [if_neg k1, if_neg k1]
 by_cases k2 : k = 2
 · subst k2
   rw [if_pos rfl, if_pos rfl, long_be _ n hkn, hse (by omega), hle (by omega)]
 rw [if_neg k2, if_neg k2]
 by_cases k34 : k = 3 ∨ k = 4
 · rw [if_pos k34, if_pos k34, text_tx _ s (by omega), hn0 (by omega), hle (by omega)]
 rw [if_neg k34, if_neg k34]
 by_cases k5 : k = 5
 · subst k5
   rw [if_pos rfl, if_pos rfl, List.append_assoc, rnum_be _ l.length (by have := f6 rfl; omega)]
   dsimp only
   rw [V.deep, if_pos (.inl rfl)] at hd
   obtain ⟨e, rfl⟩ : ∃ e, d = e + 1 := ⟨d - 1, by omega⟩
   unfold list5
   dsimp only
   rw [if_neg (by have := f6 rfl; omega), Int.toNat_natCast, vals_put r l fun x hx r => IH e (by omega) x (h3 x hx) (by
    have := deepL_mem hx
    omega) (hall x hx) _ r, hn0 (by omega), hse (by omega)]
 · rw [if_neg k5, if_neg k5, List.nil_append, hn0 (by omega), hse (by omega), hle k5]
theorem val_put {v : V} (hr : v.right = true) (hok : v.Ok) (o : Own) (r : List UInt8) : val ⟨o, v.put ++ r, false⟩ = (v, (⟨.shared, r, false⟩ : RS)) := by
 obtain ⟨h1, h2, h3⟩ := V.right_iff.1 hr
 unfold val
 rw [if_neg (by simp), value_put 4 v h1 h2 hok, if_neg (by simp [hr])]
end RS
namespace RS
def Ex {α : Type} (f : RS → α × RS) : Prop := ∀ o l x o' r, f ⟨o, l, false⟩ = (x, ⟨o', r, false⟩) → ∀ q, f ⟨o, l ++ q, false⟩ = (x, ⟨o', r ++ q, false⟩)
def Bd {α : Type} (f : RS → α × RS) : Prop := ∀ s, s.bad = true → (f s).2.bad = true
end RS
end Go.Proofs.YtgcienlfpnpbgaaGreat
end
section
namespace Go.Proofs.YtgcienlfpnpbgaaGreat
open Go.RowKit
namespace Sch
def cut (t : Tm) (k : Nat) : Tm := ⟨t.name, t.slots, t.steps.take k⟩
theorem last_len {t : Tm} (h : 0 < last t) : (vers t).length = t.steps.length + 1 ∧ last t = t.steps.length + 1 := by
 unfold last at h ⊢
 split at h
 · rename_i hl
   rw [if_pos hl]; exact ⟨hl, rfl⟩
 · omega
theorem modify_get {α : Type} {l : List α} {f : α → α} {i j : Nat} {y : α} (h : l[j]? = some y) : (l.modify i f)[j]? = some (if i = j then f y else y) := by
 rw [List.getElem?_modify, h]
 split <;> rfl
end Sch
end Go.Proofs.YtgcienlfpnpbgaaGreat
end
section
namespace Go.Proofs.YtgcienlfpnpbgaaGreat
attribute [local push_cast] encB encI V.cells_mk V.cells_take V.cells_len Nat.mul_one Int.sub_zero
open Go.RowKit
set_option maxHeartbeats 4000000
set_option maxRecDepth 10000
theorem refNodesF (v : V) (hok : v.Ok) (hn : v.nodes ≤ 1000) (hd : v.deep ≤ 1000) (st : St) : TrF Tryz.prog 189 [.agg v.cells] st fun x st' => x = .i v.nodes ∧ st' = st := by
 have hC := refCountF v.nodes v (Nat.le_refl _) hok 1001 1000 (by omega) (by omega) (by omega) (by omega)
 rw [V.cnt_all v 1001 1000 (by omega) (by omega)] at hC
 cases v with
 | mk k n s l =>
 rw [V.cells_mk] at *
 replace hC := Lib.hid hC
 generalize (V.mk k n s l).nodes = q at *
 refine Qin [2] Tryz.func189 Tryz.results189 Tryz.ntmps189 ?_
 repeat' (with_reducible first | refine Q1 ?_ | refine Qe ?_ | refine QQ ?_ | (refine al_go ?_; intro b) | (refine QD ?_ <;> (try constructor) <;> intro hb <;> try intro hb1) | fail)
 all_goals (refine Qret (hd := ?_); (try simp (disch := omega) only [push_cast, simprocAttr, *]); try (first | exact LE.refl _ | exact LE.sl _ _ | ((first | refine LE.tup ?_ | refine LE.agg ?_); (repeat' (first | exact LEL.nil | refine LEL.cons ?_ ?_ | exact LE.refl _ | exact LE.sl _ _ | refine LE.agg ?_)); done) | refine LE.of_eq ?_))
 exact congrArg D.i (by omega)
theorem refRightF (v : V) (hok : v.Ok) (hn : v.nodes ≤ 1000) (hd : v.deep ≤ 1000) (st : St) : TrF Tryz.prog 156 [.agg v.cells] st fun x st' => x = .b v.right ∧ st' = st := by
 have hE := refEachF v.nodes v (Nat.le_refl _)
 have hD := refDeepF v.nodes v (Nat.le_refl _) (by omega)
 have hN := refNodesF v hok hn hd
 unfold V.right
 cases v with
 | mk k n s l =>
 rw [V.cells_mk] at *
 replace hE := Lib.hid hE
 replace hD := Lib.hid hD
 replace hN := Lib.hid hN
 generalize (V.mk k n s l).nodes = nn at *
 generalize (V.mk k n s l).deep = dd at *
 generalize (V.mk k n s l).parts = p at *
 refine Qin [2] Tryz.func156 Tryz.results156 Tryz.ntmps156 ?_
 repeat' (with_reducible first | refine Q1 ?_ | refine Qe ?_ | refine QQ ?_ | (refine al_go ?_; intro b) | (refine QD ?_ <;> (try constructor) <;> intro hb <;> try intro hb1) | fail)
 all_goals (refine Qret (hd := ?_); (try simp (disch := omega) only [push_cast, simprocAttr, *]); try (first | exact LE.refl _ | exact LE.sl _ _ | ((first | refine LE.tup ?_ | refine LE.agg ?_); (repeat' (first | exact LEL.nil | refine LEL.cons ?_ ?_ | exact LE.refl _ | exact LE.sl _ _ | refine LE.agg ?_)); done) | refine LE.of_eq ?_))
 all_goals (cases p <;> (first | rfl | (refine congrArg D.b ?_; rw [Bool.eq_iff_iff]; simp only [Bool.true_and, Bool.false_and, Bool.and_true, Bool.and_false, Bool.or_false, Bool.or_true, Bool.true_or, Bool.false_or, true_and, and_true, Bool.not_eq_true', Bool.not_eq_false', decide_eq_true_eq, decide_eq_false_iff_not, beq_iff_eq, beq_eq_false_iff_ne, bne_iff_ne, ne_eq, reduceCtorEq, iff_true, true_iff, iff_false, false_iff, Bool.and_eq_true, Bool.or_eq_true, Bool.false_eq_true, Bool.true_eq_false]; first | done | omega)))
end Go.Proofs.YtgcienlfpnpbgaaGreat
end
section
namespace Go.Proofs.YtgcienlfpnpbgaaGreat
attribute [local push_cast] encB encI encC V.cells_mk V.cells_len Nat.mul_one Int.sub_zero List.map_nil beq_self_eq_true List.head?_cons
open Go.RowKit
set_option maxHeartbeats 4000000
set_option maxRecDepth 10000
def Sch.has (t k : Nat) : Bool := t / 2 ^ k % 2 == 1
theorem refHasF (tn k : Nat) (hk : k ≤ 1000) (ht : tn ≤ 9223372036854775807) (st : St) : TrF Tryz.prog 197 [.i tn, .i k] st fun d st' => d = .b (Sch.has tn k) ∧ st' = st := by
 unfold Sch.has
 refine Qin [4] Tryz.func197 Tryz.results197 Tryz.ntmps197 ?_
 repeat' (with_reducible first | refine Q1 ?_ | refine Qe ?_ | refine QQ ?_ | (refine al_go ?_; intro b) | (refine QD ?_ <;> (try constructor) <;> intro hb <;> try intro hb1) | fail)
 refine tr_loop (ι := Nat) (fun i A st' => i ≤ k ∧ A.df = [] ∧ A.e 1 = .i k ∧ A.e 5 = .i i ∧ st = st' ∧ ∃ m : Nat, m ≤ tn ∧ Hid (tn / 2 ^ i = m) ∧ A.e 0 = .i m) (fun i => k - i) 0 ⟨Nat.zero_le _, Qf, Qf, Qf, rfl, tn, Nat.le_refl _, Nat.div_one _, Qf⟩ ?_
 rintro i A st' ⟨hi, hdf, e1, e5, rfl, m, hm, HT, e0⟩
 by_cases hlt : i < k
 · obtain ⟨m2, hm2⟩ : ∃ m2, m / 2 = m2 := ⟨_, rfl⟩
   have hq : (m : Int).tdiv 2 = (m2 : Int) := by rw [← hm2]; rfl
   have hml : m2 ≤ tn := by omega
   have HN : Hid (tn / 2 ^ (i + 1) = m2) := Lib.hid (by rw [Nat.pow_succ, ← Nat.div_div_eq_div_mul, HT.out, hm2])
   clear HT hm2
   repeat' (with_reducible first | refine Q1 ?_ | refine Qe ?_ | refine QQ ?_ | (refine al_go ?_; intro b) | (refine QD ?_ <;> (try constructor) <;> intro hb <;> try intro hb1) | fail)
   refine ⟨i + 1, ⟨hlt, ?_, ?_, ?_, rfl, m2, hml, HN, ?_⟩, ?_⟩
   all_goals exact Qf
 · have hik : i = k := by omega
   subst hik
   have hr : (m : Int).tmod 2 = ((m % 2 : Nat) : Int) := rfl
   rw [HT.out]
   obtain ⟨m2, hm2⟩ : ∃ m2, m % 2 = m2 := ⟨_, rfl⟩
   rw [hm2] at hr ⊢
   clear HT
   replace hm2 := Lib.hid hm2
   repeat' (with_reducible first | refine Q1 ?_ | refine Qe ?_ | refine QQ ?_ | (refine al_go ?_; intro b) | (refine QD ?_ <;> (try constructor) <;> intro hb <;> try intro hb1) | fail)
   all_goals (refine Qret (hd := ?_); (try simp (disch := omega) only [push_cast, simprocAttr, *]); try (first | exact LE.refl _ | exact LE.sl _ _ | ((first | refine LE.tup ?_ | refine LE.agg ?_); (repeat' (first | exact LEL.nil | refine LEL.cons ?_ ?_ | exact LE.refl _ | exact LE.sl _ _ | refine LE.agg ?_)); done) | refine LE.of_eq ?_))
   all_goals (refine congrArg D.b ?_; rw [Bool.eq_iff_iff, beq_iff_eq, beq_iff_eq]; omega)
theorem i64_and1 (a : Nat) (ha : a ≤ 9223372036854775807) : bits .and .i64 (a : Int) 1 = ((a % 2 : Nat) : Int) := by
 have h1 : a &&& 1 = a % 2 := Nat.and_one_is_mod a
 show IntKind.i64.wrap ((BitVec.ofInt 64 (a : Int) &&& BitVec.ofInt 64 ((1 : Nat) : Int)).toNat : Int) = _
 rw [BitVec.toNat_and, ofInt_i64 a (by omega), ofInt_i64 1 (by omega), h1]
 exact IntWalk.i64_in _ (by omega)
theorem Sch.bit_has (t k : Nat) (ht : t ≤ 9223372036854775807) : Sch.bit t k = Sch.has t k := by
 unfold Sch.bit Sch.has
 have : ((t : Int) / 2 ^ ((k : Int).toNat)) = ((t / 2 ^ k : Nat) : Int) := by
  rw [Int.toNat_natCast]; simp
 rw [this, i64_and1 _ (Nat.le_trans (Nat.div_le_self _ _) ht)]
 rw [Bool.eq_iff_iff, beq_iff_eq, beq_iff_eq]; omega
theorem V.right_kind {k n : Int} {s : ByteArray} {l : List V} (h : (V.mk k n s l).right = true) : 0 ≤ k ∧ k ≤ 5 := by
 have := (V.right_iff.1 h).1
 rw [V.parts, Bool.and_eq_true, Bool.and_eq_true] at this
 have := this.1.1
 unfold V.sgl at this
 repeat' split at this
 all_goals (first | omega | exact absurd this (by decide))
theorem refFits10F (s : Sl) (v : V) (hok : v.Ok) (hn : v.nodes ≤ 1000) (hd : v.deep ≤ 1000) (ht : 0 ≤ s.types ∧ s.types ≤ 9223372036854775807) (st : St) : TrF Tryz.prog 190 [.agg s.cells, .agg v.cells] st fun x st' => x = .b (Sch.fits s v) ∧ st' = st := by
 have hR := refRightF v hok hn hd
 unfold Sch.fits
 obtain ⟨tn, htn⟩ := Int.eq_ofNat_of_zero_le ht.1
 rw [htn] at ht ⊢
 cases s with
 | mk nm ty rq dv =>
 dsimp only at htn
 subst htn
 cases hr : v.right with
 | false =>
  rw [hr] at hR
  cases v with
  | mk k n s l =>
  cases dv with
  | mk dk dn ds dl =>
  rw [V.cells_mk] at hR
  rw [Sl.cells_mk, V.cells_mk]
  replace hR := Lib.hid hR
  refine Qin [4] Tryz.func190 Tryz.results190 Tryz.ntmps190 ?_
  exact WR
 | true =>
  rw [hr] at hR
  cases v with
  | mk k n s l =>
  cases dv with
  | mk dk dn ds dl =>
  obtain ⟨hk1, hk2⟩ := V.right_kind hr
  obtain ⟨kn, rfl⟩ := Int.eq_ofNat_of_zero_le hk1
  have hH := refHasF tn kn (by omega) (by omega)
  dsimp only
  rw [Sch.bit_has tn kn (by omega)]
  rw [V.cells_mk] at hR
  rw [Sl.cells_mk, V.cells_mk]
  generalize Sch.has tn kn = q at *
  replace hR := Lib.hid hR
  replace hH := Lib.hid hH
  clear hr
  refine Qin [4] Tryz.func190 Tryz.results190 Tryz.ntmps190 ?_
  exact WR
end Go.Proofs.YtgcienlfpnpbgaaGreat
end
section
namespace Go.Proofs.YtgcienlfpnpbgaaGreat
open Go.RowKit
structure Rc where
 v : Int
 s : List V
def Rc.cells (r : Rc) : List D := [.i r.v, .sl .shared (r.s.map V.cells)]
namespace Sch
structure Grow (a b : List Sl) : Prop where
 len : a.length ≤ b.length
 old : ∀ (i : Nat) (s : Sl), a[i]? = some s → ∃ s', b[i]? = some s' ∧ s'.dv = s.dv ∧ ∀ v, fits s v = true → fits s' v = true
theorem Grow.refl (a : List Sl) : Grow a a := ⟨Nat.le_refl _, fun _ s h => ⟨s, h, rfl, fun _ h => h⟩⟩
theorem Grow.trans {a b c : List Sl} (h : Grow a b) (k : Grow b c) : Grow a c := by
 refine ⟨Nat.le_trans h.len k.len, fun i s hs => ?_⟩
 obtain ⟨s1, h1, h2, h3⟩ := h.old i s hs
 obtain ⟨s2, k1, k2, k3⟩ := k.old i s1 h1
 exact ⟨s2, k1, k2.trans h2, fun v hv => k3 v (h3 v hv)⟩
structure SOk (s : Sl) : Prop where
 name : V.isName s.name.data.toList = true
 types : takes s.types = true
 def_ : fits s s.dv = true
theorem sound_ok {s : Sl} (h : sound s = true) : SOk s := by
 unfold sound at h
 rw [Bool.and_eq_true, Bool.and_eq_true] at h
 exact ⟨h.1.1, h.1.2, h.2⟩
theorem takes_iff {t : Int} : takes t = true ↔ 1 ≤ t ∧ t ≤ 63 := by
 unfold takes
 rw [Bool.and_eq_true, decide_eq_true_eq, decide_eq_true_eq]
theorem or_has (a b k : Nat) : has (a ||| b) k = (has a k || has b k) := by
 unfold has
 have h := Nat.testBit_or a b k
 simp only [Nat.testBit, Nat.shiftRight_eq_div_pow, Nat.one_and_eq_mod_two] at h
 rw [Bool.eq_iff_iff] at h ⊢
 simp only [bne_iff_ne, ne_eq, Bool.or_eq_true, beq_iff_eq] at h ⊢
 omega
theorem widen_nat {a b : Int} (ha : takes a = true) (hb : takes b = true) : ∃ (m n : Nat), a = m ∧ b = n ∧ m < 64 ∧ n < 64 ∧ bits .or .i64 a b = ((m ||| n : Nat) : Int) ∧ m ||| n < 64 := by
 rw [takes_iff] at ha hb
 obtain ⟨m, rfl⟩ := Int.eq_ofNat_of_zero_le (show 0 ≤ a by omega)
 obtain ⟨n, rfl⟩ := Int.eq_ofNat_of_zero_le (show 0 ≤ b by omega)
 have h := Nat.or_lt_two_pow (x := m) (y := n) (n := 6) (by omega) (by omega)
 exact ⟨m, n, rfl, rfl, by omega, by omega, i64_or_nat m n (by omega) (by omega), by omega⟩
theorem fits_types {s s' : Sl} {v : V} (h : ∀ k n sv l, v = .mk k n sv l → bit s.types k = true → bit s'.types k = true) (hv : fits s v = true) : fits s' v = true := by
 unfold fits at hv ⊢
 rw [Bool.and_eq_true] at hv ⊢
 cases v with
 | mk k n sv l => exact ⟨hv.1, h k n sv l rfl hv.2⟩
theorem step_grow {x y : Vr} {s : Stp} (hx : ∀ z ∈ x.slots, SOk z) (h : stepV x s = some y) : Grow x.slots y.slots ∧ ∀ z ∈ y.slots, SOk z := by
 unfold stepV at h
 split at h
 · unfold addS at h
   split at h
   · rename_i hc
     cases h
     refine ⟨⟨by simp, fun i z hz => ⟨z, ?_, rfl, fun _ h => h⟩⟩, fun z hz => ?_⟩
     · have := (List.getElem?_eq_some_iff.1 hz).1
       show (x.slots ++ [s.slot])[i]? = _
       rw [List.getElem?_append_left this]; exact hz
     · rcases List.mem_append.1 hz with h | h
       · exact hx z h
       · rw [List.mem_singleton] at h
         subst h; exact sound_ok hc.2.2.2.1
   · cases h
 · split at h
   · unfold loseS at h
     split at h
     · cases h; exact ⟨Grow.refl _, hx⟩
     · cases h
   · split at h
     · unfold renameS at h
       split at h
       · rename_i hc
         cases h
         refine ⟨⟨by simp, fun i z hz => ⟨_, modify_get hz, ?_, fun v hv => ?_⟩⟩, fun z hz => ?_⟩
         · split <;> rfl
         · split
           · exact hv
           · exact hv
         · obtain ⟨j, hj⟩ := List.getElem?_of_mem hz
           cases hlj : x.slots[j]? with
           | none => rw [List.getElem?_modify, hlj] at hj; simp at hj
           | some w =>
            rw [modify_get hlj] at hj
            have hw := hx w (List.mem_of_getElem? hlj)
            cases hj
            split
            · exact ⟨hc.2.2.1, hw.types, hw.def_⟩
            · exact hw
       · cases h
     · split at h
       · unfold widenS at h
         split at h
         · rename_i hc
           cases h
           have hbit : ∀ w : Sl, SOk w → ∀ v, fits w v = true → fits { w with types := bits .or .i64 w.types s.slot.types } v = true := fun w hw v hv => by
            obtain ⟨m, n, e1, e2, l1, l2, e3, l3⟩ := widen_nat hw.types hc.2.2.1
            refine fits_types (fun k nn sv l hve hb => ?_) hv
            subst hve
            have hr : (V.mk k nn sv l).right = true := by
             unfold fits at hv
             rw [Bool.and_eq_true] at hv
             exact hv.1
            obtain ⟨k1, k2⟩ := V.right_kind hr
            obtain ⟨kn, rfl⟩ := Int.eq_ofNat_of_zero_le k1
            show bit (bits .or .i64 w.types s.slot.types) kn = true
            rw [e3, bit_has _ _ (by omega), or_has]
            rw [e1, bit_has _ _ (by omega)] at hb
            rw [hb, Bool.true_or]
           refine ⟨⟨by simp, fun i z hz => ⟨_, modify_get hz, ?_, fun v hv => ?_⟩⟩, fun z hz => ?_⟩
           · split <;> rfl
           · split
             · exact hbit z (hx z (List.mem_of_getElem? hz)) v hv
             · exact hv
           · obtain ⟨j, hj⟩ := List.getElem?_of_mem hz
             cases hlj : x.slots[j]? with
             | none => rw [List.getElem?_modify, hlj] at hj; simp at hj
             | some w =>
              rw [modify_get hlj] at hj
              have hw := hx w (List.mem_of_getElem? hlj)
              cases hj
              split
              · refine ⟨hw.name, ?_, hbit w hw _ hw.def_⟩
                obtain ⟨m, n, e1, e2, l1, l2, e3, l3⟩ := widen_nat hw.types hc.2.2.1
                show takes (bits .or .i64 w.types s.slot.types) = true
                rw [e3, takes_iff]
                have hm : 1 ≤ m := by have := (takes_iff.1 hw.types).1; omega
                have : m ≤ m ||| n := Nat.left_le_or
                omega
              · exact hw
         · cases h
       · split at h
         · unfold reorderS at h
           split at h
           · cases hr : reo x.cols s.order [] with
             | none => rw [hr] at h; cases h
             | some r => rw [hr] at h; cases h; exact ⟨Grow.refl _, hx⟩
           · cases h
         · cases h
end Sch
end Go.Proofs.YtgcienlfpnpbgaaGreat
end
section
namespace Go.Proofs.YtgcienlfpnpbgaaGreat
open Go.RowKit B
set_option maxHeartbeats 4000000
namespace Reg
theorem byte_put (o : Own) (n : Int) (h : 0 ≤ n ∧ n ≤ 255) (l : List UInt8) : RS.byte ⟨o, byteB n ++ l, false⟩ = (n, (⟨.shared, l, false⟩ : RS)) := by
 have e : byteB n = [UInt8.ofNat n.toNat] := if_pos h
 rw [e, List.singleton_append, RS.byte_cons]
 have : ((UInt8.ofNat n.toNat).toNat : Int) = n := by
  rw [UInt8.toNat_ofNat']; omega
 rw [this]
theorem b8_put (o : Own) (n : Int) (h : 0 ≤ n ∧ n ≤ 255) (l : List UInt8) : RS.byte ⟨o, [b8 n] ++ l, false⟩ = (n, (⟨.shared, l, false⟩ : RS)) := by
 rw [List.singleton_append, RS.byte_cons]
 have : ((b8 n).toNat : Int) = n := by
  unfold b8
  rw [UInt8.toNat_ofNat']; omega
 rw [this]
theorem rdL_put {α : Type} {f : RS → α × RS} {g : α → List UInt8} (r : List UInt8) : ∀ (l : List α), (∀ x ∈ l, ∀ o r, f ⟨o, g x ++ r, false⟩ = (x, ⟨.shared, r, false⟩)) → rdL f l.length ⟨.shared, (l.map g).flatten ++ r, false⟩ = (l, (⟨.shared, r, false⟩ : RS))
 | [], _ => rfl
 | x :: l, h => by
  rw [List.length_cons, rdL, if_neg Bool.false_ne_true, List.map_cons, List.flatten_cons, List.append_assoc, h x (List.mem_cons_self ..)]
  dsimp only
  rw [rdL_put r l fun y hy => h y (List.mem_cons_of_mem _ hy)]
theorem rlist_put {α : Type} {f : RS → α × RS} {g : α → List UInt8} (k : Int) (l : List α) (hl : (l.length : Int) ≤ k) (hk : k ≤ 1000) (h : ∀ x ∈ l, ∀ o r, f ⟨o, g x ++ r, false⟩ = (x, ⟨.shared, r, false⟩)) (o : Own) (r : List UInt8) : rlist f k ⟨o, listB g l ++ r, false⟩ = (l, (⟨.shared, r, false⟩ : RS)) := by
 unfold rlist listB
 rw [List.append_assoc, RS.rnum_be o l.length (by omega)]
 dsimp only
 rw [if_neg (by omega), Int.toNat_natCast, rdL_put r l h]
structure SlG (s : Sl) : Prop where
 nm : s.name.size ≤ 300
 ty : 0 ≤ s.types ∧ s.types ≤ 255
 dv : s.dv.right = true
 ok : s.dv.Ok
def StG (p : Stp) : Prop :=
 (p.kind = 1 ∧ p.col = 0 ∧ SlG p.slot ∧ p.order = []) ∨ (p.kind = 2 ∧ (0 ≤ p.col ∧ p.col ≤ 255) ∧ p.slot = slot0 ∧ p.order = []) ∨
 (p.kind = 3 ∧ (0 ≤ p.col ∧ p.col ≤ 255) ∧ p.slot = { slot0 with name := p.slot.name } ∧ p.slot.name.size ≤ 300 ∧ p.order = []) ∨
 (p.kind = 4 ∧ (0 ≤ p.col ∧ p.col ≤ 255) ∧ p.slot = { slot0 with types := p.slot.types } ∧ (0 ≤ p.slot.types ∧ p.slot.types ≤ 255) ∧ p.order = []) ∨
 (p.kind = 5 ∧ p.col = 0 ∧ p.slot = slot0 ∧ p.order.length ≤ 8 ∧ ∀ k ∈ p.order, 0 ≤ k ∧ k ≤ 255)
structure TmG (t : Tm) : Prop where
 nm : t.name.size ≤ 300
 ls : t.slots.length ≤ 8
 lt : t.steps.length ≤ 8
 os : ∀ s ∈ t.slots, SlG s
 ot : ∀ s ∈ t.steps, StG s
theorem getSlot_put (s : Sl) (h : SlG s) (o : Own) (r : List UInt8) : getSlot ⟨o, slotB s ++ r, false⟩ = (s, (⟨.shared, r, false⟩ : RS)) := by
 have e : slotB s ++ r = tx s.name.data.toList ++ (byteB s.types ++ (byteB (if s.req then 1 else 0) ++ (s.dv.put ++ r))) := by
  unfold slotB slotP V.bin
  rw [if_pos h.dv]
  simp only [List.flatten_cons, List.flatten_nil, List.append_nil, List.append_assoc]
 have hq : (0 : Int) ≤ (if s.req then 1 else 0) ∧ (if s.req then 1 else 0 : Int) ≤ 255 := by split <;> omega
 unfold getSlot
 rw [e, RS.text_tx _ _ (by have := h.nm; omega)]
 dsimp only
 rw [byte_put _ _ h.ty]
 dsimp only
 rw [byte_put _ _ hq]
 dsimp only
 rw [RS.val_put h.dv h.ok]
 dsimp only
 cases s with
 | mk nm ty rq dv => cases rq <;> rfl
theorem getStep_put (p : Stp) (h : StG p) (o : Own) (r : List UInt8) : getStep ⟨o, stepB p ++ r, false⟩ = (p, (⟨.shared, r, false⟩ : RS)) := by
 cases p with
 | mk kind col slot order =>
 unfold StG at h
 dsimp only at h
 have f2 : ∀ a b : List UInt8, [a, b].flatten = a ++ b := fun a b => by simp
 unfold getStep
 rcases h with ⟨rfl, rfl, hs, rfl⟩ | ⟨rfl, hc, rfl, rfl⟩ | ⟨rfl, hc, hs, hn, rfl⟩ | ⟨rfl, hc, hs, hn, rfl⟩ | ⟨rfl, rfl, rfl, hl, hk⟩
 · rw [show stepB ⟨1, 0, slot, []⟩ = byteB 1 ++ slotB slot from f2 .., List.append_assoc, byte_put _ _ (by decide)]
   dsimp only
   rw [if_pos rfl, getSlot_put slot hs]
 · rw [show stepB ⟨2, col, slot0, []⟩ = byteB 2 ++ byteB col from f2 .., List.append_assoc, byte_put _ _ (by decide)]
   dsimp only
   rw [if_neg (by decide), if_pos rfl, byte_put _ _ hc]
 · rw [show stepB ⟨3, col, slot, []⟩ = (byteB 3 ++ byteB col) ++ tx slot.name.data.toList by unfold stepB; rw [if_pos rfl, f2]; exact congrArg (· ++ _) (f2 ..), List.append_assoc, List.append_assoc, byte_put _ _ (by decide)]
   dsimp only
   rw [if_neg (by decide), if_neg (by decide), if_pos rfl, byte_put _ _ hc]
   dsimp only
   rw [RS.text_tx _ _ (by omega)]
   dsimp only
   rw [← hs]
 · rw [show stepB ⟨4, col, slot, []⟩ = (byteB 4 ++ byteB col) ++ byteB slot.types by unfold stepB; rw [if_neg (by show ¬ (4 : Int) = 3; decide), if_pos rfl, f2]; exact congrArg (· ++ _) (f2 ..), List.append_assoc, List.append_assoc, byte_put _ _ (by decide)]
   dsimp only
   rw [if_neg (by decide), if_neg (by decide), if_neg (by decide), if_pos rfl, byte_put _ _ hc]
   dsimp only
   rw [byte_put _ _ hn]
   dsimp only
   rw [← hs]
 · have hm : order.map b8 = (order.map fun k => [b8 k]).flatten := by
    clear hl hk
    induction order with
    | nil => rfl
    | cons a l ih => rw [List.map_cons, List.map_cons, List.flatten_cons, ← ih]; rfl
   rw [show stepB ⟨5, 0, slot0, order⟩ = byteB 5 ++ listB (fun k => [b8 k]) order by unfold stepB; rw [if_neg (by show ¬ (5 : Int) = 3; decide), if_neg (by show ¬ (5 : Int) = 4; decide)]; unfold listB; rw [← hm, ← List.append_assoc]; exact congrArg (· ++ _) (f2 ..), List.append_assoc, byte_put _ _ (by decide)]
   dsimp only
   rw [if_neg (by decide), if_neg (by decide), if_neg (by decide), if_neg (by decide), if_pos rfl, rlist_put 9 order (by omega) (by decide) fun k hk2 o r => b8_put o k (hk k hk2) r]
theorem getTm_put (t : Tm) (h : TmG t) (o : Own) (r : List UInt8) : getTm ⟨o, tmB t ++ r, false⟩ = (t, (⟨.shared, r, false⟩ : RS)) := by
 have e : tmB t ++ r = tx t.name.data.toList ++ (listB slotB t.slots ++ (listB stepB t.steps ++ r)) := by
  unfold tmB tmP
  simp only [List.flatten_cons, List.flatten_nil, List.append_nil, List.append_assoc]
 unfold getTm
 rw [e, RS.text_tx _ _ (by have := h.nm; omega)]
 dsimp only
 rw [rlist_put 9 t.slots (by have := h.ls; omega) (by decide) fun s hs o r => getSlot_put s (h.os s hs) o r]
 dsimp only
 rw [rlist_put 9 t.steps (by have := h.lt; omega) (by decide) fun s hs o r => getStep_put s (h.ot s hs) o r]
theorem rlist_tms (L : List Tm) (hl : L.length ≤ 6) (h : ∀ t ∈ L, TmG t) (o : Own) (r : List UInt8) : rlist getTm 7 ⟨o, listB tmB L ++ r, false⟩ = (L, (⟨.shared, r, false⟩ : RS)) :=
 rlist_put 7 L (by omega) (by decide) (fun t ht o r => getTm_put t (h t ht) o r) o r
theorem read_put (L : List Tm) (hr : right L = true) (hl : L.length ≤ 6) (h : ∀ t ∈ L, TmG t) (o : Own) (r : List UInt8) : read ⟨o, put L ++ r, false⟩ = (some L, (⟨.shared, r, false⟩ : RS)) := by
 unfold read put
 rw [if_pos hr, rlist_tms L hl h o r]
 dsimp only
 rw [if_neg (by rintro (h | h); cases h; rw [hr] at h; cases h)]
theorem get_put (L : List Tm) (hr : right L = true) (hl : L.length ≤ 6) (h : ∀ t ∈ L, TmG t) : get (put L) = some L := by
 have := read_put L hr hl h .shared []
 rw [List.append_nil] at this
 unfold get
 rw [this]
 exact if_pos ⟨rfl, rfl, rfl⟩
end Reg
namespace Sch
theorem fits_right {s : Sl} {v : V} (h : fits s v = true) : v.right = true := by
 unfold fits at h
 rw [Bool.and_eq_true] at h
 exact h.1
theorem bare_slot {s : Sl} {a b : Bool} (h : bare s a b = true) : (a = true ∨ s.name = ⟨#[]⟩) ∧ (b = true ∨ s.types = 0) ∧ s.req = false ∧ s.dv = V.zero := by
 unfold bare at h
 rw [Bool.and_eq_true, Bool.and_eq_true, Bool.and_eq_true, Bool.or_eq_true, Bool.or_eq_true, decide_eq_true_eq, beq_iff_eq, beq_iff_eq] at h
 obtain ⟨⟨⟨h1, h2⟩, h3⟩, h4⟩ := h
 refine ⟨h1.imp id RS.empty_of, h2, ?_, V.cmp_eq _ _ h4⟩
 cases hr : s.req with
 | false => rfl
 | true => rw [hr] at h3; cases h3
theorem name_le {s : ByteArray} (h : V.isName s.data.toList = true) : s.size ≤ 40 := by
 unfold V.isName at h
 rw [Bool.and_eq_true, Bool.and_eq_true, decide_eq_true_eq, decide_eq_true_eq] at h
 have : s.data.toList.length = s.size := by simp
 omega
theorem sound_good {s : Sl} (h : sound s = true) (ho : s.dv.Ok) : Reg.SlG s := by
 have k := sound_ok h
 have := takes_iff.1 k.types
 exact ⟨by have := name_le k.name; omega, by omega, fits_right k.def_, ho⟩
theorem reo_ge {cols : List Nat} : ∀ (l : List Int) (out r : List Nat), reo cols l out = some r → ∀ k ∈ l, 0 ≤ k ∧ k < cols.length
 | [], _, _, _, _, h => by cases h
 | a :: l, out, r, h, k, hk => by
  rw [reo] at h
  split at h
  · rename_i hc
    rcases List.mem_cons.1 hk with rfl | hk
    · exact ⟨hc.1, hc.2.1⟩
    · exact reo_ge l _ r h k hk
  · cases h
theorem step_good {n : Nat} {x y : Vr} {s : Stp} (hx : VI n x) (h : stepV x s = some y) (ho : s.slot.dv.Ok) : Reg.StG s := by
 have hlc := hx.lc
 unfold stepV at h
 have hcol : column x s = true → (0 ≤ s.col ∧ s.col ≤ 255) ∧ s.order = [] := fun hc => by
  unfold column at hc
  rw [Bool.and_eq_true, Bool.and_eq_true, decide_eq_true_eq, decide_eq_true_eq, decide_eq_true_eq] at hc
  exact ⟨by omega, List.eq_nil_of_length_eq_zero hc.2⟩
 cases s with
 | mk kind col slot order =>
 cases slot with
 | mk nm ty rq dv =>
 dsimp only at h hcol ho
 split at h
 · rename_i hk
   unfold addS at h
   split at h
   · rename_i hc
     exact .inl ⟨hk, hc.1, sound_good hc.2.2.2.1 ho, List.eq_nil_of_length_eq_zero hc.2.1⟩
   · cases h
 split at h
 · rename_i hk
   unfold loseS at h
   split at h
   · rename_i hc
     obtain ⟨c1, c2⟩ := hcol hc.1
     obtain ⟨b1, b2, b3, b4⟩ := bare_slot hc.2.1
     simp only [Bool.false_eq_true, false_or] at b1 b2
     dsimp only at b1 b2 b3 b4
     subst b1 b2 b3 b4
     exact .inr (.inl ⟨hk, c1, rfl, c2⟩)
   · cases h
 split at h
 · rename_i hk
   unfold renameS at h
   split at h
   · rename_i hc
     obtain ⟨c1, c2⟩ := hcol hc.1
     obtain ⟨b1, b2, b3, b4⟩ := bare_slot hc.2.1
     simp only [Bool.false_eq_true, false_or] at b2
     dsimp only at b2 b3 b4
     subst b2 b3 b4
     exact .inr (.inr (.inl ⟨hk, c1, rfl, by have := name_le hc.2.2.1; dsimp only at *; omega, c2⟩))
   · cases h
 split at h
 · rename_i hk
   unfold widenS at h
   split at h
   · rename_i hc
     obtain ⟨c1, c2⟩ := hcol hc.1
     obtain ⟨b1, b2, b3, b4⟩ := bare_slot hc.2.1
     simp only [Bool.false_eq_true, false_or] at b1
     dsimp only at b1 b3 b4
     subst b1 b3 b4
     have := takes_iff.1 hc.2.2.1
     exact .inr (.inr (.inr (.inl ⟨hk, c1, rfl, by dsimp only at *; omega, c2⟩)))
   · cases h
 split at h
 · rename_i hk
   unfold reorderS at h
   split at h
   · rename_i hc
     obtain ⟨b1, b2, b3, b4⟩ := bare_slot hc.2.1
     simp only [Bool.false_eq_true, false_or] at b1 b2
     dsimp only at b1 b2 b3 b4
     subst b1 b2 b3 b4
     cases hr : reo x.cols order [] with
     | none => rw [show (Stp.mk kind col _ order).order = order from rfl, hr] at h; cases h
     | some r => exact .inr (.inr (.inr (.inr ⟨hk, hc.1, rfl, by have := hc.2.2; dsimp only at *; omega, fun k hk => by have := reo_ge _ _ _ hr k hk; omega⟩)))
   · cases h
 · cases h
theorem firstL_good : ∀ (l : List Sl) (x y : Vr), firstL l x = some y → ∀ s ∈ l, sound s = true
 | [], _, _, _, _, h => by cases h
 | a :: l, x, y, h, s, hs => by
  rw [firstL] at h
  split at h
  · rename_i hc
    rcases List.mem_cons.1 hs with rfl | hs
    · exact hc.1
    · exact firstL_good l _ y h s hs
  · cases h
theorem versL_good : ∀ (l : List Stp) (n : Nat) (x : Vr), VI n x → (versL x l).length = l.length → (∀ s ∈ l, s.slot.dv.Ok) → ∀ s ∈ l, Reg.StG s
 | [], _, _, _, _, _, _, h => by cases h
 | a :: l, n, x, hx, hl, ho, s, hs => by
  rw [versL] at hl
  cases hv : stepV x a with
  | none => rw [hv] at hl; cases hl
  | some y =>
   rw [hv] at hl
   rcases List.mem_cons.1 hs with rfl | hs
   · exact step_good hx hv (ho _ (List.mem_cons_self ..))
   · exact versL_good l (n + 1) y (step_vi hx hv) (by simpa using hl) (fun s h => ho s (List.mem_cons_of_mem _ h)) s hs
theorem last_good {t : Tm} (h : 0 < last t) (hs : ∀ s ∈ t.slots, s.dv.Ok) (hp : ∀ s ∈ t.steps, s.slot.dv.Ok) : Reg.TmG t := by
 have h1 : (vers t).length = t.steps.length + 1 := by
  unfold last at h
  split at h
  · assumption
  · omega
 unfold vers at h1
 cases hf : firstV t with
 | none => rw [hf] at h1; cases h1
 | some x =>
  rw [hf] at h1
  obtain ⟨k1, k2, k3⟩ := first_vi hf
  have h2 : (versL x t.steps).length = t.steps.length := by simpa using h1
  have hg := versL_good t.steps 8 x k1 h2 hp
  unfold firstV at hf
  split at hf
  · rename_i hc
    exact ⟨by have := name_le hc.1; omega, hc.2.2.1, hc.2.2.2, fun s hs' => sound_good (firstL_good _ _ _ hf s hs') (hs s hs'), hg⟩
  · cases hf
end Sch
theorem Reg.TmG.put {t : Tm} (h : Reg.TmG t) (hs : ∀ s ∈ t.steps, s.slot.name.size ≤ 300 ∧ s.slot.dv.nodes ≤ 1000 ∧ s.slot.dv.Ok) : Reg.TmP t :=
 ⟨h.nm, h.ls, h.lt, fun s k => ⟨(h.os s k).nm, by have := (V.right_iff.1 (h.os s k).dv).2.2; omega, (h.os s k).ok⟩, fun s k => ⟨hs s k, by
  rcases h.ot s k with h | h | h | h | h
  · rw [h.2.2.2]; exact Nat.zero_le _
  · rw [h.2.2.2]; exact Nat.zero_le _
  · rw [h.2.2.2.2]; exact Nat.zero_le _
  · rw [h.2.2.2.2]; exact Nat.zero_le _
  · have := h.2.2.2.1; omega⟩⟩
namespace Reg
theorem findL_spec (nm : ByteArray) : ∀ (l : List Tm) (i : Nat), (findL nm l i = -1 ∧ ∀ t ∈ l, ¬ t.name.toList = nm.toList) ∨ ∃ (j : Nat) (t : Tm), l[j]? = some t ∧ t.name.toList = nm.toList ∧ findL nm l i = ((i + j : Nat) : Int) ∧ ∀ (k : Nat) (u : Tm), k < j → l[k]? = some u → ¬ u.name.toList = nm.toList
 | [], i => .inl ⟨rfl, fun t h => by cases h⟩
 | t :: l, i => by
  rw [findL]
  by_cases h : t.name.toList = nm.toList
  · rw [if_pos (beq_iff_eq.2 h)]
    exact .inr ⟨0, t, rfl, h, rfl, fun k u hk => by omega⟩
  · rw [if_neg (fun k => h (beq_iff_eq.1 k))]
    rcases findL_spec nm l (i + 1) with ⟨h1, h2⟩ | ⟨j, u, h1, h2, h3, h4⟩
    · exact .inl ⟨h1, fun u hu => by
       rcases List.mem_cons.1 hu with rfl | hu
       · exact h
       · exact h2 u hu⟩
    · refine .inr ⟨j + 1, u, h1, h2, by rw [h3]; congr 1; omega, fun k v hk hv => ?_⟩
      cases k with
      | zero => cases hv; exact h
      | succ k => exact h4 k v (by omega) hv
theorem find_none {L : List Tm} {nm : ByteArray} (h : ∀ t ∈ L, ¬ t.name.toList = nm.toList) : find L nm = -1 := by
 rcases findL_spec nm L 0 with ⟨h1, h2⟩ | ⟨j, u, h1, h2, h3, h4⟩
 · exact h1
 · exact absurd h2 (h u (List.mem_of_getElem? h1))
theorem find_at {L : List Tm} {nm : ByteArray} {i : Nat} {t : Tm} (ht : L[i]? = some t) (hn : t.name.toList = nm.toList) (h : ∀ (k : Nat) (u : Tm), k < i → L[k]? = some u → ¬ u.name.toList = nm.toList) : find L nm = i := by
 unfold find
 rcases findL_spec nm L 0 with ⟨h1, h2⟩ | ⟨j, u, h1, h2, h3, h4⟩
 · exact absurd hn (h2 t (List.mem_of_getElem? ht))
 · rw [h3, Nat.zero_add]
   rcases Nat.lt_trichotomy i j with hl | he | hl
   · exact absurd hn (h4 i t hl ht)
   · rw [he]
   · exact absurd h2 (h j u hl h1)
def Apart (L : List Tm) : Prop := ∀ (i j : Nat) (t u : Tm), L[i]? = some t → L[j]? = some u → t.name.toList = u.name.toList → i = j
theorem apart_find {L : List Tm} : Apart L ↔ ∀ (i : Nat) (t : Tm), L[i]? = some t → find L t.name = i := by
 constructor
 · intro h i t ht
   exact find_at ht rfl fun k u hk hu he => by have := h k i u t hu ht he; omega
 · intro h i j t u ht hu he
   have h1 := h i t ht
   have h2 := h j u hu
   have e : find L t.name = find L u.name := by
    have : ∀ (l : List Tm) (i : Nat), findL t.name l i = findL u.name l i := fun l => by
     induction l with
     | nil => intro _; rfl
     | cons a l ih => intro i; rw [findL, findL, he, ih]
    exact this L 0
   rw [h1, h2] at e
   exact Int.ofNat.inj e
theorem rightL_iff (L : List Tm) : ∀ (l : List Tm) (i : Nat), rightL L l i = true ↔ ∀ (j : Nat) (t : Tm), l[j]? = some t → i + j < 6 ∧ 0 < Sch.last t ∧ find L t.name = ((i + j : Nat) : Int)
 | [], i => ⟨fun _ j t h => (by cases h), fun _ => rfl⟩
 | t :: l, i => by
  rw [rightL, Bool.and_eq_true, Bool.and_eq_true, Bool.and_eq_true, decide_eq_true_eq, decide_eq_true_eq, beq_iff_eq, rightL_iff L l (i + 1)]
  constructor
  · rintro ⟨h1, h2, h3, h4⟩ j u hu
    cases j with
    | zero => cases hu; exact ⟨h1, h2, h3⟩
    | succ j =>
     have := h4 j u hu
     rw [show i + 1 + j = i + (j + 1) by omega] at this
     exact this
  · intro h
    have h0 := h 0 t rfl
    refine ⟨h0.1, h0.2.1, h0.2.2, fun j u hu => ?_⟩
    have := h (j + 1) u hu
    rw [show i + (j + 1) = i + 1 + j by omega] at this
    exact this
theorem right_iff {L : List Tm} : right L = true ↔ L.length ≤ 6 ∧ (∀ t ∈ L, 0 < Sch.last t) ∧ Apart L := by
 unfold right
 rw [rightL_iff, apart_find]
 constructor
 · intro h
   refine ⟨?_, ?_, ?_⟩
   · rcases Nat.lt_or_ge 6 L.length with hl | hl
     · obtain ⟨t, ht⟩ := gEx hl
       have := (h 6 t ht).1
       omega
     · exact hl
   · intro t ht
     obtain ⟨i, hi⟩ := List.getElem?_of_mem ht
     exact (h i t hi).2.1
   · intro i t ht
     have := (h i t ht).2.2
     rwa [Nat.zero_add] at this
 · rintro ⟨h1, h2, h3⟩ j t ht
   have hj := (List.getElem?_eq_some_iff.1 ht).1
   exact ⟨by omega, h2 t (List.mem_of_getElem? ht), by rw [Nat.zero_add]; exact h3 j t ht⟩
theorem all2_iff {α : Type} {f : α → α → Bool} (hf : ∀ a b, f a b = true ↔ a = b) : ∀ (a b : List α), all2 f a b = true ↔ a = b
 | [], [] => ⟨fun _ => rfl, fun _ => rfl⟩
 | a :: l, b :: m => by
  rw [all2, Bool.and_eq_true, hf, all2_iff hf l m, List.cons.injEq]
 | [], _ :: _ => ⟨fun h => (by cases h), fun h => (by cases h)⟩
 | _ :: _, [] => ⟨fun h => (by cases h), fun h => (by cases h)⟩
theorem name_iff {a b : ByteArray} : (a.toList == b.toList) = true ↔ a = b := by
 rw [beq_iff_eq]
 constructor
 · intro h
   have h2 : a.data.toList = b.data.toList := by
    have e : ∀ x : ByteArray, x.toList = x.data.toList := fun x => ByteArray.toList_eq x
    rw [← e, ← e]; exact h
   cases a; cases b
   exact congrArg ByteArray.mk (Array.toList_inj.1 h2)
 · rintro rfl; rfl
theorem slotS_iff (a b : Sl) : slotS a b = true ↔ a = b := by
 unfold slotS
 rw [Bool.and_eq_true, Bool.and_eq_true, Bool.and_eq_true, name_iff, beq_iff_eq, beq_iff_eq, beq_iff_eq]
 cases a; cases b
 rw [Sl.mk.injEq]
 constructor
 · rintro ⟨h1, h2, h3, h4⟩; exact ⟨h1, h2, h3, V.cmp_eq _ _ h4⟩
 · rintro ⟨h1, h2, h3, rfl⟩; exact ⟨h1, h2, h3, V.cmp_self _⟩
theorem stepS_iff (a b : Stp) : stepS a b = true ↔ a = b := by
 unfold stepS
 rw [Bool.and_eq_true, Bool.and_eq_true, Bool.and_eq_true, slotS_iff, beq_iff_eq, beq_iff_eq, all2_iff (fun a b => beq_iff_eq)]
 cases a; cases b
 rw [Stp.mk.injEq]
theorem tmS_iff (a b : Tm) : tmS a b = true ↔ a = b := by
 unfold tmS
 rw [Bool.and_eq_true, Bool.and_eq_true, name_iff, all2_iff slotS_iff, all2_iff stepS_iff]
 cases a; cases b
 rw [Tm.mk.injEq]
theorem same_iff (a b : List Tm) : same a b = true ↔ a = b := all2_iff tmS_iff a b
end Reg
end Go.Proofs.YtgcienlfpnpbgaaGreat
end
section
namespace Go.Proofs.YtgcienlfpnpbgaaGreat
open Go.RowKit
def Stp.Wf (s : Stp) : Prop := (-9223372036854775808 ≤ s.kind ∧ s.kind ≤ 9223372036854775807) ∧ (-9223372036854775808 ≤ s.col ∧ s.col ≤ 9223372036854775807) ∧ s.slot.Ok ∧ s.order.length ≤ maxLen
theorem Stp.cells_len (s : Stp) : s.cells.length = 10 := by
 unfold Stp.cells
 rw [List.length_cons, List.length_cons, List.length_append, Sl.cells_len]; rfl
structure Tm.Wf (t : Tm) : Prop where
 nm : t.name.size ≤ maxLen
 ss : ∀ s ∈ t.slots, s.Ok
 sl : t.slots.length ≤ maxLen
 ps : ∀ s ∈ t.steps, s.Wf
 pl : t.steps.length ≤ maxLen
end Go.Proofs.YtgcienlfpnpbgaaGreat
end
section
namespace Go.Proofs.YtgcienlfpnpbgaaGreat
attribute [local push_cast] encB encI encC V.cells_mk V.cells_len Nat.mul_one Int.sub_zero List.map_nil beq_self_eq_true List.head?_cons
open Go.RowKit
set_option maxHeartbeats 4000000
set_option maxRecDepth 10000
namespace Sch
def greatS (s : Sl) : Bool := s.dv.great || decide (300 < s.name.size)
def greatP (s : Stp) : Bool := s.slot.dv.great || (decide (300 < s.slot.name.size) || decide (30 < s.order.length))
def great (t : Tm) : Bool := decide (30 < t.slots.length) || (decide (30 < t.steps.length) || (decide (300 < t.name.size) || (t.slots.any greatS || t.steps.any greatP)))
end Sch
end Go.Proofs.YtgcienlfpnpbgaaGreat
end
section
namespace Go.Proofs.YtgcienlfpnpbgaaGreat
set_option linter.unusedSimpArgs false
open Go.RowKit
end Go.Proofs.YtgcienlfpnpbgaaGreat
end
section
namespace Go.Proofs.YtgcienlfpnpbgaaGreat
attribute [local push_cast] encB encI encC encBs V.cells_mk V.cells_len Nat.mul_one Int.sub_zero List.map_nil beq_self_eq_true bne_self_eq_false List.head?_cons
open Go.RowKit B
set_option maxHeartbeats 8000000
set_option maxRecDepth 10000
namespace Reg
def great (L : List Tm) : Bool := decide (12 < L.length) || L.any Sch.great
structure Kn (t : Tm) : Prop where
 ok : TOk t
 q : TmQ t
 nm : t.name.size ≤ 300
 os : ∀ s ∈ t.slots, s.dv.Ok
 ot : ∀ s ∈ t.steps, s.slot.name.size ≤ 300 ∧ s.slot.dv.nodes ≤ 1000 ∧ s.slot.dv.Ok
theorem Kn.good {t : Tm} (k : Kn t) (h : 0 < Sch.last t) : TmG t ∧ TmP t := by
 have hg := Sch.last_good h k.os fun s hs => (k.ot s hs).2.2
 exact ⟨hg, hg.put k.ot⟩
theorem good_all {L : List Tm} (hk : ∀ t ∈ L, Kn t) (hr : right L = true) : L.length ≤ 6 ∧ (∀ t ∈ L, TmG t) ∧ ∀ t ∈ L, TmP t := by
 obtain ⟨h1, h2, -⟩ := right_iff.1 hr
 exact ⟨h1, fun t ht => ((hk t ht).good (h2 t ht)).1, fun t ht => ((hk t ht).good (h2 t ht)).2⟩
end Reg
theorem twoKn : Reg.Kn twoT := by
 have ho : ∀ k n : Int, (0 ≤ k ∧ k ≤ 9) → (0 ≤ n ∧ n ≤ 9) → (V.mk k n ⟨#[]⟩ []).Ok := fun k n h1 h2 => .mk (by omega) (by omega) (Nat.zero_le _) (Nat.zero_le _) fun x h => by cases h
 refine ⟨twoOk, ⟨by decide, by decide, ?_, ?_⟩, by decide, ?_, ?_⟩
 · intro s hs
   simp only [twoT, List.mem_cons, List.not_mem_nil, or_false] at hs
   rcases hs with rfl | rfl <;> exact (ho _ _ (by decide) (by decide)).bg
 · intro s hs
   simp only [twoT, List.mem_cons, List.not_mem_nil, or_false] at hs
   rcases hs with rfl | rfl <;> exact ⟨(ho _ _ (by decide) (by decide)).bg, by decide⟩
 · intro s hs
   simp only [twoT, List.mem_cons, List.not_mem_nil, or_false] at hs
   rcases hs with rfl | rfl <;> exact ho _ _ (by decide) (by decide)
 · intro s hs
   simp only [twoT, List.mem_cons, List.not_mem_nil, or_false] at hs
   rcases hs with rfl | rfl <;> exact ⟨by decide, by decide, ho _ _ (by decide) (by decide)⟩
abbrev L13 : List Tm := [twoT]
theorem l13_kn : ∀ t ∈ L13, Reg.Kn t := fun t h => by rw [List.mem_singleton.1 h]; exact twoKn
theorem l13_right : Reg.right L13 = true := Reg.right_iff.2 ⟨by decide, fun t h => by rw [List.mem_singleton.1 h, twoL]; decide, fun i j t u ht hu _ => by
 have h1 := (List.getElem?_eq_some_iff.1 ht).1
 have h2 := (List.getElem?_eq_some_iff.1 hu).1
 have : L13.length = 1 := rfl
 omega⟩
theorem l13_len : 20 < (Reg.put L13).length ∧ (Reg.put L13).length ≤ 1000000 := by
 have hP := (Reg.good_all l13_kn l13_right).2.2 twoT (List.mem_singleton.2 rfl)
 have h1 := Reg.tmB_len twoT hP
 have h2 : (Reg.put L13).length = 4 + (Reg.tmB twoT).length := by
  unfold Reg.put
  rw [if_pos l13_right]
  unfold Reg.listB
  simp only [List.map_cons, List.map_nil, List.flatten_cons, List.flatten_nil, List.append_nil, List.length_append, be_len]
 have h3 : 17 ≤ (Reg.tmB twoT).length := by
  unfold Reg.tmB Reg.tmP twoT Reg.listB
  simp only [List.map_cons, List.map_nil, List.flatten_cons, List.flatten_nil, List.append_nil, List.length_append, tx, be_len]
  have e1 : (Reg.slotB ⟨⟨#[97]⟩, 4, false, .mk 2 0 ⟨#[]⟩ []⟩).length ≥ 5 := by
   unfold Reg.slotB Reg.slotP
   simp only [List.flatten_cons, List.flatten_nil, List.append_nil, List.length_append, tx, be_len]
   have : ([97] : List UInt8).length = 1 := rfl
   have : (ByteArray.mk #[97]).data.toList.length = 1 := rfl
   omega
  have : (ByteArray.mk #[116]).data.toList.length = 1 := rfl
  omega
 omega
theorem l13_get : Reg.get (Reg.put L13) = some L13 := Reg.get_put L13 l13_right (by decide) (Reg.good_all l13_kn l13_right).2.1
theorem l13_get0 : Reg.get (Reg.put L13 ++ [0]) = none := by
 have := Reg.read_put L13 l13_right (by decide) (Reg.good_all l13_kn l13_right).2.1 .shared [0]
 unfold Reg.get
 rw [this]
 exact if_neg fun h => by cases h.2.2
theorem l13_rl (r : List UInt8) : ∀ t ∈ (Reg.rlist Reg.getTm 7 ⟨.shared, Reg.put L13 ++ r, false⟩).1, TOk t := by
 have := Reg.rlist_tms L13 (by decide) (Reg.good_all l13_kn l13_right).2.1 .shared r
 unfold Reg.put
 rw [if_pos l13_right, this]
 exact fun t ht => (l13_kn t ht).ok
theorem l13_find : Reg.find L13 ⟨#[116]⟩ = 0 ∧ Reg.find L13 ⟨#[117]⟩ = -1 := ⟨Reg.find_at (i := 0) rfl rfl fun k u hk => by omega, Reg.find_none fun t ht => by rw [List.mem_singleton.1 ht]; exact fun h => absurd (Reg.name_iff.1 (beq_iff_eq.2 h)) (by decide)⟩
theorem put_nil : Reg.put [] = [0, 0, 0, 0] := by kernel_rfl
theorem reg13AliveF (st : St) : TrF Tryz.prog 14 [] st fun d st' => d = .b true ∧ st' = st := by
 have hT := twoF
 have hok : ∀ t ∈ L13, TOk t := fun t h => (l13_kn t h).ok
 have hq : ∀ t ∈ L13, Reg.TmQ t := fun t h => (l13_kn t h).q
 have hlen := l13_len
 have hP := regPutOF L13 hok (by decide) l13_right (Reg.good_all l13_kn l13_right).2.2
 have hG1 := regGetF .shared (Reg.put L13) (by omega) (by have := l13_rl []; rwa [List.append_nil] at this)
 have hG2 := regGetF .shared (Reg.put L13 ++ [0]) (by rw [List.length_append]; show _ + 1 ≤ _; omega) (l13_rl [0])
 have hS := regSameF L13 L13 hq hq (by decide) (by decide)
 have hR := regRightF L13 hok (by decide)
 have hF1 := regFindF L13 ⟨#[116]⟩ (by decide)
 have hF2 := regFindF L13 ⟨#[117]⟩ (by decide)
 have hP0 := regPutF [] (fun t h => by cases h) (by decide) (fun _ => ⟨by decide, fun t h => by cases h⟩)
 have hB := bytesF .shared .shared [0, 0, 0, 0] [0, 0, 0, 0]
 rw [l13_get] at hG1
 rw [l13_get0] at hG2
 rw [(Reg.same_iff L13 L13).2 rfl] at hS
 rw [l13_right] at hR
 rw [l13_find.1] at hF1
 rw [l13_find.2] at hF2
 rw [put_nil] at hP0
 rw [decide_eq_true rfl] at hB
 have hm : ((Reg.put L13).map encB).length = (Reg.put L13).length := List.length_map ..
 rw [List.map_append] at hG2
 simp only [List.map_cons, List.map_nil, twoC, encB, Option.getD, Option.isSome] at hT hP hG1 hG2 hS hR hF1 hF2 hP0 hB
 generalize Reg.put L13 = PB at *
 replace hT := Lib.hid hT
 replace hP := Lib.hid hP
 replace hG1 := Lib.hid hG1
 replace hG2 := Lib.hid hG2
 replace hS := Lib.hid hS
 replace hR := Lib.hid hR
 replace hF1 := Lib.hid hF1
 replace hF2 := Lib.hid hF2
 replace hP0 := Lib.hid hP0
 replace hB := Lib.hid hB
 clear hok hq
 refine Qin [0] Tryz.func14 Tryz.results14 Tryz.ntmps14 ?_
 repeat' (first | (with_reducible first | refine Q1 ?_ | refine Qe ?_ | refine QQ ?_ | (refine al_go ?_; intro b) | (refine Qa ?_; intro o' ho') | (refine Qp ?_; intro o' ho') | (refine QD ?_ <;> (try constructor) <;> intro hb <;> try intro hb1) | fail) | (refine QE Tryz.call19 (hP.out _) ?_; intro o1 ho1) | refine QL Tryz.call25 (hG1.out _) ?_ | refine QL Tryz.call25 (hG2.out _) ?_ | refine QL Tryz.call23 (hS.out _) ?_ | refine QL Tryz.call16 (hR.out _) ?_ | refine QL Tryz.call21 (hF1.out _) ?_ | refine QL Tryz.call21 (hF2.out _) ?_ | refine QL Tryz.call19 (hP0.out _) ?_ | refine QL Tryz.call18 (hB.out _) ?_ | fail)
 all_goals exact Qret
end Go.Proofs.YtgcienlfpnpbgaaGreat
end
section
namespace Go.Proofs.YtgcienlfpnpbgaaGreat
set_option linter.unusedSimpArgs false
open Go.RowKit
mutual
inductive Frz (g n cap : Nat) (es : List (List D)) : D → D → Prop
 | same (d : D) : Frz g n cap es d d
 | ar : Frz g n cap es (.ar g 0 n cap) (.sl .shared es)
 | agg (cs cs' : List D) (h : FrzL g n cap es cs cs') : Frz g n cap es (.agg cs) (.agg cs')
 | tup (cs cs' : List D) (h : FrzL g n cap es cs cs') : Frz g n cap es (.tup cs) (.tup cs')
inductive FrzL (g n cap : Nat) (es : List (List D)) : List D → List D → Prop
 | nil : FrzL g n cap es [] []
 | cons (d d' : D) (l l' : List D) (h : Frz g n cap es d d') (k : FrzL g n cap es l l') : FrzL g n cap es (d :: l) (d' :: l')
end
section
variable {g n cap : Nat} {es : List (List D)} {O O' : Nat → Nat → Prop} {w : World}
mutual
theorem Frz.rep (he : Ext O w O' w) (hr : ∀ v, Rep O w v (.ar g 0 n cap) → Rep O' w v (.sl .shared es)) : ∀ {d d' : D}, Frz g n cap es d d' → ∀ v, Rep O w v d → Rep O' w v d'
 | _, _, .same d, v, h => h.ext he
 | _, _, .ar, v, h => hr v h
 | _, _, .agg cs cs' k, v, h => by
  cases h with
  | agg us _ h1 h2 =>
   obtain ⟨q1, q2⟩ := FrzL.rep he hr k us ⟨h1, h2⟩
   exact .agg us cs' q1 q2
 | _, _, .tup cs cs' k, v, h => by
  cases h with
  | tup us _ h1 h2 =>
   obtain ⟨q1, q2⟩ := FrzL.rep he hr k us ⟨h1, h2⟩
   exact .tup us cs' q1 q2
theorem FrzL.rep (he : Ext O w O' w) (hr : ∀ v, Rep O w v (.ar g 0 n cap) → Rep O' w v (.sl .shared es)) : ∀ {l l' : List D}, FrzL g n cap es l l' → ∀ us, RepL O w us l → RepL O' w us l'
 | _, _, .nil, us, h => by
  obtain rfl := h.inv_nil
  exact .nil
 | _, _, .cons d d' l l' h k, us, hh => by
  obtain ⟨u, t, rfl, k1, k2⟩ := hh.inv_cons
  exact .cons (Frz.rep he hr h u k1) (FrzL.rep he hr k t k2)
end
theorem row_rest {el : TypeId} {zs : List D} {s0 : St} {sz : Nat} (hh : Holds (.box g el (es.flatten ++ zs) :: s0) w) (hsz : 0 < sz) (hes : ∀ e ∈ es, e.length = sz) (hn : es.length = n) (v : Value) (hv : Rep (OwnS (.box g el (es.flatten ++ zs) :: s0)) w v (.ar g 0 n cap)) : Rep (OwnS s0) w v (.sl .shared es) := by
 have hch : chop sz n ((es.flatten ++ zs).drop 0) = es := by
  rw [List.drop_zero, ← hn]
  exact chop_row zs es hes
 have hr := frozen .shared (.inl rfl) (sz := sz) hh hv hsz (by rw [List.length_append, flat_len hes, hn]; omega) (by intro h; cases h)
 rwa [hch] at hr
end
section
variable {P : Program} {f : FuncId} {args : List D} {st : St}
theorem TrF.rest {ι : Type} {el : TypeId} {sz : Nat} {p : ι → Prop} {es : ι → List (List D)} {g n cap : ι → Nat} {F F' : ι → D} {zs : ι → List D} {S : ι → St} (hsz : 0 < sz) (hes : ∀ i, p i → (∀ e ∈ es i, e.length = sz) ∧ (es i).length = n i) (hF : ∀ i, Frz (g i) (n i) (cap i) (es i) (F i) (F' i))
 (h : TrF P f args st fun d st' => ∃ i, p i ∧ d = F i ∧ st' = .box (g i) el ((es i).flatten ++ zs i) :: S i) : TrF P f args st fun d st' => ∃ i, p i ∧ d = F' i ∧ st' = S i := by
 intro vs w h1 h2
 refine (h vs w h1 h2).mono fun _ w' ⟨v, ev, d, s, k1, k2, k3, i, hi, e1, e2⟩ => ?_
 subst e1 e2
 have he := Ext.drop (st := .box (g i) el ((es i).flatten ++ zs i) :: S i) (st' := S i) (fun _ h => List.mem_cons_of_mem _ h) w'
 exact ⟨v, ev, _, S i, (hF i).rep he (row_rest k2 hsz (hes i hi).1 (hes i hi).2) v k1, k2.sub (List.sublist_cons_self _ _), k3.trans he, i, hi, rfl, rfl⟩
end
section
variable {P : Program} {N : Nat} {r : Option Nat} {A : AA} {st : St} {Q : Exit → AA → St → Prop}
theorem tr_rest {c : Code} {g b n cap sz : Nat} {el ty : TypeId} {es : List (List D)} {zs cs cs' : List D} {s : St} (hp : st.Perm (.box g el (es.flatten ++ zs) :: .box b ty cs :: s)) (hsz : 0 < sz) (hes : ∀ e ∈ es, e.length = sz) (hn : es.length = n) (hF : FrzL g n cap es cs cs') (hl : ∀ d ∈ cs', d.leaf = true) (h : Tr P N r c A (.box b ty cs' :: s) Q) : Tr P N r c A st Q := by
 refine tr_perm hp ?_
 intro a w h1 h2
 obtain ⟨⟨us, hb, hr⟩, hlc⟩ := h2.2 (.box b ty cs) (List.mem_cons_of_mem _ (List.mem_cons_self ..))
 have he := Ext.drop (st := .box g el (es.flatten ++ zs) :: .box b ty cs :: s) (st' := .box b ty cs :: s) (fun _ h => List.mem_cons_of_mem _ h) w
 have hO : OwnS (.box b ty cs :: s) = OwnS (.box b ty cs' :: s) := by
  funext b' off; apply propext
  rw [OwnS.cons_iff, OwnS.cons_iff]; exact Iff.rfl
 have h3 := h2.sub (List.sublist_cons_self (.box g el (es.flatten ++ zs)) (.box b ty cs :: s))
 have hr' := hF.rep he (row_rest h2 hsz hes hn) us.toList hr
 have h4 : Holds (.box b ty cs' :: s) w := by
  refine ⟨List.pairwise_cons.2 ⟨fun x hx b' hb' => (List.pairwise_cons.1 h3.1).1 x hx b' hb', (List.pairwise_cons.1 h3.1).2⟩, fun x hx => ?_⟩
  rcases List.mem_cons.1 hx with rfl | hx
  · exact ⟨⟨us, hb, by rw [← hO]; exact hr'⟩, hl⟩
  · rw [← hO]; exact h3.2 x (List.mem_cons_of_mem _ hx)
 rw [hO] at he
 exact wpIn_mono (h a w (h1.ext he) h4) fun _ _ _ => PostA.ext he
end
end Go.Proofs.YtgcienlfpnpbgaaGreat
end
section
namespace Go.Proofs.YtgcienlfpnpbgaaGreat
attribute [local push_cast] encB encI encC V.cells_mk V.cells_len Nat.mul_one Int.sub_zero List.map_nil beq_self_eq_true List.head?_cons
open Go.RowKit
set_option maxHeartbeats 4000000
set_option maxRecDepth 10000
structure VQ (v : V) : Prop where
 ok : v.Ok
 nodes : v.nodes ≤ 1000
 deep : v.deep ≤ 1000
theorem refSoundF (s : Sl) (hv : VQ s.dv) (ht : -9223372036854775808 ≤ s.types ∧ s.types ≤ 9223372036854775807) (st : St) : TrF Tryz.prog 162 [.agg s.cells] st fun x st' => x = .b (Sch.sound s) ∧ st' = st := by
 have hN := Lib.hid (refIsNameF s.name)
 have hF : 0 ≤ s.types → Hid (∀ st, TrF Tryz.prog 190 [.agg s.cells, .agg s.dv.cells] st fun x st' => x = .b (Sch.fits s s.dv) ∧ st' = st) := fun h => refFits10F s s.dv hv.ok hv.nodes hv.deep ⟨h, ht.2⟩
 unfold Sch.sound Sch.takes
 cases s with
 | mk nm ty rq dv =>
 dsimp only at hN hF ht ⊢
 generalize V.isName nm.data.toList = q1 at *
 generalize Sch.fits (Sl.mk nm ty rq dv) dv = q3 at *
 clear hv
 cases dv with
 | mk k n s l =>
 rw [Sl.cells_mk] at *
 rw [V.cells_mk] at hF
 by_cases h1 : 0 < ty
 · have hF2 := hF (by omega)
   clear hF
   by_cases h2 : ty < 64
   · rw [decide_eq_true (show 1 ≤ ty by omega), decide_eq_true (show ty ≤ 63 by omega)]
     cases q1 <;> cases q3
     all_goals skip
     all_goals (
      refine Qin [2] Tryz.func162 Tryz.results162 Tryz.ntmps162 ?_
      exact WR)
   · rw [decide_eq_false (show ¬ ty ≤ 63 by omega), Bool.and_false, Bool.and_false, Bool.false_and]
     clear hF2
     cases q1
     all_goals skip
     all_goals (
      refine Qin [2] Tryz.func162 Tryz.results162 Tryz.ntmps162 ?_
      exact WR)
 · rw [decide_eq_false (show ¬ 1 ≤ ty by omega), Bool.false_and, Bool.and_false, Bool.false_and]
   clear hF
   cases q1
   all_goals skip
   all_goals (
    refine Qin [2] Tryz.func162 Tryz.results162 Tryz.ntmps162 ?_
    exact WR)
theorem refColF (slots : List Sl) (cols : List Nat) (name : ByteArray) (hl : slots.length ≤ 1000000) (hc : cols.length ≤ 1000000) (hcs : ∀ c ∈ cols, c < slots.length) (st : St) : TrF Tryz.prog 163 [.agg [.sl .shared (slots.map Sl.cells), .sl .shared (cols.map encC)], .str name] st fun x st' => x = .i (Sch.colL slots name cols) ∧ st' = st := by
 obtain ⟨B, hB⟩ : ∃ B, Sch.colL slots name cols = B := ⟨_, rfl⟩
 have HB : Hid (Sch.colL slots name (cols.drop 0) = B) := hB
 rw [hB]
 clear hB
 have hcs2 := Lib.hid hcs
 clear hcs
 refine Qin [4] Tryz.func163 Tryz.results163 Tryz.ntmps163 ?_
 repeat' (with_reducible first | refine Q1 ?_ | refine Qe ?_ | refine QQ ?_ | (refine al_go ?_; intro b) | (refine QD ?_ <;> (try constructor) <;> intro hb <;> try intro hb1) | fail)
 refine tr_loop (ι := Nat) (fun i A st' => i ≤ cols.length ∧ Hid (Sch.colL slots name (cols.drop i) = B) ∧ A.df = [] ∧ A.e 1 = .str name ∧ A.e 2 = .ip [.sl .shared (slots.map Sl.cells), .sl .shared (cols.map encC)] ∧ A.e 5 = .i i ∧ st = st') (fun i => cols.length - i) 0 ⟨Nat.zero_le _, HB, Qf, Qf, Qf, Qf, rfl⟩ ?_
 rintro i A st' ⟨hi, HT, hdf, e1, e2, e5, rfl⟩
 clear HB
 by_cases hlt : i < cols.length
 · obtain ⟨c, hx⟩ := gEx hlt
   have hcs := hcs2.out c (List.mem_of_getElem? hx)
   have HE := HT.out
   rw [colL_drop hx] at HE
   clear HT
   obtain ⟨s, hs⟩ := gEx hcs
   cases s with
   | mk nm ty rq dv =>
   cases dv with
   | mk k n sv l =>
   obtain ⟨q, hq⟩ : ∃ q, (nm.toList == name.toList) = q := ⟨_, rfl⟩
   have hnm : Sch.named slots name c = q := by
    unfold Sch.named
    rw [hs, ← hq]; rfl
   rw [hnm] at HE
   clear hnm
   have hcell : (slots.map Sl.cells)[c]? = some [.str nm, .i ty, .b rq, .i k, .i n, .str sv, .sl .shared (l.map V.cells)] := by
    rw [List.getElem?_map, hs, ← Sl.cells_mk]; rfl
   clear hs
   have hsl : (slots.map Sl.cells).length = slots.length := List.length_map ..
   generalize slots.map Sl.cells = SL at *
   cases q with
   | true =>
    rw [if_pos rfl] at HE
    rw [← HE]
    clear HE
    exact WR
   | false =>
    rw [if_neg (by decide)] at HE
    replace HE := Lib.hid HE
    repeat' (with_reducible first | refine Q1 ?_ | refine Qe ?_ | refine QQ ?_ | (refine al_go ?_; intro b) | (refine QD ?_ <;> (try constructor) <;> intro hb <;> try intro hb1) | fail)
    refine ⟨i + 1, ⟨hlt, HE, ?_, ?_, ?_, ?_, rfl⟩, ?_⟩
    all_goals exact Qf
 · have HE := HT.out
   rw [List.drop_of_length_le (by omega), Sch.colL] at HE
   rw [← HE]
   clear HE HT
   exact WR
def CopyR (x : Vr) (st : St) (d : D) (st' : St) : Prop := ∃ gs cS zS gc cC zC, VL cS zS cC zC x ∧ d = .agg [.ar gs 0 x.slots.length cS, .ar gc 0 x.cols.length cC] ∧ st' = .box gc 3 (colC x.cols ++ zC) :: .box gs 75 (slotC x.slots ++ zS) :: st
theorem refCopyF (x : Vr) (h1 : 1 ≤ x.slots.length) (h2 : 1 ≤ x.cols.length) (hl : x.slots.length ≤ 1000) (hc : x.cols.length ≤ 1000) (st : St) : TrF Tryz.prog 195 [.agg x.cells] st (CopyR x st) := by
 unfold CopyR VL Vr.cells
 have e1 := Lib.hid (slots_each x.slots)
 have e2 := Lib.hid (cols_each x.cols)
 have l1 : Hid ((x.slots.map Sl.cells).length = x.slots.length) := List.length_map ..
 have l2 : Hid ((x.cols.map encC).length = x.cols.length) := List.length_map ..
 have f1 : Hid ((x.slots.map Sl.cells).flatten = slotC x.slots) := rfl
 have f2 : Hid ((x.cols.map encC).flatten = colC x.cols) := rfl
 generalize slotC x.slots = R1 at *
 generalize colC x.cols = R2 at *
 generalize x.slots.map Sl.cells = L1 at *
 generalize x.cols.map encC = L2 at *
 generalize x.slots.length = m1 at *
 generalize x.cols.length = m2 at *
 refine trF_enterG (G := cellA 2 147 Tryz.prog) Tryz.func195 rfl (by rw [Tryz.ntmps195]; exact Nat.le_of_ble_eq_true rfl) (fun h1 h2 h3 => res_cell rfl h1 h2 h3) ?_
 simp only [Tryz.ntmps195]
 repeat' (first | (with_reducible first | refine Q1 ?_ | refine Qe ?_ | fail) | with_reducible refine s_appN ?_ | with_reducible refine rn_go ?_ | ((with_reducible apply (rn2_go (ys := L1))); (focus (have := l1.out; omega)); (focus exact e1.out); (focus (have := l1.out; omega)); (focus (have := l1.out; omega)); intro gl1 cl1 zl1 hcl1 hll1) | ((with_reducible apply (rn2_go (ys := L2))); (focus (have := l2.out; omega)); (focus exact e2.out); (focus (have := l2.out; omega)); (focus (have := l2.out; omega)); intro gl2 cl2 zl2 hcl2 hll2) | (with_reducible first | refine QQ ?_ | (refine al_go ?_; intro b) | (refine QD ?_ <;> (try constructor) <;> intro hb <;> try intro hb1) | fail) | fail)
 rw [l1.out] at *
 rw [l2.out] at *
 rw [f1.out] at *
 rw [f2.out] at *
 refine retG_mk (rs := []) (by first | exact .inl rfl | exact .inr rfl) (by first | rfl | assumption) (List.Perm.refl _) (cell_mk (by simp (disch := omega) only [push_cast, simprocAttr, *]; exact rfl) (by repeat (first | exact mm_h | apply mm_t)) (by simp (disch := omega) only [push_cast, simprocAttr, *]; exact rfl) (by (try simp (disch := omega) only [push_cast, simprocAttr, *]); (try exact rfl); done)) (by (repeat (first | exact List.Sublist.refl _ | with_reducible apply List.Sublist.cons_cons | apply List.Sublist.cons))) (LE.refl _) ⟨gl1, cl1, zl1, gl2, cl2, zl2, ⟨hll1, hll2⟩, rfl, rfl⟩
def Sch.restV (s : Stp) : Bool :=
 if s.kind = 1 then decide (s.order.length = 0) && (s.col == 0)
 else if s.kind = 2 then bare s.slot false false && decide (s.order.length = 0)
 else if s.kind = 3 then bare s.slot true false && decide (s.order.length = 0)
 else if s.kind = 4 then bare s.slot false true && decide (s.order.length = 0)
 else bare s.slot false false && (s.col == 0)
theorem refRestF (s : Stp) (hv : s.slot.dv.Ok) (hk : 1 ≤ s.kind ∧ s.kind ≤ 5) (ho : s.order.length ≤ 1000) (st : St) : TrF Tryz.prog 196 [.agg s.cells] st fun x st' => x = .b (Sch.restV s) ∧ st' = st := by
 have hS := refSameF s.slot.dv Sch.zeroV hv
 unfold Sch.restV Sch.bare Stp.cells
 cases s with
 | mk kd col slot order =>
 cases slot with
 | mk nm ty rq dv =>
 dsimp only at hS hk ho ⊢
 have hE := isE_eq nm
 generalize decide (nm.size = 0) = q1 at *
 generalize (dv.cmp Sch.zeroV == 0) = q3 at *
 unfold Sch.zeroV at hS
 clear hv
 cases dv with
 | mk k n sv l =>
 rw [V.cells_mk, V.cells_mk, List.map_nil] at hS
 rw [Sl.cells_mk]
 dsimp only [List.cons_append, List.nil_append]
 replace hS := Lib.hid hS
 obtain ⟨q2, h2⟩ : ∃ q2, (ty == 0) = q2 := ⟨_, rfl⟩
 have h2' : (ty != 0) = !q2 := by rw [← h2]; rfl
 rw [h2]
 have hno : (order.length = 0 ∧ ¬ (0 : Int) < order.length) ∨ (order.length ≠ 0 ∧ (0 : Int) < order.length) := by omega
 obtain ⟨hk1, hk2⟩ := hk
 have hkk : kd = 1 ∨ kd = 2 ∨ kd = 3 ∨ kd = 4 ∨ kd = 5 := by omega
 clear hk1 hk2
 rcases hno with ⟨h0, h0'⟩ | ⟨h0, h0'⟩
 · simp only [h0, decide_true, Bool.and_true, Bool.true_and]
   replace h0 := Lib.hid h0
   rcases hkk with rfl | rfl | rfl | rfl | rfl
   all_goals skip
   all_goals (
    refine Qin [2] Tryz.func196 Tryz.results196 Tryz.ntmps196 ?_
    repeat' (first | (with_reducible first | refine Q1 ?_ | refine Qe ?_ | refine QQ ?_ | (refine al_go ?_; intro b) | (refine QD ?_ <;> (try constructor) <;> intro hb <;> try intro hb1) | fail) | refine QL Tryz.call111 (hS.out _) ?_ | fail)
    all_goals (refine Qret (hd := ?_); (try simp (disch := omega) only [push_cast, simprocAttr, *]); try (first | exact LE.refl _ | exact LE.sl _ _ | ((first | refine LE.tup ?_ | refine LE.agg ?_); (repeat' (first | exact LEL.nil | refine LEL.cons ?_ ?_ | exact LE.refl _ | exact LE.sl _ _ | refine LE.agg ?_)); done) | refine LE.of_eq ?_))
    all_goals (first | done | (simp_all; done)))
 · simp only [h0, decide_false, Bool.and_false, Bool.false_and]
   replace h0 := Lib.hid h0
   rcases hkk with rfl | rfl | rfl | rfl | rfl
   all_goals skip
   all_goals (
    refine Qin [2] Tryz.func196 Tryz.results196 Tryz.ntmps196 ?_
    repeat' (first | (with_reducible first | refine Q1 ?_ | refine Qe ?_ | refine QQ ?_ | (refine al_go ?_; intro b) | (refine QD ?_ <;> (try constructor) <;> intro hb <;> try intro hb1) | fail) | refine QL Tryz.call111 (hS.out _) ?_ | fail)
    all_goals (refine Qret (hd := ?_); (try simp (disch := omega) only [push_cast, simprocAttr, *]); try (first | exact LE.refl _ | exact LE.sl _ _ | ((first | refine LE.tup ?_ | refine LE.agg ?_); (repeat' (first | exact LEL.nil | refine LEL.cons ?_ ?_ | exact LE.refl _ | exact LE.sl _ _ | refine LE.agg ?_)); done) | refine LE.of_eq ?_))
    all_goals (first | done | (simp_all; done)))
abbrev RI := Nat × Nat × List D
theorem refCopySF (x : Vr) (h1 : 1 ≤ x.slots.length) (h2 : 1 ≤ x.cols.length) (hl : x.slots.length ≤ 1000) (hc : x.cols.length ≤ 1000) (st : St) : TrF Tryz.prog 195 [.agg x.cells] st fun d st' => ∃ i : Nat × Nat × List D, (slotC x.slots ++ i.2.2).length = i.2.1 * 7 ∧ d = .agg [.ar i.1 0 x.slots.length i.2.1, .sl .shared (x.cols.map encC)] ∧ st' = .box i.1 75 (slotC x.slots ++ i.2.2) :: st := by
 have h := (refCopyF x h1 h2 hl hc st).mono (R' := fun d st' => ∃ i : (Nat × Nat × List D) × (Nat × Nat × List D), VL i.1.2.1 i.1.2.2 i.2.2.1 i.2.2.2 x ∧ d = .agg [.ar i.1.1 0 x.slots.length i.1.2.1, .ar i.2.1 0 x.cols.length i.2.2.1] ∧ st' = .box i.2.1 3 ((x.cols.map encC).flatten ++ i.2.2.2) :: .box i.1.1 75 (slotC x.slots ++ i.1.2.2) :: st) (fun d st' ⟨gs, cS, zS, gc, cC, zC, k1, k2, k3⟩ => ⟨((gs, cS, zS), (gc, cC, zC)), k1, k2, k3⟩)
 have h' := TrF.rest (ι := RI × RI) (g := fun i => i.2.1) (n := fun _ => x.cols.length) (cap := fun i => i.2.2.1) (es := fun _ => x.cols.map encC) (F' := fun i => .agg [.ar i.1.1 0 x.slots.length i.1.2.1, .sl .shared (x.cols.map encC)]) (sz := 1) (by decide) (fun i _ => ⟨cols_each x.cols, List.length_map ..⟩) (fun i => .agg _ _ (.cons _ _ _ _ (.same _) (.cons _ _ _ _ .ar .nil))) h
 exact h'.mono fun d st' ⟨i, k1, k2, k3⟩ => ⟨i.1, k1.1, k2, k3⟩
theorem refCopyAF (x : Vr) (h1 : 1 ≤ x.slots.length) (h2 : 1 ≤ x.cols.length) (hl : x.slots.length ≤ 1000) (hc : x.cols.length ≤ 1000) (st : St) : TrF Tryz.prog 195 [.agg x.cells] st fun d st' => d = .agg x.cells ∧ st' = st := by
 have h' := TrF.rest (ι := RI) (el := 75) (p := fun i : Nat × Nat × List D => (slotC x.slots ++ i.2.2).length = i.2.1 * 7) (g := fun i => i.1) (n := fun _ => x.slots.length) (cap := fun i => i.2.1) (es := fun _ => x.slots.map Sl.cells) (F := fun i => .agg [.ar i.1 0 x.slots.length i.2.1, .sl .shared (x.cols.map encC)]) (zs := fun i => i.2.2) (S := fun _ => st) (F' := fun _ => .agg x.cells) (sz := 7) (by decide) (fun i _ => ⟨slots_each x.slots, List.length_map ..⟩) (fun i => .agg _ _ (.cons _ _ _ _ .ar (.cons _ _ _ _ (.same _) .nil))) (refCopySF x h1 h2 hl hc st)
 exact h'.mono fun d st' ⟨i, k1, k2, k3⟩ => ⟨k2, k3⟩
theorem refCopyCF (x : Vr) (h1 : 1 ≤ x.slots.length) (h2 : 1 ≤ x.cols.length) (hl : x.slots.length ≤ 1000) (hc : x.cols.length ≤ 1000) (st : St) : TrF Tryz.prog 195 [.agg x.cells] st fun d st' => ∃ i : Nat × Nat × List D, (colC x.cols ++ i.2.2).length = i.2.1 * 1 ∧ d = .agg [.sl .shared (x.slots.map Sl.cells), .ar i.1 0 x.cols.length i.2.1] ∧ st' = .box i.1 3 (colC x.cols ++ i.2.2) :: st := by
 intro vs w q1 q2
 refine (refCopyF x h1 h2 hl hc st vs w q1 q2).mono fun _ w' ⟨v, ev, d, s, k1, k2, k3, gs, cS, zS, gc, cC, zC, k4, e1, e2⟩ => ?_
 subst e1 e2
 have hp : (Res.box gc 3 (colC x.cols ++ zC) :: .box gs 75 (slotC x.slots ++ zS) :: st).Perm (.box gs 75 (slotC x.slots ++ zS) :: .box gc 3 (colC x.cols ++ zC) :: st) := .swap _ _ _
 have e := OwnS.perm hp
 have k2' := k2.perm hp
 have he := Ext.drop (st := .box gs 75 (slotC x.slots ++ zS) :: .box gc 3 (colC x.cols ++ zC) :: st) (st' := .box gc 3 (colC x.cols ++ zC) :: st) (fun _ h => List.mem_cons_of_mem _ h) w'
 rw [e] at k1 k3
 refine ⟨v, ev, .agg [.sl .shared (x.slots.map Sl.cells), .ar gc 0 x.cols.length cC], _, ?_, k2'.sub (List.sublist_cons_self _ _), k3.trans he, (gc, cC, zC), k4.2, rfl, rfl⟩
 exact (Frz.agg (g := gs) (n := x.slots.length) (cap := cS) (es := x.slots.map Sl.cells) _ _ (.cons _ _ _ _ .ar (.cons _ _ _ _ (.same _) .nil))).rep he (row_rest k2' (by decide) (slots_each x.slots) (List.length_map ..)) v k1
def RefStepR (x : Vr) (s : Stp) (st : St) (d : D) (st' : St) : Prop :=
 (Sch.stepV x s = none ∧ ∃ X1 X2, d = .tup [.agg [.sl .shared X1, .sl .shared X2], .b false] ∧ st' = st) ∨ ∃ y, Sch.stepV x s = some y ∧ d = .tup [.agg y.cells, .b true] ∧ st' = st
structure RefP (x : Vr) (s : Stp) : Prop where
 vi : Sch.VI 1000 x
 q : VQ s.slot.dv
 ty : -9223372036854775808 ≤ s.slot.types ∧ s.slot.types ≤ 9223372036854775807
 ord : s.order.length ≤ 1000
abbrev retR (o1 o2 : Own) (L1 L2 : List (List D)) (ok : Bool) : LE (.tup [.agg [.sl o1 L1, .sl o2 L2], .b ok]) (.tup [.agg [.sl .shared L1, .sl .shared L2], .b ok]) := LE.tup (l := [.agg [.sl o1 L1, .sl o2 L2], .b ok]) ⟨LE.agg (l := [.sl o1 L1, .sl o2 L2]) ⟨LE.sl _ _, LE.sl _ _, trivial⟩, LE.refl _, trivial⟩
theorem copyR_ex (x : Vr) (st : St) : ∃ d st', CopyR x st d st' := ⟨_, _, 0, x.slots.length, [], 0, x.cols.length, [], ⟨by rw [List.append_nil, slotC_len], by rw [List.append_nil, colC_len]⟩, rfl, rfl⟩
def Raw2 (x : Vr) (s : Stp) (st : St) (d : D) (st' : St) : Prop := ∃ i : (Bool × Vr) × (Nat × Nat × List D) × (Nat × Nat × List D), (Sch.stepV x s = if i.1.1 then some i.1.2 else none) ∧ d = .tup [.agg [.ar i.2.1.1 0 i.1.2.slots.length i.2.1.2.1, .ar i.2.2.1 0 i.1.2.cols.length i.2.2.2.1], .b i.1.1] ∧ st' = .box i.2.1.1 75 ((i.1.2.slots.map Sl.cells).flatten ++ i.2.1.2.2) :: .box i.2.2.1 3 ((i.1.2.cols.map encC).flatten ++ i.2.2.2.2) :: st
theorem raw2_rest {x : Vr} {s : Stp} {st : St} {f : FuncId} {args : List D} (h : TrF Tryz.prog f args st (Raw2 x s st)) : TrF Tryz.prog f args st (RefStepR x s st) := by
 have h1 := TrF.rest (ι := (Bool × Vr) × RI × RI) (g := fun i => i.2.1.1) (n := fun i => i.1.2.slots.length) (cap := fun i => i.2.1.2.1) (es := fun i => i.1.2.slots.map Sl.cells) (F' := fun i => .tup [.agg [.sl .shared (i.1.2.slots.map Sl.cells), .ar i.2.2.1 0 i.1.2.cols.length i.2.2.2.1], .b i.1.1]) (sz := 7) (by decide) (fun i _ => ⟨slots_each i.1.2.slots, List.length_map ..⟩) (fun i => .tup _ _ (.cons _ _ _ _ (.agg _ _ (.cons _ _ _ _ .ar (.cons _ _ _ _ (.same _) .nil))) (.cons _ _ _ _ (.same _) .nil))) h
 have h2 := TrF.rest (ι := (Bool × Vr) × RI × RI) (g := fun i => i.2.2.1) (n := fun i => i.1.2.cols.length) (cap := fun i => i.2.2.2.1) (es := fun i => i.1.2.cols.map encC) (F' := fun i => .tup [.agg i.1.2.cells, .b i.1.1]) (sz := 1) (by decide) (fun i _ => ⟨cols_each i.1.2.cols, List.length_map ..⟩) (fun i => .tup _ _ (.cons _ _ _ _ (.agg _ _ (.cons _ _ _ _ (.same _) (.cons _ _ _ _ .ar .nil))) (.cons _ _ _ _ (.same _) .nil))) h1
 refine h2.mono fun d st' ⟨i, k1, k2, k3⟩ => ?_
 obtain ⟨⟨ok, y⟩, i2⟩ := i
 cases ok with
 | true => exact .inr ⟨y, k1, k2, k3⟩
 | false => exact .inl ⟨k1, _, _, k2, k3⟩
theorem perm_321 (a b c : Res) (l : St) : (a :: b :: c :: l).Perm (c :: b :: a :: l) := (List.Perm.cons a (.swap c b l)).trans ((List.Perm.swap c a (b :: l)).trans (.cons c (.swap b a l)))
theorem refAddF (x : Vr) (s : Stp) (h : RefP x s) (hk : s.kind = 1) (st : St) : TrF Tryz.prog 164 [.agg x.cells, .agg s.cells] st (RefStepR x s st) := by
 refine raw2_rest ?_
 obtain ⟨⟨hl, hp, hcp, hcl, hcs⟩, hq, hty, ho⟩ := h
 have hC := refCopyF x hp hcp hl (by omega)
 have hE := copyR_ex x
 have hR := refRestF s hq.ok (by omega) ho
 have hS := refSoundF s.slot hq hty
 have hL := refColF x.slots x.cols s.slot.name (by omega) (by omega) hcs []
 have hF : Hid (Sch.stepV x s = if s.col = 0 ∧ s.order.length = 0 ∧ x.cols.length < 8 ∧ Sch.sound s.slot = true ∧ s.slot.req = false ∧ Sch.colL x.slots s.slot.name x.cols < 0 then some ⟨x.slots ++ [s.slot], x.cols ++ [x.slots.length]⟩ else none) := Lib.hid (by unfold Sch.stepV; rw [if_pos hk]; rfl)
 have hrv : Sch.restV s = (decide (s.order.length = 0) && (s.col == 0)) := by unfold Sch.restV; rw [if_pos hk]
 rw [hrv] at hR
 clear hrv
 unfold Raw2
 unfold CopyR VL at hC hE
 have hr1 := slotC_len x.slots
 have hr2 := colC_len x.cols
 have e1 := Lib.hid (slots_each x.slots)
 have e2 := Lib.hid (cols_each x.cols)
 have f1 : Hid ((x.slots.map Sl.cells).flatten = slotC x.slots) := rfl
 have f2 : Hid ((x.cols.map encC).flatten = colC x.cols) := rfl
 have l1 : Hid ((x.slots.map Sl.cells).length = x.slots.length) := List.length_map ..
 have l2 : Hid ((x.cols.map encC).length = x.cols.length) := List.length_map ..
 obtain ⟨y, hy⟩ : ∃ y : Vr, y = ⟨x.slots ++ [s.slot], x.cols ++ [x.slots.length]⟩ := ⟨_, rfl⟩
 have g1 : Hid ((y.slots.map Sl.cells).flatten = slotC x.slots ++ [s.slot.cells].flatten) := Lib.hid (by rw [hy, ← slotC_add]; rfl)
 have g2 : Hid ((y.cols.map encC).flatten = colC x.cols ++ [[.i x.slots.length]].flatten) := Lib.hid (by rw [hy, ← colC_add]; rfl)
 have g3 : Hid (y.slots.length = x.slots.length + 1) := Lib.hid (by rw [hy]; simp)
 have g4 : Hid (y.cols.length = x.cols.length + 1) := Lib.hid (by rw [hy]; simp)
 rw [← hy] at hF
 unfold Vr.cells Stp.cells at *
 clear hy hcs hq hty
 generalize Sch.stepV x s = F at *
 cases s with
 | mk kd col slot order =>
 cases slot with
 | mk nm ty rq dv =>
 cases dv with
 | mk k n sv lv =>
 dsimp only at hC hE hR hS hL hF hk ho g1 ⊢
 subst hk
 generalize Sch.sound _ = q at *
 generalize Sch.colL _ _ _ = cv at *
 rw [Sl.cells_mk] at *
 dsimp only [List.cons_append, List.nil_append] at *
 obtain ⟨R1, r1e⟩ : ∃ R1, slotC x.slots = R1 := ⟨_, rfl⟩
 obtain ⟨R2, r2e⟩ : ∃ R2, colC x.cols = R2 := ⟨_, rfl⟩
 obtain ⟨m1, m1e⟩ : ∃ m1, x.slots.length = m1 := ⟨_, rfl⟩
 obtain ⟨m2, m2e⟩ : ∃ m2, x.cols.length = m2 := ⟨_, rfl⟩
 generalize hL1 : x.slots.map Sl.cells = L1 at *
 generalize hL2 : x.cols.map encC = L2 at *
 simp only [r1e, r2e, m1e, m2e] at hC hE hr1 hr2 f1 f2 l1 l2 g1 g2 g3 g4 hF hp hl hcp hcl
 replace r1e : Hid ((x.slots.map Sl.cells).flatten = R1) := r1e
 replace r2e : Hid ((x.cols.map encC).flatten = R2) := r2e
 replace m1e := Lib.hid m1e
 replace m2e := Lib.hid m2e
 replace hL1 := Lib.hid hL1
 replace hL2 := Lib.hid hL2
 replace hC := Lib.hid hC
 replace hE := Lib.hid hE
 replace hS := Lib.hid hS
 replace hL := Lib.hid hL
 have hol : (decide (order.length = 0) && (col == 0)) = true ∨ (decide (order.length = 0) && (col == 0)) = false := by
  cases (decide (order.length = 0) && (col == 0)) <;> simp
 rcases hol with hrr | hrr
 · rw [hrr] at hR
   replace hR := Lib.hid hR
   rw [Bool.and_eq_true, decide_eq_true_eq, beq_iff_eq] at hrr
   obtain ⟨h01, rfl⟩ := hrr
   refine trF_enterG (G := twoA Tryz.prog (.cell 4 147) (.tmp 5)) Tryz.func164 rfl (by rw [Tryz.ntmps164]; exact Nat.le_of_ble_eq_true rfl) (fun h1 h2 h3 => res_two rfl h1 h2 h3) ?_
   simp only [Tryz.ntmps164]
   repeat' (first | (with_reducible first | refine Q1 ?_ | refine Qe ?_ | fail) | with_reducible refine s_appR ?_ | with_reducible refine rk_go ?_ | ((with_reducible apply (r2_go hr1 hz1)); (focus (intro g' cs'; repeat (first | exact ra_h | apply ra_t))); (focus exact len_one rfl); (focus (simp only [List.length_cons, List.length_nil]; omega)); (focus (simp only [List.length_cons, List.length_nil]; omega)); intro gs' cS' zS' hcs hls) | ((with_reducible apply (r2_go hr2 hz2)); (focus (intro g' cs'; repeat (first | exact ra_h | apply ra_t))); (focus exact len_one rfl); (focus (simp only [List.length_cons, List.length_nil]; omega)); (focus (simp only [List.length_cons, List.length_nil]; omega)); intro gc' cC' zC' hcc hlc) | (with_reducible first | refine QQ ?_ | (refine al_go ?_; intro b) | (refine QD ?_ <;> (try constructor) <;> intro hb <;> try intro hb1) | fail) | ((with_reducible apply (ck_gen Tryz.call195)); (focus exact List.Perm.refl _); (focus exact hC.out _); (focus exact LEL.refl _); (focus exact hE.out _); (rintro d st' ⟨gs, cS, zS, gc, cC, zC, ⟨hz1, hz2⟩, rfl, rfl⟩)) | ((with_reducible apply (ck_lend Tryz.call163)); (focus exact hL.out); (focus exact ⟨Lend.agg ⟨Lend.rowE (by repeat (first | exact mm_h | apply mm_t)) f1.out (by decide) e1.out l1.out, Lend.rowE (by repeat (first | exact mm_h | apply mm_t)) f2.out (by decide) e2.out l2.out, trivial⟩, Lend.refl _, trivial⟩)) | fail)
   all_goals first
    | ((refine retG_mk (rs := []) (by first | exact .inl rfl | exact .inr rfl) (by first | rfl | assumption) (perm_321 _ _ _ _) ⟨_, _, rfl, cell_mk (by simp (disch := omega) only [push_cast, simprocAttr, *]; exact rfl) (by repeat (first | exact mm_h | apply mm_t)) (by simp (disch := omega) only [push_cast, simprocAttr, *]; exact rfl) (by (try simp (disch := omega) only [push_cast, simprocAttr, *]); (try exact rfl); done), (by show _ = _; (try simp (disch := omega) only [push_cast, simprocAttr, *]); (try exact rfl); done)⟩ (((List.Sublist.refl _).cons _).cons _ |>.cons_cons _ |>.cons_cons _) (LE.refl _) ⟨((false, x), (gs, cS, zS), (gc, cC, zC)), ?_, by simp only [m1e.out, m2e.out], by simp only [r1e.out, r2e.out]⟩); (focus (rw [hF.out]; refine if_neg ?_; rintro ⟨h1, h2, h3, h4, h5, h6⟩; (first | omega | exact Bool.noConfusion (h4.symm.trans (by assumption) : true = false) | exact Bool.noConfusion (h5.symm.trans (by assumption) : false = true)))))
    | ((refine retG_mk (rs := []) (by first | exact .inl rfl | exact .inr rfl) (by first | rfl | assumption) (perm_321 _ _ _ _) ⟨_, _, rfl, cell_mk (by simp (disch := omega) only [push_cast, simprocAttr, *]; exact rfl) (by repeat (first | exact mm_h | apply mm_t)) (by simp (disch := omega) only [push_cast, simprocAttr, *]; exact rfl) (by (try simp (disch := omega) only [push_cast, simprocAttr, *]); (try exact rfl); done), (by show _ = _; (try simp (disch := omega) only [push_cast, simprocAttr, *]); (try exact rfl); done)⟩ (((List.Sublist.refl _).cons _).cons _ |>.cons_cons _ |>.cons_cons _) (LE.refl _) ⟨((true, y), (gs', cS', zS'), (gc', cC', zC')), ?_, by simp only [g3.out, g4.out], by simp only [g1.out, g2.out, (by assumption : rq = false)]⟩); (focus (rw [hF.out]; exact if_pos (by (try rw [h01]); refine ⟨rfl, rfl, ?_, ?_, ?_, ?_⟩ <;> first | assumption | omega))))
 · rw [hrr] at hR
   replace hR := Lib.hid hR
   have hFn : Hid (F = none) := Lib.hid (by
    rw [hF.out, if_neg]
    rintro ⟨h1, h2, -⟩
    rw [h1, h2] at hrr
    exact Bool.noConfusion hrr)
   clear hF hrr
   refine trF_enterG (G := twoA Tryz.prog (.cell 4 147) (.tmp 5)) Tryz.func164 rfl (by rw [Tryz.ntmps164]; exact Nat.le_of_ble_eq_true rfl) (fun h1 h2 h3 => res_two rfl h1 h2 h3) ?_
   simp only [Tryz.ntmps164]
   repeat' (first | (with_reducible first | refine Q1 ?_ | refine Qe ?_ | refine QQ ?_ | (refine al_go ?_; intro b) | (refine QD ?_ <;> (try constructor) <;> intro hb <;> try intro hb1) | fail) | ((with_reducible apply (ck_gen Tryz.call195)); (focus exact List.Perm.refl _); (focus exact hC.out _); (focus exact LEL.refl _); (focus exact hE.out _); (rintro d st' ⟨gs, cS, zS, gc, cC, zC, ⟨hz1, hz2⟩, rfl, rfl⟩)) | fail)
   all_goals ((refine retG_mk (rs := []) (by first | exact .inl rfl | exact .inr rfl) (by first | rfl | assumption) (perm_321 _ _ _ _) ⟨_, _, rfl, cell_mk (by simp (disch := omega) only [push_cast, simprocAttr, *]; exact rfl) (by repeat (first | exact mm_h | apply mm_t)) (by simp (disch := omega) only [push_cast, simprocAttr, *]; exact rfl) (by (try simp (disch := omega) only [push_cast, simprocAttr, *]); (try exact rfl); done), (by show _ = _; (try simp (disch := omega) only [push_cast, simprocAttr, *]); (try exact rfl); done)⟩ (((List.Sublist.refl _).cons _).cons _ |>.cons_cons _ |>.cons_cons _) (LE.refl _) ⟨((false, x), (gs, cS, zS), (gc, cC, zC)), ?_, by simp only [m1e.out, m2e.out], by simp only [r1e.out, r2e.out]⟩); (focus (exact hFn.out)))
theorem refLoseF (x : Vr) (s : Stp) (h : RefP x s) (hk : s.kind = 2) (st : St) : TrF Tryz.prog 164 [.agg x.cells, .agg s.cells] st (RefStepR x s st) := by
 obtain ⟨⟨hl, hp, hcp, hcl, hcs⟩, hq, hty, ho⟩ := h
 have hC := refCopyAF x hp hcp hl (by omega)
 have hR := refRestF s hq.ok (by omega) ho
 have hF : Hid (Sch.stepV x s = if Sch.column x s = true ∧ Sch.bare s.slot false false = true ∧ x.cols.length ≠ 1 then some ⟨x.slots, x.cols.eraseIdx s.col.toNat⟩ else none) := Lib.hid (by unfold Sch.stepV; rw [if_neg (show ¬ s.kind = 1 by omega), if_pos hk]; rfl)
 have hrv : Sch.restV s = (Sch.bare s.slot false false && decide (s.order.length = 0)) := by unfold Sch.restV; rw [if_neg (show ¬ s.kind = 1 by omega), if_pos hk]
 rw [hrv] at hR
 clear hrv
 unfold RefStepR
 have l2 : (x.cols.map encC).length = x.cols.length := List.length_map ..
 have hEr : Hid (∀ c : Nat, c < x.cols.length → List.take c (x.cols.map encC) ++ List.take (x.cols.length - (c + 1)) (List.drop (c + 1) (x.cols.map encC)) = (x.cols.eraseIdx c).map encC) := fun c hc => by
  rw [List.eraseIdx_eq_take_drop_succ, List.map_append, List.map_take, List.map_drop, List.take_of_length_le (l := List.drop _ _) (by rw [List.length_drop, l2]; omega)]
 have hall : (x.cols.map encC).all (fun e => e.length == 1) = true := by
  rw [List.all_eq_true]
  intro e he
  obtain ⟨n, -, rfl⟩ := List.mem_map.1 he
  rfl
 have e2 := cols_each x.cols
 have ht1 : ∀ c : Nat, ∀ e ∈ List.take c (x.cols.map encC), e.length = 1 := fun c e he => e2 e (List.mem_of_mem_take he)
 have ht2 : ∀ a b : Nat, ∀ e ∈ List.take a (List.drop b (x.cols.map encC)), e.length = 1 := fun a b e he => e2 e (List.mem_of_mem_drop (List.mem_of_mem_take he))
 unfold Sch.column at hF
 by_cases hb : Sch.bare s.slot false false = true ∧ s.order.length = 0
 · obtain ⟨hb1, hb2⟩ := hb
   rw [hb1, hb2] at hR hF
   by_cases hcr : 0 ≤ s.col ∧ s.col < x.cols.length
   · obtain ⟨hc1, hc2⟩ := hcr
     obtain ⟨c, hcE⟩ := Int.eq_ofNat_of_zero_le hc1
     have hclt : c < x.cols.length := by omega
     by_cases hm : x.cols.length = 1
     · have hFn : Hid (Sch.stepV x s = none) := Lib.hid (by rw [hF.out, if_neg]; rintro ⟨-, -, h⟩; exact h hm)
       clear hF hEr hcs ht1 ht2
       unfold Vr.cells Stp.cells at *
       generalize Sch.stepV x s = F at *
       cases s with
       | mk kd col slot order =>
       cases slot with
       | mk nm ty rq dv =>
       cases dv with
       | mk k n sv lv =>
       dsimp only at hC hR hk ho hcE hb2 hc1 hc2 ⊢
       subst hk hcE
       rw [Sl.cells_mk] at *
       dsimp only [List.cons_append, List.nil_append] at *
       generalize x.slots.map Sl.cells = L1 at *
       generalize x.cols.map encC = L2 at *
       generalize x.cols.length = m2 at *
       replace hC := Lib.hid hC
       replace hR := Lib.hid hR
       replace hb1 := Lib.hid hb1
       replace hb2 := Lib.hid hb2
       refine trF_enterG (G := twoA Tryz.prog (.cell 4 147) (.tmp 5)) Tryz.func164 rfl (by rw [Tryz.ntmps164]; exact Nat.le_of_ble_eq_true rfl) (fun h1 h2 h3 => res_two rfl h1 h2 h3) ?_
       simp only [Tryz.ntmps164]
       repeat' (with_reducible first | refine Q1 ?_ | refine Qe ?_ | refine QQ ?_ | (refine al_go ?_; intro b) | (refine Qa ?_; intro o' ho') | (refine Qp ?_; intro o' ho') | (refine QD ?_ <;> (try constructor) <;> intro hb <;> try intro hb1) | fail)
       all_goals (refine retG_mk (rs := []) (by first | exact .inl rfl | exact .inr rfl) (by first | rfl | assumption) (List.Perm.refl _) ⟨_, _, rfl, cell_mk (by simp (disch := omega) only [push_cast, simprocAttr, *]; exact rfl) (by repeat (first | exact mm_h | apply mm_t)) (by simp (disch := omega) only [push_cast, simprocAttr, *]; exact rfl) (by (try simp (disch := omega) only [push_cast, simprocAttr, *]); (try exact rfl); done), (by show _ = _; (try simp (disch := omega) only [push_cast, simprocAttr, *]); (try exact rfl); done)⟩ (by (repeat (first | exact List.Sublist.refl _ | with_reducible apply List.Sublist.cons_cons | apply List.Sublist.cons))) (LE.refl _) (.inl ⟨hFn.out, _, _, rfl, rfl⟩))
     · have hFs : Hid (Sch.stepV x s = some ⟨x.slots, x.cols.eraseIdx c⟩) := Lib.hid (by
        rw [hF.out, if_pos ⟨by simp [hc1, hc2], rfl, hm⟩, hcE, Int.toNat_natCast])
       have hEr2 := Lib.hid (hEr.out c hclt)
       clear hF hEr hcs
       obtain ⟨y, hy⟩ : ∃ y : Vr, y = ⟨x.slots, x.cols.eraseIdx c⟩ := ⟨_, rfl⟩
       have hyc : Hid (y.cells = [.sl .shared (x.slots.map Sl.cells), .sl .shared ((x.cols.eraseIdx c).map encC)]) := Lib.hid (by rw [hy]; rfl)
       rw [← hy] at hFs
       rw [← hEr2.out] at hyc
       clear hy hEr2
       unfold Vr.cells Stp.cells at *
       generalize Sch.stepV x s = F at *
       cases s with
       | mk kd col slot order =>
       cases slot with
       | mk nm ty rq dv =>
       cases dv with
       | mk k n sv lv =>
       dsimp only at hC hR hk ho hcE hb2 hc1 hc2 ⊢
       subst hk hcE
       rw [Sl.cells_mk] at *
       dsimp only [List.cons_append, List.nil_append] at *
       generalize x.slots.map Sl.cells = L1 at *
       generalize x.cols.map encC = L2 at *
       generalize x.cols.length = m2 at *
       replace hC := Lib.hid hC
       replace hR := Lib.hid hR
       replace hb1 := Lib.hid hb1
       replace hb2 := Lib.hid hb2
       have t1 := ht1 c
       have t2 := ht2 (m2 - (c + 1)) (c + 1)
       have t3 : (List.take c L2).length ≤ 1000 ∧ (List.take (m2 - (c + 1)) (List.drop (c + 1) L2)).length ≤ 1000 := by
        rw [List.length_take, List.length_take]; omega
       obtain ⟨t3, t4⟩ := t3
       obtain ⟨c1, hcc⟩ : ∃ c1, c + 1 = c1 := ⟨_, rfl⟩
       have hcI : (c : Int) + 1 = (c1 : Int) := by omega
       have hc1l : c1 ≤ m2 := by omega
       rw [hcc] at t2 t4 hyc
       replace hcc := Lib.hid hcc
       clear ht1 ht2 e2
       refine trF_enterG (G := twoA Tryz.prog (.cell 4 147) (.tmp 5)) Tryz.func164 rfl (by rw [Tryz.ntmps164]; exact Nat.le_of_ble_eq_true rfl) (fun h1 h2 h3 => res_two rfl h1 h2 h3) ?_
       simp only [Tryz.ntmps164]
       refine tr_room 3 1 ([] : List (List D)).length ?_
       repeat' (first | (with_reducible first | refine Q1 ?_ | refine Qe ?_ | fail) | ((with_reducible apply (w_drawN [(b, [.sl .shared L1, .sl .shared L2])])); (iterate 3 (focus kernel_rfl)); (focus ((repeat (first | exact keep_nil | refine keep_more (by (repeat (first | exact mm_h | apply mm_t)); done) ?_)); done)); intro hne; simp only [nes, ne1, and_assoc] at hne; repeat (have hq := hne.1; replace hne := hne.2)) | ((with_reducible refine And.intro ?_ ?_); (focus ((repeat (first | exact keep_nil | refine keep_more (by (repeat (first | exact mm_h | apply mm_t)); done) ?_)); done))) | (with_reducible first | refine QQ ?_ | (refine al_go ?_; intro b) | (refine Qa ?_; intro o' ho') | (refine Qp ?_; intro o' ho') | (refine QD ?_ <;> (try constructor) <;> intro hb <;> try intro hb1) | fail) | fail)
       all_goals (refine retG_mk (rs := []) (by first | exact .inl rfl | exact .inr rfl) (by first | rfl | assumption) (List.Perm.refl _) ⟨_, _, rfl, cell_mk (by simp (disch := omega) only [push_cast, simprocAttr, *]; exact rfl) (by repeat (first | exact mm_h | apply mm_t)) (by simp (disch := omega) only [push_cast, simprocAttr, *]; exact rfl) (by (try simp (disch := omega) only [push_cast, simprocAttr, *]); (try exact rfl); done), (by show _ = _; (try simp (disch := omega) only [push_cast, simprocAttr, *]); (try exact rfl); done)⟩ (by (repeat (first | exact List.Sublist.refl _ | with_reducible apply List.Sublist.cons_cons | apply List.Sublist.cons))) (retR _ _ _ _ _) (.inr ⟨y, hFs.out, by rw [hyc.out], rfl⟩))
   · have hFn : Hid (Sch.stepV x s = none) := Lib.hid (by
      rw [hF.out, if_neg]
      rintro ⟨h1, -⟩
      simp at h1
      omega)
     clear hF hEr hcs ht1 ht2
     unfold Vr.cells Stp.cells at *
     generalize Sch.stepV x s = F at *
     cases s with
     | mk kd col slot order =>
     cases slot with
     | mk nm ty rq dv =>
     cases dv with
     | mk k n sv lv =>
     dsimp only at hC hR hk ho hb2 hcr ⊢
     subst hk
     rw [Sl.cells_mk] at *
     dsimp only [List.cons_append, List.nil_append] at *
     generalize x.slots.map Sl.cells = L1 at *
     generalize x.cols.map encC = L2 at *
     generalize x.cols.length = m2 at *
     replace hC := Lib.hid hC
     replace hR := Lib.hid hR
     replace hb1 := Lib.hid hb1
     replace hb2 := Lib.hid hb2
     have hcr' : col < 0 ∨ (0 ≤ col ∧ (m2 : Int) ≤ col) := by omega
     clear hcr
     rcases hcr' with h1 | ⟨h1, h2⟩
     all_goals skip
     all_goals (
      refine trF_enterG (G := twoA Tryz.prog (.cell 4 147) (.tmp 5)) Tryz.func164 rfl (by rw [Tryz.ntmps164]; exact Nat.le_of_ble_eq_true rfl) (fun h1 h2 h3 => res_two rfl h1 h2 h3) ?_
      simp only [Tryz.ntmps164]
      repeat' (with_reducible first | refine Q1 ?_ | refine Qe ?_ | refine QQ ?_ | (refine al_go ?_; intro b) | (refine Qa ?_; intro o' ho') | (refine Qp ?_; intro o' ho') | (refine QD ?_ <;> (try constructor) <;> intro hb <;> try intro hb1) | fail)
      all_goals (refine retG_mk (rs := []) (by first | exact .inl rfl | exact .inr rfl) (by first | rfl | assumption) (List.Perm.refl _) ⟨_, _, rfl, cell_mk (by simp (disch := omega) only [push_cast, simprocAttr, *]; exact rfl) (by repeat (first | exact mm_h | apply mm_t)) (by simp (disch := omega) only [push_cast, simprocAttr, *]; exact rfl) (by (try simp (disch := omega) only [push_cast, simprocAttr, *]); (try exact rfl); done), (by show _ = _; (try simp (disch := omega) only [push_cast, simprocAttr, *]); (try exact rfl); done)⟩ (by (repeat (first | exact List.Sublist.refl _ | with_reducible apply List.Sublist.cons_cons | apply List.Sublist.cons))) (LE.refl _) (.inl ⟨hFn.out, _, _, rfl, rfl⟩)))
 · have hrr : (Sch.bare s.slot false false && decide (s.order.length = 0)) = false := by
    cases h1 : Sch.bare s.slot false false with
    | false => rfl
    | true => rw [Bool.true_and, decide_eq_false fun h2 => hb ⟨h1, h2⟩]
   rw [hrr] at hR
   have hFn : Hid (Sch.stepV x s = none) := Lib.hid (by
    rw [hF.out, if_neg]
    rintro ⟨h1, h2, -⟩
    simp at h1
    exact hb ⟨h2, by rw [h1.2]; rfl⟩)
   clear hF hEr hcs ht1 ht2 hb hrr
   unfold Vr.cells Stp.cells at *
   generalize Sch.stepV x s = F at *
   cases s with
   | mk kd col slot order =>
   cases slot with
   | mk nm ty rq dv =>
   cases dv with
   | mk k n sv lv =>
   dsimp only at hC hR hk ho ⊢
   subst hk
   rw [Sl.cells_mk] at *
   dsimp only [List.cons_append, List.nil_append] at *
   generalize x.slots.map Sl.cells = L1 at *
   generalize x.cols.map encC = L2 at *
   generalize x.cols.length = m2 at *
   replace hC := Lib.hid hC
   replace hR := Lib.hid hR
   refine trF_enterG (G := twoA Tryz.prog (.cell 4 147) (.tmp 5)) Tryz.func164 rfl (by rw [Tryz.ntmps164]; exact Nat.le_of_ble_eq_true rfl) (fun h1 h2 h3 => res_two rfl h1 h2 h3) ?_
   simp only [Tryz.ntmps164]
   repeat' (with_reducible first | refine Q1 ?_ | refine Qe ?_ | refine QQ ?_ | (refine al_go ?_; intro b) | (refine Qa ?_; intro o' ho') | (refine Qp ?_; intro o' ho') | (refine QD ?_ <;> (try constructor) <;> intro hb <;> try intro hb1) | fail)
   all_goals (refine retG_mk (rs := []) (by first | exact .inl rfl | exact .inr rfl) (by first | rfl | assumption) (List.Perm.refl _) ⟨_, _, rfl, cell_mk (by simp (disch := omega) only [push_cast, simprocAttr, *]; exact rfl) (by repeat (first | exact mm_h | apply mm_t)) (by simp (disch := omega) only [push_cast, simprocAttr, *]; exact rfl) (by (try simp (disch := omega) only [push_cast, simprocAttr, *]); (try exact rfl); done), (by show _ = _; (try simp (disch := omega) only [push_cast, simprocAttr, *]); (try exact rfl); done)⟩ (by (repeat (first | exact List.Sublist.refl _ | with_reducible apply List.Sublist.cons_cons | apply List.Sublist.cons))) (LE.refl _) (.inl ⟨hFn.out, _, _, rfl, rfl⟩))
def CopyS (x : Vr) (st : St) (d : D) (st' : St) : Prop := ∃ gs cS zS, (slotC x.slots ++ zS).length = cS * 7 ∧ d = D.agg [.ar gs 0 x.slots.length cS, .sl .shared (x.cols.map encC)] ∧ st' = Res.box gs 75 (slotC x.slots ++ zS) :: st
theorem copyS_ex (x : Vr) (st : St) : ∃ d st', CopyS x st d st' := ⟨_, _, 0, x.slots.length, [], by rw [List.append_nil, slotC_len], rfl, rfl⟩
theorem refCopySF' (x : Vr) (h1 : 1 ≤ x.slots.length) (h2 : 1 ≤ x.cols.length) (hl : x.slots.length ≤ 1000) (hc : x.cols.length ≤ 1000) (st : St) : TrF Tryz.prog 195 [.agg x.cells] st (CopyS x st) :=
 (refCopySF x h1 h2 hl hc st).mono fun d st' ⟨⟨gs, cS, zS⟩, k1, k2, k3⟩ => ⟨gs, cS, zS, k1, k2, k3⟩
def Raw1 (x : Vr) (s : Stp) (st : St) (d : D) (st' : St) : Prop := ∃ i : (Bool × Vr) × RI, (Sch.stepV x s = if i.1.1 then some i.1.2 else none) ∧ d = .tup [.agg [.ar i.2.1 0 i.1.2.slots.length i.2.2.1, .sl .shared (i.1.2.cols.map encC)], .b i.1.1] ∧ st' = .box i.2.1 75 ((i.1.2.slots.map Sl.cells).flatten ++ i.2.2.2) :: st
theorem raw1_rest {x : Vr} {s : Stp} {st : St} {f : FuncId} {args : List D} (h : TrF Tryz.prog f args st (Raw1 x s st)) : TrF Tryz.prog f args st (RefStepR x s st) := by
 have h1 := TrF.rest (ι := (Bool × Vr) × RI) (g := fun i => i.2.1) (n := fun i => i.1.2.slots.length) (cap := fun i => i.2.2.1) (es := fun i => i.1.2.slots.map Sl.cells) (F' := fun i => .tup [.agg i.1.2.cells, .b i.1.1]) (sz := 7) (by decide) (fun i _ => ⟨slots_each i.1.2.slots, List.length_map ..⟩) (fun i => .tup _ _ (.cons _ _ _ _ (.agg _ _ (.cons _ _ _ _ .ar (.cons _ _ _ _ (.same _) .nil))) (.cons _ _ _ _ (.same _) .nil))) h
 refine h1.mono fun d st' ⟨i, k1, k2, k3⟩ => ?_
 obtain ⟨⟨ok, y⟩, i2⟩ := i
 cases ok with
 | true => exact .inr ⟨y, k1, k2, k3⟩
 | false => exact .inl ⟨k1, _, _, k2, k3⟩
theorem refRenameF (x : Vr) (s : Stp) (h : RefP x s) (hk : s.kind = 3) (st : St) : TrF Tryz.prog 164 [.agg x.cells, .agg s.cells] st (RefStepR x s st) := by
 refine raw1_rest ?_
 obtain ⟨⟨hl, hp, hcp, hcl, hcs⟩, hq, hty, ho⟩ := h
 have hC := refCopySF' x hp hcp hl (by omega)
 have hE := copyS_ex x
 have hR := refRestF s hq.ok (by omega) ho
 have hF : Hid (Sch.stepV x s = Sch.renameS x s) := Lib.hid (by unfold Sch.stepV; rw [if_neg (show ¬ s.kind = 1 by omega), if_neg (show ¬ s.kind = 2 by omega), if_pos hk])
 have hrv : Sch.restV s = (Sch.bare s.slot true false && decide (s.order.length = 0)) := by unfold Sch.restV; rw [if_neg (show ¬ s.kind = 1 by omega), if_neg (show ¬ s.kind = 2 by omega), if_pos hk]
 rw [hrv] at hR
 clear hrv
 unfold Raw1
 have hC := fun st => hC st
 unfold CopyS at hC hE
 have l2 : (x.cols.map encC).length = x.cols.length := List.length_map ..
 have hN := Lib.hid (refIsNameF s.slot.name)
 have hL := Lib.hid (refColF x.slots x.cols s.slot.name (by omega) (by omega) hcs [])
 have e1 := Lib.hid (slots_each x.slots)
 have f1 : Hid ((x.slots.map Sl.cells).flatten = slotC x.slots) := rfl
 have l1 : Hid ((x.slots.map Sl.cells).length = x.slots.length) := List.length_map ..
 unfold Sch.renameS Sch.col at hF
 by_cases hb : Sch.bare s.slot true false = true ∧ s.order.length = 0
 · obtain ⟨hb1, hb2⟩ := hb
   rw [hb1, hb2] at hR
   rw [hb1] at hF
   by_cases hcr : 0 ≤ s.col ∧ s.col < x.cols.length
   · obtain ⟨hc1, hc2⟩ := hcr
     have hcol : Sch.column x s = true := by unfold Sch.column; simp [hc1, hc2, hb2]
     rw [hcol] at hF
     obtain ⟨i, hi⟩ := Int.eq_ofNat_of_zero_le hc1
     have hilt : i < x.cols.length := by omega
     obtain ⟨c, hc⟩ := gEx hilt
     have hcm : c < x.slots.length := hcs c (List.mem_of_getElem? hc)
     obtain ⟨z, hz⟩ := gEx hcm
     have hat : Sch.at_ x s = c := by
      unfold Sch.at_
      rw [hi, Int.toNat_natCast, List.getD_eq_getElem?_getD, hc]; rfl
     rw [hat, modify_set hz] at hF
     have hL2i : (x.cols.map encC)[i]? = some [D.i c] := by rw [List.getElem?_map, hc]; rfl
     have hL1c : (x.slots.map Sl.cells)[c]? = some z.cells := by rw [List.getElem?_map, hz]; rfl
     obtain ⟨y, hy⟩ : ∃ y : Vr, y = ⟨x.slots.set c { z with name := s.slot.name }, x.cols⟩ := ⟨_, rfl⟩
     rw [← hy] at hF
     have hsp : Hid (∀ zS, List.take (c * 7) (slotC x.slots ++ zS) ++ [D.str s.slot.name] ++ List.drop (c * 7 + 1) (slotC x.slots ++ zS) = (y.slots.map Sl.cells).flatten ++ zS) := fun zS => by
      have h := row_splice (o := 0) (ds := [D.str s.slot.name]) zS _ c (slots_each x.slots) hL1c (by simp)
      rw [show splice z.cells 0 [D.str s.slot.name] = Sl.cells { z with name := s.slot.name } from rfl, show (x.slots.map Sl.cells).set c (Sl.cells { z with name := s.slot.name }) = (x.slots.set c { z with name := s.slot.name }).map Sl.cells from (List.map_set ..).symm] at h
      rw [hy]
      exact h
     have hys : Hid (y.slots.length = x.slots.length) := Lib.hid (by rw [hy]; simp)
     have hyc : Hid (y.cols.map encC = x.cols.map encC) := Lib.hid (by rw [hy])
     have hrl := slotC_len x.slots
     have hle : Hid (∀ (zS : List D) (cS : Nat), (slotC x.slots ++ zS).length = cS * 7 → c * 7 + 1 ≤ cS * 7) := fun zS cS h => by
      rw [List.length_append] at h
      omega
     clear hy hcs hq hty hat hc hz hL1c hcol
     unfold Vr.cells Stp.cells at *
     generalize Sch.stepV x s = F at *
     cases s with
     | mk kd col slot order =>
     cases slot with
     | mk nm ty rq dv =>
     cases dv with
     | mk k n sv lv =>
     dsimp only at hC hE hR hF hk ho hi hb2 hc1 hc2 hsp hN hL ⊢
     subst hk
     rw [Sl.cells_mk] at *
     dsimp only [List.cons_append, List.nil_append] at *
     generalize r1e : slotC x.slots = R1 at *
     generalize m1e : x.slots.length = m1 at *
     generalize m2e : x.cols.length = m2 at *
     generalize hL1 : x.slots.map Sl.cells = L1 at *
     generalize hL2 : x.cols.map encC = L2 at *
     have r1e : Hid ((x.slots.map Sl.cells).flatten = R1) := r1e
     replace m1e := Lib.hid m1e
     replace m2e := Lib.hid m2e
     replace hL1 := Lib.hid hL1
     replace hL2 := Lib.hid hL2
     replace hC := Lib.hid hC
     replace hE := Lib.hid hE
     replace hR := Lib.hid hR
     subst hi
     replace hb1 := Lib.hid hb1
     replace hb2 := Lib.hid hb2
     generalize V.isName nm.data.toList = qn at *
     generalize Sch.colL x.slots nm x.cols = cv at *
     refine trF_enterG (G := twoA Tryz.prog (.cell 4 147) (.tmp 5)) Tryz.func164 rfl (by rw [Tryz.ntmps164]; exact Nat.le_of_ble_eq_true rfl) (fun h1 h2 h3 => res_two rfl h1 h2 h3) ?_
     simp only [Tryz.ntmps164]
     repeat' (first | (with_reducible first | refine Q1 ?_ | refine Qe ?_ | fail) | ((with_reducible apply (w_drawN [(b, [.ar gs 0 m1 cS, .sl .shared L2])])); (iterate 3 (focus kernel_rfl)); (focus ((repeat (first | exact keep_nil | refine keep_more (by (repeat (first | exact mm_h | apply mm_t)); done) ?_)); done)); intro hne; simp only [nes, ne1, and_assoc] at hne; repeat (have hq := hne.1; replace hne := hne.2)) | ((with_reducible refine And.intro ?_ ?_); (focus ((repeat (first | exact keep_nil | refine keep_more (by (repeat (first | exact mm_h | apply mm_t)); done) ?_)); done))) | (with_reducible first | refine QQ ?_ | (refine al_go ?_; intro b) | (refine QD ?_ <;> (try constructor) <;> intro hb <;> try intro hb1) | fail) | ((with_reducible apply (ck_gen Tryz.call195)); (focus exact List.Perm.refl _); (focus exact hC.out _); (focus exact LEL.refl _); (focus exact hE.out _); (rintro d st' ⟨gs, cS, zS, hz1, rfl, rfl⟩); (have hle2 := hle.out zS cS hz1; have hsp2 := hsp.out zS)) | ((with_reducible apply (ck_lend Tryz.call163)); (focus exact hL.out); (focus exact ⟨Lend.agg ⟨Lend.rowE (by repeat (first | exact mm_h | apply mm_t)) f1.out (by decide) e1.out l1.out, Lend.refl _, trivial⟩, Lend.refl _, trivial⟩)) | fail)
     all_goals first
      | ((refine retG_mk (rs := []) (by first | exact .inl rfl | exact .inr rfl) (by first | rfl | assumption) (.swap _ _ _) ⟨_, _, rfl, cell_mk (by simp (disch := omega) only [push_cast, simprocAttr, *]; exact rfl) (by repeat (first | exact mm_h | apply mm_t)) (by simp (disch := omega) only [push_cast, simprocAttr, *]; exact rfl) (by (try simp (disch := omega) only [push_cast, simprocAttr, *]); (try exact rfl); done), (by show _ = _; (try simp (disch := omega) only [push_cast, simprocAttr, *]); (try exact rfl); done)⟩ (((List.Sublist.refl _).cons _).cons _ |>.cons_cons _) (LE.refl _) ⟨((false, x), (gs, cS, zS)), ?_, by simp only [m1e.out, hL2.out], by simp only [r1e.out]⟩); (rw [hF.out]; refine if_neg ?_; rintro ⟨h1, h2, h3, h4⟩; first | omega | exact Bool.noConfusion (h3.symm.trans (by assumption) : true = false)))
      | ((refine retG_mk (rs := []) (by first | exact .inl rfl | exact .inr rfl) (by first | rfl | assumption) (.swap _ _ _) ⟨_, _, rfl, cell_mk (by simp (disch := omega) only [push_cast, simprocAttr, *]; exact rfl) (by repeat (first | exact mm_h | apply mm_t)) (by simp (disch := omega) only [push_cast, simprocAttr, *]; exact rfl) (by (try simp (disch := omega) only [push_cast, simprocAttr, *]); (try exact rfl); done), (by show _ = _; (try simp (disch := omega) only [push_cast, simprocAttr, *]); (try exact rfl); done)⟩ (((List.Sublist.refl _).cons _).cons _ |>.cons_cons _) (LE.refl _) ⟨((true, y), (gs, cS, zS)), ?_, by simp only [hys.out, hyc.out], rfl⟩); (rw [hF.out]; exact if_pos (by refine ⟨rfl, rfl, ?_, ?_⟩ <;> first | assumption | omega)))
   · have hFn : Hid (Sch.stepV x s = none) := Lib.hid (by
      rw [hF.out, if_neg]
      rintro ⟨h1, -⟩
      unfold Sch.column at h1
      simp at h1
      omega)
     clear hF hcs hN hL hq hty
     unfold Vr.cells Stp.cells at *
     generalize Sch.stepV x s = F at *
     cases s with
     | mk kd col slot order =>
     cases slot with
     | mk nm ty rq dv =>
     cases dv with
     | mk k n sv lv =>
     dsimp only at hC hE hR hk ho hb2 hcr ⊢
     subst hk
     rw [Sl.cells_mk] at *
     dsimp only [List.cons_append, List.nil_append] at *
     generalize r1e : slotC x.slots = R1 at *
     generalize m1e : x.slots.length = m1 at *
     generalize m2e : x.cols.length = m2 at *
     generalize hL1 : x.slots.map Sl.cells = L1 at *
     generalize hL2 : x.cols.map encC = L2 at *
     have r1e : Hid ((x.slots.map Sl.cells).flatten = R1) := r1e
     replace m1e := Lib.hid m1e
     replace m2e := Lib.hid m2e
     replace hL1 := Lib.hid hL1
     replace hL2 := Lib.hid hL2
     replace hC := Lib.hid hC
     replace hE := Lib.hid hE
     replace hR := Lib.hid hR
     replace hb1 := Lib.hid hb1
     replace hb2 := Lib.hid hb2
     have hcr' : col < 0 ∨ (0 ≤ col ∧ (m2 : Int) ≤ col) := by omega
     clear hcr
     rcases hcr' with h1 | ⟨h1, h2⟩
     all_goals skip
     all_goals (
      refine trF_enterG (G := twoA Tryz.prog (.cell 4 147) (.tmp 5)) Tryz.func164 rfl (by rw [Tryz.ntmps164]; exact Nat.le_of_ble_eq_true rfl) (fun h1 h2 h3 => res_two rfl h1 h2 h3) ?_
      simp only [Tryz.ntmps164]
      repeat' (first | (with_reducible first | refine Q1 ?_ | refine Qe ?_ | refine QQ ?_ | (refine al_go ?_; intro b) | (refine QD ?_ <;> (try constructor) <;> intro hb <;> try intro hb1) | fail) | ((with_reducible apply (ck_gen Tryz.call195)); (focus exact List.Perm.refl _); (focus exact hC.out _); (focus exact LEL.refl _); (focus exact hE.out _); (rintro d st' ⟨gs, cS, zS, hz1, rfl, rfl⟩)) | fail)
      all_goals (refine retG_mk (rs := []) (by first | exact .inl rfl | exact .inr rfl) (by first | rfl | assumption) (.swap _ _ _) ⟨_, _, rfl, cell_mk (by simp (disch := omega) only [push_cast, simprocAttr, *]; exact rfl) (by repeat (first | exact mm_h | apply mm_t)) (by simp (disch := omega) only [push_cast, simprocAttr, *]; exact rfl) (by (try simp (disch := omega) only [push_cast, simprocAttr, *]); (try exact rfl); done), (by show _ = _; (try simp (disch := omega) only [push_cast, simprocAttr, *]); (try exact rfl); done)⟩ (((List.Sublist.refl _).cons _).cons _ |>.cons_cons _) (LE.refl _) ⟨((false, x), (gs, cS, zS)), hFn.out, by simp only [m1e.out, hL2.out], by simp only [r1e.out]⟩))
 · have hrr : (Sch.bare s.slot true false && decide (s.order.length = 0)) = false := by
    cases h1 : Sch.bare s.slot true false with
    | false => rfl
    | true => rw [Bool.true_and, decide_eq_false fun h2 => hb ⟨h1, h2⟩]
   rw [hrr] at hR
   have hFn : Hid (Sch.stepV x s = none) := Lib.hid (by
    rw [hF.out, if_neg]
    rintro ⟨h1, h2, -⟩
    unfold Sch.column at h1
    simp at h1
    exact hb ⟨h2, by rw [h1.2]; rfl⟩)
   clear hF hcs hN hL hb hrr hq hty
   unfold Vr.cells Stp.cells at *
   generalize Sch.stepV x s = F at *
   cases s with
   | mk kd col slot order =>
   cases slot with
   | mk nm ty rq dv =>
   cases dv with
   | mk k n sv lv =>
   dsimp only at hC hE hR hk ho ⊢
   subst hk
   rw [Sl.cells_mk] at *
   dsimp only [List.cons_append, List.nil_append] at *
   generalize r1e : slotC x.slots = R1 at *
   generalize m1e : x.slots.length = m1 at *
   generalize m2e : x.cols.length = m2 at *
   generalize hL1 : x.slots.map Sl.cells = L1 at *
   generalize hL2 : x.cols.map encC = L2 at *
   have r1e : Hid ((x.slots.map Sl.cells).flatten = R1) := r1e
   replace m1e := Lib.hid m1e
   replace m2e := Lib.hid m2e
   replace hL1 := Lib.hid hL1
   replace hL2 := Lib.hid hL2
   replace hC := Lib.hid hC
   replace hE := Lib.hid hE
   replace hR := Lib.hid hR
   refine trF_enterG (G := twoA Tryz.prog (.cell 4 147) (.tmp 5)) Tryz.func164 rfl (by rw [Tryz.ntmps164]; exact Nat.le_of_ble_eq_true rfl) (fun h1 h2 h3 => res_two rfl h1 h2 h3) ?_
   simp only [Tryz.ntmps164]
   repeat' (first | (with_reducible first | refine Q1 ?_ | refine Qe ?_ | refine QQ ?_ | (refine al_go ?_; intro b) | (refine QD ?_ <;> (try constructor) <;> intro hb <;> try intro hb1) | fail) | ((with_reducible apply (ck_gen Tryz.call195)); (focus exact List.Perm.refl _); (focus exact hC.out _); (focus exact LEL.refl _); (focus exact hE.out _); (rintro d st' ⟨gs, cS, zS, hz1, rfl, rfl⟩)) | fail)
   all_goals (refine retG_mk (rs := []) (by first | exact .inl rfl | exact .inr rfl) (by first | rfl | assumption) (.swap _ _ _) ⟨_, _, rfl, cell_mk (by simp (disch := omega) only [push_cast, simprocAttr, *]; exact rfl) (by repeat (first | exact mm_h | apply mm_t)) (by simp (disch := omega) only [push_cast, simprocAttr, *]; exact rfl) (by (try simp (disch := omega) only [push_cast, simprocAttr, *]); (try exact rfl); done), (by show _ = _; (try simp (disch := omega) only [push_cast, simprocAttr, *]); (try exact rfl); done)⟩ (((List.Sublist.refl _).cons _).cons _ |>.cons_cons _) (LE.refl _) ⟨((false, x), (gs, cS, zS)), hFn.out, by simp only [m1e.out, hL2.out], by simp only [r1e.out]⟩)
def wt (t s : Nat) : Nat → Nat
 | 0 => t
 | k + 1 => if Sch.has s k && !Sch.has (wt t s k) k then wt t s k + 2 ^ k else wt t s k
def wm (t s : Nat) : Nat → Bool
 | 0 => false
 | k + 1 => if Sch.has s k && !Sch.has (wt t s k) k then true else wm t s k
theorem wt_all : ∀ t s : Fin 64, wt t s 6 = t.val ||| s.val ∧ wm t s 6 = (t.val ||| s.val != t.val) := by decide +kernel
theorem wt_le (t s : Nat) : ∀ k, wt t s k + 1 ≤ t + 2 ^ k
 | 0 => by rw [wt]; omega
 | k + 1 => by
  have := wt_le t s k
  rw [wt, Nat.pow_succ]
  split <;> omega
theorem refWidenF (x : Vr) (s : Stp) (h : RefP x s) (hxt : ∀ z ∈ x.slots, Sch.takes z.types = true) (hk : s.kind = 4) (st : St) : TrF Tryz.prog 164 [.agg x.cells, .agg s.cells] st (RefStepR x s st) := by
 refine raw1_rest ?_
 obtain ⟨⟨hl, hp, hcp, hcl, hcs⟩, hq, hty, ho⟩ := h
 have hC := refCopySF' x hp hcp hl (by omega)
 have hE := copyS_ex x
 have hR := refRestF s hq.ok (by omega) ho
 have hF : Hid (Sch.stepV x s = Sch.widenS x s) := Lib.hid (by unfold Sch.stepV; rw [if_neg (show ¬ s.kind = 1 by omega), if_neg (show ¬ s.kind = 2 by omega), if_neg (show ¬ s.kind = 3 by omega), if_pos hk])
 have hrv : Sch.restV s = (Sch.bare s.slot false true && decide (s.order.length = 0)) := by unfold Sch.restV; rw [if_neg (show ¬ s.kind = 1 by omega), if_neg (show ¬ s.kind = 2 by omega), if_neg (show ¬ s.kind = 3 by omega), if_pos hk]
 rw [hrv] at hR
 clear hrv
 unfold Raw1
 have hC := fun st => hC st
 unfold CopyS at hC hE
 have l2 : (x.cols.map encC).length = x.cols.length := List.length_map ..
 unfold Sch.widenS at hF
 by_cases hb : Sch.bare s.slot false true = true ∧ s.order.length = 0
 · obtain ⟨hb1, hb2⟩ := hb
   rw [hb1, hb2] at hR
   rw [hb1] at hF
   by_cases hcr : 0 ≤ s.col ∧ s.col < x.cols.length
   · obtain ⟨hc1, hc2⟩ := hcr
     have hcol : Sch.column x s = true := by unfold Sch.column; simp [hc1, hc2, hb2]
     rw [hcol] at hF
     obtain ⟨i, hi⟩ := Int.eq_ofNat_of_zero_le hc1
     have hilt : i < x.cols.length := by omega
     obtain ⟨c, hc⟩ := gEx hilt
     have hcm : c < x.slots.length := hcs c (List.mem_of_getElem? hc)
     obtain ⟨z, hz⟩ := gEx hcm
     have hat : Sch.at_ x s = c := by
      unfold Sch.at_
      rw [hi, Int.toNat_natCast, List.getD_eq_getElem?_getD, hc]; rfl
     have hzt := hxt z (List.mem_of_getElem? hz)
     by_cases htk : Sch.takes s.slot.types = true
     · obtain ⟨tn, sn, ht1, hs1, htl, hsl, hor, hol⟩ := Sch.widen_nat hzt htk
       have hall := wt_all ⟨tn, htl⟩ ⟨sn, hsl⟩
       dsimp only at hall
       obtain ⟨hw1, hw2⟩ := hall
       rw [hat, modify_set hz, hz, Option.any_some, htk, hor] at hF
       have hL2i : (x.cols.map encC)[i]? = some [D.i c] := by rw [List.getElem?_map, hc]; rfl
       have hL1c : (x.slots.map Sl.cells)[c]? = some z.cells := by rw [List.getElem?_map, hz]; rfl
       obtain ⟨w, hw⟩ : ∃ w, tn ||| sn = w := ⟨_, rfl⟩
       rw [hw] at hF hw1 hw2 hol
       obtain ⟨y, hy⟩ : ∃ y : Vr, y = ⟨x.slots.set c { z with types := (w : Int) }, x.cols⟩ := ⟨_, rfl⟩
       rw [← hy] at hF
       have hFw : Hid (Sch.stepV x s = if (w != tn) = true then some y else none) := Lib.hid (by
        rw [hF.out]
        by_cases hwt : w = tn
        · rw [if_neg (by rw [ht1]; simp [hwt]), if_neg (by simp [hwt])]
        · rw [if_pos (by refine ⟨rfl, rfl, rfl, ?_⟩; rw [ht1, bne_iff_ne]; omega), if_pos (by simp [hwt])])
       have hsp : Hid (∀ zS, List.take (c * 7 + 1) (slotC x.slots ++ zS) ++ [D.i w] ++ List.drop (c * 7 + 1 + 1) (slotC x.slots ++ zS) = (y.slots.map Sl.cells).flatten ++ zS) := fun zS => by
        have h := row_splice (o := 1) (ds := [D.i w]) zS _ c (slots_each x.slots) hL1c (by simp)
        rw [show splice z.cells 1 [D.i w] = Sl.cells { z with types := (w : Int) } from rfl, show (x.slots.map Sl.cells).set c (Sl.cells { z with types := (w : Int) }) = (x.slots.set c { z with types := (w : Int) }).map Sl.cells from (List.map_set ..).symm] at h
        rw [hy]
        exact h
       have hld : Hid (∀ zS, ∃ tl, List.drop (c * 7 + 1) (slotC x.slots ++ zS) = D.i tn :: tl) := fun zS => by
        obtain ⟨tl, h⟩ := row_drop (sz := 7) (o := 1) zS _ c (slots_each x.slots) hL1c (by omega)
        rw [show z.cells.drop 1 = D.i z.types :: z.cells.drop 2 from rfl, ht1] at h
        exact ⟨_, h⟩
       have hys : Hid (y.slots.length = x.slots.length) := Lib.hid (by rw [hy]; simp)
       have hyc : Hid (y.cols.map encC = x.cols.map encC) := Lib.hid (by rw [hy])
       have hrl := slotC_len x.slots
       have hle : Hid (∀ (zS : List D) (cS : Nat), (slotC x.slots ++ zS).length = cS * 7 → c * 7 + 1 + 1 ≤ cS * 7) := fun zS cS h => by
        rw [List.length_append] at h
        omega
       have hHs := Lib.hid fun k (h : k ≤ 6) => refHasF sn k (by omega) (by omega)
       have hHt := Lib.hid fun k (h : k ≤ 6) => refHasF (wt tn sn k) k (by omega) (by have := wt_le tn sn k; have : 2 ^ k ≤ 2 ^ 6 := Nat.pow_le_pow_right (by decide) h; omega)
       have hwb : Hid (∀ k, k ≤ 6 → wt tn sn k ≤ 200 ∧ 2 ^ k ≤ 64) := fun k h => by
        have := wt_le tn sn k
        have : 2 ^ k ≤ 2 ^ 6 := Nat.pow_le_pow_right (by decide) h
        omega
       replace htk := Sch.takes_iff.1 htk
       clear hy hcs hq hty hat hc hz hL1c hcol hF hor hzt hxt ht1
       replace hw1 := Lib.hid hw1
       replace hw2 := Lib.hid hw2
       replace hw := Lib.hid hw
       unfold Vr.cells Stp.cells at *
       generalize Sch.stepV x s = F at *
       cases s with
       | mk kd col slot order =>
       cases slot with
       | mk nm ty rq dv =>
       cases dv with
       | mk k n sv lv =>
       dsimp only at hC hE hR hFw hk ho hi hb2 hc1 hc2 hsp hs1 htk ⊢
       subst hk
       rw [Sl.cells_mk] at *
       dsimp only [List.cons_append, List.nil_append] at *
       generalize r1e : slotC x.slots = R1 at *
       generalize m1e : x.slots.length = m1 at *
       generalize m2e : x.cols.length = m2 at *
       generalize hL1 : x.slots.map Sl.cells = L1 at *
       generalize hL2 : x.cols.map encC = L2 at *
       have r1e : Hid ((x.slots.map Sl.cells).flatten = R1) := r1e
       replace m1e := Lib.hid m1e
       replace m2e := Lib.hid m2e
       replace hL1 := Lib.hid hL1
       replace hL2 := Lib.hid hL2
       replace hC := Lib.hid hC
       replace hE := Lib.hid hE
       replace hR := Lib.hid hR
       subst hi hs1
       replace hb1 := Lib.hid hb1
       replace hb2 := Lib.hid hb2
       refine trF_enterG (G := twoA Tryz.prog (.cell 4 147) (.tmp 5)) Tryz.func164 rfl (by rw [Tryz.ntmps164]; exact Nat.le_of_ble_eq_true rfl) (fun h1 h2 h3 => res_two rfl h1 h2 h3) ?_
       simp only [Tryz.ntmps164]
       repeat' (first | (with_reducible first | refine Q1 ?_ | refine Qe ?_ | fail) | ((with_reducible apply (w_drawN [(b, [.ar gs 0 m1 cS, .sl .shared L2]), (gs, R1 ++ zS)])); (iterate 3 (focus kernel_rfl)); (focus ((repeat (first | exact keep_nil | refine keep_more (by (repeat (first | exact mm_h | apply mm_t)); done) ?_)); done)); intro hne; simp only [nes, ne1, and_assoc] at hne; repeat (have hq := hne.1; replace hne := hne.2)) | ((with_reducible refine And.intro ?_ ?_); (focus ((repeat (first | exact keep_nil | refine keep_more (by (repeat (first | exact mm_h | apply mm_t)); done) ?_)); done))) | (with_reducible first | refine QQ ?_ | (refine al_go ?_; intro b) | (refine QD ?_ <;> (try constructor) <;> intro hb <;> try intro hb1) | fail) | ((with_reducible apply (ck_gen Tryz.call195)); (focus exact List.Perm.refl _); (focus exact hC.out _); (focus exact LEL.refl _); (focus exact hE.out _); (rintro d st' ⟨gs, cS, zS, hz1, rfl, rfl⟩); (have hle2 := hle.out zS cS hz1; have hsp2 := hsp.out zS; obtain ⟨t2, hld2⟩ := hld.out zS; obtain ⟨b4, rfl⟩ : ∃ q, q = b := ⟨_, rfl⟩)) | fail)
       obtain ⟨b6, rfl⟩ : ∃ q, q = b := ⟨_, rfl⟩
       have hL2i' := hL2i
       refine tr_loopd (ι := Nat) (fun k' A st' => k' ≤ 6 ∧ A.df = [] ∧ A.e 3 = .ip [.i 4, .i i, .str nm, .i sn, .b rq, .i k, .i n, .str sv, .sl .shared (lv.map V.cells), .sl .shared (order.map encI)] ∧ A.e 4 = .ptr b4 0 ∧ A.e 6 = .ptr b6 0 ∧ A.e 10 = .i k' ∧ (∃ tk bk : Nat, Hid (wt tn sn k' = tk) ∧ Hid (2 ^ k' = bk) ∧ A.e 7 = .i tk ∧ A.e 8 = .i bk) ∧ (∃ mk : Bool, Hid (wm tn sn k' = mk) ∧ A.e 9 = .b mk) ∧
        st' = .box b6 147 [.ar gs 0 m1 cS, .sl .shared L2] :: .box gs 75 (R1 ++ zS) :: .box b4 147 [.sl .tight [], .sl .tight []] :: st) (fun k' => 6 - k') 0 ⟨Nat.zero_le _, Qf, Qf, Qf, Qf, Qf, ⟨tn, 1, rfl, rfl, Qf, Qf⟩, ⟨false, rfl, Qf⟩, rfl⟩ ?_
       rintro k' A st' ⟨hk', hdf, e3, e4, e6, e10, ⟨tk, bk, ht, hbk, e7, e8⟩, ⟨mk, hm, e9⟩, rfl⟩
       by_cases hlt : k' < 6
       · have hH1 := hHs.out k' hk'
         have hH2 := hHt.out k' hk'
         have hb := hwb.out k' hk'
         have hb' := hwb.out (k' + 1) hlt
         have hs1 : wt tn sn (k' + 1) = if Sch.has sn k' && !Sch.has (wt tn sn k') k' then wt tn sn k' + 2 ^ k' else wt tn sn k' := rfl
         have hs2 : wm tn sn (k' + 1) = if Sch.has sn k' && !Sch.has (wt tn sn k') k' then true else wm tn sn k' := rfl
         rw [Nat.pow_succ] at hb'
         have hp2 : 2 ^ (k' + 1) = bk * 2 := by rw [Nat.pow_succ, hbk.out]
         rw [hbk.out] at hb hb' hs1
         rw [ht.out] at hH2 hb hs1 hs2
         rw [hm.out] at hs2
         obtain ⟨hb7, hb8⟩ := hb
         clear hb'
         generalize Sch.has sn k' = q1 at *
         generalize Sch.has tk k' = q2 at *
         replace hH1 := Lib.hid hH1
         replace hH2 := Lib.hid hH2
         replace hp2 := Lib.hid hp2
         replace hs1 := Lib.hid hs1
         replace hs2 := Lib.hid hs2
         cases q1 <;> cases q2
         all_goals skip
         all_goals (
          repeat' (with_reducible first | refine Q1 ?_ | refine Qe ?_ | refine QQ ?_ | (refine al_go ?_; intro b) | (refine QD ?_ <;> (try constructor) <;> intro hb <;> try intro hb1) | fail)
          refine ⟨k' + 1, _, List.Sublist.refl _, ⟨hlt, ?_, ?_, ?_, ?_, ?_, ⟨_, _, hs1.out, hp2.out, ?_, ?_⟩, ⟨_, hs2.out, ?_⟩, rfl⟩, by omega⟩
          all_goals exact Qf)
       · have hk6 : k' = 6 := by omega
         subst hk6
         have ht2 : tk = w := ht.out.symm.trans hw1.out
         have hm2 : mk = (w != tn) := hm.out.symm.trans hw2.out
         subst ht2
         subst hm2
         have hFw2 := hFw.out
         cases hwq : (tk != tn) with
         | true =>
          rw [hwq, if_pos rfl] at hFw2
          rw [hwq] at e9
          replace hFw2 := Lib.hid hFw2
          replace hwq := Lib.hid hwq
          repeat' (first | (with_reducible first | refine Q1 ?_ | refine Qe ?_ | fail) | ((with_reducible apply (w_drawN [(b6, [.ar gs 0 m1 cS, .sl .shared L2])])); (iterate 3 (focus kernel_rfl)); (focus ((repeat (first | exact keep_nil | refine keep_more (by (repeat (first | exact mm_h | apply mm_t)); done) ?_)); done)); intro hne; simp only [nes, ne1, and_assoc] at hne; repeat (have hq := hne.1; replace hne := hne.2)) | ((with_reducible refine And.intro ?_ ?_); (focus ((repeat (first | exact keep_nil | refine keep_more (by (repeat (first | exact mm_h | apply mm_t)); done) ?_)); done))) | (with_reducible first | refine QQ ?_ | (refine al_go ?_; intro b) | (refine QD ?_ <;> (try constructor) <;> intro hb <;> try intro hb1) | fail) | fail)
          all_goals (refine retG_mk (rs := []) (by first | exact .inl rfl | exact .inr rfl) (by first | rfl | assumption) (.swap _ _ _) ⟨_, _, rfl, cell_mk (by simp (disch := omega) only [push_cast, simprocAttr, *]; exact rfl) (by repeat (first | exact mm_h | apply mm_t)) (by simp (disch := omega) only [push_cast, simprocAttr, *]; exact rfl) (by (try simp (disch := omega) only [push_cast, simprocAttr, *]); (try exact rfl); done), (by show _ = _; (try simp (disch := omega) only [push_cast, simprocAttr, *]); (try exact rfl); done)⟩ (((List.Sublist.refl _).cons _).cons _ |>.cons_cons _) (LE.refl _) ⟨((true, y), (gs, cS, zS)), hFw2.out, by simp only [hys.out, hyc.out], rfl⟩)
         | false =>
          rw [hwq, if_neg Bool.false_ne_true] at hFw2
          rw [hwq] at e9
          have hFn := Lib.hid hFw2
          replace hFw2 := Lib.hid hFw2
          replace hwq := Lib.hid hwq
          repeat' (with_reducible first | refine Q1 ?_ | refine Qe ?_ | refine QQ ?_ | (refine al_go ?_; intro b) | (refine QD ?_ <;> (try constructor) <;> intro hb <;> try intro hb1) | fail)
          all_goals (refine retG_mk (rs := []) (by first | exact .inl rfl | exact .inr rfl) (by first | rfl | assumption) (.swap _ _ _) ⟨_, _, rfl, cell_mk (by simp (disch := omega) only [push_cast, simprocAttr, *]; exact rfl) (by repeat (first | exact mm_h | apply mm_t)) (by simp (disch := omega) only [push_cast, simprocAttr, *]; exact rfl) (by (try simp (disch := omega) only [push_cast, simprocAttr, *]); (try exact rfl); done), (by show _ = _; (try simp (disch := omega) only [push_cast, simprocAttr, *]); (try exact rfl); done)⟩ (((List.Sublist.refl _).cons _).cons _ |>.cons_cons _) (LE.refl _) ⟨((false, x), (gs, cS, zS)), hFn.out, by simp only [m1e.out, hL2.out], by simp only [r1e.out]⟩)
     · have hFn : Hid (Sch.stepV x s = none) := Lib.hid (by
        rw [hF.out, if_neg]
        rintro ⟨-, -, h3, -⟩
        exact htk h3)
       have htk' : s.slot.types < 1 ∨ (1 ≤ s.slot.types ∧ 63 < s.slot.types) := by
        have : ¬ (1 ≤ s.slot.types ∧ s.slot.types ≤ 63) := fun h => htk (Sch.takes_iff.2 h)
        omega
       clear hF hcs hq hty hat hc hz hcol hzt hxt htk
       unfold Vr.cells Stp.cells at *
       generalize Sch.stepV x s = F at *
       cases s with
       | mk kd col slot order =>
       cases slot with
       | mk nm ty rq dv =>
       cases dv with
       | mk k n sv lv =>
       dsimp only at hC hE hR hk ho hi hb2 hc1 hc2 htk' ⊢
       subst hk
       rw [Sl.cells_mk] at *
       dsimp only [List.cons_append, List.nil_append] at *
       generalize r1e : slotC x.slots = R1 at *
       generalize m1e : x.slots.length = m1 at *
       generalize m2e : x.cols.length = m2 at *
       generalize hL1 : x.slots.map Sl.cells = L1 at *
       generalize hL2 : x.cols.map encC = L2 at *
       have r1e : Hid ((x.slots.map Sl.cells).flatten = R1) := r1e
       replace m1e := Lib.hid m1e
       replace m2e := Lib.hid m2e
       replace hL1 := Lib.hid hL1
       replace hL2 := Lib.hid hL2
       replace hC := Lib.hid hC
       replace hE := Lib.hid hE
       replace hR := Lib.hid hR
       subst hi
       replace hb1 := Lib.hid hb1
       replace hb2 := Lib.hid hb2
       rcases htk' with h1 | ⟨h1, h2⟩
       all_goals skip
       all_goals (
        refine trF_enterG (G := twoA Tryz.prog (.cell 4 147) (.tmp 5)) Tryz.func164 rfl (by rw [Tryz.ntmps164]; exact Nat.le_of_ble_eq_true rfl) (fun h1 h2 h3 => res_two rfl h1 h2 h3) ?_
        simp only [Tryz.ntmps164]
        repeat' (first | (with_reducible first | refine Q1 ?_ | refine Qe ?_ | refine QQ ?_ | (refine al_go ?_; intro b) | (refine QD ?_ <;> (try constructor) <;> intro hb <;> try intro hb1) | fail) | ((with_reducible apply (ck_gen Tryz.call195)); (focus exact List.Perm.refl _); (focus exact hC.out _); (focus exact LEL.refl _); (focus exact hE.out _); (rintro d st' ⟨gs, cS, zS, hz1, rfl, rfl⟩)) | fail)
        all_goals (refine retG_mk (rs := []) (by first | exact .inl rfl | exact .inr rfl) (by first | rfl | assumption) (.swap _ _ _) ⟨_, _, rfl, cell_mk (by simp (disch := omega) only [push_cast, simprocAttr, *]; exact rfl) (by repeat (first | exact mm_h | apply mm_t)) (by simp (disch := omega) only [push_cast, simprocAttr, *]; exact rfl) (by (try simp (disch := omega) only [push_cast, simprocAttr, *]); (try exact rfl); done), (by show _ = _; (try simp (disch := omega) only [push_cast, simprocAttr, *]); (try exact rfl); done)⟩ (((List.Sublist.refl _).cons _).cons _ |>.cons_cons _) (LE.refl _) ⟨((false, x), (gs, cS, zS)), hFn.out, by simp only [m1e.out, hL2.out], by simp only [r1e.out]⟩))
   · have hFn : Hid (Sch.stepV x s = none) := Lib.hid (by
      rw [hF.out, if_neg]
      rintro ⟨h1, -⟩
      unfold Sch.column at h1
      simp at h1
      omega)
     clear hF hcs hq hty hxt
     unfold Vr.cells Stp.cells at *
     generalize Sch.stepV x s = F at *
     cases s with
     | mk kd col slot order =>
     cases slot with
     | mk nm ty rq dv =>
     cases dv with
     | mk k n sv lv =>
     dsimp only at hC hE hR hk ho hb2 hcr ⊢
     subst hk
     rw [Sl.cells_mk] at *
     dsimp only [List.cons_append, List.nil_append] at *
     generalize r1e : slotC x.slots = R1 at *
     generalize m1e : x.slots.length = m1 at *
     generalize m2e : x.cols.length = m2 at *
     generalize hL1 : x.slots.map Sl.cells = L1 at *
     generalize hL2 : x.cols.map encC = L2 at *
     have r1e : Hid ((x.slots.map Sl.cells).flatten = R1) := r1e
     replace m1e := Lib.hid m1e
     replace m2e := Lib.hid m2e
     replace hL1 := Lib.hid hL1
     replace hL2 := Lib.hid hL2
     replace hC := Lib.hid hC
     replace hE := Lib.hid hE
     replace hR := Lib.hid hR
     replace hb1 := Lib.hid hb1
     replace hb2 := Lib.hid hb2
     have hcr' : col < 0 ∨ (0 ≤ col ∧ (m2 : Int) ≤ col) := by omega
     clear hcr
     rcases hcr' with h1 | ⟨h1, h2⟩
     all_goals skip
     all_goals (
      refine trF_enterG (G := twoA Tryz.prog (.cell 4 147) (.tmp 5)) Tryz.func164 rfl (by rw [Tryz.ntmps164]; exact Nat.le_of_ble_eq_true rfl) (fun h1 h2 h3 => res_two rfl h1 h2 h3) ?_
      simp only [Tryz.ntmps164]
      repeat' (first | (with_reducible first | refine Q1 ?_ | refine Qe ?_ | refine QQ ?_ | (refine al_go ?_; intro b) | (refine QD ?_ <;> (try constructor) <;> intro hb <;> try intro hb1) | fail) | ((with_reducible apply (ck_gen Tryz.call195)); (focus exact List.Perm.refl _); (focus exact hC.out _); (focus exact LEL.refl _); (focus exact hE.out _); (rintro d st' ⟨gs, cS, zS, hz1, rfl, rfl⟩)) | fail)
      all_goals (refine retG_mk (rs := []) (by first | exact .inl rfl | exact .inr rfl) (by first | rfl | assumption) (.swap _ _ _) ⟨_, _, rfl, cell_mk (by simp (disch := omega) only [push_cast, simprocAttr, *]; exact rfl) (by repeat (first | exact mm_h | apply mm_t)) (by simp (disch := omega) only [push_cast, simprocAttr, *]; exact rfl) (by (try simp (disch := omega) only [push_cast, simprocAttr, *]); (try exact rfl); done), (by show _ = _; (try simp (disch := omega) only [push_cast, simprocAttr, *]); (try exact rfl); done)⟩ (((List.Sublist.refl _).cons _).cons _ |>.cons_cons _) (LE.refl _) ⟨((false, x), (gs, cS, zS)), hFn.out, by simp only [m1e.out, hL2.out], by simp only [r1e.out]⟩))
 · have hrr : (Sch.bare s.slot false true && decide (s.order.length = 0)) = false := by
    cases h1 : Sch.bare s.slot false true with
    | false => rfl
    | true => rw [Bool.true_and, decide_eq_false fun h2 => hb ⟨h1, h2⟩]
   rw [hrr] at hR
   have hFn : Hid (Sch.stepV x s = none) := Lib.hid (by
    rw [hF.out, if_neg]
    rintro ⟨h1, h2, -⟩
    unfold Sch.column at h1
    simp at h1
    exact hb ⟨h2, by rw [h1.2]; rfl⟩)
   clear hF hcs hb hrr hq hty hxt
   unfold Vr.cells Stp.cells at *
   generalize Sch.stepV x s = F at *
   cases s with
   | mk kd col slot order =>
   cases slot with
   | mk nm ty rq dv =>
   cases dv with
   | mk k n sv lv =>
   dsimp only at hC hE hR hk ho ⊢
   subst hk
   rw [Sl.cells_mk] at *
   dsimp only [List.cons_append, List.nil_append] at *
   generalize r1e : slotC x.slots = R1 at *
   generalize m1e : x.slots.length = m1 at *
   generalize m2e : x.cols.length = m2 at *
   generalize hL1 : x.slots.map Sl.cells = L1 at *
   generalize hL2 : x.cols.map encC = L2 at *
   have r1e : Hid ((x.slots.map Sl.cells).flatten = R1) := r1e
   replace m1e := Lib.hid m1e
   replace m2e := Lib.hid m2e
   replace hL1 := Lib.hid hL1
   replace hL2 := Lib.hid hL2
   replace hC := Lib.hid hC
   replace hE := Lib.hid hE
   replace hR := Lib.hid hR
   refine trF_enterG (G := twoA Tryz.prog (.cell 4 147) (.tmp 5)) Tryz.func164 rfl (by rw [Tryz.ntmps164]; exact Nat.le_of_ble_eq_true rfl) (fun h1 h2 h3 => res_two rfl h1 h2 h3) ?_
   simp only [Tryz.ntmps164]
   repeat' (first | (with_reducible first | refine Q1 ?_ | refine Qe ?_ | refine QQ ?_ | (refine al_go ?_; intro b) | (refine QD ?_ <;> (try constructor) <;> intro hb <;> try intro hb1) | fail) | ((with_reducible apply (ck_gen Tryz.call195)); (focus exact List.Perm.refl _); (focus exact hC.out _); (focus exact LEL.refl _); (focus exact hE.out _); (rintro d st' ⟨gs, cS, zS, hz1, rfl, rfl⟩)) | fail)
   all_goals (refine retG_mk (rs := []) (by first | exact .inl rfl | exact .inr rfl) (by first | rfl | assumption) (.swap _ _ _) ⟨_, _, rfl, cell_mk (by simp (disch := omega) only [push_cast, simprocAttr, *]; exact rfl) (by repeat (first | exact mm_h | apply mm_t)) (by simp (disch := omega) only [push_cast, simprocAttr, *]; exact rfl) (by (try simp (disch := omega) only [push_cast, simprocAttr, *]); (try exact rfl); done), (by show _ = _; (try simp (disch := omega) only [push_cast, simprocAttr, *]); (try exact rfl); done)⟩ (((List.Sublist.refl _).cons _).cons _ |>.cons_cons _) (LE.refl _) ⟨((false, x), (gs, cS, zS)), hFn.out, by simp only [m1e.out, hL2.out], by simp only [r1e.out]⟩)
end Go.Proofs.YtgcienlfpnpbgaaGreat
end
section
namespace Go.Proofs.YtgcienlfpnpbgaaGreat
open Go.RowKit
namespace Sch
theorem all_len : ∀ (m : Nat) (l : List Int), l.length = m → (∀ k : Nat, k < m → (k : Int) ∈ l) → l.Nodup ∧ ∀ a ∈ l, 0 ≤ a ∧ a < m
 | 0, l, h, _ => by
  obtain rfl := List.eq_nil_of_length_eq_zero h
  exact ⟨List.nodup_nil, fun a h => by cases h⟩
 | m + 1, l, h, hk => by
  have hm := hk m (Nat.lt_succ_self m)
  have hp := List.perm_cons_erase hm
  have hl : (l.erase (m : Int)).length = m := by rw [List.length_erase_of_mem hm]; omega
  obtain ⟨h1, h2⟩ := all_len m _ hl fun k hk' => (List.mem_erase_of_ne (by omega)).2 (hk k (by omega))
  have hn : (m : Int) ∉ l.erase (m : Int) := fun h => by have := (h2 _ h).2; omega
  refine ⟨hp.nodup_iff.2 (List.nodup_cons.2 ⟨hn, h1⟩), fun a ha => ?_⟩
  rcases List.mem_cons.1 (hp.mem_iff.1 ha) with rfl | h
  · omega
  · have := h2 a h; omega
theorem nodup_len : ∀ (m : Nat) (l : List Int), l.Nodup → (∀ a ∈ l, 0 ≤ a ∧ a < m) → l.length ≤ m
 | 0, l, _, h => by
  cases l with
  | nil => exact Nat.le_refl _
  | cons a l => have := h a (List.mem_cons_self ..); omega
 | m + 1, l, hn, h => by
  by_cases hm : (m : Int) ∈ l
  · have hp := List.perm_cons_erase hm
    have hn' := List.nodup_cons.1 (hp.nodup_iff.1 hn)
    have hl : (l.erase (m : Int)).length = l.length - 1 := List.length_erase_of_mem hm
    have := nodup_len m _ hn'.2 fun a ha => by
     have h1 := h a (List.mem_of_mem_erase ha)
     have : a ≠ m := fun e => hn'.1 (e ▸ ha)
     omega
    omega
  · have := nodup_len m l hn fun a ha => by
     have h1 := h a ha
     have : a ≠ m := fun e => hm (e ▸ ha)
     omega
    omega
def put (cols : List Nat) (l : List Int) : List Nat := l.map fun o => cols.getD o.toNat 0
theorem getD_inj {cols : List Nat} (hn : cols.Nodup) {a b : Int} (ha : 0 ≤ a ∧ a < cols.length) (hb : 0 ≤ b ∧ b < cols.length) (h : cols.getD a.toNat 0 = cols.getD b.toNat 0) : a = b := by
 have h1 : a.toNat < cols.length := by omega
 have h2 : b.toNat < cols.length := by omega
 rw [List.getD_eq_getElem?_getD, List.getD_eq_getElem?_getD, List.getElem?_eq_getElem h1, List.getElem?_eq_getElem h2, Option.getD_some, Option.getD_some] at h
 have h3 : a.toNat = b.toNat := (List.getElem?_inj h1 hn).1 (by rw [List.getElem?_eq_getElem h1, List.getElem?_eq_getElem h2, h])
 omega
theorem reo_yes {cols : List Nat} (hn : cols.Nodup) : ∀ (l p : List Int), (p ++ l).Nodup → (∀ a ∈ p ++ l, 0 ≤ a ∧ a < cols.length) → reo cols l (put cols p) = some (put cols (p ++ l))
 | [], p, _, _ => by rw [reo, List.append_nil]
 | k :: l, p, h, hr => by
  have hk := hr k (by simp)
  rw [reo, if_pos]
  · have := reo_yes hn l (p ++ [k]) (by simpa using h) (by simpa using hr)
    rw [show put cols p ++ [cols.getD k.toNat 0] = put cols (p ++ [k]) by unfold put; simp]
    simpa using this
  · refine ⟨hk.1, hk.2, fun hm => ?_⟩
    obtain ⟨a, ha, he⟩ := List.mem_map.1 hm
    have := getD_inj hn (hr a (by simp [ha])) hk he
    subst this
    rw [List.nodup_append] at h
    exact h.2.2 a ha a (by simp) rfl
theorem reo_no {cols : List Nat} : ∀ (l p : List Int) (r : List Nat), reo cols l (put cols p) = some r → p.Nodup → (∀ a ∈ p, 0 ≤ a ∧ a < cols.length) → (p ++ l).Nodup ∧ ∀ a ∈ p ++ l, 0 ≤ a ∧ a < cols.length
 | [], p, _, _, hn, hr => by rw [List.append_nil]; exact ⟨hn, hr⟩
 | k :: l, p, r, h, hn, hr => by
  rw [reo] at h
  split at h
  · rename_i hc
    rw [show put cols p ++ [cols.getD k.toNat 0] = put cols (p ++ [k]) by unfold put; simp] at h
    have := reo_no l (p ++ [k]) r h (by
     rw [List.nodup_append]
     refine ⟨hn, by simp, fun a ha b hb e => ?_⟩
     rw [List.mem_singleton] at hb
     subst hb e
     exact hc.2.2 (List.mem_map.2 ⟨a, ha, rfl⟩)) (fun a ha => by
     rcases List.mem_append.1 ha with h | h
     · exact hr a h
     · rw [List.mem_singleton] at h
       subst h; omega)
    simpa using this
  · cases h
theorem reo_count {cols : List Nat} (hn : cols.Nodup) {l : List Int} (hl : l.length = cols.length) : reo cols l [] = if ∀ k : Nat, k < cols.length → l.count (k : Int) = 1 then some (put cols l) else none := by
 split
 · rename_i h
   obtain ⟨h1, h2⟩ := all_len cols.length l hl fun k hk => List.count_pos_iff.1 (by rw [h k hk]; omega)
   exact reo_yes hn l [] (by simpa using h1) (by simpa using h2)
 · rename_i h
   cases hr : reo cols l [] with
   | none => rfl
   | some r =>
    exfalso
    obtain ⟨h1, h2⟩ := reo_no l [] r hr List.nodup_nil (fun a h => by cases h)
    rw [List.nil_append] at h1 h2
    refine h fun k hk => ?_
    have hm : (k : Int) ∈ l := by
     refine Decidable.by_contra fun hm => ?_
     have := nodup_len cols.length ((k : Int) :: l) (List.nodup_cons.2 ⟨hm, h1⟩) fun a ha => by
      rcases List.mem_cons.1 ha with rfl | h
      · omega
      · exact h2 a h
     rw [List.length_cons] at this
     omega
    rw [h1.count, if_pos hm]
end Sch
end Go.Proofs.YtgcienlfpnpbgaaGreat
end
section
namespace Go.Proofs.YtgcienlfpnpbgaaGreat
attribute [local push_cast] encB encI encC V.cells_mk V.cells_len Nat.mul_one Int.sub_zero List.map_nil beq_self_eq_true List.head?_cons
open Go.RowKit
set_option maxHeartbeats 4000000
set_option maxRecDepth 10000
def CopyC (x : Vr) (st : St) (d : D) (st' : St) : Prop := ∃ gc cC zC, (colC x.cols ++ zC).length = cC * 1 ∧ d = D.agg [.sl .shared (x.slots.map Sl.cells), .ar gc 0 x.cols.length cC] ∧ st' = Res.box gc 3 (colC x.cols ++ zC) :: st
theorem copyC_ex (x : Vr) (st : St) : ∃ d st', CopyC x st d st' := ⟨_, _, 0, x.cols.length, [], by rw [List.append_nil, colC_len], rfl, rfl⟩
theorem refCopyCF' (x : Vr) (h1 : 1 ≤ x.slots.length) (h2 : 1 ≤ x.cols.length) (hl : x.slots.length ≤ 1000) (hc : x.cols.length ≤ 1000) (st : St) : TrF Tryz.prog 195 [.agg x.cells] st (CopyC x st) :=
 (refCopyCF x h1 h2 hl hc st).mono fun d st' ⟨⟨gc, cC, zC⟩, k1, k2, k3⟩ => ⟨gc, cC, zC, k1, k2, k3⟩
def RawC (x : Vr) (s : Stp) (st : St) (d : D) (st' : St) : Prop := ∃ i : (Bool × Vr) × RI, (Sch.stepV x s = if i.1.1 then some i.1.2 else none) ∧ d = .tup [.agg [.sl .shared (i.1.2.slots.map Sl.cells), .ar i.2.1 0 i.1.2.cols.length i.2.2.1], .b i.1.1] ∧ st' = .box i.2.1 3 ((i.1.2.cols.map encC).flatten ++ i.2.2.2) :: st
theorem rawC_rest {x : Vr} {s : Stp} {st : St} {f : FuncId} {args : List D} (h : TrF Tryz.prog f args st (RawC x s st)) : TrF Tryz.prog f args st (RefStepR x s st) := by
 have h1 := TrF.rest (ι := (Bool × Vr) × RI) (g := fun i => i.2.1) (n := fun i => i.1.2.cols.length) (cap := fun i => i.2.2.1) (es := fun i => i.1.2.cols.map encC) (F' := fun i => .tup [.agg i.1.2.cells, .b i.1.1]) (sz := 1) (by decide) (fun i _ => ⟨cols_each i.1.2.cols, List.length_map ..⟩) (fun i => .tup _ _ (.cons _ _ _ _ (.agg _ _ (.cons _ _ _ _ (.same _) (.cons _ _ _ _ .ar .nil))) (.cons _ _ _ _ (.same _) .nil))) h
 refine h1.mono fun d st' ⟨i, k1, k2, k3⟩ => ?_
 obtain ⟨⟨ok, y⟩, i2⟩ := i
 cases ok with
 | true => exact .inr ⟨y, k1, k2, k3⟩
 | false => exact .inl ⟨k1, _, _, k2, k3⟩
theorem count_take {l : List Int} {i : Nat} {a k : Int} (h : l[i]? = some a) : (l.take (i + 1)).count k = (l.take i).count k + if a = k then 1 else 0 := by
 rw [List.take_add_one, h, Option.toList_some, List.count_append, List.count_singleton]
 congr 1
 by_cases e : a = k
 · rw [if_pos e, if_pos (by simp [e])]
 · rw [if_neg e, if_neg (by simp [e])]
theorem refReorderF (x : Vr) (s : Stp) (h : RefP x s) (hnd : x.cols.Nodup) (hk : s.kind = 5) (st : St) : TrF Tryz.prog 164 [.agg x.cells, .agg s.cells] st (RefStepR x s st) := by
 refine rawC_rest ?_
 obtain ⟨⟨hl, hp, hcp, hcl, hcs⟩, hq, hty, ho⟩ := h
 have hC := refCopyCF' x hp hcp hl (by omega)
 have hE := copyC_ex x
 have hR := refRestF s hq.ok (by omega) ho
 have hF : Hid (Sch.stepV x s = Sch.reorderS x s) := Lib.hid (by unfold Sch.stepV; rw [if_neg (show ¬ s.kind = 1 by omega), if_neg (show ¬ s.kind = 2 by omega), if_neg (show ¬ s.kind = 3 by omega), if_neg (show ¬ s.kind = 4 by omega), if_pos hk])
 have hrv : Sch.restV s = (Sch.bare s.slot false false && (s.col == 0)) := by unfold Sch.restV; rw [if_neg (show ¬ s.kind = 1 by omega), if_neg (show ¬ s.kind = 2 by omega), if_neg (show ¬ s.kind = 3 by omega), if_neg (show ¬ s.kind = 4 by omega)]
 rw [hrv] at hR
 clear hrv
 unfold RawC
 have hC := fun st => hC st
 unfold CopyC at hC hE
 have l2 : (x.cols.map encC).length = x.cols.length := List.length_map ..
 unfold Sch.reorderS at hF
 by_cases hb : Sch.bare s.slot false false = true ∧ s.col = 0
 · obtain ⟨hb1, hb2⟩ := hb
   rw [hb1, hb2] at hR hF
   by_cases hol : s.order.length = x.cols.length
   · have hF2 : Hid (Sch.stepV x s = if ∀ k : Nat, k < x.cols.length → s.order.count (k : Int) = 1 then some ⟨x.slots, Sch.put x.cols s.order⟩ else none) := Lib.hid (by
      rw [hF.out, if_pos ⟨rfl, rfl, hol⟩, Sch.reo_count hnd hol]
      split <;> rfl)
     obtain ⟨y, hy⟩ : ∃ y : Vr, y = ⟨x.slots, Sch.put x.cols s.order⟩ := ⟨_, rfl⟩
     rw [← hy] at hF2
     have hys : Hid (y.slots = x.slots) := Lib.hid (by rw [hy])
     have hyc : Hid (y.cols = Sch.put x.cols s.order) := Lib.hid (by rw [hy])
     have hget := Lib.hid fun (i : Nat) (a : Int) (h : s.order[i]? = some a) => h
     have hrl := colC_len x.cols
     have hdup := Lib.hid hnd
     clear hF hy hcs hq hty hnd
     unfold Vr.cells Stp.cells at *
     generalize Sch.stepV x s = F at *
     cases s with
     | mk kd col slot order =>
     cases slot with
     | mk nm ty rq dv =>
     cases dv with
     | mk k n sv lv =>
     dsimp only at hC hE hR hF2 hk ho hb2 hol hyc hget ⊢
     subst hk
     rw [Sl.cells_mk] at *
     dsimp only [List.cons_append, List.nil_append] at *
     generalize r2e : colC x.cols = R2 at *
     generalize m1e : x.slots.length = m1 at *
     generalize m2e : x.cols.length = m2 at *
     generalize hL1 : x.slots.map Sl.cells = L1 at *
     generalize hL2 : x.cols.map encC = L2 at *
     have r2e : Hid ((x.cols.map encC).flatten = R2) := r2e
     replace m1e := Lib.hid m1e
     replace m2e := Lib.hid m2e
     replace hL1 := Lib.hid hL1
     replace hL2 := Lib.hid hL2
     replace hC := Lib.hid hC
     replace hE := Lib.hid hE
     replace hR := Lib.hid hR
     subst hb2
     replace hb1 := Lib.hid hb1
     refine trF_enterG (G := twoA Tryz.prog (.cell 4 147) (.tmp 5)) Tryz.func164 rfl (by rw [Tryz.ntmps164]; exact Nat.le_of_ble_eq_true rfl) (fun h1 h2 h3 => res_two rfl h1 h2 h3) ?_
     simp only [Tryz.ntmps164]
     repeat' (first | (with_reducible first | refine Q1 ?_ | refine Qe ?_ | refine QQ ?_ | (refine al_go ?_; intro b) | (refine QD ?_ <;> (try constructor) <;> intro hb <;> try intro hb1) | fail) | ((with_reducible apply (ck_gen Tryz.call195)); (focus exact List.Perm.refl _); (focus exact hC.out _); (focus exact LEL.refl _); (focus exact hE.out _); (rintro d st' ⟨gc, cC, zC, hz2, rfl, rfl⟩; (obtain ⟨b4, rfl⟩ : ∃ q, q = b := ⟨_, rfl⟩))) | fail)
     obtain ⟨b6, rfl⟩ : ∃ q, q = b := ⟨_, rfl⟩
     refine tr_loopd (ι := Nat) (fun j A st' => j ≤ m2 ∧ Hid (∀ j' : Nat, j' < j → order.count (j' : Int) = 1) ∧ A.df = [] ∧ A.e 2 = .ip [.sl .shared L1, .sl .shared L2] ∧ A.e 3 = .ip [.i 5, .i 0, .str nm, .i ty, .b rq, .i k, .i n, .str sv, .sl .shared (lv.map V.cells), .sl .shared (order.map encI)] ∧ A.e 4 = .ptr b4 0 ∧ A.e 6 = .ptr b6 0 ∧ A.e 11 = .i j ∧ st' = .box b6 147 [.sl .shared L1, .ar gc 0 m2 cC] :: .box gc 3 (R2 ++ zC) :: .box b4 147 [.sl .tight [], .sl .tight []] :: st) (fun j => m2 - j) 0 ⟨Nat.zero_le _, fun j h => absurd h (Nat.not_lt_zero _), Qf, Qf, Qf, Qf, Qf, Qf, rfl⟩ ?_
     rintro j A st' ⟨hj, hcn, hdf, e2, e3, e4, e6, e11, rfl⟩
     by_cases hjl : j < m2
     · repeat' (with_reducible first | refine Q1 ?_ | refine Qe ?_ | refine QQ ?_ | (refine al_go ?_; intro b) | (refine QD ?_ <;> (try constructor) <;> intro hb <;> try intro hb1) | fail)
       refine tr_loopd (ι := Nat) (fun i A st' => i ≤ m2 ∧ A.df = [] ∧ A.e 2 = .ip [.sl .shared L1, .sl .shared L2] ∧ A.e 3 = .ip [.i 5, .i 0, .str nm, .i ty, .b rq, .i k, .i n, .str sv, .sl .shared (lv.map V.cells), .sl .shared (order.map encI)] ∧ A.e 4 = .ptr b4 0 ∧ A.e 6 = .ptr b6 0 ∧ A.e 11 = .i j ∧ A.e 13 = .i i ∧ (∃ q : Nat, q ≤ i ∧ Hid ((order.take i).count (j : Int) = q) ∧ A.e 12 = .i q) ∧ st' = .box b6 147 [.sl .shared L1, .ar gc 0 m2 cC] :: .box gc 3 (R2 ++ zC) :: .box b4 147 [.sl .tight [], .sl .tight []] :: st) (fun i => m2 - i) 0 ⟨Nat.zero_le _, Qf, Qf, Qf, Qf, Qf, Qf, Qf, ⟨0, Nat.le_refl _, rfl, Qf⟩, rfl⟩ ?_
       clear hdf e2 e3 e4 e6 e11
       rintro i A st' ⟨hi, hdf, e2, e3, e4, e6, e11, e13, ⟨q, hqi, hqc, e12⟩, rfl⟩
       by_cases hil : i < m2
       · obtain ⟨a, ha⟩ := gEx (l := order) (i := i) (by omega)
         have hct := count_take (k := (j : Int)) ha
         have hac : (order.map encI)[i]? = some [D.i a] := by rw [List.getElem?_map, ha]; rfl
         have hml : (order.map encI).length = order.length := List.length_map ..
         rw [hqc.out] at hct
         by_cases haj : a = (j : Int)
         · rw [if_pos haj] at hct
           replace hct := Lib.hid hct
           clear ha
           generalize order.map encI = OL at *
           repeat' (with_reducible first | refine Q1 ?_ | refine Qe ?_ | refine QQ ?_ | (refine al_go ?_; intro b) | (refine QD ?_ <;> (try constructor) <;> intro hb <;> try intro hb1) | fail)
           refine ⟨i + 1, _, List.Sublist.refl _, ⟨hil, ?_, ?_, ?_, ?_, ?_, ?_, ?_, ⟨q + 1, by omega, hct, ?_⟩, rfl⟩, by omega⟩
           all_goals exact Qf
         · rw [if_neg haj, Nat.add_zero] at hct
           replace hct := Lib.hid hct
           clear ha
           generalize order.map encI = OL at *
           repeat' (with_reducible first | refine Q1 ?_ | refine Qe ?_ | refine QQ ?_ | (refine al_go ?_; intro b) | (refine QD ?_ <;> (try constructor) <;> intro hb <;> try intro hb1) | fail)
           refine ⟨i + 1, _, List.Sublist.refl _, ⟨hil, ?_, ?_, ?_, ?_, ?_, ?_, ?_, ⟨q, by omega, hct, ?_⟩, rfl⟩, by omega⟩
           all_goals exact Qf
       · have him : i = m2 := by omega
         have hq := hqc.out
         rw [List.take_of_length_le (by omega)] at hq
         replace hol := Lib.hid hol
         replace him := Lib.hid him
         have hil' : ¬ (i : Int) < order.length := by have := hol.out; have := him.out; omega
         by_cases hq1 : q = 1
         · have hcn2 : Hid (∀ j' : Nat, j' < j + 1 → order.count (j' : Int) = 1) := fun j' h => by
            by_cases e : j' = j
            · subst e; rw [hq, hq1]
            · exact hcn.out j' (by omega)
           subst hq1
           replace hq := Lib.hid hq
           repeat' (with_reducible first | refine Q1 ?_ | refine Qe ?_ | refine QQ ?_ | (refine al_go ?_; intro b) | (refine QD ?_ <;> (try constructor) <;> intro hb <;> try intro hb1) | fail)
           refine ⟨j + 1, _, List.Sublist.refl _, ⟨hjl, hcn2, ?_, ?_, ?_, ?_, ?_, ?_, rfl⟩, by omega⟩
           all_goals exact Qf
         · have hFn : Hid (F = none) := Lib.hid (by rw [hF2.out, if_neg fun h => hq1 (hq.symm.trans (h j hjl))])
           replace hq := Lib.hid hq
           repeat' (with_reducible first | refine Q1 ?_ | refine Qe ?_ | refine QQ ?_ | (refine al_go ?_; intro b) | (refine QD ?_ <;> (try constructor) <;> intro hb <;> try intro hb1) | fail)
           all_goals (refine retG_mk (rs := []) (by first | exact .inl rfl | exact .inr rfl) (by first | rfl | assumption) (.swap _ _ _) ⟨_, _, rfl, cell_mk (by simp (disch := omega) only [push_cast, simprocAttr, *]; exact rfl) (by repeat (first | exact mm_h | apply mm_t)) (by simp (disch := omega) only [push_cast, simprocAttr, *]; exact rfl) (by (try simp (disch := omega) only [push_cast, simprocAttr, *]); (try exact rfl); done), (by show _ = _; (try simp (disch := omega) only [push_cast, simprocAttr, *]); (try exact rfl); done)⟩ (((List.Sublist.refl _).cons _).cons _ |>.cons_cons _) (LE.refl _) ⟨((false, x), (gc, cC, zC)), hFn.out, by simp only [m2e.out, hL1.out], by simp only [r2e.out]⟩)
     · have hjm : j = m2 := by omega
       have hFy : Hid (F = some y) := Lib.hid (by rw [hF2.out, if_pos (fun k h => hcn.out k (by omega))])
       have hrng : Hid (∀ a ∈ order, 0 ≤ a ∧ a < (m2 : Int)) := Lib.hid (Sch.all_len m2 order hol fun k h => List.count_pos_iff.1 (by rw [hcn.out k (by omega)]; omega)).2
       obtain ⟨CL, hCL⟩ : ∃ CL : Nat → List Nat, CL = fun i => Sch.put x.cols (order.take i) ++ x.cols.drop i := ⟨_, rfl⟩
       have hc0 : Hid (colC (CL 0) = R2) := Lib.hid (by rw [← r2e.out, hCL]; rfl)
       have hce : Hid (CL m2 = y.cols) := Lib.hid (by
        rw [hCL, hyc.out]
        show Sch.put x.cols (order.take m2) ++ x.cols.drop m2 = _
        rw [List.take_of_length_le (by omega), List.drop_of_length_le (by rw [m2e.out]; omega), List.append_nil])
       have hcl1 : Hid (∀ i, i ≤ m2 → (CL i).length = m2) := fun i h => by
        rw [hCL]
        show (Sch.put x.cols (order.take i) ++ x.cols.drop i).length = m2
        rw [List.length_append, List.length_drop, m2e.out, Sch.put, List.length_map, List.length_take]; omega
       have hnx : Hid (∀ (i an : Nat), order[i]? = some (an : Int) → an < m2 → ∃ c, x.cols[an]? = some c ∧ (CL i).set i c = CL (i + 1)) := fun i an h hlt => by
        have hi := (List.getElem?_eq_some_iff.1 h).1
        obtain ⟨c, hc⟩ : ∃ c, x.cols[an]? = some c := ⟨_, List.getElem?_eq_getElem (by rw [m2e.out]; exact hlt)⟩
        refine ⟨c, hc, ?_⟩
        have him : i < x.cols.length := by rw [m2e.out]; omega
        have hpl : (Sch.put x.cols (order.take i)).length = i := by rw [Sch.put, List.length_map, List.length_take]; omega
        rw [hCL]
        show (Sch.put x.cols (order.take i) ++ x.cols.drop i).set i c = Sch.put x.cols (order.take (i + 1)) ++ x.cols.drop (i + 1)
        rw [List.set_append_right i c (by omega), hpl, Nat.sub_self, List.drop_eq_getElem_cons him, List.set_cons_zero]
        rw [show Sch.put x.cols (order.take (i + 1)) = Sch.put x.cols (order.take i) ++ [c] by
         rw [List.take_add_one, h, Option.toList_some, Sch.put, List.map_append]
         show _ ++ [x.cols.getD ((an : Int)).toNat 0] = _
         rw [Int.toNat_natCast, List.getD_eq_getElem?_getD, hc]; rfl]
        rw [List.append_assoc]; rfl
       have hL2g : Hid (∀ (an c : Nat), x.cols[an]? = some c → L2[an]? = some [D.i c]) := fun an c h => by rw [← hL2.out, List.getElem?_map, h]; rfl
       have hrow : Hid (∀ (i c : Nat), i < m2 → List.take i (colC (CL i) ++ zC) ++ [D.i c] ++ List.drop (i + 1) (colC (CL i) ++ zC) = colC ((CL i).set i c) ++ zC) := fun i c h => by
        obtain ⟨w, hw⟩ : ∃ w, (CL i)[i]? = some w := ⟨_, List.getElem?_eq_getElem (by rw [hcl1.out i (by omega)]; exact h)⟩
        have h2 := row_splice (sz := 1) (o := 0) (e := [D.i w]) (ds := [D.i c]) zC ((CL i).map encC) i (cols_each _) (by rw [List.getElem?_map, hw]; rfl) (by simp)
        rw [Nat.mul_one, Nat.add_zero] at h2
        have h3 : ((CL i).map encC).set i (splice [D.i w] 0 [D.i c]) = ((CL i).set i c).map encC := by rw [List.map_set]; rfl
        rw [h3] at h2
        exact h2
       have hrl2 : Hid (∀ i, i ≤ m2 → (colC (CL i) ++ zC).length = cC * 1) := fun i h => by
        have h2 := hz2
        rw [List.length_append] at h2
        rw [List.length_append, colC_len, hcl1.out i h]
        omega
       have hcCm : m2 ≤ cC := by
        have h2 := hz2
        rw [List.length_append] at h2
        omega
       replace hjm := Lib.hid hjm
       clear hcn hF2 hCL
       repeat' (with_reducible first | refine Q1 ?_ | refine Qe ?_ | refine QQ ?_ | (refine al_go ?_; intro b) | (refine QD ?_ <;> (try constructor) <;> intro hb <;> try intro hb1) | fail)
       refine tr_loopd (ι := Nat) (fun i A st' => i ≤ m2 ∧ A.df = [] ∧ A.e 2 = .ip [.sl .shared L1, .sl .shared L2] ∧ A.e 3 = .ip [.i 5, .i 0, .str nm, .i ty, .b rq, .i k, .i n, .str sv, .sl .shared (lv.map V.cells), .sl .shared (order.map encI)] ∧ A.e 4 = .ptr b4 0 ∧ A.e 6 = .ptr b6 0 ∧ A.e 14 = .i i ∧ st' = .box b6 147 [.sl .shared L1, .ar gc 0 m2 cC] :: .box gc 3 (colC (CL i) ++ zC) :: .box b4 147 [.sl .tight [], .sl .tight []] :: st) (fun i => m2 - i) 0 ⟨Nat.zero_le _, Qf, Qf, Qf, Qf, Qf, Qf, by rw [hc0.out]⟩ ?_
       clear hdf e2 e3 e4 e6 e11
       rintro i A st' ⟨hi, hdf, e2, e3, e4, e6, e14, rfl⟩
       have hzl := hrl2.out i hi
       by_cases hil : i < m2
       · obtain ⟨a, ha⟩ := gEx (l := order) (i := i) (by omega)
         obtain ⟨ha1, ha2⟩ := hrng.out a (List.mem_of_getElem? ha)
         obtain ⟨an, rfl⟩ := Int.eq_ofNat_of_zero_le ha1
         obtain ⟨c, hc1, hc2⟩ := hnx.out i an ha (by omega)
         have hg := hL2g.out an c hc1
         have hac : (order.map encI)[i]? = some [D.i an] := by rw [List.getElem?_map, ha]; rfl
         have hml : (order.map encI).length = order.length := List.length_map ..
         have hsp := hrow.out i c hil
         rw [hc2] at hsp
         have hanl : an < m2 := by omega
         clear hc1 hc2 ha
         generalize hQ1 : colC (CL i) = QA1 at *
         generalize hQ2 : colC (CL (i + 1)) = QA2 at *
         generalize order.map encI = OL at *
         replace hQ1 := Lib.hid hQ1
         have hQ2 := Lib.hid hQ2
         repeat' (first | (with_reducible first | refine Q1 ?_ | refine Qe ?_ | fail) | ((with_reducible apply (w_drawN [(b6, [.sl .shared L1, .ar gc 0 m2 cC])])); (iterate 3 (focus kernel_rfl)); (focus ((repeat (first | exact keep_nil | refine keep_more (by (repeat (first | exact mm_h | apply mm_t)); done) ?_)); done)); intro hne; simp only [nes, ne1, and_assoc] at hne; repeat (have hq := hne.1; replace hne := hne.2)) | ((with_reducible refine And.intro ?_ ?_); (focus ((repeat (first | exact keep_nil | refine keep_more (by (repeat (first | exact mm_h | apply mm_t)); done) ?_)); done))) | (with_reducible first | refine QQ ?_ | (refine al_go ?_; intro b) | (refine QD ?_ <;> (try constructor) <;> intro hb <;> try intro hb1) | fail) | fail)
         refine ⟨i + 1, .box b6 147 [.sl .shared L1, .ar gc 0 m2 cC] :: .box gc 3 (QA2 ++ zC) :: .box b4 147 [.sl .tight [], .sl .tight []] :: st, List.Sublist.refl _, ⟨hil, ?_, ?_, ?_, ?_, ?_, ?_, by rw [hQ2.out]⟩, by omega⟩
         all_goals exact Qf
       · have him : i = m2 := by omega
         subst him
         generalize hQ1 : colC (CL i) = QA1 at *
         have hQ1 := Lib.hid hQ1
         repeat' (with_reducible first | refine Q1 ?_ | refine Qe ?_ | refine QQ ?_ | (refine al_go ?_; intro b) | (refine QD ?_ <;> (try constructor) <;> intro hb <;> try intro hb1) | fail)
         all_goals (refine retG_mk (rs := []) (by first | exact .inl rfl | exact .inr rfl) (by first | rfl | assumption) (.swap _ _ _) ⟨_, _, rfl, cell_mk (by simp (disch := omega) only [push_cast, simprocAttr, *]; exact rfl) (by repeat (first | exact mm_h | apply mm_t)) (by simp (disch := omega) only [push_cast, simprocAttr, *]; exact rfl) (by (try simp (disch := omega) only [push_cast, simprocAttr, *]); (try exact rfl); done), (by show _ = _; (try simp (disch := omega) only [push_cast, simprocAttr, *]); (try exact rfl); done)⟩ (((List.Sublist.refl _).cons _).cons _ |>.cons_cons _) (LE.refl _) ⟨((true, y), (gc, cC, zC)), hFy.out, by simp only [hys.out, hL1.out, ← hce.out, hcl1.out _ (Nat.le_refl _)], by rw [← hce.out, ← hQ1.out]; rfl⟩)
   · have hFn : Hid (Sch.stepV x s = none) := Lib.hid (by
      rw [hF.out, if_neg]
      rintro ⟨-, -, h⟩
      exact hol h)
     clear hF hcs hq hty hnd
     unfold Vr.cells Stp.cells at *
     generalize Sch.stepV x s = F at *
     cases s with
     | mk kd col slot order =>
     cases slot with
     | mk nm ty rq dv =>
     cases dv with
     | mk k n sv lv =>
     dsimp only at hC hE hR hk ho hb2 hol ⊢
     subst hk
     rw [Sl.cells_mk] at *
     dsimp only [List.cons_append, List.nil_append] at *
     generalize r2e : colC x.cols = R2 at *
     generalize m1e : x.slots.length = m1 at *
     generalize m2e : x.cols.length = m2 at *
     generalize hL1 : x.slots.map Sl.cells = L1 at *
     generalize hL2 : x.cols.map encC = L2 at *
     have r2e : Hid ((x.cols.map encC).flatten = R2) := r2e
     replace m1e := Lib.hid m1e
     replace m2e := Lib.hid m2e
     replace hL1 := Lib.hid hL1
     replace hL2 := Lib.hid hL2
     replace hC := Lib.hid hC
     replace hE := Lib.hid hE
     replace hR := Lib.hid hR
     subst hb2
     replace hb1 := Lib.hid hb1
     have hol' : ¬ (order.length : Int) = (m2 : Int) := by omega
     clear hol
     refine trF_enterG (G := twoA Tryz.prog (.cell 4 147) (.tmp 5)) Tryz.func164 rfl (by rw [Tryz.ntmps164]; exact Nat.le_of_ble_eq_true rfl) (fun h1 h2 h3 => res_two rfl h1 h2 h3) ?_
     simp only [Tryz.ntmps164]
     repeat' (first | (with_reducible first | refine Q1 ?_ | refine Qe ?_ | refine QQ ?_ | (refine al_go ?_; intro b) | (refine QD ?_ <;> (try constructor) <;> intro hb <;> try intro hb1) | fail) | ((with_reducible apply (ck_gen Tryz.call195)); (focus exact List.Perm.refl _); (focus exact hC.out _); (focus exact LEL.refl _); (focus exact hE.out _); (rintro d st' ⟨gc, cC, zC, hz2, rfl, rfl⟩; (obtain ⟨b4, rfl⟩ : ∃ q, q = b := ⟨_, rfl⟩))) | fail)
     all_goals (refine retG_mk (rs := []) (by first | exact .inl rfl | exact .inr rfl) (by first | rfl | assumption) (.swap _ _ _) ⟨_, _, rfl, cell_mk (by simp (disch := omega) only [push_cast, simprocAttr, *]; exact rfl) (by repeat (first | exact mm_h | apply mm_t)) (by simp (disch := omega) only [push_cast, simprocAttr, *]; exact rfl) (by (try simp (disch := omega) only [push_cast, simprocAttr, *]); (try exact rfl); done), (by show _ = _; (try simp (disch := omega) only [push_cast, simprocAttr, *]); (try exact rfl); done)⟩ (((List.Sublist.refl _).cons _).cons _ |>.cons_cons _) (LE.refl _) ⟨((false, x), (gc, cC, zC)), hFn.out, by simp only [m2e.out, hL1.out], by simp only [r2e.out]⟩)
 · have hrr : (Sch.bare s.slot false false && (s.col == 0)) = false := by
    cases h1 : Sch.bare s.slot false false with
    | false => rfl
    | true => rw [Bool.true_and, beq_eq_false_iff_ne]; exact fun h2 => hb ⟨h1, h2⟩
   rw [hrr] at hR
   have hFn : Hid (Sch.stepV x s = none) := Lib.hid (by
    rw [hF.out, if_neg]
    rintro ⟨h1, h2, -⟩
    exact hb ⟨h2, h1⟩)
   clear hF hcs hb hrr hq hty hnd
   unfold Vr.cells Stp.cells at *
   generalize Sch.stepV x s = F at *
   cases s with
   | mk kd col slot order =>
   cases slot with
   | mk nm ty rq dv =>
   cases dv with
   | mk k n sv lv =>
   dsimp only at hC hE hR hk ho ⊢
   subst hk
   rw [Sl.cells_mk] at *
   dsimp only [List.cons_append, List.nil_append] at *
   generalize r2e : colC x.cols = R2 at *
   generalize m1e : x.slots.length = m1 at *
   generalize m2e : x.cols.length = m2 at *
   generalize hL1 : x.slots.map Sl.cells = L1 at *
   generalize hL2 : x.cols.map encC = L2 at *
   have r2e : Hid ((x.cols.map encC).flatten = R2) := r2e
   replace m1e := Lib.hid m1e
   replace m2e := Lib.hid m2e
   replace hL1 := Lib.hid hL1
   replace hL2 := Lib.hid hL2
   replace hC := Lib.hid hC
   replace hE := Lib.hid hE
   replace hR := Lib.hid hR
   refine trF_enterG (G := twoA Tryz.prog (.cell 4 147) (.tmp 5)) Tryz.func164 rfl (by rw [Tryz.ntmps164]; exact Nat.le_of_ble_eq_true rfl) (fun h1 h2 h3 => res_two rfl h1 h2 h3) ?_
   simp only [Tryz.ntmps164]
   repeat' (first | (with_reducible first | refine Q1 ?_ | refine Qe ?_ | refine QQ ?_ | (refine al_go ?_; intro b) | (refine QD ?_ <;> (try constructor) <;> intro hb <;> try intro hb1) | fail) | ((with_reducible apply (ck_gen Tryz.call195)); (focus exact List.Perm.refl _); (focus exact hC.out _); (focus exact LEL.refl _); (focus exact hE.out _); (rintro d st' ⟨gc, cC, zC, hz2, rfl, rfl⟩; (obtain ⟨b4, rfl⟩ : ∃ q, q = b := ⟨_, rfl⟩))) | fail)
   all_goals (refine retG_mk (rs := []) (by first | exact .inl rfl | exact .inr rfl) (by first | rfl | assumption) (.swap _ _ _) ⟨_, _, rfl, cell_mk (by simp (disch := omega) only [push_cast, simprocAttr, *]; exact rfl) (by repeat (first | exact mm_h | apply mm_t)) (by simp (disch := omega) only [push_cast, simprocAttr, *]; exact rfl) (by (try simp (disch := omega) only [push_cast, simprocAttr, *]); (try exact rfl); done), (by show _ = _; (try simp (disch := omega) only [push_cast, simprocAttr, *]); (try exact rfl); done)⟩ (((List.Sublist.refl _).cons _).cons _ |>.cons_cons _) (LE.refl _) ⟨((false, x), (gc, cC, zC)), hFn.out, by simp only [m2e.out, hL1.out], by simp only [r2e.out]⟩)
end Go.Proofs.YtgcienlfpnpbgaaGreat
end
