/- Texts put together: RulU, RulV, RegQ, RegR, RegKn. No statement is proved here. -/
import Derived.Test.YtgcienlfpnpbgaaGreatZ6
set_option linter.all false
section
namespace Go.Proofs.YtgcienlfpnpbgaaGreat
attribute [local push_cast] encB encI encC V.cells_mk V.cells_len Nat.mul_one Int.sub_zero List.map_nil beq_self_eq_true bne_self_eq_false List.head?_cons Bool.not_true Bool.not_false
open Go.RowKit
set_option maxHeartbeats 16000000
set_option maxRecDepth 10000
theorem ref17ActF (L : List Tm) (hQ : ∀ t ∈ L, TQ t) (hl : L.length ≤ 1000000) (x : Rl) (hp : x.pats.length ≤ 1000) (ht : ∀ p ∈ x.pats, p.tests.length ≤ 1000) (a : Ac) (ha : ∀ e ∈ a.vals, VQ e.val) (hvl : a.vals.length ≤ 1000000) (st : St) : TrF Tryz.prog 91 [.sl .shared (L.map Tm.cells), .agg x.cells, .agg a.cells] st fun d st' => d = .b (Rul.actB L x.pats (Rul.bound x) a) ∧ st' = st := by
 have hS := Lib.hid fun (k : Int) => ref17SlotsF L hQ hl k
 have hSl : Hid (∀ k : Int, ((Rul.slots L k).map Sl.cells).length = (Rul.slots L k).length) := Lib.hid fun k => List.length_map ..
 have hSc : Hid (∀ (k : Int) (i : Nat) (v : Sl), (Rul.slots L k)[i]? = some v → ((Rul.slots L k).map Sl.cells)[i]? = some v.cells) := fun k i v h => by rw [List.getElem?_map, h]; rfl
 have hE := Lib.hid fun (e : Ex) (he : e ∈ a.vals) (k : Int) (s : Sl) (hs : s ∈ Rul.slots L k) => ref17ExprF x hp ht e s (ha e he) (Rul.slots_ty hs)
 have hml : (L.map Tm.cells).length = L.length := List.length_map ..
 have hm1 : (a.vals.map Ex.cells).length = a.vals.length := List.length_map ..
 have hc1 := hMp Ex.cells a.vals
 have hmp : (x.pats.map Pt.cells).length = x.pats.length := List.length_map ..
 have hcp := hMp Pt.cells x.pats
 generalize Rul.bound x = B at *
 clear ha ht hQ
 unfold Rl.cells at *
 generalize x.acts.map Ac.cells = AS at *
 generalize x.name = nm at *
 generalize x.sal = sal at *
 generalize x.pats.map Pt.cells = PS at *
 generalize x.pats = ps at *
 clear x
 unfold Rul.actB
 generalize Rul.slots L = SF at *
 generalize L.map Tm.cells = LS at *
 cases a with
 | mk kind pat tmpl slot vals =>
 unfold Ac.cells
 dsimp only at *
 generalize vals.map Ex.cells = ES at *
 by_cases k1 : kind = 1
 · subst k1
   rw [if_pos rfl]
   have hS1 := hS.out tmpl
   have hS2 := hSl.out tmpl
   have hS3 := Lib.hid (hSc.out tmpl)
   have hE1 := Lib.hid fun e he s hs => hE.out e he tmpl s hs
   clear hS hSl hSc hE
   generalize SF tmpl = sl at *
   generalize sl.map Sl.cells = SS at *
   replace hS1 := Lib.hid hS1
   by_cases h3 : sl.length = 0
   · have h4 : (sl.length : Int) = 0 := by omega
     rw [decide_eq_false (fun h => h h3), Bool.false_and, Bool.false_and, Bool.and_false]
     refine Qin [6] Tryz.func91 Tryz.results91 Tryz.ntmps91 ?_
     exact WR
   have b3 : ((sl.length : Int) == 0) = false := beq_eq_false_iff_ne.2 (by omega)
   by_cases h4 : vals.length = sl.length
   rotate_left
   · rw [decide_eq_false h4, Bool.and_false, Bool.false_and, Bool.and_false]
     have h5 : ¬ (sl.length : Int) = (vals.length : Int) := by omega
     refine Qin [6] Tryz.func91 Tryz.results91 Tryz.ntmps91 ?_
     exact WR
   rw [decide_eq_true h3, decide_eq_true h4, Bool.true_and, Bool.true_and]
   have h5 : (vals.length : Int) = (sl.length : Int) := by omega
   by_cases h1 : pat = 0
   rotate_left
   · have b1 : (pat == 0) = false := beq_eq_false_iff_ne.2 h1
     rw [b1, Bool.false_and, Bool.false_and]
     refine Qin [6] Tryz.func91 Tryz.results91 Tryz.ntmps91 ?_
     exact WR
   subst h1
   by_cases h2 : slot = 0
   rotate_left
   · have b2 : (slot == 0) = false := beq_eq_false_iff_ne.2 h2
     rw [b2, Bool.and_false, Bool.false_and]
     refine Qin [6] Tryz.func91 Tryz.results91 Tryz.ntmps91 ?_
     exact WR
   subst h2
   rw [beq_self_eq_true, Bool.true_and, Bool.true_and]
   obtain ⟨Q, hQ⟩ : ∃ Q, Rul.exprsB B vals sl = Q := ⟨_, rfl⟩
   rw [hQ]
   have HQ : Hid (Rul.exprsB B (vals.drop 0) (sl.drop 0) = Q) := hQ
   clear hQ
   refine Qin [6] Tryz.func91 Tryz.results91 Tryz.ntmps91 ?_
   repeat' (with_reducible first | refine Q1 ?_ | refine Qe ?_ | refine QQ ?_ | (refine al_go ?_; intro b) | (refine QD ?_ <;> (try constructor) <;> intro hb <;> try intro hb1) | fail)
   clear hS1
   refine tr_loopd (ι := Nat) (fun i A st' => i ≤ sl.length ∧ Hid (Rul.exprsB B (vals.drop i) (sl.drop i) = Q) ∧ A.df = [] ∧ A.e 4 = .ip [.str nm, .i sal, .sl .shared PS, .sl .shared AS] ∧ A.e 5 = .ip [.i 1, .i 0, .i tmpl, .i 0, .sl .shared ES] ∧ A.e 7 = .sl .shared SS ∧ A.e 8 = .i i ∧ st = st') (fun i => sl.length - i) 0 ⟨Nat.zero_le _, HQ, Qf, Qf, Qf, Qf, Qf, rfl⟩ ?_
   clear HQ
   rintro i A st' ⟨hi, HT, hdf, e4, e5, e7, e8, rfl⟩
   by_cases hlt : i < sl.length
   · obtain ⟨e, he⟩ := gEx (l := vals) (i := i) (by omega)
     obtain ⟨s, hs⟩ := gEx hlt
     have g1 := hc1.out i e he
     have g2 := hS3.out i s hs
     have hF := hE1.out e (List.mem_of_getElem? he) s (List.mem_of_getElem? hs)
     have HE := HT.out
     rw [Rul.exprsB_drop he hs] at HE
     clear HT he hs hE1 hc1 hS3 hcp
     obtain ⟨G, hGG⟩ : ∃ G, Rul.exprsB B (vals.drop (i + 1)) (sl.drop (i + 1)) = G := ⟨_, rfl⟩
     rw [hGG] at HE
     replace hGG := Lib.hid hGG
     generalize Rul.exprB B e s = q at *
     cases e with
     | mk iv var val =>
     cases s with
     | mk an at_ ar av =>
     cases val with
     | mk k1 n1 s1 l1 =>
     cases av with
     | mk k2 n2 s2 l2 =>
     rw [Ex.cells_mk] at g1 hF
     rw [Sl.cells_mk] at g2 hF
     replace hF := Lib.hid hF
     have hi5 : i < vals.length := by omega
     cases q with
     | true =>
      rw [Bool.true_and] at HE
      replace HE := Lib.hid (hGG.out.trans HE)
      clear hGG
      repeat' (first | (with_reducible first | refine Q1 ?_ | refine Qe ?_ | fail) | ((with_reducible refine w_drawRN ?_ ?_ ?_ ?_); (iterate 3 (focus kernel_rfl)); intro hne; simp only [nes, ne1, and_assoc] at hne; repeat (have hq := hne.1; replace hne := hne.2)) | (with_reducible first | refine QQ ?_ | (refine al_go ?_; intro b) | (refine QD ?_ <;> (try constructor) <;> intro hb <;> try intro hb1) | fail) | fail)
      refine ⟨i + 1, st, (by (repeat (first | exact List.Sublist.refl _ | apply List.Sublist.cons))), ⟨hlt, HE, ?_, ?_, ?_, ?_, ?_, rfl⟩, by omega⟩
      all_goals exact Qf
     | false =>
      rw [Bool.false_and] at HE
      subst HE
      clear hGG
      repeat' (first | (with_reducible first | refine Q1 ?_ | refine Qe ?_ | fail) | ((with_reducible refine w_drawRN ?_ ?_ ?_ ?_); (iterate 3 (focus kernel_rfl)); intro hne; simp only [nes, ne1, and_assoc] at hne; repeat (have hq := hne.1; replace hne := hne.2)) | (with_reducible first | refine QQ ?_ | (refine al_go ?_; intro b) | (refine QD ?_ <;> (try constructor) <;> intro hb <;> try intro hb1) | fail) | fail)
      all_goals exact Qret
   · have HE := HT.out
     rw [List.drop_of_length_le (by omega), Rul.exprsB] at HE
     · subst HE
       clear HT
       exact WR
     · intro _ _ _ _ h; cases h
 rw [if_neg k1]
 have b1 : (kind == 1) = false := beq_eq_false_iff_ne.2 k1
 by_cases k4 : kind = 4
 · subst k4
   rw [if_neg (by decide), if_neg (by decide), beq_self_eq_true, Bool.true_and]
   clear hS hSl hSc hE hc1 hcp
   by_cases h1 : tmpl = 0
   rotate_left
   · have c1 : (tmpl == 0) = false := beq_eq_false_iff_ne.2 h1
     rw [c1, Bool.false_and, Bool.and_false]
     refine Qin [6] Tryz.func91 Tryz.results91 Tryz.ntmps91 ?_
     exact WR
   subst h1
   by_cases h2 : pat = 0
   rotate_left
   · have c1 : (pat == 0) = false := beq_eq_false_iff_ne.2 h2
     rw [c1, Bool.false_and]
     refine Qin [6] Tryz.func91 Tryz.results91 Tryz.ntmps91 ?_
     exact WR
   subst h2
   by_cases h3 : slot = 0
   rotate_left
   · have c1 : (slot == 0) = false := beq_eq_false_iff_ne.2 h3
     rw [c1, Bool.false_and, Bool.and_false, Bool.and_false]
     refine Qin [6] Tryz.func91 Tryz.results91 Tryz.ntmps91 ?_
     exact WR
   subst h3
   rw [beq_self_eq_true, Bool.true_and, Bool.true_and, Bool.true_and]
   by_cases h4 : vals.length = 0
   · rw [decide_eq_true h4]
     have h5 : (vals.length : Int) = 0 := by omega
     refine Qin [6] Tryz.func91 Tryz.results91 Tryz.ntmps91 ?_
     exact WR
   · rw [decide_eq_false h4]
     have h5 : 0 < (vals.length : Int) := by omega
     refine Qin [6] Tryz.func91 Tryz.results91 Tryz.ntmps91 ?_
     exact WR
 have b4 : (kind == 4) = false := beq_eq_false_iff_ne.2 k4
 by_cases k23 : kind = 2 ∨ kind = 3
 rotate_left
 · rw [if_neg (by omega), if_neg (by omega), b4, Bool.false_and]
   clear hS hSl hSc hE hc1 hcp
   by_cases d1 : kind < 1
   · refine Qin [6] Tryz.func91 Tryz.results91 Tryz.ntmps91 ?_
     exact WR
   · have d2 : 4 < kind := by omega
     refine Qin [6] Tryz.func91 Tryz.results91 Tryz.ntmps91 ?_
     exact WR
 unfold Rul.posB
 by_cases h1 : tmpl = 0
 rotate_left
 · have c1 : (tmpl == 0) = false := beq_eq_false_iff_ne.2 h1
   clear hS hSl hSc hE hc1 hcp
   rw [c1, Bool.false_and, Bool.false_and, Bool.and_false, Bool.and_false, Bool.false_and]
   rcases k23 with rfl | rfl
   · rw [if_pos rfl]
     refine Qin [6] Tryz.func91 Tryz.results91 Tryz.ntmps91 ?_
     exact WR
   · rw [if_neg (by decide), if_pos rfl]
     refine Qin [6] Tryz.func91 Tryz.results91 Tryz.ntmps91 ?_
     exact WR
 subst h1
 rw [beq_self_eq_true, Bool.true_and, Bool.true_and]
 by_cases p1 : 0 ≤ pat ∧ pat < ps.length
 rotate_left
 · have e1 : (decide (0 ≤ pat) && decide (pat < ps.length)) = false := by
    rw [Bool.and_eq_false_iff, decide_eq_false_iff_not, decide_eq_false_iff_not]
    omega
   clear hS hSl hSc hE hc1 hcp
   rw [e1, Bool.false_and, Bool.false_and, Bool.false_and, Bool.false_and]
   by_cases d1 : pat < 0
   · rcases k23 with rfl | rfl
     · rw [if_pos rfl]
       refine Qin [6] Tryz.func91 Tryz.results91 Tryz.ntmps91 ?_
       exact WR
     · rw [if_neg (by decide), if_pos rfl]
       refine Qin [6] Tryz.func91 Tryz.results91 Tryz.ntmps91 ?_
       exact WR
   · have d2 : (ps.length : Int) ≤ pat := by omega
     rcases k23 with rfl | rfl
     · rw [if_pos rfl]
       refine Qin [6] Tryz.func91 Tryz.results91 Tryz.ntmps91 ?_
       exact WR
     · rw [if_neg (by decide), if_pos rfl]
       refine Qin [6] Tryz.func91 Tryz.results91 Tryz.ntmps91 ?_
       exact WR
 obtain ⟨p1, p2⟩ := p1
 rw [decide_eq_true p1, decide_eq_true p2, Bool.true_and, Bool.true_and]
 obtain ⟨n, rfl⟩ : ∃ n : Nat, (n : Int) = pat := ⟨pat.toNat, Int.toNat_of_nonneg p1⟩
 obtain ⟨p, hpn⟩ := gEx (l := ps) (i := n) (by omega)
 have hpc := hcp.out n p hpn
 rw [Int.toNat_natCast, hpn, Option.any_some]
 clear hpn hcp
 have hS1 := hS.out p.tmpl
 have hS2 := hSl.out p.tmpl
 have hS3 := Lib.hid (hSc.out p.tmpl)
 have hE1 := Lib.hid fun e he s hs => hE.out e he p.tmpl s hs
 clear hS hSl hSc hE
 obtain ⟨sl, hsE⟩ : ∃ sl, SF p.tmpl = sl := ⟨_, rfl⟩
 rw [hsE] at hS1 hS2 hS3 hE1
 replace hsE := Lib.hid hsE
 generalize sl.map Sl.cells = SS at *
 replace hS1 := Lib.hid hS1
 cases p with
 | mk ptm png pts =>
 unfold Pt.cells at hpc
 dsimp only at *
 generalize pts.map Ts.cells = TS at *
 cases png with
 | true =>
  clear hS1 hS3 hE1 hc1
  rw [Bool.not_true, Bool.false_and, Bool.false_and, Bool.false_and]
  rcases k23 with rfl | rfl
  · rw [if_pos rfl]
    refine Qin [6] Tryz.func91 Tryz.results91 Tryz.ntmps91 ?_
    exact WR
  · rw [if_neg (by decide), if_pos rfl]
    refine Qin [6] Tryz.func91 Tryz.results91 Tryz.ntmps91 ?_
    exact WR
 | false =>
 rw [Bool.not_false, Bool.true_and, Bool.true_and]
 rcases k23 with rfl | rfl
 · rw [if_pos rfl]
   clear hS1 hS3 hE1 hc1
   by_cases h3 : slot = 0
   rotate_left
   · have c1 : (slot == 0) = false := beq_eq_false_iff_ne.2 h3
     rw [c1, Bool.false_and]
     refine Qin [6] Tryz.func91 Tryz.results91 Tryz.ntmps91 ?_
     exact WR
   subst h3
   rw [beq_self_eq_true, Bool.true_and]
   by_cases h4 : vals.length = 0
   · rw [decide_eq_true h4]
     have h5 : (vals.length : Int) = 0 := by omega
     refine Qin [6] Tryz.func91 Tryz.results91 Tryz.ntmps91 ?_
     exact WR
   · rw [decide_eq_false h4]
     have h5 : ((vals.length : Int) == 0) = false := beq_eq_false_iff_ne.2 (by omega)
     refine Qin [6] Tryz.func91 Tryz.results91 Tryz.ntmps91 ?_
     exact WR
 · rw [if_neg (by decide), if_pos rfl]
   have hv1 : vals.length ≠ 1 ∨ ∃ e, vals = [e] := by
    by_cases h : vals.length = 1
    · exact .inr (List.length_eq_one_iff.1 h)
    · exact .inl h
   rcases hv1 with hv1 | ⟨e, rfl⟩
   · rw [decide_eq_false hv1, Bool.false_and]
     clear hS3 hE1 hc1
     have h5 : ((vals.length : Int) == 1) = false := beq_eq_false_iff_ne.2 (by omega)
     by_cases s0 : slot < 0
     · have d0 : decide (0 ≤ slot) = false := decide_eq_false (by omega)
       refine Qin [6] Tryz.func91 Tryz.results91 Tryz.ntmps91 ?_
       repeat' (first | (with_reducible first | refine Q1 ?_ | refine Qe ?_ | fail) | ((with_reducible refine w_drawRN ?_ ?_ ?_ ?_); (iterate 3 (focus kernel_rfl)); intro hne; simp only [nes, ne1, and_assoc] at hne; repeat (have hq := hne.1; replace hne := hne.2)) | (with_reducible first | refine QQ ?_ | (refine al_go ?_; intro b) | (refine QD ?_ <;> (try constructor) <;> intro hb <;> try intro hb1) | fail) | fail)
       all_goals exact Qret
     have d0 : decide (0 ≤ slot) = true := decide_eq_true (by omega)
     by_cases s1 : slot < sl.length
     · have d1 : decide (slot < (sl.length : Int)) = true := decide_eq_true s1
       refine Qin [6] Tryz.func91 Tryz.results91 Tryz.ntmps91 ?_
       repeat' (first | (with_reducible first | refine Q1 ?_ | refine Qe ?_ | fail) | ((with_reducible refine w_drawRN ?_ ?_ ?_ ?_); (iterate 3 (focus kernel_rfl)); intro hne; simp only [nes, ne1, and_assoc] at hne; repeat (have hq := hne.1; replace hne := hne.2)) | (with_reducible first | refine QQ ?_ | (refine al_go ?_; intro b) | (refine QD ?_ <;> (try constructor) <;> intro hb <;> try intro hb1) | fail) | fail)
       all_goals exact Qret
     · have d1 : decide (slot < (sl.length : Int)) = false := decide_eq_false s1
       refine Qin [6] Tryz.func91 Tryz.results91 Tryz.ntmps91 ?_
       repeat' (first | (with_reducible first | refine Q1 ?_ | refine Qe ?_ | fail) | ((with_reducible refine w_drawRN ?_ ?_ ?_ ?_); (iterate 3 (focus kernel_rfl)); intro hne; simp only [nes, ne1, and_assoc] at hne; repeat (have hq := hne.1; replace hne := hne.2)) | (with_reducible first | refine QQ ?_ | (refine al_go ?_; intro b) | (refine QD ?_ <;> (try constructor) <;> intro hb <;> try intro hb1) | fail) | fail)
       all_goals exact Qret
   rw [decide_eq_true (show [e].length = 1 from rfl), Bool.true_and]
   dsimp only
   rw [hsE.out]
   by_cases s0 : slot < 0
   · rw [decide_eq_false (show ¬ 0 ≤ slot by omega), Bool.false_and]
     clear hS3 hE1 hc1
     have d0 : decide (0 ≤ slot) = false := decide_eq_false (by omega)
     refine Qin [6] Tryz.func91 Tryz.results91 Tryz.ntmps91 ?_
     repeat' (first | (with_reducible first | refine Q1 ?_ | refine Qe ?_ | fail) | ((with_reducible refine w_drawRN ?_ ?_ ?_ ?_); (iterate 3 (focus kernel_rfl)); intro hne; simp only [nes, ne1, and_assoc] at hne; repeat (have hq := hne.1; replace hne := hne.2)) | (with_reducible first | refine QQ ?_ | (refine al_go ?_; intro b) | (refine QD ?_ <;> (try constructor) <;> intro hb <;> try intro hb1) | fail) | fail)
     all_goals exact Qret
   have d0 : decide (0 ≤ slot) = true := decide_eq_true (by omega)
   by_cases s1 : slot < sl.length
   rotate_left
   · rw [decide_eq_false s1, Bool.false_and, Bool.and_false]
     clear hS3 hE1 hc1
     have d1 : decide (slot < (sl.length : Int)) = false := decide_eq_false s1
     refine Qin [6] Tryz.func91 Tryz.results91 Tryz.ntmps91 ?_
     repeat' (first | (with_reducible first | refine Q1 ?_ | refine Qe ?_ | fail) | ((with_reducible refine w_drawRN ?_ ?_ ?_ ?_); (iterate 3 (focus kernel_rfl)); intro hne; simp only [nes, ne1, and_assoc] at hne; repeat (have hq := hne.1; replace hne := hne.2)) | (with_reducible first | refine QQ ?_ | (refine al_go ?_; intro b) | (refine QD ?_ <;> (try constructor) <;> intro hb <;> try intro hb1) | fail) | fail)
     all_goals exact Qret
   have d1 : decide (slot < (sl.length : Int)) = true := decide_eq_true s1
   obtain ⟨m, rfl⟩ : ∃ m : Nat, (m : Int) = slot := ⟨slot.toNat, Int.toNat_of_nonneg (by omega)⟩
   obtain ⟨s, hs⟩ := gEx (l := sl) (i := m) (by omega)
   have g1 := hc1.out 0 e rfl
   have g2 := hS3.out m s hs
   have hF := hE1.out e (List.mem_singleton.2 rfl) s (List.mem_of_getElem? hs)
   rw [d0, d1, Int.toNat_natCast, hs, Bool.true_and, Bool.true_and]
   clear hS3 hE1 hc1 hs
   dsimp only
   generalize Rul.exprB B e s = q at *
   cases e with
   | mk iv var val =>
   cases s with
   | mk an at_ ar av =>
   cases val with
   | mk k1 n1 s1 l1 =>
   cases av with
   | mk k2 n2 s2 l2 =>
   rw [Ex.cells_mk] at g1 hF
   rw [Sl.cells_mk] at g2 hF
   replace hF := Lib.hid hF
   have hm3 : m < sl.length := by omega
   have hn3 : n < ps.length := by omega
   have hm5 : ES.length = 1 := hm1
   refine Qin [6] Tryz.func91 Tryz.results91 Tryz.ntmps91 ?_
   repeat' (first | (with_reducible first | refine Q1 ?_ | refine Qe ?_ | fail) | ((with_reducible refine w_drawRN ?_ ?_ ?_ ?_); (iterate 3 (focus kernel_rfl)); intro hne; simp only [nes, ne1, and_assoc] at hne; repeat (have hq := hne.1; replace hne := hne.2)) | (with_reducible first | refine QQ ?_ | (refine al_go ?_; intro b) | (refine QD ?_ <;> (try constructor) <;> intro hb <;> try intro hb1) | fail) | fail)
   all_goals exact Qret
namespace Rul
def headR (x : Rl) : Bool := V.isName x.name.data.toList && ((decide (-100 ≤ x.sal) && decide (x.sal ≤ 100)) && decide (x.acts.length ≤ 4))
theorem oneB_ref (L : List Tm) (x : Rl) : oneB L x = (headR x && (patsB L x && x.acts.all fun a => actB L x.pats (bound x) a)) := by
 unfold oneB headB headR patsB
 by_cases h : (patsF L x.pats []).1 = true
 · have h2 := (patsF_bind (L := L) x.pats [] List.nodup_nil h).1
   rw [List.nil_append] at h2
   rw [h, h2]
   unfold bound
   generalize V.isName _ = a
   generalize (decide (-100 ≤ x.sal) && decide (x.sal ≤ 100)) = b
   generalize (decide (1 ≤ x.pats.length) && decide (x.pats.length ≤ 4)) = c
   generalize (!Option.any Pt.neg _) = d
   generalize decide (x.acts.length ≤ 4) = e
   generalize (x.acts.all fun a => actB L x.pats (bindP x.pats) a) = f
   cases a <;> cases b <;> cases c <;> cases d <;> cases e <;> cases f <;> rfl
 · rw [Bool.not_eq_true] at h
   rw [h, Bool.false_and, Bool.and_false, Bool.false_and, Bool.false_and, Bool.and_false]
theorem all_drop {α : Type} {p : α → Bool} {l : List α} {i : Nat} {x : α} (h : l[i]? = some x) : (l.drop i).all p = (p x && (l.drop (i + 1)).all p) := by
 obtain ⟨h1, rfl⟩ := List.getElem?_eq_some_iff.1 h
 rw [List.drop_eq_getElem_cons h1, List.all_cons]
theorem any_dropR {α : Type} {p : α → Bool} {l : List α} {i : Nat} {x : α} (h : l[i]? = some x) : (l.drop i).any p = (p x || (l.drop (i + 1)).any p) := by
 obtain ⟨h1, rfl⟩ := List.getElem?_eq_some_iff.1 h
 rw [List.drop_eq_getElem_cons h1, List.any_cons]
end Rul
theorem ref17RightF (L : List Tm) (hQ : ∀ t ∈ L, TQ t) (hl : L.length ≤ 1000000) (R : List Rl) (hR : ∀ x ∈ R, Rul.RK x) (hRl : R.length ≤ 1000000) (st : St) : TrF Tryz.prog 35 [.sl .shared (L.map Tm.cells), .sl .shared (R.map Rl.cells)] st fun d st' => d = .b (Rul.right L R) ∧ st' = st := by
 have hReg := ref13RightF L hQ hl
 have hP := Lib.hid fun (x : Rl) (h : x ∈ R) => ref17PatsF L hQ hl x (hR x h)
 have hA := Lib.hid fun (x : Rl) (h : x ∈ R) (a : Ac) (ha : a ∈ x.acts) => ref17ActF L hQ hl x (by have := (hR x h).np; omega) (fun p hp => by have := (hR x h).nt p hp; omega) a ((hR x h).va a ha) (by have := (hR x h).nv a ha; omega)
 have hN := Lib.hid fun (x : Rl) => refIsNameF x.name
 have hOne := Lib.hid fun (x : Rl) => Rul.oneB_ref L x
 have hal := Lib.hid fun (x : Rl) (h : x ∈ R) => (hR x h).na
 have hm : (R.map Rl.cells).length = R.length := List.length_map ..
 have hc := hMp Rl.cells R
 unfold Rul.right
 clear hR hQ
 generalize L.map Tm.cells = LS at *
 generalize R.map Rl.cells = RS at *
 cases hq : Reg.right L with
 | false =>
  rw [hq] at hReg
  rw [Bool.false_and]
  replace hReg := Lib.hid hReg
  refine Qin [4] Tryz.func35 Tryz.results35 Tryz.ntmps35 ?_
  exact WR
 | true =>
 rw [hq] at hReg
 rw [Bool.true_and]
 replace hReg := Lib.hid hReg
 by_cases h8 : 8 < (R.length : Int)
 · rw [decide_eq_false (show ¬ R.length ≤ 8 by omega), Bool.false_and]
   refine Qin [4] Tryz.func35 Tryz.results35 Tryz.ntmps35 ?_
   exact WR
 rw [decide_eq_true (show R.length ≤ 8 by omega), Bool.true_and]
 obtain ⟨Q, hQ⟩ : ∃ Q, Rul.rightL L R R 0 = Q := ⟨_, rfl⟩
 rw [hQ]
 have HQ : Hid (Rul.rightL L R (R.drop 0) 0 = Q) := hQ
 clear hQ
 refine Qin [4] Tryz.func35 Tryz.results35 Tryz.ntmps35 ?_
 repeat' (with_reducible first | refine Q1 ?_ | refine Qe ?_ | refine QQ ?_ | (refine al_go ?_; intro b) | (refine QD ?_ <;> (try constructor) <;> intro hb <;> try intro hb1) | fail)
 clear hReg
 refine tr_loopd (ι := Nat) (fun i A st' => i ≤ R.length ∧ Hid (Rul.rightL L R (R.drop i) i = Q) ∧ A.df = [] ∧ A.e 0 = .sl .shared LS ∧ A.e 1 = .sl .shared RS ∧ A.e 5 = .i i ∧ st = st') (fun i => R.length - i) 0 ⟨Nat.zero_le _, HQ, Qf, Qf, Qf, Qf, rfl⟩ ?_
 rintro i A st' ⟨hi, HT, hdf, e0, e1, e5, rfl⟩
 clear HQ
 by_cases hlt : ¬ i < R.length
 · have HE := HT.out
   rw [List.drop_of_length_le (by omega), Rul.rightL] at HE
   subst HE
   clear HT hP hA hN hOne hal hc
   exact WR
 rw [Classical.not_not] at hlt
 obtain ⟨x, hx⟩ := gEx hlt
 have h1 := hc.out i x hx
 have hxm := List.mem_of_getElem? hx
 have hPx := hP.out x hxm
 have hAx := Lib.hid (hA.out x hxm)
 have hNx := hN.out x
 have halx := hal.out x hxm
 have HE := HT.out
 rw [Rul.rightL_drop hx, hOne.out x] at HE
 clear HT hP hA hN hOne hal hxm hx
 obtain ⟨G, hGG⟩ : ∃ G, Rul.rightL L R (R.drop (i + 1)) (i + 1) = G := ⟨_, rfl⟩
 rw [hGG] at HE
 replace hGG := Lib.hid hGG
 obtain ⟨N, hNN⟩ : ∃ N, ((R.take i).any fun y => y.name.toList == x.name.toList) = N := ⟨_, rfl⟩
 rw [hNN] at HE
 have HN : Hid (((R.take i).drop 0).any (fun y => y.name.toList == x.name.toList) = N) := hNN
 clear hNN
 unfold Rul.headR at HE
 obtain ⟨F, hFF⟩ : ∃ F, (x.acts.all fun a => Rul.actB L x.pats (Rul.bound x) a) = F := ⟨_, rfl⟩
 rw [hFF] at HE
 have HF : Hid ((x.acts.drop 0).all (fun a => Rul.actB L x.pats (Rul.bound x) a) = F) := hFF
 clear hFF
 have hma : (x.acts.map Ac.cells).length = x.acts.length := List.length_map ..
 have hca := hMp Ac.cells x.acts
 generalize Rul.patsB L x = qp at *
 obtain ⟨f, hf⟩ : ∃ f, (fun a => Rul.actB L x.pats (Rul.bound x) a) = f := ⟨_, rfl⟩
 rw [hf] at HF
 have hf2 : ∀ a, Rul.actB L x.pats (Rul.bound x) a = f a := fun a => by rw [← hf]
 replace hAx : Hid (∀ a ∈ x.acts, ∀ st, TrF Tryz.prog 91 [.sl .shared LS, .agg x.cells, .agg a.cells] st fun d st' => d = .b (f a) ∧ st' = st) := Lib.hid fun a ha st => by rw [← hf2]; exact hAx.out a ha st
 clear hf hf2
 unfold Rl.cells at h1 hPx hAx
 generalize x.pats.map Pt.cells = PS at *
 generalize x.acts.map Ac.cells = AS at *
 generalize x.acts = acts at *
 generalize x.name = nm at *
 generalize x.sal = sal at *
 clear x
 generalize V.isName nm.data.toList = qn at *
 replace hPx := Lib.hid hPx
 replace hNx := Lib.hid hNx
 have hbad : (qn = false ∨ sal < -100 ∨ 100 < sal ∨ 4 < (acts.length : Int) ∨ qp = false) → Q = false := fun h => by
  rw [← HE]
  rcases h with h | h | h | h | h
  · rw [h]; rfl
  · rw [decide_eq_false (show ¬ -100 ≤ sal by omega)]; simp
  · rw [decide_eq_false (show ¬ sal ≤ 100 by omega)]; simp
  · rw [decide_eq_false (show ¬ acts.length ≤ 4 by omega)]; simp
  · rw [h]; simp
 cases qn with
 | false =>
  obtain rfl := hbad (.inl rfl)
  clear hbad HE HN HF hAx hca hGG hc
  exact WR
 | true =>
 by_cases s1 : sal < -100
 · obtain rfl := hbad (.inr (.inl s1))
   clear hbad HE HN HF hAx hca hGG hc
   exact WR
 by_cases s2 : 100 < sal
 · obtain rfl := hbad (.inr (.inr (.inl s2)))
   clear hbad HE HN HF hAx hca hGG hc
   exact WR
 by_cases s3 : 4 < (acts.length : Int)
 · obtain rfl := hbad (.inr (.inr (.inr (.inl s3))))
   clear hbad HE HN HF hAx hca hGG hc
   exact WR
 cases qp with
 | false =>
  obtain rfl := hbad (.inr (.inr (.inr (.inr rfl))))
  clear hbad HE HN HF hAx hca hGG hc
  exact WR
 | true =>
 clear hbad
 rw [decide_eq_true (show -100 ≤ sal by omega), decide_eq_true (show sal ≤ 100 by omega), decide_eq_true (show acts.length ≤ 4 by omega), Bool.true_and, Bool.true_and, Bool.true_and, Bool.true_and, Bool.true_and] at HE
 replace HE := Lib.hid HE
 repeat' (with_reducible first | refine Q1 ?_ | refine Qe ?_ | refine QQ ?_ | (refine al_go ?_; intro b) | (refine QD ?_ <;> (try constructor) <;> intro hb <;> try intro hb1) | fail)
 clear hNx hPx
 refine tr_loopd (ι := Nat) (fun k A st' => k ≤ acts.length ∧ Hid ((acts.drop k).all f = F) ∧ A.df = [] ∧ A.e 0 = .sl .shared LS ∧ A.e 1 = .sl .shared RS ∧ A.e 5 = .i i ∧ A.e 6 = .ptr b 0 ∧ A.e 7 = .i k ∧ st' = .box b 55 [.str nm, .i sal, .sl .shared PS, .sl .shared AS] :: st) (fun k => acts.length - k) 0 ⟨Nat.zero_le _, HF, Qf, Qf, Qf, Qf, Qf, Qf, rfl⟩ ?_
 clear HF e0 e1 e5 hdf A
 rintro k A st' ⟨hk, HF, hdf, e0, e1, e5, e6, e7, rfl⟩
 by_cases hkl : k < acts.length
 · obtain ⟨a, ha⟩ := gEx hkl
   have g1 := hca.out k a ha
   have hF := hAx.out a (List.mem_of_getElem? ha)
   have HG := HF.out
   rw [Rul.all_drop ha] at HG
   clear HF ha hca hAx hc HN hGG
   obtain ⟨F2, hF2⟩ : ∃ F2, (acts.drop (k + 1)).all f = F2 := ⟨_, rfl⟩
   rw [hF2] at HG
   replace hF2 := Lib.hid hF2
   generalize f a = qa at *
   unfold Ac.cells at g1 hF
   generalize a.vals.map Ex.cells = ES at *
   generalize a.kind = ak at *
   generalize a.pat = ap at *
   generalize a.tmpl = at_ at *
   generalize a.slot = as_ at *
   replace hF := Lib.hid hF
   cases qa with
   | false =>
    rw [Bool.false_and] at HG
    subst HG
    have : Q = false := by rw [← HE.out]; rfl
    subst this
    clear HE hF2
    repeat' (first | (with_reducible first | refine Q1 ?_ | refine Qe ?_ | fail) | ((with_reducible refine w_drawRN ?_ ?_ ?_ ?_); (iterate 3 (focus kernel_rfl)); intro hne; simp only [nes, ne1, and_assoc] at hne; repeat (have hq := hne.1; replace hne := hne.2)) | (with_reducible first | refine QQ ?_ | (refine al_go ?_; intro b) | (refine QD ?_ <;> (try constructor) <;> intro hb <;> try intro hb1) | fail) | fail)
    all_goals exact Qret
   | true =>
    rw [Bool.true_and] at HG
    replace HG := Lib.hid (hF2.out.trans HG)
    clear hF2 HE
    repeat' (first | (with_reducible first | refine Q1 ?_ | refine Qe ?_ | fail) | ((with_reducible refine w_drawRN ?_ ?_ ?_ ?_); (iterate 3 (focus kernel_rfl)); intro hne; simp only [nes, ne1, and_assoc] at hne; repeat (have hq := hne.1; replace hne := hne.2)) | (with_reducible first | refine QQ ?_ | (refine al_go ?_; intro b) | (refine QD ?_ <;> (try constructor) <;> intro hb <;> try intro hb1) | fail) | fail)
    refine ⟨k + 1, .box b 55 [.str nm, .i sal, .sl .shared PS, .sl .shared AS] :: st, (by (repeat (first | exact List.Sublist.refl _ | apply List.Sublist.cons))), ⟨hkl, HG, ?_, ?_, ?_, ?_, ?_, ?_, rfl⟩, by omega⟩
    all_goals exact Qf
 obtain rfl : k = acts.length := by omega
 have HG := HF.out
 rw [List.drop_length, List.all_nil] at HG
 subst HG
 clear HF hAx hca
 have HE2 := HE.out
 rw [Bool.true_and] at HE2
 replace HE2 := Lib.hid HE2
 clear HE
 repeat' (with_reducible first | refine Q1 ?_ | refine Qe ?_ | refine QQ ?_ | (refine al_go ?_; intro b) | (refine QD ?_ <;> (try constructor) <;> intro hb <;> try intro hb1) | fail)
 refine tr_loopd (ι := Nat) (fun m A st' => m ≤ i ∧ Hid (((R.take i).drop m).any (fun y => y.name.toList == nm.toList) = N) ∧ A.df = [] ∧ A.e 0 = .sl .shared LS ∧ A.e 1 = .sl .shared RS ∧ A.e 5 = .i i ∧ A.e 6 = .ptr b 0 ∧ A.e 8 = .i m ∧ st' = .box b 55 [.str nm, .i sal, .sl .shared PS, .sl .shared AS] :: st) (fun m => i - m) 0 ⟨Nat.zero_le _, HN, Qf, Qf, Qf, Qf, Qf, Qf, rfl⟩ ?_
 clear HN e0 e1 e5 e6 e7 hdf A
 rintro m A st' ⟨hm2, HN, hdf, e0, e1, e5, e6, e8, rfl⟩
 by_cases hml : m < i
 · obtain ⟨y, hy⟩ := gEx (l := R) (i := m) (by omega)
   have g1 := hc.out m y hy
   have HG := HN.out
   rw [Rul.any_dropR (show (R.take i)[m]? = some y by rw [List.getElem?_take, if_pos hml, hy])] at HG
   clear HN hy hc
   obtain ⟨N2, hN2⟩ : ∃ N2, (((R.take i).drop (m + 1)).any (fun y => y.name.toList == nm.toList)) = N2 := ⟨_, rfl⟩
   rw [hN2] at HG
   replace hN2 := Lib.hid hN2
   unfold Rl.cells at g1
   generalize y.pats.map Pt.cells = PS2 at *
   generalize y.acts.map Ac.cells = AS2 at *
   generalize y.name = nm2 at *
   generalize y.sal = sal2 at *
   cases hqy : (nm2.toList == nm.toList) with
   | true =>
    rw [hqy, Bool.true_or] at HG
    subst HG
    have : Q = false := by rw [← HE2.out]; rfl
    subst this
    clear HE2 hN2 hGG
    repeat' (first | (with_reducible first | refine Q1 ?_ | refine Qe ?_ | fail) | ((with_reducible refine w_drawRN ?_ ?_ ?_ ?_); (iterate 3 (focus kernel_rfl)); intro hne; simp only [nes, ne1, and_assoc] at hne; repeat (have hq := hne.1; replace hne := hne.2)) | (with_reducible first | refine QQ ?_ | (refine al_go ?_; intro b) | (refine QD ?_ <;> (try constructor) <;> intro hb <;> try intro hb1) | fail) | fail | fail)
    all_goals exact Qret
   | false =>
    rw [hqy, Bool.false_or] at HG
    replace HG := Lib.hid (hN2.out.trans HG)
    clear HE2 hN2 hGG
    repeat' (first | (with_reducible first | refine Q1 ?_ | refine Qe ?_ | fail) | ((with_reducible refine w_drawRN ?_ ?_ ?_ ?_); (iterate 3 (focus kernel_rfl)); intro hne; simp only [nes, ne1, and_assoc] at hne; repeat (have hq := hne.1; replace hne := hne.2)) | (with_reducible first | refine QQ ?_ | (refine al_go ?_; intro b) | (refine QD ?_ <;> (try constructor) <;> intro hb <;> try intro hb1) | fail) | fail | fail)
    refine ⟨m + 1, .box b 55 [.str nm, .i sal, .sl .shared PS, .sl .shared AS] :: st, (by (repeat (first | exact List.Sublist.refl _ | apply List.Sublist.cons))), ⟨hml, HG, ?_, ?_, ?_, ?_, ?_, ?_, rfl⟩, by omega⟩
    all_goals exact Qf
 obtain rfl : m = i := by omega
 have HG := HN.out
 rw [List.drop_of_length_le (by rw [List.length_take]; omega), List.any_nil] at HG
 subst HG
 have HF2 : Hid (Rul.rightL L R (R.drop (m + 1)) (m + 1) = Q) := Lib.hid (by rw [hGG.out, ← HE2.out]; rfl)
 clear HN HE2 hGG hc
 repeat' (with_reducible first | refine Q1 ?_ | refine Qe ?_ | refine QQ ?_ | (refine al_go ?_; intro b) | (refine QD ?_ <;> (try constructor) <;> intro hb <;> try intro hb1) | fail)
 refine ⟨m + 1, st, (by (repeat (first | exact List.Sublist.refl _ | apply List.Sublist.cons))), ⟨hlt, HF2, ?_, ?_, ?_, ?_, rfl⟩, by omega⟩
 all_goals exact Qf
end Go.Proofs.YtgcienlfpnpbgaaGreat
end
section
namespace Go.Proofs.YtgcienlfpnpbgaaGreat
set_option linter.unusedSimpArgs false
attribute [local push_cast] encB encI encC V.cells_mk V.cells_len Nat.mul_one Int.sub_zero List.map_nil beq_self_eq_true bne_self_eq_false List.head?_cons
open Go.RowKit
set_option maxRecDepth 10000
set_option maxHeartbeats 8000000
end Go.Proofs.YtgcienlfpnpbgaaGreat
end
section
namespace Go.Proofs.YtgcienlfpnpbgaaGreat
attribute [local push_cast] encB encI encC V.cells_mk V.cells_len Nat.mul_one Int.sub_zero List.map_nil beq_self_eq_true bne_self_eq_false List.head?_cons
open Go.RowKit
set_option maxHeartbeats 8000000
set_option maxRecDepth 10000
structure Reg.TmR (t : Tm) : Prop where
 ls : t.slots.length ≤ 1000000
 lt : t.steps.length ≤ 1000000
 os : ∀ s ∈ t.slots, s.dv.Ok
 ot : ∀ s ∈ t.steps, s.slot.dv.Ok
end Go.Proofs.YtgcienlfpnpbgaaGreat
end
section
namespace Go.Proofs.YtgcienlfpnpbgaaGreat
attribute [local push_cast] encB encI encC V.cells_mk V.cells_len Nat.mul_one Int.sub_zero List.map_nil beq_self_eq_true bne_self_eq_false List.head?_cons
open Go.RowKit B
set_option maxHeartbeats 8000000
set_option maxRecDepth 10000
namespace Reg
structure KnR (t : Tm) : Prop where
 q : TQ t
 r : TmR t
theorem not_greatR {L : List Tm} (hw : ∀ t ∈ L, t.Wf) (h : great L = false) : ∀ t ∈ L, KnR t := by
 unfold great at h
 rw [Bool.or_eq_false_iff, decide_eq_false_iff_not, List.any_eq_false] at h
 intro t ht
 have hg : Sch.great t = false := by
  have := h.2 t ht
  cases hq : Sch.great t with
  | false => rfl
  | true => exact absurd hq this
 obtain ⟨hT, hs, hp, -, hl1, hl2⟩ := not_great10 (hw t ht) hg
 exact ⟨⟨by omega, by omega, fun s h => ⟨⟨(hs s h).2.2.2.2.2, (hs s h).1, by have := (hs s h).2.1; omega⟩, (hs s h).2.2.2.2.1⟩, fun s h => ⟨⟨(hp s h).2.2.2.1.2.2, (hp s h).1, by have := (hp s h).2.1; omega⟩, (hp s h).2.2.2.1.2.1, by have := (hp s h).2.2.2.2; omega⟩⟩, ⟨by omega, by omega, fun s h => (hs s h).2.2.2.2.2, fun s h => (hp s h).2.2.2.1.2.2⟩⟩
end Reg
end Go.Proofs.YtgcienlfpnpbgaaGreat
end
