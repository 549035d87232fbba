/- The walk of the statement RuleReads. -/
import Derived.Test.YtgcienlfpnpbgaaGreatZ12
set_option linter.all false
set_option maxRecDepth 10000
set_option maxHeartbeats 8000000
namespace Go.Proofs.YtgcienlfpnpbgaaGreat
open Go.RowKit
section
attribute [local push_cast] encB encI TS.cells V.cells_mk V.cells_len Nat.mul_one Int.sub_zero List.map_nil beq_self_eq_true bne_self_eq_false List.head?_cons
open Go.RowKit B
set_option maxHeartbeats 16000000
theorem ref17SameF (R : List Rl) (hR : ∀ x ∈ R, Rul.RK x ∧ (-9223372036854775808 ≤ x.sal ∧ x.sal ≤ 9223372036854775807)) (hl : R.length ≤ 1000) (hp : (Rul.put R).length ≤ 10000000000000) (st : St) : TrF Tryz.prog 47 [.sl .shared (R.map Rl.cells), .sl .shared (R.map Rl.cells)] st fun d st' => d = .b true ∧ st' = st := by
 have hP := ref17PutF R hR hl
 clear hR hl
 have hm : ((Rul.put R).map encB).length = (Rul.put R).length := List.length_map ..
 have hc : Hid (∀ (i : Nat) (x : UInt8), (Rul.put R)[i]? = some x → ((Rul.put R).map encB)[i]? = some [.y x]) := fun i x h => by rw [List.getElem?_map, h]; rfl
 generalize Rul.put R = b at *
 generalize b.map encB = PB at *
 generalize R.map Rl.cells = RS' at *
 replace hP := Lib.hid hP
 refine Qin [4] Tryz.func47 Tryz.results47 Tryz.ntmps47 ?_
 repeat' (first | refine QX ?_ | (refine QB ?_; intro b) | (with_reducible refine QZ ?_ <;> (try constructor) <;> intro hb <;> try intro hb1) | fail)
 clear hP
 refine tr_loopd (ι := Nat) (fun i A st' => i ≤ b.length ∧ A.df = [] ∧ A.e 5 = .sl .shared PB ∧ A.e 6 = .sl .shared PB ∧ A.e 7 = .i i ∧ st = st') (fun i => b.length - i) 0 ⟨Nat.zero_le _, Qf, Qf, Qf, Qf, rfl⟩ ?_
 rintro i A st' ⟨hi, hdf, e5, e6, e7, rfl⟩
 by_cases hlt : i < b.length
 · obtain ⟨x, hx⟩ := gEx hlt
   have g1 := hc.out i x hx
   unfold D.y at g1
   clear hc hx
   repeat' (first | refine QV ?_ | ((with_reducible refine QW ?_); intro hne; simp only [nes, ne1, and_assoc] at hne; repeat (have hq := hne.1; replace hne := hne.2)) | refine QY ?_ | (refine QB ?_; intro b) | (with_reducible refine QZ ?_ <;> (try constructor) <;> intro hb <;> try intro hb1) | fail)
   refine ⟨i + 1, st, q_u, ⟨hlt, ?_, ?_, ?_, ?_, rfl⟩, by omega⟩
   all_goals exact Qf
 · clear hc
   exact WR
namespace Rul
theorem start_sim {b : List UInt8} (h : b.length ≤ 1000000) : Sim (⟨.shared, b, false⟩ : RS) (⟨.shared, b, 0, false⟩ : TS) := ⟨⟨Nat.zero_le _, h⟩, rfl, rfl⟩
theorem put_small {R : List Rl} (hR : ∀ x ∈ R, RK x) (h8 : R.length ≤ 8) (hg : ∀ x ∈ R, RlG x) : (put R).length ≤ 10000000000000 := by
 rw [put_eq hg]
 have := listW_len rlW 411103000 R fun x hx => rlW_len x (hR x hx)
 omega
theorem read_right {L : List Tm} {s : RS} {R : List Rl} (h : (read L s).1 = some R) : right L R = true ∧ R = (glist rlG 9 (s, true)).1 := by
 unfold read at h
 dsimp only at h
 split at h
 · cases h
 · rename_i hq
   cases h
   refine ⟨?_, rfl⟩
   cases hr : right L (glist rlG 9 (s, true)).1 with
   | true => rfl
   | false => exact absurd (.inr (.inr hr)) hq
end Rul
theorem ruleReadsLaw (L : List Tm) (b : List UInt8) (hwL : ∀ t ∈ L, t.Wf) (hlL : L.length ≤ maxLen) (hb : b.length ≤ maxLen) (st : St) : TrF Tryz.prog 13 [.sl .shared (L.map Tm.cells), .sl .shared (b.map encB)] st fun d st' => d = .b true ∧ st' = st := by
 have hA := Lib.hid rul17AliveF
 have hG := refGreat13F L hwL hlL
 have hm : (b.map encB).length = b.length := List.length_map ..
 unfold maxLen at hb
 cases hg : Reg.great L with
 | true =>
  rw [hg] at hG
  clear hwL hlL
  generalize L.map Tm.cells = LS at *
  generalize b.map encB = PB at *
  replace hG := Lib.hid hG
  refine Qin [4] Tryz.func13 Tryz.results13 Tryz.ntmps13 ?_
  exact WR
 | false =>
 rw [hg] at hG
 by_cases hbig : 2000 < b.length
 · clear hwL hlL
   generalize L.map Tm.cells = LS at *
   generalize b.map encB = PB at *
   replace hG := Lib.hid hG
   refine Qin [4] Tryz.func13 Tryz.results13 Tryz.ntmps13 ?_
   exact WR
 obtain ⟨h12, hk⟩ := Reg.not_great hwL hg
 have hkr0 := Reg.not_greatR hwL hg
 have hb2 : b.length ≤ 900000 := by omega
 have hss := Rul.start_sim (b := b) q_o
 obtain ⟨hkn, hk9⟩ := Rul.read_known (s := ⟨.shared, b, false⟩) hb2
 have hBR := binRead2F .shared b q_o
 have hRd := fun rb => ruleReadF L (fun t h => (hk t h).ok) q_o rb ⟨.shared, b, false⟩ (fun x h => (hkn x h).1) q_o
 have hok : TS.Ok ⟨.shared, b, 0, false⟩ := hss.1
 have hQ : (Reg.tlist Rul.rlT 9 ⟨.shared, b, 0, false⟩).2.bad = false → ∀ x ∈ (Reg.tlist Rul.rlT 9 ⟨.shared, b, 0, false⟩).1, Rul.RK x := fun hb x hx => by
  rcases (Rul.simG_list Rul.simG_rl 9).sim (_, true) _ hss rfl with ⟨h1, -⟩ | ⟨h1, -⟩
  · rw [← h1] at hx; exact (hkn x hx).1
  · rw [h1] at hb; cases hb
 have hok2 : (Rul.readT L ⟨.shared, b, 0, false⟩).2.Ok := by
  have := (Reg.stk_tlist Rul.simG_rl.stk 9 _ hok).1
  unfold Rul.readT
  split <;> exact this
 have hRd2 : ∀ (tb : Nat) (st : St), TrF Tryz.prog 46 [.ptr tb 0, .sl .shared (L.map Tm.cells)] (.box tb 42 [.sl .shared (b.map encB), .i 0, .b false] :: st) fun x st' => x = .tup [.sl .shared (((Rul.readT L ⟨.shared, b, 0, false⟩).1.getD []).map Rl.cells), .b (Rul.readT L ⟨.shared, b, 0, false⟩).1.isSome] ∧ st' = rfR tb (Rul.readT L ⟨.shared, b, 0, false⟩).2 :: st := fun tb st => ref17ReadF L (fun t h => (hkr0 t h).q) q_o tb ⟨.shared, b, 0, false⟩ hok hQ st
 have hLf := fun rb => rdLeftF rb (Rul.read L ⟨.shared, b, false⟩).2
 have hLf2 := fun tb => rfLeftF tb _ hok2
 obtain ⟨h1, h2⟩ := Rul.read_sim L hss
 have hkR : (∀ x ∈ (Rul.read L ⟨.shared, b, false⟩).1.getD [], Rul.RK x ∧ (-9223372036854775808 ≤ x.sal ∧ x.sal ≤ 9223372036854775807)) ∧ ((Rul.read L ⟨.shared, b, false⟩).1.getD []).length ≤ 8 ∧ ∀ x ∈ (Rul.read L ⟨.shared, b, false⟩).1.getD [], Rul.RlG x := by
  cases hq : (Rul.read L ⟨.shared, b, false⟩).1 with
  | none => exact ⟨(fun x h => by cases h), Nat.zero_le _, fun x h => by cases h⟩
  | some R =>
   obtain ⟨q1, q2⟩ := Rul.read_right hq
   rw [← q2] at hkn
   have q3 := Rul.right_good (fun x h => (hkn x h).1) q1
   exact ⟨hkn, q3.1, q3.2⟩
 have hS := ref17SameF _ hkR.1 q_o (Rul.put_small (fun x h => (hkR.1 x h).1) hkR.2.1 hkR.2.2)
 have hlf : (Rul.read L ⟨.shared, b, false⟩).1.isSome = true → (Rul.read L ⟨.shared, b, false⟩).2.l.length = (if (Rul.readT L ⟨.shared, b, 0, false⟩).2.bad = true then 0 else (Rul.readT L ⟨.shared, b, 0, false⟩).2.left : Nat) := fun h => sim_left (h2 h)
 rw [← h1] at hRd2
 clear h1 h2 hkR hok hok2 hQ hkn hk9 hss hk hkr0 hwL hlL hg
 generalize (if (Rul.readT L ⟨.shared, b, 0, false⟩).2.bad = true then 0 else (Rul.readT L ⟨.shared, b, 0, false⟩).2.left : Nat) = LF at *
 generalize (Rul.readT L ⟨.shared, b, 0, false⟩).2 = T2 at *
 generalize Rul.read L ⟨.shared, b, false⟩ = q at *
 obtain ⟨M, s2⟩ := q
 dsimp only at *
 generalize (M.getD []).map Rl.cells = MC at *
 generalize M.isSome = ms at *
 generalize s2.l.length = ll at *
 generalize L.map Tm.cells = LS at *
 replace hG := Lib.hid hG
 replace hBR := Lib.hid hBR
 replace hRd := Lib.hid hRd
 replace hRd2 := Lib.hid hRd2
 replace hLf := Lib.hid hLf
 replace hLf2 := Lib.hid hLf2
 replace hS := Lib.hid hS
 cases ms with
 | false =>
  clear hlf
  refine Qin [4] Tryz.func13 Tryz.results13 Tryz.ntmps13 ?_
  repeat' (first | with_reducible refine s_boxP ?_ | refine QX ?_ | (refine QB ?_; intro b) | (with_reducible refine QZ ?_ <;> (try constructor) <;> intro hb <;> try intro hb1) | (refine QN Tryz.call27 (hBR.out _) ?_; intro rb) | refine QR Tryz.call44 ((hRd.out _)) ?_ | refine QR Tryz.call46 ((hRd2.out _)) ?_ | fail)
  all_goals exact Qret
 | true =>
  have hlf2 := hlf rfl
  subst hlf2
  clear hlf
  refine Qin [4] Tryz.func13 Tryz.results13 Tryz.ntmps13 ?_
  repeat' (first | with_reducible refine s_boxP ?_ | refine QX ?_ | (refine QB ?_; intro b) | (with_reducible refine QZ ?_ <;> (try constructor) <;> intro hb <;> try intro hb1) | (refine QN Tryz.call27 (hBR.out _) ?_; intro rb) | refine QR Tryz.call44 ((hRd.out _)) ?_ | refine QR Tryz.call46 ((hRd2.out _)) ?_ | refine QR Tryz.call30 ((hLf.out _)) ?_ | refine QR Tryz.call31 ((hLf2.out _)) ?_ | fail)
  all_goals exact Qret
end
end Go.Proofs.YtgcienlfpnpbgaaGreat
