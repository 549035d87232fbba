/- The walk of the statement RegistryGets. -/
import Derived.Test.YtgcienlfpnpbgaaGreatZ6
set_option linter.all false
section
namespace Go.Proofs.YtgcienlfpnpbgaaGreat
attribute [local push_cast] encB encI TS.cells V.cells_mk V.cells_len Nat.mul_one Int.sub_zero List.map_nil beq_self_eq_true bne_self_eq_false List.head?_cons
open Go.RowKit B
set_option maxHeartbeats 16000000
set_option maxRecDepth 10000
namespace Reg
def getT (b : List UInt8) : Option (List Tm) := if (readT ⟨.shared, b, 0, false⟩).1.isSome = true ∧ (readT ⟨.shared, b, 0, false⟩).2.bad = false ∧ (readT ⟨.shared, b, 0, false⟩).2.left = 0 then (readT ⟨.shared, b, 0, false⟩).1 else none
theorem start_sim {b : List UInt8} (h : b.length ≤ 1000000) : Sim (⟨.shared, b, false⟩ : RS) (⟨.shared, b, 0, false⟩ : TS) := ⟨⟨Nat.zero_le _, h⟩, rfl, rfl⟩
theorem get_sim {b : List UInt8} (h : b.length ≤ 1000000) : get b = getT b := by
 obtain ⟨h1, h2⟩ := read_sim (start_sim h)
 unfold get getT
 rw [h1] at h2 ⊢
 cases hs : (readT (⟨.shared, b, 0, false⟩ : TS)).1.isSome with
 | false => rw [if_neg (fun h => by cases h.1), if_neg (fun h => by cases h.1)]
 | true =>
  have h3 := h2 hs
  have h4 := sim_left h3
  congr 1
  rw [h3.2.1]
  refine propext ⟨fun ⟨a, b, c⟩ => ⟨a, b, ?_⟩, fun ⟨a, b, c⟩ => ⟨a, b, ?_⟩⟩
  · rw [if_neg (by rw [b]; exact Bool.false_ne_true)] at h4; omega
  · rw [if_neg (by rw [b]; exact Bool.false_ne_true)] at h4; omega
end Reg
theorem ref13GetF (l : List UInt8) (hl : l.length ≤ 1000000) (hQ : (Reg.tlist Reg.getTmT 7 ⟨.shared, l, 0, false⟩).2.bad = false → ∀ x ∈ (Reg.tlist Reg.getTmT 7 ⟨.shared, l, 0, false⟩).1, TQ x) (st : St) : TrF Tryz.prog 26 [.sl .shared (l.map encB)] st fun x st' => x = .tup [.sl .shared (((Reg.getT l).getD []).map Tm.cells), .b (Reg.getT l).isSome] ∧ st' = st := by
 have hok : TS.Ok ⟨.shared, l, 0, false⟩ := ⟨Nat.zero_le _, hl⟩
 have hok2 : (Reg.readT ⟨.shared, l, 0, false⟩).2.Ok := by
  have := (Reg.stk_tlist Reg.stk_tm 7 _ hok).1
  unfold Reg.readT
  split <;> exact this
 have hR : ∀ (tb : Nat) (st : St), TrF Tryz.prog 29 [.ptr tb 0] (.box tb 42 [.sl .shared (l.map encB), .i 0, .b false] :: st) fun x st' => x = .tup [.sl .shared (((Reg.readT ⟨.shared, l, 0, false⟩).1.getD []).map Tm.cells), .b (Reg.readT ⟨.shared, l, 0, false⟩).1.isSome] ∧ st' = rfR tb (Reg.readT ⟨.shared, l, 0, false⟩).2 :: st := fun tb st => ref13ReadF tb ⟨.shared, l, 0, false⟩ hok hQ st
 have hD := fun tb => rfDoneF tb _ hok2
 unfold Reg.getT
 clear hQ hok hok2
 generalize Reg.readT ⟨.shared, l, 0, false⟩ = q at *
 obtain ⟨m, s2⟩ := q
 dsimp only at *
 generalize s2.left = lf at *
 cases m with
 | none =>
  rw [if_neg (fun h => by cases h.1)]
  dsimp only [Option.getD, Option.isSome] at *
  replace hR := Lib.hid hR
  replace hD := Lib.hid hD
  refine Qin [2,3] Tryz.func26 Tryz.results26 Tryz.ntmps26 ?_
  repeat' (first | (with_reducible first | refine Q1 ?_ | refine Qe ?_ | refine s_boxP ?_ | refine QQ ?_ | (refine al_go ?_; intro b) | (refine QD ?_ <;> (try constructor) <;> intro hb <;> try intro hb1) | fail) | refine QR Tryz.call29 ((hR.out _)) ?_ | refine QR Tryz.call71 ((hD.out _)) ?_ | fail)
  all_goals exact Qret
 | some L =>
  dsimp only [Option.getD, Option.isSome] at hR
  generalize hb : s2.bad = bd at *
  by_cases hc : bd = false ∧ lf = 0
  · rw [if_pos ⟨rfl, hc.1, hc.2⟩]
    obtain ⟨rfl, rfl⟩ := hc
    dsimp only [Option.getD, Option.isSome]
    generalize L.map Tm.cells = LS at *
    rw [decide_eq_true rfl] at hD
    replace hR := Lib.hid hR
    replace hD := Lib.hid hD
    refine Qin [2,3] Tryz.func26 Tryz.results26 Tryz.ntmps26 ?_
    repeat' (first | (with_reducible first | refine Q1 ?_ | refine Qe ?_ | refine s_boxP ?_ | refine QQ ?_ | (refine al_go ?_; intro b) | (refine QD ?_ <;> (try constructor) <;> intro hb <;> try intro hb1) | fail) | refine QR Tryz.call29 ((hR.out _)) ?_ | refine QR Tryz.call71 ((hD.out _)) ?_ | fail)
    all_goals exact Qret
  · rw [if_neg (fun h => hc ⟨h.2.1, h.2.2⟩)]
    dsimp only [Option.getD, Option.isSome]
    generalize L.map Tm.cells = LS at *
    have hf : (!bd && decide (lf = 0)) = false := by
     cases bd with
     | true => rfl
     | false =>
      rw [decide_eq_false (fun h => hc ⟨rfl, h⟩)]; rfl
    rw [hf] at hD
    replace hR := Lib.hid hR
    replace hD := Lib.hid hD
    refine Qin [2,3] Tryz.func26 Tryz.results26 Tryz.ntmps26 ?_
    repeat' (first | (with_reducible first | refine Q1 ?_ | refine Qe ?_ | refine s_boxP ?_ | refine QQ ?_ | (refine al_go ?_; intro b) | (refine QD ?_ <;> (try constructor) <;> intro hb <;> try intro hb1) | fail) | refine QR Tryz.call29 ((hR.out _)) ?_ | refine QR Tryz.call71 ((hD.out _)) ?_ | fail)
    all_goals exact Qret
theorem registryGetsLaw (l : List UInt8) (hl : l.length ≤ maxLen) (st : St) : TrF Tryz.prog 7 [.sl .shared (l.map encB)] st fun d st' => d = .b true ∧ st' = st := by
 have hA := Lib.hid reg13AliveF
 have hm : (l.map encB).length = l.length := List.length_map ..
 unfold maxLen at hl
 by_cases hbig : 3000 < l.length
 · generalize l.map encB = LB at *
   refine Qin [2] Tryz.func7 Tryz.results7 Tryz.ntmps7 ?_
   exact WR
 have hl2 : l.length ≤ 1000000 := by omega
 obtain ⟨hk, hk7⟩ := Reg.read_known (s := ⟨.shared, l, false⟩) hl2
 have hQ : (Reg.tlist Reg.getTmT 7 ⟨.shared, l, 0, false⟩).2.bad = false → ∀ x ∈ (Reg.tlist Reg.getTmT 7 ⟨.shared, l, 0, false⟩).1, TQ x := fun hb x hx => by
  rcases (Reg.sim_rlist Reg.sim_tm 7).2 _ _ (Reg.start_sim hl2) with ⟨h1, -⟩ | ⟨h1, -⟩
  · rw [← h1] at hx; exact (hk x hx).2.1
  · rw [h1] at hb; cases hb
 have hok : TS.Ok ⟨.shared, l, 0, false⟩ := ⟨Nat.zero_le _, hl2⟩
 have hok2 : (Reg.readT ⟨.shared, l, 0, false⟩).2.Ok := by
  have := (Reg.stk_tlist Reg.stk_tm 7 _ hok).1
  unfold Reg.readT
  split <;> exact this
 have hG := regGetF .shared l (by omega) (fun t h => (hk t h).1)
 have hG2 := ref13GetF l hl2 hQ
 rw [← Reg.get_sim hl2] at hG2
 have hBR := binRead2F .shared l (by omega)
 have hRd := fun rb => regReadF rb ⟨.shared, l, false⟩ (fun t h => (hk t h).1)
 have hRd2 : ∀ (tb : Nat) (st : St), TrF Tryz.prog 29 [.ptr tb 0] (.box tb 42 [.sl .shared (l.map encB), .i 0, .b false] :: st) fun x st' => x = .tup [.sl .shared (((Reg.readT ⟨.shared, l, 0, false⟩).1.getD []).map Tm.cells), .b (Reg.readT ⟨.shared, l, 0, false⟩).1.isSome] ∧ st' = rfR tb (Reg.readT ⟨.shared, l, 0, false⟩).2 :: st := fun tb st => ref13ReadF tb ⟨.shared, l, 0, false⟩ hok hQ st
 have hLf := fun rb => rdLeftF rb (Reg.read ⟨.shared, l, false⟩).2
 have hLf2 := fun tb => rfLeftF tb _ hok2
 obtain ⟨h1, h2⟩ := Reg.read_sim (Reg.start_sim hl2)
 have hkR : ∀ t ∈ (Reg.read ⟨.shared, l, false⟩).1.getD [], Reg.TmR t := by
  unfold Reg.read
  split
  · intro t ht; cases ht
  · exact fun t ht => (hk t ht).2.2
 have hkL : ((Reg.read ⟨.shared, l, false⟩).1.getD []).length ≤ 7 := by
  unfold Reg.read
  split
  · exact Nat.zero_le _
  · exact hk7
 have hgR : (∀ t ∈ (Reg.get l).getD [], Reg.TmR t) ∧ ((Reg.get l).getD []).length ≤ 7 := by
  unfold Reg.get
  split
  · exact ⟨hkR, hkL⟩
  · exact ⟨(fun t h => by cases h), Nat.zero_le _⟩
 have hS1 := ref13SameF _ _ hgR.1 hgR.1 (by omega) (by omega)
 have hS2 := ref13SameF _ _ hkR hkR (by omega) (by omega)
 rw [(Reg.same_iff _ _).2 rfl] at hS1 hS2
 have hlf : (Reg.read ⟨.shared, l, false⟩).1.isSome = true → (Reg.read ⟨.shared, l, false⟩).2.l.length = (if (Reg.readT ⟨.shared, l, 0, false⟩).2.bad = true then 0 else (Reg.readT ⟨.shared, l, 0, false⟩).2.left : Nat) := fun h => sim_left (h2 h)
 rw [← h1] at hRd2
 clear h1 h2 hkR hkL hgR hok hok2 hQ hk hk7
 generalize (if (Reg.readT ⟨.shared, l, 0, false⟩).2.bad = true then 0 else (Reg.readT ⟨.shared, l, 0, false⟩).2.left : Nat) = LF at *
 generalize (Reg.readT ⟨.shared, l, 0, false⟩).2 = T2 at *
 generalize Reg.read ⟨.shared, l, false⟩ = q at *
 obtain ⟨M, s2⟩ := q
 dsimp only at *
 generalize Reg.get l = G at *
 generalize (G.getD []).map Tm.cells = GC at *
 generalize (M.getD []).map Tm.cells = MC at *
 generalize G.isSome = gs at *
 generalize M.isSome = ms at *
 generalize s2.l.length = ll at *
 replace hG := Lib.hid hG
 replace hG2 := Lib.hid hG2
 replace hBR := Lib.hid hBR
 replace hRd := Lib.hid hRd
 replace hRd2 := Lib.hid hRd2
 replace hLf := Lib.hid hLf
 replace hLf2 := Lib.hid hLf2
 replace hS1 := Lib.hid hS1
 replace hS2 := Lib.hid hS2
 cases ms with
 | false =>
  clear hlf
  cases gs
  all_goals (
   refine Qin [2] Tryz.func7 Tryz.results7 Tryz.ntmps7 ?_
   repeat' (first | (with_reducible first | refine Q1 ?_ | refine Qe ?_ | refine s_boxP ?_ | refine QQ ?_ | (refine al_go ?_; intro b) | (refine QD ?_ <;> (try constructor) <;> intro hb <;> try intro hb1) | fail) | (refine QN Tryz.call27 (hBR.out _) ?_; intro rb) | refine QR Tryz.call28 ((hRd.out _)) ?_ | refine QR Tryz.call29 ((hRd2.out _)) ?_ | fail)
   all_goals exact Qret)
 | true =>
  have hlf2 := hlf rfl
  subst hlf2
  clear hlf
  cases gs
  all_goals (
   refine Qin [2] Tryz.func7 Tryz.results7 Tryz.ntmps7 ?_
   repeat' (first | (with_reducible first | refine Q1 ?_ | refine Qe ?_ | refine s_boxP ?_ | refine QQ ?_ | (refine al_go ?_; intro b) | (refine QD ?_ <;> (try constructor) <;> intro hb <;> try intro hb1) | fail) | (refine QN Tryz.call27 (hBR.out _) ?_; intro rb) | refine QR Tryz.call28 ((hRd.out _)) ?_ | refine QR Tryz.call29 ((hRd2.out _)) ?_ | refine QR Tryz.call30 ((hLf.out _)) ?_ | refine QR Tryz.call31 ((hLf2.out _)) ?_ | fail)
   all_goals exact Qret)
end Go.Proofs.YtgcienlfpnpbgaaGreat
end
