/- The walk of the statement RuleBytes. -/
import Derived.Test.YtgcienlfpnpbgaaGreatZ7
set_option linter.all false
section
namespace Go.Proofs.YtgcienlfpnpbgaaGreat
attribute [local push_cast] encB encI encC V.cells_mk V.cells_len Nat.mul_one Int.sub_zero List.map_nil beq_self_eq_true bne_self_eq_false List.head?_cons
open Go.RowKit B
set_option maxHeartbeats 16000000
set_option maxRecDepth 10000
namespace Rul
theorem slots_cases (L : List Tm) (k : Int) : slots L k = [] ∨ ∃ t ∈ L, ∃ y ∈ Sch.vers t, slots L k = y.slots := by
 unfold slots
 split
 · cases ht : L[k.toNat]? with
   | none => exact .inl rfl
   | some t =>
    dsimp only
    unfold Sch.verX Sch.ver
    split
    · cases hv : (Sch.vers t)[((Sch.last t : Int) - 1).toNat]? with
      | none => exact .inl rfl
      | some y => exact .inr ⟨t, List.mem_of_getElem? ht, y, List.mem_of_getElem? hv, rfl⟩
    · exact .inl rfl
 · exact .inl rfl
theorem all2_self : ∀ l : List Sl, Reg.all2 Reg.slotS l l = true
 | [] => rfl
 | s :: l => by
  rw [Reg.all2, all2_self l]
  unfold Reg.slotS
  rw [beq_self_eq_true, beq_self_eq_true, beq_self_eq_true, V.cmp_self]
  rfl
end Rul
theorem ruleBytesLaw (L : List Tm) (R : List Rl) (k : Int) (hwL : ∀ t ∈ L, t.Wf) (hlL : L.length ≤ maxLen) (hw : ∀ x ∈ R, x.Wf) (hl : R.length ≤ maxLen) (st : St) : TrF Tryz.prog 9 [.sl .shared (L.map Tm.cells), .sl .shared (R.map Rl.cells), .i k] st fun d st' => d = .b true ∧ st' = st := by
 have hA := Lib.hid rul17AliveF
 have hG := rul17GreatF L R hwL hlL hw hl
 cases hg : Reg.great L || Rul.great R with
 | true =>
  rw [hg] at hG
  clear hwL hw hlL hl
  generalize L.map Tm.cells = LS at *
  generalize R.map Rl.cells = RS at *
  replace hG := Lib.hid hG
  refine Qin [6] Tryz.func9 Tryz.results9 Tryz.ntmps9 ?_
  exact WR
 | false =>
 rw [hg] at hG
 rw [Bool.or_eq_false_iff] at hg
 obtain ⟨h12, hk⟩ := Reg.not_great hwL hg.1
 have hkr0 := Reg.not_greatR hwL hg.1
 obtain ⟨h12r, hkr⟩ := Rul.not_great hw hg.2
 have hsal := fun x hx => (hw x hx).sal
 clear hg hwL hw hlL hl
 have hP := rulePutF R (fun x h => ⟨hkr x h, hsal x h⟩) (by omega)
 have hP2 := ref17PutF R (fun x h => ⟨hkr x h, hsal x h⟩) (by omega)
 have hBy := bytesF .shared .shared (Rul.put R) (Rul.put R)
 rw [decide_eq_true rfl] at hBy
 have hS := ruleSlotsF L (fun t h => (hk t h).ok) (by omega) k
 have hS2 := ref17SlotsF L (fun t h => (hkr0 t h).q) (by omega) k
 have hSS : ∀ st, TrF Tryz.prog 41 [.sl .shared ((Rul.slots L k).map Sl.cells), .sl .shared ((Rul.slots L k).map Sl.cells)] st fun d st' => d = .b true ∧ st' = st := fun st => by
  have hok : (∀ s ∈ Rul.slots L k, s.dv.Ok) ∧ (Rul.slots L k).length ≤ 1000000 := by
   rcases Rul.slots_cases L k with h | ⟨t, ht, y, hy, h⟩
   · rw [h]; exact ⟨(fun s hs => by cases hs), Nat.zero_le _⟩
   · rw [h]
     have q := (hkr0 t ht).q
     have := (Sch.vers_vi hy).ls
     exact ⟨Sch.vers_dv (Q := V.Ok) (fun s hs => (q.os s hs).1.ok) (fun s hs => (q.ot s hs).1.ok) y hy, by omega⟩
  have := sameSlotsF (Rul.slots L k) (Rul.slots L k) hok.1 hok.2 hok.2 st
  rwa [Rul.all2_self] at this
 have hB := Lib.hid fun (x : Rl) (hx : x ∈ R) => ruleBoundF x (by have := (hkr x hx).np; omega) (fun p hp => by have := (hkr x hx).nt p hp; omega)
 have hB2 := Lib.hid fun (x : Rl) (hx : x ∈ R) => ref17BoundF x (by have := (hkr x hx).np; omega) (fun p hp => by have := (hkr x hx).nt p hp; omega)
 have hIn := Lib.hid fun (x : Rl) => refIntsL .shared .shared (Rul.bound x) (Rul.bound x)
 have hm : (R.map Rl.cells).length = R.length := List.length_map ..
 have hc := hMp Rl.cells R
 clear hk hkr0 hkr hsal
 generalize (Rul.slots L k).map Sl.cells = SL at *
 generalize (Rul.put R).map encB = PB at *
 generalize L.map Tm.cells = LS at *
 generalize R.map Rl.cells = RS at *
 replace hG := Lib.hid hG
 replace hP := Lib.hid hP
 replace hP2 := Lib.hid hP2
 replace hBy := Lib.hid hBy
 replace hS := Lib.hid hS
 replace hS2 := Lib.hid hS2
 replace hSS := Lib.hid hSS
 refine Qin [6] Tryz.func9 Tryz.results9 Tryz.ntmps9 ?_
 repeat' (with_reducible first | refine Q1 ?_ | refine Qe ?_ | refine QQ ?_ | (refine al_go ?_; intro b) | (refine QD ?_ <;> (try constructor) <;> intro hb <;> try intro hb1) | fail)
 refine tr_loopd (ι := Nat) (fun i A st' => i ≤ R.length ∧ A.df = [] ∧ A.e 0 = .sl .shared LS ∧ A.e 1 = .sl .shared RS ∧ A.e 2 = .i k ∧ A.e 7 = .i i ∧ st = st') (fun i => R.length - i) 0 ⟨Nat.zero_le _, Qf, Qf, Qf, Qf, Qf, rfl⟩ ?_
 clear hA hG
 rintro i A st' ⟨hi, hdf, e0, e1, e2, e7, rfl⟩
 by_cases hlt : ¬ i < R.length
 · clear hB hB2 hIn hc
   exact WR
 rw [Classical.not_not] at hlt
 obtain ⟨x, hx⟩ := gEx hlt
 have h1 := hc.out i x hx
 have k1 := hB.out x (List.mem_of_getElem? hx)
 have k2 := hB2.out x (List.mem_of_getElem? hx)
 have k3 := hIn.out x
 rw [decide_eq_true rfl] at k3
 clear hB hB2 hIn hc hx hP hP2 hBy hS hS2 hSS
 generalize (Rul.bound x).map encI = BS at *
 unfold Rl.cells at *
 generalize x.pats.map Pt.cells = PS at *
 generalize x.acts.map Ac.cells = AS at *
 generalize x.name = nm at *
 generalize x.sal = sal at *
 replace k1 := Lib.hid k1
 replace k2 := Lib.hid k2
 replace k3 := Lib.hid k3
 repeat' (first | (with_reducible first | refine Q1 ?_ | refine Qe ?_ | fail) | ((with_reducible refine w_drawRN ?_ ?_ ?_ ?_); (iterate 3 (focus kernel_rfl)); intro hne; simp only [nes, ne1, and_assoc] at hne; repeat (have hq := hne.1; replace hne := hne.2)) | (with_reducible first | refine QQ ?_ | (refine al_go ?_; intro b) | (refine QD ?_ <;> (try constructor) <;> intro hb <;> try intro hb1) | fail) | fail)
 refine ⟨i + 1, st, (by (repeat (first | exact List.Sublist.refl _ | apply List.Sublist.cons))), ⟨hlt, ?_, ?_, ?_, ?_, ?_, rfl⟩, by omega⟩
 all_goals exact Qf
end Go.Proofs.YtgcienlfpnpbgaaGreat
end
