/- Texts put together. No statement is proved here. -/
import Derived.Test.YtgcienlfpnpbgaaGreatZ10
set_option linter.all false
set_option maxRecDepth 10000
set_option maxHeartbeats 8000000
namespace Go.Proofs.YtgcienlfpnpbgaaGreat
open Go.RowKit
section
open Go.RowKit B
namespace Rul
def Byt (n : Int) : Prop := 0 ≤ n ∧ n ≤ 255
structure ValG (v : V) : Prop where
 r : v.right = true
 ok : v.Ok
structure TsG (t : Ts) : Prop where
 k : Byt t.kind
 s : Byt t.slot
 v : Byt t.var
 g : ValG t.val
structure PtG (p : Pt) : Prop where
 t : Byt p.tmpl
 l : p.tests.length ≤ 6
 g : ∀ t ∈ p.tests, TsG t
structure ExG (e : Ex) : Prop where
 v : Byt e.var
 g : ValG e.val
structure AcG (a : Ac) : Prop where
 k : Byt a.kind
 p : Byt a.pat
 t : Byt a.tmpl
 s : Byt a.slot
 l : a.vals.length ≤ 16
 g : ∀ e ∈ a.vals, ExG e
structure RlG (x : Rl) : Prop where
 nm : x.name.size ≤ 900000
 sal : -9223372036854775808 ≤ x.sal ∧ x.sal ≤ 9223372036854775807
 lp : x.pats.length ≤ 4
 la : x.acts.length ≤ 4
 gp : ∀ p ∈ x.pats, PtG p
 ga : ∀ a ∈ x.acts, AcG a
theorem bin_ne {v : V} (h : v.right = true) : v.bin ≠ [] := by
 unfold V.bin
 rw [if_pos h]
 cases v
 unfold V.put
 exact List.cons_ne_nil _ _
theorem badN_no {n : Int} (h : Byt n) : badN n = false := by
 unfold badN
 rw [decide_eq_false (by have := h.1; omega), decide_eq_false (by have := h.2; omega)]; rfl
theorem bit_byt (b : Bool) : Byt (bitI b) := by cases b <;> exact ⟨by decide, by decide⟩
theorem valW_ok {v : V} (h : ValG v) : (valW v).2 = false := decide_eq_false (bin_ne h.r)
theorem tsW_ok {t : Ts} (h : TsG t) : (tsW t).2 = false := by
 unfold tsW catW numsW
 dsimp only
 rw [valW_ok h.g]
 simp [badN_no h.k, badN_no h.s, badN_no h.v]
theorem exW_ok {e : Ex} (h : ExG e) : (exW e).2 = false := by
 unfold exW catW numsW
 dsimp only
 rw [valW_ok h.g]
 simp [badN_no (bit_byt e.isVar), badN_no h.v]
theorem listW_ok {α : Type} {f : α → List UInt8 × Bool} {l : List α} (h : ∀ a ∈ l, (f a).2 = false) : (listW f l).2 = false := by
 unfold listW
 dsimp only
 rw [List.any_eq_false]
 intro a ha
 rw [h a ha]; exact Bool.false_ne_true
theorem ptW_ok {p : Pt} (h : PtG p) : (ptW p).2 = false := by
 unfold ptW catW numsW
 dsimp only
 rw [listW_ok fun t ht => tsW_ok (h.g t ht)]
 simp [badN_no h.t, badN_no (bit_byt p.neg)]
theorem acW_ok {a : Ac} (h : AcG a) : (acW a).2 = false := by
 unfold acW catW numsW
 dsimp only
 rw [listW_ok fun e he => exW_ok (h.g e he)]
 simp [badN_no h.k, badN_no h.p, badN_no h.t, badN_no h.s]
theorem rlW_ok {x : Rl} (h : RlG x) : (rlW x).2 = false := by
 unfold rlW catW
 dsimp only
 rw [listW_ok fun p hp => ptW_ok (h.gp p hp), listW_ok fun a ha => acW_ok (h.ga a ha)]; rfl
theorem byteS_put (o : Own) {n : Int} (h : Byt n) (l : List UInt8) (g : Bool) : byteS (⟨o, Reg.b8 n :: l, false⟩, g) = (n, ((⟨.shared, l, false⟩ : RS), g)) := by
 have := Reg.b8_put o n h l
 unfold byteS
 dsimp only
 rw [List.singleton_append] at this
 rw [this]
theorem flagS_put (o : Own) (b : Bool) (l : List UInt8) (g : Bool) : flagS (⟨o, Reg.b8 (bitI b) :: l, false⟩, g) = (b, ((⟨.shared, l, false⟩ : RS), g)) := by
 have := Reg.b8_put o (bitI b) (bit_byt b) l
 unfold flagS
 dsimp only
 rw [List.singleton_append] at this
 rw [this]
 dsimp only
 cases b <;> simp [bitI]
theorem valS_put (o : Own) {v : V} (h : ValG v) (l : List UInt8) (g : Bool) : valS (⟨o, v.bin ++ l, false⟩, g) = (v, ((⟨.shared, l, false⟩ : RS), g)) := by
 have := RS.val_put h.r h.ok o l
 unfold valS V.bin
 dsimp only
 rw [if_pos h.r, this]
theorem tsG_put (o : Own) {t : Ts} (h : TsG t) (r : List UInt8) (g : Bool) : tsG (⟨o, (tsW t).1 ++ r, false⟩, g) = (t, ((⟨.shared, r, false⟩ : RS), g)) := by
 have e : (tsW t).1 ++ r = Reg.b8 t.kind :: Reg.b8 t.slot :: Reg.b8 t.var :: (t.val.bin ++ r) := by
  unfold tsW catW numsW valW; simp
 rw [e]
 unfold tsG
 dsimp only
 rw [byteS_put o h.k]
 dsimp only
 rw [byteS_put .shared h.s]
 dsimp only
 rw [byteS_put .shared h.v]
 dsimp only
 rw [valS_put .shared h.g]
theorem exG_put (o : Own) {e : Ex} (h : ExG e) (r : List UInt8) (g : Bool) : exG (⟨o, (exW e).1 ++ r, false⟩, g) = (e, ((⟨.shared, r, false⟩ : RS), g)) := by
 have e' : (exW e).1 ++ r = Reg.b8 (bitI e.isVar) :: Reg.b8 e.var :: (e.val.bin ++ r) := by
  unfold exW catW numsW valW; simp
 rw [e']
 unfold exG
 dsimp only
 rw [flagS_put]
 dsimp only
 rw [byteS_put .shared h.v]
 dsimp only
 rw [valS_put .shared h.g]
theorem rdG_put {α : Type} {f : GS → α × GS} {W : α → List UInt8 × Bool} (g : Bool) (r : List UInt8) : ∀ (l : List α), (∀ x ∈ l, ∀ o r, f (⟨o, (W x).1 ++ r, false⟩, g) = (x, ((⟨.shared, r, false⟩ : RS), g))) → rdG f l.length ((⟨.shared, (l.map fun a => (W a).1).flatten ++ r, false⟩ : RS), g) = (l, ((⟨.shared, r, false⟩ : RS), g))
 | [], _ => rfl
 | x :: l, h => by
  rw [List.length_cons, rdG, if_neg Bool.false_ne_true, List.map_cons, List.flatten_cons, List.append_assoc, h x (List.mem_cons_self ..)]
  dsimp only
  rw [rdG_put g r l fun y hy => h y (List.mem_cons_of_mem _ hy)]
theorem glist_put {α : Type} {f : GS → α × GS} {W : α → List UInt8 × Bool} (k : Int) (l : List α) (hl : (l.length : Int) ≤ k) (hk : k ≤ 1000) (g : Bool) (h : ∀ x ∈ l, ∀ o r, f (⟨o, (W x).1 ++ r, false⟩, g) = (x, ((⟨.shared, r, false⟩ : RS), g))) (o : Own) (r : List UInt8) : glist f k (⟨o, (listW W l).1 ++ r, false⟩, g) = (l, ((⟨.shared, r, false⟩ : RS), g)) := by
 unfold glist listW
 dsimp only
 rw [List.append_assoc, RS.rnum_be o l.length q_o]
 dsimp only
 rw [if_neg q_o, Int.toNat_natCast, rdG_put g r l h]
theorem ptG_put (o : Own) {p : Pt} (h : PtG p) (r : List UInt8) (g : Bool) : ptG (⟨o, (ptW p).1 ++ r, false⟩, g) = (p, ((⟨.shared, r, false⟩ : RS), g)) := by
 have e' : (ptW p).1 ++ r = Reg.b8 p.tmpl :: Reg.b8 (bitI p.neg) :: ((listW tsW p.tests).1 ++ r) := by
  unfold ptW catW numsW; simp
 rw [e']
 unfold ptG
 dsimp only
 rw [byteS_put o h.t]
 dsimp only
 rw [flagS_put]
 dsimp only
 rw [glist_put 7 p.tests (by have := h.l; omega) (by decide) g fun t ht o r => tsG_put o (h.g t ht) r g]
theorem acG_put (o : Own) {a : Ac} (h : AcG a) (r : List UInt8) (g : Bool) : acG (⟨o, (acW a).1 ++ r, false⟩, g) = (a, ((⟨.shared, r, false⟩ : RS), g)) := by
 have e' : (acW a).1 ++ r = Reg.b8 a.kind :: Reg.b8 a.pat :: Reg.b8 a.tmpl :: Reg.b8 a.slot :: ((listW exW a.vals).1 ++ r) := by
  unfold acW catW numsW; simp
 rw [e']
 unfold acG
 dsimp only
 rw [byteS_put o h.k]
 dsimp only
 rw [byteS_put .shared h.p]
 dsimp only
 rw [byteS_put .shared h.t]
 dsimp only
 rw [byteS_put .shared h.s]
 dsimp only
 rw [glist_put 17 a.vals (by have := h.l; omega) (by decide) g fun e he o r => exG_put o (h.g e he) r g]
theorem rlG_put (o : Own) {x : Rl} (h : RlG x) (r : List UInt8) (g : Bool) : rlG (⟨o, (rlW x).1 ++ r, false⟩, g) = (x, ((⟨.shared, r, false⟩ : RS), g)) := by
 have e' : (rlW x).1 ++ r = tx x.name.data.toList ++ (be 8 (IntKind.u64.wrap x.sal).toNat ++ ((listW ptW x.pats).1 ++ ((listW acW x.acts).1 ++ r))) := by
  unfold rlW catW headW; simp
 rw [e']
 unfold rlG
 dsimp only
 rw [RS.text_tx _ _ (by have := h.nm; omega)]
 dsimp only
 rw [RS.long_be _ _ h.sal]
 dsimp only
 rw [glist_put 5 x.pats (by have := h.lp; omega) (by decide) g fun p hp o r => ptG_put o (h.gp p hp) r g]
 dsimp only
 rw [glist_put 5 x.acts (by have := h.la; omega) (by decide) g fun a ha o r => acG_put o (h.ga a ha) r g]
theorem glist_rules (R : List Rl) (hl : R.length ≤ 8) (h : ∀ x ∈ R, RlG x) (o : Own) (r : List UInt8) : glist rlG 9 (⟨o, (listW rlW R).1 ++ r, false⟩, true) = (R, ((⟨.shared, r, false⟩ : RS), true)) :=
 glist_put 9 R q_o (by decide) true (fun x hx o r => rlG_put o (h x hx) r true) o r
theorem put_eq {R : List Rl} (h : ∀ x ∈ R, RlG x) : put R = (listW rlW R).1 := by
 unfold put
 rw [listW_ok fun x hx => rlW_ok (h x hx), if_neg Bool.false_ne_true]
theorem read_put (L : List Tm) (R : List Rl) (hr : right L R = true) (hl : R.length ≤ 8) (h : ∀ x ∈ R, RlG x) (o : Own) (r : List UInt8) : read L ⟨o, put R ++ r, false⟩ = (some R, (⟨.shared, r, false⟩ : RS)) := by
 unfold read
 rw [put_eq h, glist_rules R hl h o r]
 dsimp only
 rw [if_neg (by rintro (h | h | h) <;> first | (cases h; done) | (rw [hr] at h; cases h))]
theorem ver_memb {t : Tm} {v : Int} {x : Vr} (h : Sch.ver t v = some x) : x ∈ Sch.vers t := by
 unfold Sch.ver at h
 split at h
 · exact List.mem_of_getElem? h
 · cases h
theorem ver_len (t : Tm) (v : Int) : (Sch.verX t v).slots.length ≤ 16 := by
 unfold Sch.verX
 cases hv : Sch.ver t v with
 | none => exact Nat.zero_le _
 | some x => exact (Sch.vers_vi (ver_memb hv)).ls
theorem zero_right : V.zero.right = true := by kernel_rfl
theorem slots_le (L : List Tm) (k : Int) : (slots L k).length ≤ 16 := by
 unfold slots
 split
 · split
   · exact ver_len ..
   · exact Nat.zero_le _
 · exact Nat.zero_le _
theorem slots_in_range {L : List Tm} {k : Int} (h : (slots L k).length ≠ 0) : 0 ≤ k ∧ k < L.length := by
 unfold slots at h
 split at h
 · assumption
 · exact absurd rfl h
theorem testB_good {L : List Tm} {k : Int} {neg : Bool} {B : List Int} {t : Ts} (hv : VQ t.val) (h : testB (slots L k).length neg B t = true) : TsG t ∧ (t.kind = 5 → 0 ≤ t.var ∧ t.var < 8) := by
 have hs := slots_le L k
 unfold testB at h
 rw [Bool.and_eq_true, Bool.and_eq_true, decide_eq_true_eq, decide_eq_true_eq] at h
 obtain ⟨⟨h1, h2⟩, h3⟩ := h
 have hz : (t.val.cmp V.zero == 0) = true → ValG t.val := fun e => by
  rw [V.cmp_eq _ _ (beq_iff_eq.1 e)]
  exact ⟨zero_right, zero_ok⟩
 split at h3
 · rename_i hk
   rw [Bool.and_eq_true, beq_iff_eq] at h3
   exact ⟨⟨⟨by omega, by omega⟩, ⟨h1, by omega⟩, ⟨by omega, by omega⟩, ⟨h3.2, hv.ok⟩⟩, fun e => by omega⟩
 split at h3
 · rename_i hk
   rw [Bool.and_eq_true, Bool.and_eq_true, Bool.and_eq_true, decide_eq_true_eq, decide_eq_true_eq] at h3
   exact ⟨⟨⟨by omega, by omega⟩, ⟨h1, by omega⟩, ⟨h3.2.1.1, by omega⟩, hz h3.1⟩, fun _ => h3.2.1⟩
 split at h3
 · rename_i hk
   rw [Bool.and_eq_true, Bool.and_eq_true, Bool.and_eq_true, decide_eq_true_eq, decide_eq_true_eq] at h3
   exact ⟨⟨⟨by omega, by omega⟩, ⟨h1, by omega⟩, ⟨h3.2.1.1, by omega⟩, hz h3.1⟩, fun _ => h3.2.1⟩
 · cases h3
def In8 (B : List Int) : Prop := ∀ n ∈ B, 0 ≤ n ∧ n < 8
theorem testsF_good {L : List Tm} {k : Int} {neg : Bool} : ∀ (l : List Ts) (B : List Int), (∀ t ∈ l, VQ t.val) → In8 B → (testsF (slots L k).length neg l B).1 = true → (∀ t ∈ l, TsG t) ∧ In8 (testsF (slots L k).length neg l B).2
 | [], B, _, hB, _ => ⟨fun t h => (by cases h), hB⟩
 | t :: l, B, hv, hB, h => by
  rw [testsF] at h ⊢
  split at h
  · rename_i ht
    rw [if_pos ht]
    obtain ⟨g1, g2⟩ := testB_good (hv t (List.mem_cons_self ..)) ht
    have hB2 : In8 (testN B t) := by
     unfold testN
     split
     · rename_i h5
       intro n hn
       rcases List.mem_append.1 hn with hn | hn
       · exact hB n hn
       · rw [List.mem_singleton.1 hn]; exact g2 h5
     · exact hB
    obtain ⟨k1, k2⟩ := testsF_good l _ (fun t ht => hv t (List.mem_cons_of_mem _ ht)) hB2 h
    exact ⟨fun u hu => (List.mem_cons.1 hu).elim (fun e => e ▸ g1) (k1 u), k2⟩
  · cases h
theorem patsF_good {L : List Tm} (hL : L.length ≤ 6) : ∀ (l : List Pt) (B : List Int), (∀ p ∈ l, ∀ t ∈ p.tests, VQ t.val) → In8 B → (patsF L l B).1 = true → (∀ p ∈ l, PtG p) ∧ In8 (patsF L l B).2
 | [], B, _, hB, _ => ⟨fun t h => (by cases h), hB⟩
 | p :: l, B, hv, hB, h => by
  rw [patsF] at h ⊢
  split at h
  · rename_i hp
    rw [if_pos hp]
    have hp2 := hp
    unfold patF at hp2
    split at hp2
    · rename_i hc
      obtain ⟨k1, k2⟩ := testsF_good p.tests B (hv p (List.mem_cons_self ..)) hB hp2
      have hB2 : In8 (patF L B p).2 := by unfold patF; rw [if_pos hc]; exact k2
      obtain ⟨m1, m2⟩ := patsF_good hL l _ (fun p hp => hv p (List.mem_cons_of_mem _ hp)) hB2 h
      exact ⟨fun u hu => (List.mem_cons.1 hu).elim (fun e => e ▸ ⟨⟨by omega, by omega⟩, hc.2.2, k1⟩) (m1 u), m2⟩
    · cases hp2
  · cases h
theorem exprB_good {B : List Int} (hB : In8 B) {e : Ex} {s : Sl} (hv : VQ e.val) (h : exprB B e s = true) : ExG e := by
 unfold exprB at h
 split at h
 · rw [Bool.and_eq_true, decide_eq_true_eq, beq_iff_eq] at h
   have := hB _ h.1
   exact ⟨⟨by omega, by omega⟩, by rw [V.cmp_eq _ _ h.2]; exact ⟨zero_right, zero_ok⟩⟩
 · rw [Bool.and_eq_true, beq_iff_eq] at h
   exact ⟨⟨by omega, by omega⟩, ⟨Sch.fits_right h.2, hv.ok⟩⟩
theorem exprsB_good {B : List Int} (hB : In8 B) : ∀ (l : List Ex) (m : List Sl), l.length = m.length → (∀ e ∈ l, VQ e.val) → exprsB B l m = true → ∀ e ∈ l, ExG e
 | [], _, _, _, _, _, h => by cases h
 | e :: l, [], hl, _, _, _, _ => by simp at hl
 | e :: l, s :: m, hl, hv, h, u, hu => by
  rw [exprsB, Bool.and_eq_true] at h
  rcases List.mem_cons.1 hu with rfl | hu
  · exact exprB_good hB (hv _ (List.mem_cons_self ..)) h.1
  · exact exprsB_good hB l m (by simpa using hl) (fun e he => hv e (List.mem_cons_of_mem _ he)) h.2 u hu
theorem posB_range {ps : List Pt} {k : Int} (h : posB ps k = true) : 0 ≤ k ∧ k < ps.length := by
 unfold posB at h
 rw [Bool.and_eq_true, Bool.and_eq_true, decide_eq_true_eq, decide_eq_true_eq] at h
 exact h.1
theorem actB_good {L : List Tm} (hL : L.length ≤ 6) {ps : List Pt} (hps : ps.length ≤ 4) {B : List Int} (hB : In8 B) {a : Ac} (hv : ∀ e ∈ a.vals, VQ e.val) (h : actB L ps B a = true) : AcG a := by
 unfold actB at h
 split at h
 · rename_i hk
   simp only [Bool.and_eq_true, beq_iff_eq, decide_eq_true_eq] at h
   obtain ⟨⟨h1, h2⟩, ⟨h3, h4⟩, h5⟩ := h
   have hr := slots_in_range h3
   have hs := slots_le L a.tmpl
   exact ⟨⟨by omega, by omega⟩, ⟨by omega, by omega⟩, ⟨by omega, by omega⟩, ⟨by omega, by omega⟩, by omega, exprsB_good hB _ _ h4 hv h5⟩
 split at h
 · rename_i hk
   simp only [Bool.and_eq_true, beq_iff_eq, decide_eq_true_eq] at h
   obtain ⟨h1, h2, h3, h4⟩ := h
   have hr := posB_range h1
   exact ⟨⟨by omega, by omega⟩, ⟨by omega, by omega⟩, ⟨by omega, by omega⟩, ⟨by omega, by omega⟩, by omega, fun e he => by rw [List.eq_nil_of_length_eq_zero h4] at he; cases he⟩
 split at h
 · rename_i hk
   rw [Bool.and_eq_true, Bool.and_eq_true, Bool.and_eq_true, beq_iff_eq, decide_eq_true_eq] at h
   obtain ⟨⟨h1, h2, h3⟩, h4⟩ := h
   have hr := posB_range h1
   split at h4
   · rename_i p e hp he
     rw [Bool.and_eq_true, Bool.and_eq_true, decide_eq_true_eq, decide_eq_true_eq] at h4
     have hs := slots_le L p.tmpl
     refine ⟨⟨by omega, by omega⟩, ⟨by omega, by omega⟩, ⟨by omega, by omega⟩, ⟨h4.1, by omega⟩, by omega, fun u hu => ?_⟩
     have h5 := h4.2.2
     split at h5
     · rw [he] at hu
       rw [List.mem_singleton.1 hu]
       exact exprB_good hB (hv e (by rw [he]; exact List.mem_singleton.2 rfl)) h5
     · cases h5
   · cases h4
 · simp only [Bool.and_eq_true, beq_iff_eq, decide_eq_true_eq] at h
   obtain ⟨h1, h2, h3, h4, h5⟩ := h
   exact ⟨⟨by omega, by omega⟩, ⟨by omega, by omega⟩, ⟨by omega, by omega⟩, ⟨by omega, by omega⟩, by omega, fun e he => by rw [List.eq_nil_of_length_eq_zero h5] at he; cases he⟩
theorem oneB_good {L : List Tm} (hL : L.length ≤ 6) {x : Rl} (hx : RK x) (h : oneB L x = true) : RlG x := by
 unfold oneB headB at h
 simp only [Bool.and_eq_true, decide_eq_true_eq, List.all_eq_true] at h
 obtain ⟨⟨-, ⟨h1, h2⟩, ⟨h3, h4⟩, -, h5⟩, h6, h7⟩ := h
 obtain ⟨k1, k2⟩ := patsF_good hL x.pats [] hx.vt (fun n hn => by cases hn) h6
 exact ⟨hx.nm, ⟨by omega, by omega⟩, h4, h5, k1, fun a ha => actB_good hL h4 k2 (hx.va a ha) (h7 a ha)⟩
theorem rightL_iff {L : List Tm} {R : List Rl} : ∀ (l : List Rl) (i : Nat), rightL L R l i = true ↔ ∀ (j : Nat) (x : Rl), l[j]? = some x → oneB L x = true ∧ ∀ y ∈ R.take (i + j), ¬ y.name.toList = x.name.toList
 | [], i => ⟨fun _ j x h => (by cases h), fun _ => rfl⟩
 | x :: l, i => by
  rw [rightL, Bool.and_eq_true, Bool.and_eq_true, Bool.not_eq_true', List.any_eq_false, rightL_iff l (i + 1)]
  constructor
  · rintro ⟨h1, h2, h3⟩ j y hy
    cases j with
    | zero => cases hy; exact ⟨h1, fun y hy he => h2 y hy (beq_iff_eq.2 he)⟩
    | succ j =>
     have := h3 j y hy
     rwa [show i + 1 + j = i + (j + 1) by omega] at this
  · intro h
    refine ⟨(h 0 x rfl).1, fun y hy he => (h 0 x rfl).2 y hy (beq_iff_eq.1 he), fun j y hy => ?_⟩
    have := h (j + 1) y hy
    rwa [show i + (j + 1) = i + 1 + j by omega] at this
theorem right_iff {L : List Tm} {R : List Rl} : right L R = true ↔ Reg.right L = true ∧ R.length ≤ 8 ∧ (∀ x ∈ R, oneB L x = true) ∧ ∀ (i j : Nat) (x y : Rl), R[i]? = some x → R[j]? = some y → j < i → ¬ y.name.toList = x.name.toList := by
 unfold right
 rw [Bool.and_eq_true, Bool.and_eq_true, decide_eq_true_eq, rightL_iff]
 constructor
 · rintro ⟨h1, h2, h3⟩
   refine ⟨h1, h2, fun x hx => ?_, fun i j x y hx hy hij => ?_⟩
   · obtain ⟨i, hi⟩ := List.getElem?_of_mem hx
     exact (h3 i x hi).1
   · refine (h3 i x hx).2 y ?_
     rw [Nat.zero_add]
     exact List.mem_of_getElem? (by rw [List.getElem?_take_of_lt hij]; exact hy)
 · rintro ⟨h1, h2, h3, h4⟩
   refine ⟨h1, h2, fun i x hx => ⟨h3 x (List.mem_of_getElem? hx), fun y hy => ?_⟩⟩
   rw [Nat.zero_add] at hy
   obtain ⟨j, hj⟩ := List.getElem?_of_mem hy
   have hji : j < i := by
    have := (List.getElem?_eq_some_iff.1 hj).1
    rw [List.length_take] at this
    omega
   rw [List.getElem?_take_of_lt hji] at hj
   exact h4 i j x y hx hj hji
theorem right_good {L : List Tm} {R : List Rl} (hR : ∀ x ∈ R, RK x) (h : right L R = true) : R.length ≤ 8 ∧ ∀ x ∈ R, RlG x := by
 obtain ⟨h1, h2, h3, -⟩ := right_iff.1 h
 exact ⟨h2, fun x hx => oneB_good (Reg.right_iff.1 h1).1 (hR x hx) (h3 x hx)⟩
end Rul
end
section
attribute [local push_cast] encB encI encC V.cells_mk V.cells_len Nat.mul_one Int.sub_zero List.map_nil beq_self_eq_true List.head?_cons
namespace Sch
def greatS (s : Sl) : Bool := s.dv.great || decide (300 < s.name.size)
def greatP (s : Stp) : Bool := s.slot.dv.great || (decide (300 < s.slot.name.size) || decide (30 < s.order.length))
def great (t : Tm) : Bool := decide (30 < t.slots.length) || (decide (30 < t.steps.length) || (decide (300 < t.name.size) || (t.slots.any greatS || t.steps.any greatP)))
end Sch
theorem any_drop {α : Type} {p : α → Bool} {l : List α} {i : Nat} {x : α} (h : l[i]? = some x) : (l.drop i).any p = (p x || (l.drop (i + 1)).any p) := by
 obtain ⟨h1, rfl⟩ := List.getElem?_eq_some_iff.1 h
 rw [List.drop_eq_getElem_cons h1, List.any_cons]
theorem refGreat10F (t : Tm) (hw : t.Wf) (st : St) : TrF Tryz.prog 49 [.agg t.cells] st fun d st' => d = .b (Sch.great t) ∧ st' = st := by
 obtain ⟨-, hws, hsl, hwp, hpl⟩ := hw
 obtain ⟨B, hB⟩ : ∃ B, Sch.great t = B := ⟨_, rfl⟩
 rw [hB]
 unfold Sch.great at hB
 cases t with
 | mk nm slots steps =>
 unfold Tm.cells
 dsimp only at hB hws hwp hsl hpl ⊢
 have hws2 := Lib.hid hws
 have hwp2 := Lib.hid hwp
 clear hws hwp
 have hml : (slots.map Sl.cells).length = slots.length := List.length_map ..
 have hmp : (steps.map Stp.cells).length = steps.length := List.length_map ..
 have hcl := hMp Sl.cells slots
 have hcp := hMp Stp.cells steps
 generalize slots.map Sl.cells = SL at *
 generalize steps.map Stp.cells = TL at *
 have hn1 := hml
 have hn2 := hmp
 unfold maxLen at hsl hpl
 by_cases h1 : 30 < slots.length
 · have hBt : B = true := by rw [← hB]; simp [h1]
   subst hBt
   clear hB
   refine Qin [2] Tryz.func49 Tryz.results49 Tryz.ntmps49 ?_
   exact WR
 by_cases h2 : 30 < steps.length
 · have hBt : B = true := by rw [← hB]; simp [h2]
   subst hBt
   clear hB
   refine Qin [2] Tryz.func49 Tryz.results49 Tryz.ntmps49 ?_
   exact WR
 by_cases h3 : 300 < nm.size
 · have hBt : B = true := by rw [← hB]; simp [h3]
   subst hBt
   clear hB
   refine Qin [2] Tryz.func49 Tryz.results49 Tryz.ntmps49 ?_
   exact WR
 have HB : Hid (((slots.drop 0).any Sch.greatS || steps.any Sch.greatP) = B) := Lib.hid (by rw [← hB]; simp [h1, h2, h3])
 clear hB
 refine Qin [2] Tryz.func49 Tryz.results49 Tryz.ntmps49 ?_
 repeat' (first | refine QX ?_ | (refine QB ?_; intro b) | (with_reducible refine QZ ?_ <;> (try constructor) <;> intro hb <;> try intro hb1) | fail)
 refine tr_loop (ι := Nat) (fun i A st' => i ≤ slots.length ∧ Hid (((slots.drop i).any Sch.greatS || steps.any Sch.greatP) = B) ∧ A.df = [] ∧ A.e 1 = .ip [.str nm, .sl .shared SL, .sl .shared TL] ∧ A.e 3 = .i i ∧ st = st') (fun i => slots.length - i) 0 ⟨Nat.zero_le _, HB, Qf, Qf, Qf, rfl⟩ ?_
 rintro i A st' ⟨hi, HT, hdf, e1, e3, rfl⟩
 clear HB
 by_cases hlt : i < slots.length
 · obtain ⟨s, hs⟩ := gEx hlt
   have HE := HT.out
   rw [any_drop hs, Bool.or_assoc] at HE
   have hc := hcl.out i s hs
   have hG := refGreatF s.dv (hws2.out s (List.mem_of_getElem? hs)).2.2
   clear HT hs
   unfold Sch.greatS at HE
   cases s with
   | mk snm ty rq dv =>
   dsimp only at HE hG
   generalize V.great dv = g at *
   cases dv with
   | mk k n sv l =>
   rw [Sl.cells_mk] at hc
   rw [V.cells_mk] at hG
   replace hG := Lib.hid hG
   cases g with
   | true =>
    simp only [Bool.true_or] at HE
    subst HE
    exact WR
   | false =>
    by_cases h4 : 300 < snm.size
    · simp only [h4, decide_true, Bool.or_true, Bool.true_or] at HE
      subst HE
      exact WR
    · rw [decide_eq_false h4, Bool.or_self, Bool.false_or] at HE
      replace HE := Lib.hid HE
      repeat' (first | refine QX ?_ | (refine QB ?_; intro b) | (with_reducible refine QZ ?_ <;> (try constructor) <;> intro hb <;> try intro hb1) | fail)
      refine ⟨i + 1, ⟨hlt, HE, ?_, ?_, ?_, rfl⟩, ?_⟩
      all_goals exact Qf
 · have HE := HT.out
   rw [List.drop_of_length_le q_o, List.any_nil, Bool.false_or] at HE
   have HB : Hid ((steps.drop 0).any Sch.greatP = B) := HE
   clear HT HE
   repeat' (first | refine QX ?_ | (refine QB ?_; intro b) | (with_reducible refine QZ ?_ <;> (try constructor) <;> intro hb <;> try intro hb1) | fail)
   refine tr_loop (ι := Nat) (fun i A st' => i ≤ steps.length ∧ Hid ((steps.drop i).any Sch.greatP = B) ∧ A.df = [] ∧ A.e 1 = .ip [.str nm, .sl .shared SL, .sl .shared TL] ∧ A.e 4 = .i i ∧ st = st') (fun i => steps.length - i) 0 ⟨Nat.zero_le _, HB, Qf, Qf, Qf, rfl⟩ ?_
   clear hdf e1 e3
   rintro i A st' ⟨hi, HT, hdf, e1, e4, rfl⟩
   clear HB
   by_cases hlt : i < steps.length
   · obtain ⟨s, hs⟩ := gEx hlt
     have HE := HT.out
     rw [any_drop hs] at HE
     have hc := hcp.out i s hs
     have hG := refGreatF s.slot.dv (hwp2.out s (List.mem_of_getElem? hs)).2.2.1.2.2
     have hol := (hwp2.out s (List.mem_of_getElem? hs)).2.2.2
     clear HT hs
     unfold Sch.greatP at HE
     unfold maxLen at hol
     unfold Stp.cells at hc
     cases s with
     | mk kd col slot order =>
     cases slot with
     | mk snm ty rq dv =>
     dsimp only at HE hG hol
     generalize V.great dv = g at *
     cases dv with
     | mk k n sv l =>
     rw [Sl.cells_mk] at hc
     rw [V.cells_mk] at hG
     dsimp only [List.cons_append, List.nil_append] at hc
     replace hG := Lib.hid hG
     cases g with
     | true =>
      simp only [Bool.true_or] at HE
      subst HE
      exact WR
     | false =>
      by_cases h4 : 300 < snm.size
      · simp only [h4, decide_true, Bool.or_true, Bool.true_or] at HE
        subst HE
        exact WR
      · by_cases h5 : 30 < order.length
        · simp only [h5, decide_true, Bool.or_true, Bool.true_or] at HE
          subst HE
          exact WR
        · rw [decide_eq_false h4, decide_eq_false h5, Bool.or_self, Bool.or_self, Bool.false_or] at HE
          replace HE := Lib.hid HE
          repeat' (first | refine QX ?_ | (refine QB ?_; intro b) | (with_reducible refine QZ ?_ <;> (try constructor) <;> intro hb <;> try intro hb1) | fail)
          refine ⟨i + 1, ⟨hlt, HE, ?_, ?_, ?_, rfl⟩, ?_⟩
          all_goals exact Qf
   · have HE := HT.out
     rw [List.drop_of_length_le q_o, List.any_nil] at HE
     subst HE
     clear HT
     exact WR
end
theorem not_great10 {t : Tm} (hw : t.Wf) (h : Sch.great t = false) : TOk t ∧ (∀ s ∈ t.slots, s.dv.nodes ≤ 1000 ∧ s.dv.deep ≤ 10 ∧ s.name.size ≤ 300 ∧ s.Ok) ∧ (∀ s ∈ t.steps, s.slot.dv.nodes ≤ 1000 ∧ s.slot.dv.deep ≤ 10 ∧ s.slot.name.size ≤ 300 ∧ s.slot.Ok ∧ s.order.length ≤ 30) ∧ t.name.size ≤ 300 ∧ t.slots.length ≤ 30 ∧ t.steps.length ≤ 30 := by
 unfold Sch.great at h
 simp only [Bool.or_eq_false_iff, decide_eq_false_iff_not, List.any_eq_false, Bool.not_eq_true] at h
 obtain ⟨h1, h2, h3, h4, h5⟩ := h
 have hs : ∀ s ∈ t.slots, s.dv.nodes ≤ 1000 ∧ s.dv.deep ≤ 10 ∧ s.name.size ≤ 300 ∧ s.Ok := fun s hs => by
  have := h4 s hs
  unfold Sch.greatS at this
  rw [Bool.or_eq_false_iff, decide_eq_false_iff_not] at this
  obtain ⟨k1, k2⟩ := V.not_great this.1
  exact ⟨k1, k2, by omega, hw.ss s hs⟩
 have hp : ∀ s ∈ t.steps, s.slot.dv.nodes ≤ 1000 ∧ s.slot.dv.deep ≤ 10 ∧ s.slot.name.size ≤ 300 ∧ s.slot.Ok ∧ s.order.length ≤ 30 := fun s hs => by
  have := h5 s hs
  unfold Sch.greatP at this
  simp only [Bool.or_eq_false_iff, decide_eq_false_iff_not] at this
  obtain ⟨k1, k2⟩ := V.not_great this.1
  exact ⟨k1, k2, by omega, (hw.ps s hs).2.2.1, by omega⟩
 refine ⟨⟨by omega, by omega, fun s h => (hs s h).1, fun s h => ?_⟩, hs, hp, by omega, by omega, by omega⟩
 obtain ⟨k1, -, -, k4, k5⟩ := hp s h
 exact ⟨k1, V.Ok.bg k4.2.2, by omega⟩
section
attribute [local push_cast] encB encI encC encBs V.cells_mk V.cells_len Nat.mul_one Int.sub_zero List.map_nil beq_self_eq_true bne_self_eq_false List.head?_cons
open Go.RowKit B
namespace Reg
def great (L : List Tm) : Bool := decide (12 < L.length) || L.any Sch.great
structure Kn (t : Tm) : Prop where
 ok : TOk t
 q : TmQ t
 nm : t.name.size ≤ 300
 os : ∀ s ∈ t.slots, s.dv.Ok
 ot : ∀ s ∈ t.steps, s.slot.name.size ≤ 300 ∧ s.slot.dv.nodes ≤ 1000 ∧ s.slot.dv.Ok
theorem not_great {L : List Tm} (hw : ∀ t ∈ L, t.Wf) (h : great L = false) : L.length ≤ 12 ∧ ∀ t ∈ L, Kn t := by
 unfold great at h
 rw [Bool.or_eq_false_iff, decide_eq_false_iff_not, List.any_eq_false] at h
 refine ⟨by omega, fun t ht => ?_⟩
 have hg : Sch.great t = false := by
  have := h.2 t ht
  cases hq : Sch.great t with
  | false => rfl
  | true => exact absurd hq this
 obtain ⟨k1, k2, k3, k4, k5, k6⟩ := not_great10 (hw t ht) hg
 exact ⟨k1, ⟨by omega, by omega, fun s hs => V.Ok.bg (k2 s hs).2.2.2.2.2, fun s hs => ⟨V.Ok.bg (k3 s hs).2.2.2.1.2.2, by have := (k3 s hs).2.2.2.2; omega⟩⟩, k4, fun s hs => (k2 s hs).2.2.2.2.2, fun s hs => ⟨(k3 s hs).2.2.1, (k3 s hs).1, (k3 s hs).2.2.2.1.2.2⟩⟩
theorem Kn.good {t : Tm} (k : Kn t) (h : 0 < Sch.last t) : TmG t ∧ TmP t := by
 have hg := Sch.last_good h k.os fun s hs => (k.ot s hs).2.2
 exact ⟨hg, hg.put k.ot⟩
end Reg
theorem readsTms : Reads Tryz.prog 22 (fun l : List Tm => [D.sl .shared (l.map Tm.cells)]) fun l => (∀ x ∈ l, x.Wf) ∧ l.length ≤ maxLen :=
 reads_slice' (sz := 3) Tryz.underlying22 (by kernel_rfl) q_o readsTm (fun _ => rfl) fun t d hd => by
  unfold Tm.cells at hd
  simp only [List.mem_cons, List.not_mem_nil, or_false] at hd
  rcases hd with rfl | rfl | rfl <;> rfl
theorem refGreat13F (L : List Tm) (hw : ∀ t ∈ L, t.Wf) (hl : L.length ≤ maxLen) (st : St) : TrF Tryz.prog 15 [.sl .shared (L.map Tm.cells)] st fun d st' => d = .b (Reg.great L) ∧ st' = st := by
 unfold maxLen at hl
 have hm : (L.map Tm.cells).length = L.length := List.length_map ..
 have hc := hMp Tm.cells L
 have hG := Lib.hid fun (t : Tm) (ht : t ∈ L) => refGreat10F t (hw t ht)
 unfold Reg.great
 clear hw
 generalize L.map Tm.cells = LS at *
 by_cases h12 : 12 < L.length
 · rw [decide_eq_true h12, Bool.true_or]
   refine Qin [2] Tryz.func15 Tryz.results15 Tryz.ntmps15 ?_
   exact WR
 · rw [decide_eq_false h12, Bool.false_or]
   obtain ⟨F, hF⟩ : ∃ F, L.any Sch.great = F := ⟨_, rfl⟩
   rw [hF]
   have HF : Hid ((L.drop 0).any Sch.great = F) := hF
   clear hF
   refine Qin [2] Tryz.func15 Tryz.results15 Tryz.ntmps15 ?_
   repeat' (first | refine QX ?_ | (refine QB ?_; intro b) | (with_reducible refine QZ ?_ <;> (try constructor) <;> intro hb <;> try intro hb1) | fail)
   refine tr_loopd (ι := Nat) (fun i A st' => i ≤ L.length ∧ Hid ((L.drop i).any Sch.great = F) ∧ A.df = [] ∧ A.e 0 = .sl .shared LS ∧ A.e 3 = .i i ∧ st = st') (fun i => L.length - i) 0 ⟨Nat.zero_le _, HF, Qf, Qf, Qf, rfl⟩ ?_
   rintro i A st' ⟨hi, HT, hdf, e0, e3, rfl⟩
   clear HF
   by_cases hlt : i < L.length
   · obtain ⟨t, ht⟩ := gEx hlt
     have h1 := hc.out i t ht
     have HE := HT.out
     rw [any_drop ht] at HE
     have hR := hG.out t (List.mem_of_getElem? ht)
     clear HT ht
     obtain ⟨G, hGG⟩ : ∃ G, (L.drop (i + 1)).any Sch.great = G := ⟨_, rfl⟩
     rw [hGG] at HE
     replace hGG := Lib.hid hGG
     generalize Sch.great t = q at *
     unfold Tm.cells at h1 hR
     generalize t.slots.map Sl.cells = SL at *
     generalize t.steps.map Stp.cells = TL at *
     generalize t.name = nm at *
     replace hR := Lib.hid hR
     cases q with
     | true =>
      rw [Bool.true_or] at HE
      subst HE
      exact WR
     | false =>
      rw [Bool.false_or] at HE
      replace HE := Lib.hid (hGG.out.trans HE)
      clear hGG
      repeat' (first | refine QX ?_ | (refine QB ?_; intro b) | (with_reducible refine QZ ?_ <;> (try constructor) <;> intro hb <;> try intro hb1) | fail)
      refine ⟨i + 1, st, q_u, ⟨hlt, HE, ?_, ?_, ?_, rfl⟩, by omega⟩
      all_goals exact Qf
   · have HE := HT.out
     rw [List.drop_of_length_le q_o] at HE
     subst HE
     clear HT
     exact WR
theorem twoKn : Reg.Kn twoT := by
 have ho : ∀ k n : Int, (0 ≤ k ∧ k ≤ 9) → (0 ≤ n ∧ n ≤ 9) → (V.mk k n ⟨#[]⟩ []).Ok := fun k n h1 h2 => .mk q_o q_o (Nat.zero_le _) (Nat.zero_le _) fun x h => by cases h
 refine ⟨twoOk, ⟨by decide, by decide, ?_, ?_⟩, by decide, ?_, ?_⟩
 · intro s hs
   simp only [twoT, List.mem_cons, List.not_mem_nil, or_false] at hs
   rcases hs with rfl | rfl <;> exact (ho _ _ (by decide) (by decide)).bg
 · intro s hs
   simp only [twoT, List.mem_cons, List.not_mem_nil, or_false] at hs
   rcases hs with rfl | rfl <;> exact ⟨(ho _ _ (by decide) (by decide)).bg, by decide⟩
 · intro s hs
   simp only [twoT, List.mem_cons, List.not_mem_nil, or_false] at hs
   rcases hs with rfl | rfl <;> exact ho _ _ (by decide) (by decide)
 · intro s hs
   simp only [twoT, List.mem_cons, List.not_mem_nil, or_false] at hs
   rcases hs with rfl | rfl <;> exact ⟨by decide, by decide, ho _ _ (by decide) (by decide)⟩
abbrev L13 : List Tm := [twoT]
theorem l13_kn : ∀ t ∈ L13, Reg.Kn t := fun t h => by rw [List.mem_singleton.1 h]; exact twoKn
theorem l13_right : Reg.right L13 = true := Reg.right_iff.2 ⟨by decide, fun t h => by rw [List.mem_singleton.1 h, twoL]; decide, fun i j t u ht hu _ => by
 have h1 := (List.getElem?_eq_some_iff.1 ht).1
 have h2 := (List.getElem?_eq_some_iff.1 hu).1
 have : L13.length = 1 := rfl
 omega⟩
end
section
attribute [local push_cast] encB encI encC V.cells_mk V.cells_len Nat.mul_one Int.sub_zero List.map_nil beq_self_eq_true bne_self_eq_false List.head?_cons
open Go.RowKit B
def Ts.Wf (t : Ts) : Prop := t.val.Ok
def Ex.Wf (e : Ex) : Prop := e.val.Ok
def Pt.Wf (p : Pt) : Prop := (∀ t ∈ p.tests, t.Wf) ∧ p.tests.length ≤ maxLen
def Ac.Wf (a : Ac) : Prop := (∀ e ∈ a.vals, e.Wf) ∧ a.vals.length ≤ maxLen
structure Rl.Wf (x : Rl) : Prop where
 sal : -9223372036854775808 ≤ x.sal ∧ x.sal ≤ 9223372036854775807
 ps : ∀ p ∈ x.pats, p.Wf
 pl : x.pats.length ≤ maxLen
 ac : ∀ a ∈ x.acts, a.Wf
 al : x.acts.length ≤ maxLen
namespace Rul
def gT (t : Ts) : Bool := t.val.great
def gE (e : Ex) : Bool := e.val.great
def gP (p : Pt) : Bool := decide (10 < p.tests.length) || p.tests.any gT
def gA (a : Ac) : Bool := decide (20 < a.vals.length) || a.vals.any gE
def gR (x : Rl) : Bool := decide (300 < x.name.size) || (decide (8 < x.pats.length) || (decide (8 < x.acts.length) || (x.pats.any gP || x.acts.any gA)))
def great (R : List Rl) : Bool := decide (12 < R.length) || R.any gR
theorem not_great {R : List Rl} (hw : ∀ x ∈ R, x.Wf) (h : great R = false) : R.length ≤ 12 ∧ ∀ x ∈ R, RK x := by
 unfold great at h
 simp only [Bool.or_eq_false_iff, decide_eq_false_iff_not, List.any_eq_false, Bool.not_eq_true] at h
 refine ⟨by omega, fun x hx => ?_⟩
 have h2 := h.2 x hx
 unfold gR at h2
 simp only [Bool.or_eq_false_iff, decide_eq_false_iff_not, List.any_eq_false, Bool.not_eq_true] at h2
 obtain ⟨k1, k2, k3, k4, k5⟩ := h2
 have hv : ∀ v : V, v.Ok → v.great = false → VQ v := fun v h1 h2 => by
  obtain ⟨a, b⟩ := V.not_great h2
  exact ⟨h1, a, by omega⟩
 have hp : ∀ p ∈ x.pats, p.tests.length ≤ 10 ∧ ∀ t ∈ p.tests, VQ t.val := fun p hp => by
  have := k4 p hp
  unfold gP at this
  simp only [Bool.or_eq_false_iff, decide_eq_false_iff_not, List.any_eq_false, Bool.not_eq_true] at this
  exact ⟨by omega, fun t ht => hv _ ((hw x hx).ps p hp |>.1 t ht) (this.2 t ht)⟩
 have ha : ∀ a ∈ x.acts, a.vals.length ≤ 20 ∧ ∀ e ∈ a.vals, VQ e.val := fun a ha => by
  have := k5 a ha
  unfold gA at this
  simp only [Bool.or_eq_false_iff, decide_eq_false_iff_not, List.any_eq_false, Bool.not_eq_true] at this
  exact ⟨by omega, fun t ht => hv _ ((hw x hx).ac a ha |>.1 t ht) (this.2 t ht)⟩
 exact ⟨by omega, by omega, by omega, fun p h => by have := (hp p h).1; omega, fun a h => by have := (ha a h).1; omega, fun p h => (hp p h).2, fun a h => (ha a h).2⟩
end Rul
end
section
attribute [local push_cast] encB encI encC V.cells_mk V.cells_len Nat.mul_one Int.sub_zero List.map_nil beq_self_eq_true bne_self_eq_false List.head?_cons
open Go.RowKit B
set_option maxHeartbeats 16000000
end
section
attribute [local push_cast] encB encI encC encBs V.cells_mk V.cells_len Nat.mul_one Int.sub_zero List.map_nil beq_self_eq_true bne_self_eq_false List.head?_cons
open Go.RowKit B
set_option maxHeartbeats 16000000
abbrev v0 : V := .mk 0 0 ⟨#[]⟩ []
abbrev xR : Rl := ⟨⟨#[114]⟩, 0, [⟨0, false, [⟨5, 1, 0, v0⟩]⟩], [⟨1, 0, 0, 0, [⟨true, 0, v0⟩, ⟨true, 0, v0⟩, ⟨false, 0, v0⟩]⟩]⟩
abbrev yR : Rl := ⟨⟨#[114]⟩, 0, [⟨0, false, []⟩], [⟨1, 0, 0, 0, [⟨true, 0, v0⟩, ⟨true, 0, v0⟩, ⟨false, 0, v0⟩]⟩]⟩
theorem xR_cells : xR.cells = [.str ⟨#[114]⟩, .i 0, .sl .shared [[.i 0, .b false, .sl .shared [[.i 5, .i 1, .i 0, .i 0, .i 0, .str ⟨#[]⟩, .sl .shared []]]]], .sl .shared [[.i 1, .i 0, .i 0, .i 0, .sl .shared [[.b true, .i 0, .i 0, .i 0, .str ⟨#[]⟩, .sl .shared []], [.b true, .i 0, .i 0, .i 0, .str ⟨#[]⟩, .sl .shared []], [.b false, .i 0, .i 0, .i 0, .str ⟨#[]⟩, .sl .shared []]]]]] := by
 simp only [Rl.cells, Pt.cells, Ac.cells, List.map_cons, List.map_nil, Ts.cells_mk, Ex.cells_mk]
theorem yR_cells : yR.cells = [.str ⟨#[114]⟩, .i 0, .sl .shared [[.i 0, .b false, .sl .shared []]], .sl .shared [[.i 1, .i 0, .i 0, .i 0, .sl .shared [[.b true, .i 0, .i 0, .i 0, .str ⟨#[]⟩, .sl .shared []], [.b true, .i 0, .i 0, .i 0, .str ⟨#[]⟩, .sl .shared []], [.b false, .i 0, .i 0, .i 0, .str ⟨#[]⟩, .sl .shared []]]]]] := by
 simp only [Rl.cells, Pt.cells, Ac.cells, List.map_cons, List.map_nil, Ts.cells_mk, Ex.cells_mk]
theorem v0_q : VQ v0 := ⟨.mk q_o q_o (Nat.zero_le _) (Nat.zero_le _) (fun x h => by cases h), by decide, by decide⟩
theorem x_rk : Rul.RK xR ∧ Rul.RK yR := by
 constructor <;> (refine ⟨by decide, by decide, by decide, ?_, ?_, ?_, ?_⟩ <;> intro p hp <;> rw [List.mem_singleton.1 hp] <;> first | decide | skip)
 · intro t ht; rw [List.mem_singleton.1 ht]; exact v0_q
 · intro t ht
   simp only [List.mem_cons, List.not_mem_nil, or_false] at ht
   rcases ht with rfl | rfl | rfl <;> exact v0_q
 · intro t ht; cases ht
 · intro t ht
   simp only [List.mem_cons, List.not_mem_nil, or_false] at ht
   rcases ht with rfl | rfl | rfl <;> exact v0_q
theorem x_right : Rul.right L13 [xR] = true ∧ Rul.right L13 [yR] = false := by
 unfold Rul.right
 rw [l13_right]
 exact ⟨by kernel_rfl, by kernel_rfl⟩
theorem x_slots : (Rul.slots L13 0).length = 3 ∧ (Rul.slots L13 1).length = 0 := ⟨by kernel_rfl, by kernel_rfl⟩
theorem x_bound : Rul.bound xR = [0] := by kernel_rfl
theorem x_good : ∀ x ∈ [xR], Rul.RlG x := (Rul.right_good (fun x h => by rw [List.mem_singleton.1 h]; exact x_rk.1) x_right.1).2
theorem x_len : (Rul.put [xR]).length ≤ 10000000 := by
 exact of_decide_eq_true (by kernel_rfl)
theorem rul17AliveF (st : St) : TrF Tryz.prog 32 [] st fun d st' => d = .b true ∧ st' = st := by
 have hT := twoF
 have hok : ∀ t ∈ L13, TOk t := fun t h => (l13_kn t h).ok
 have hkx : ∀ x ∈ [xR], Rul.RK x := fun x h => by rw [List.mem_singleton.1 h]; exact x_rk.1
 have hky : ∀ x ∈ [yR], Rul.RK x := fun x h => by rw [List.mem_singleton.1 h]; exact x_rk.2
 have hP := rulePutF [xR] (fun x h => ⟨hkx x h, by rw [List.mem_singleton.1 h]; decide⟩) (by decide)
 have hR1 := ruleRightF L13 hok (by decide) [xR] hkx (by decide)
 have hR2 := ruleRightF L13 hok (by decide) [yR] hky (by decide)
 have hRd := binRead2F .shared (Rul.put [xR]) x_len
 have hgl := Rul.glist_rules [xR] (by decide) x_good .shared []
 have hrp := Rul.read_put L13 [xR] x_right.1 (by decide) x_good .shared []
 rw [Rul.put_eq x_good] at hrp
 have hRR := fun rb => ruleReadF L13 hok (by decide) rb ⟨.shared, (Rul.listW Rul.rlW [xR]).1 ++ [], false⟩ (by rw [hgl]; exact hkx) (by rw [hgl]; decide)
 rw [hrp, List.append_nil, ← Rul.put_eq x_good] at hRR
 clear hgl hrp
 have hB := ruleBoundF xR (by decide) (fun p h => by rw [List.mem_singleton.1 h]; decide)
 have hS0 := ruleSlotsF L13 hok (by decide) 0
 have hS1 := ruleSlotsF L13 hok (by decide) 1
 have hl0 : ((Rul.slots L13 0).map Sl.cells).length = 3 := (List.length_map ..).trans x_slots.1
 have hl1 : ((Rul.slots L13 1).map Sl.cells).length = 0 := (List.length_map ..).trans x_slots.2
 rw [x_right.1] at hR1
 rw [x_right.2] at hR2
 rw [x_bound] at hB
 generalize (Rul.slots L13 0).map Sl.cells = S0 at *
 generalize (Rul.slots L13 1).map Sl.cells = S1 at *
 generalize Rul.put [xR] = PB at *
 simp only [List.map_cons, List.map_nil, twoC, xR_cells, yR_cells, encB, encI, Option.getD, Option.isSome] at hT hP hRd hRR hR1 hR2 hB hS0 hS1
 replace hT := Lib.hid hT
 replace hP := Lib.hid hP
 replace hRd := Lib.hid hRd
 replace hRR := Lib.hid hRR
 replace hR1 := Lib.hid hR1
 replace hR2 := Lib.hid hR2
 replace hB := Lib.hid hB
 replace hS0 := Lib.hid hS0
 replace hS1 := Lib.hid hS1
 clear hok hkx hky
 refine Qin [0] Tryz.func32 Tryz.results32 Tryz.ntmps32 ?_
 repeat' (first | with_reducible refine s_boxP ?_ | refine QX ?_ | (refine QB ?_; intro b) | (with_reducible refine QZ ?_ <;> (try constructor) <;> intro hb <;> try intro hb1) | refine QL Tryz.call39 (hP.out _) ?_ | (refine QN Tryz.call27 (hRd.out _) ?_; intro rb) | refine QL Tryz.call44 (hRR.out rb _) ?_ | refine QL Tryz.call34 (hR1.out _) ?_ | refine QL Tryz.call34 (hR2.out _) ?_ | refine QL Tryz.call37 (hB.out _) ?_ | refine QL Tryz.call42 (hS0.out _) ?_ | refine QL Tryz.call42 (hS1.out _) ?_ | fail)
 all_goals exact Qret
abbrev penQ (pb : Nat) (o : Own) (X : List UInt8) (q : Bool) (s : St) : St := .box pb 136 [.sl o (X.map encB), .b q] :: .room o 5 1 (X.map encB).length :: s
def PenD (f : FuncId) (args : List D) (pb : Nat) (X Y : List UInt8) (q q' : Bool) : Prop := ∀ (o : Own), o ≠ .shared → ∀ s, TrF Tryz.prog f args (penQ pb o X q s) fun d st' => ∃ o', o' ≠ .shared ∧ d = .tup [] ∧ st' = penQ pb o' (X ++ Y) (q || q') s
namespace Rul
def r8 (n : Int) : UInt8 := if badN n = true then 0 else Reg.b8 n
end Rul
theorem pen17ManyF (pb n : Nat) (hn : n ≤ 1000000) (X : List UInt8) (q : Bool) (hX : X.length ≤ 10000000000000) : PenD 106 [.ptr pb 0, .i n] pb X (be 4 n) q false := by
 intro o ho s
 have hN := refNumN n hn
 have hb4 : (be 4 n).length = 4 := be_len ..
 have happ : (X ++ be 4 n).map encB = X.map encB ++ (be 4 n).map encB := List.map_append ..
 have hXm : (X.map encB).length = X.length := List.length_map ..
 have hBm : ((be 4 n).map encB).length = (be 4 n).length := List.length_map ..
 rw [Bool.or_false]
 generalize be 4 n = Y at *
 replace hN := Lib.hid hN
 refine Qin [] Tryz.func106 Tryz.results106 Tryz.ntmps106 ?_
 repeat' (first | refine QV ?_ | ((with_reducible refine w_draw [(pb, [.sl o (X.map encB), .b q])] ?_ ?_ ?_ ?_ ?_); (iterate 3 (focus kernel_rfl)); (focus exact q_1)) | ((with_reducible refine And.intro ?_ ?_); (focus exact q_1)) | refine QY ?_ | (refine QB ?_; intro b) | (refine QP ?_; intro o' ho') | (with_reducible refine QZ ?_ <;> (try constructor) <;> intro hb <;> try intro hb1) | fail)
 all_goals (refine retA_mk (by simp) q_y (st' := .box pb 136 [.sl o' (X.map encB ++ Y.map encB), .b q] :: .room o' 5 1 (X.map encB ++ Y.map encB).length :: s) q_t (LE.of_eq rfl) ⟨o', ho', rfl, ?_⟩; unfold penQ; rw [happ])
theorem pen17PutF (pb : Nat) (n : Int) (X : List UInt8) (q : Bool) (hX : X.length ≤ 10000000000000) : PenD 108 [.ptr pb 0, .i n] pb X [Rul.r8 n] q (Rul.badN n) := by
 intro o ho s
 have hXm : (X.map encB).length = X.length := List.length_map ..
 have hw := u8_wrapI n
 have hw0 := u8_wrapI 0
 have h0 : Reg.b8 0 = 0 := by decide
 have happ : (X ++ [Rul.r8 n]).map encB = X.map encB ++ [encB (Rul.r8 n)] := List.map_append ..
 unfold Rul.r8 at *
 cases hb : Rul.badN n with
 | true =>
  have hb2 : n < 0 ∨ 255 < n := by
   unfold Rul.badN at hb
   rw [Bool.or_eq_true, decide_eq_true_eq, decide_eq_true_eq] at hb
   exact hb
  rw [hb, if_pos rfl] at happ
  rw [if_pos rfl, Bool.or_true]
  rw [h0] at hw0
  clear hb hw
  generalize (0 : UInt8) = z at *
  rcases hb2 with hb | hb
  all_goals (
   refine Qin [] Tryz.func108 Tryz.results108 Tryz.ntmps108 ?_
   repeat' (first | refine QX ?_ | (refine QB ?_; intro b) | (refine QP ?_; intro o' ho') | (with_reducible refine QZ ?_ <;> (try constructor) <;> intro hb <;> try intro hb1) | fail)
   all_goals (refine retA_mk (by simp) q_y (st' := .box pb 136 [.sl o' (X.map encB ++ [encB z]), .b true] :: .room o' 5 1 (X.map encB ++ [encB z]).length :: s) q_t (LE.of_eq rfl) ⟨o', ho', rfl, ?_⟩; unfold penQ; rw [happ]))
 | false =>
  have hb2 : ¬ n < 0 ∧ ¬ 255 < n := by
   unfold Rul.badN at hb
   rw [Bool.or_eq_false_iff, decide_eq_false_iff_not, decide_eq_false_iff_not] at hb
   exact hb
  rw [hb, if_neg Bool.false_ne_true] at happ
  rw [if_neg Bool.false_ne_true, Bool.or_false]
  obtain ⟨c1, c2⟩ := hb2
  clear hb hw0 h0
  generalize Reg.b8 n = z at *
  refine Qin [] Tryz.func108 Tryz.results108 Tryz.ntmps108 ?_
  repeat' (first | refine QX ?_ | (refine QB ?_; intro b) | (refine QP ?_; intro o' ho') | (with_reducible refine QZ ?_ <;> (try constructor) <;> intro hb <;> try intro hb1) | fail)
  all_goals (refine retA_mk (by simp) q_y (st' := .box pb 136 [.sl o' (X.map encB ++ [encB z]), .b q] :: .room o' 5 1 (X.map encB ++ [encB z]).length :: s) q_t (LE.of_eq rfl) ⟨o', ho', rfl, ?_⟩; unfold penQ; rw [happ])
theorem pen17FlagF (pb : Nat) (b : Bool) (X : List UInt8) (q : Bool) (hX : X.length ≤ 10000000000000) : PenD 109 [.ptr pb 0, .b b] pb X [if b = true then 1 else 0] q false := by
 intro o ho s
 have h1 := pen17PutF pb 1 X q hX o ho
 have h0 := pen17PutF pb 0 X q hX o ho
 rw [show Rul.r8 1 = 1 from by decide, show Rul.badN 1 = false from rfl] at h1
 rw [show Rul.r8 0 = 0 from by decide, show Rul.badN 0 = false from rfl] at h0
 replace h1 := Lib.hid h1
 replace h0 := Lib.hid h0
 cases b
 · refine Qin [] Tryz.func109 Tryz.results109 Tryz.ntmps109 ?_
   repeat' (first | refine QX ?_ | (refine QB ?_; intro b) | (refine QP ?_; intro o' ho') | (with_reducible refine QZ ?_ <;> (try constructor) <;> intro hb <;> try intro hb1) | (refine QE Tryz.call108 (h0.out _) ?_; intro o1 ho1) | fail)
   all_goals exact retA_mk (by simp) q_y (List.Sublist.refl _) (LE.of_eq rfl) ⟨o1, ho1, rfl, rfl⟩
 · refine Qin [] Tryz.func109 Tryz.results109 Tryz.ntmps109 ?_
   repeat' (first | refine QX ?_ | (refine QB ?_; intro b) | (refine QP ?_; intro o' ho') | (with_reducible refine QZ ?_ <;> (try constructor) <;> intro hb <;> try intro hb1) | (refine QE Tryz.call108 (h1.out _) ?_; intro o1 ho1) | fail)
   all_goals exact retA_mk (by simp) q_y (List.Sublist.refl _) (LE.of_eq rfl) ⟨o1, ho1, rfl, rfl⟩
theorem pen17ValueF (pb : Nat) (v : V) (hv : VQ v) (X : List UInt8) (q : Bool) (hX : X.length ≤ 10000000000000) : PenD 110 [.ptr pb 0, .agg v.cells] pb X v.bin q (decide (v.bin = [])) := by
 intro o ho s
 have hB := refValueF v hv.ok hv.nodes hv.deep
 have hbl := Reg.bin_len v
 have hm : (v.bin.map encB).length = v.bin.length := List.length_map ..
 have hXm : (X.map encB).length = X.length := List.length_map ..
 have hn : Hid (decide (v.bin = []) = decide ((v.bin.length : Int) = 0)) := Lib.hid (by
  cases v.bin with
  | nil => rfl
  | cons a l => rw [decide_eq_false (by intro h; cases h), decide_eq_false (by rw [List.length_cons]; omega)])
 rw [hn.out]
 clear hn
 generalize v.bin = Y at *
 cases v with
 | mk k n sv lv =>
 rw [V.cells_mk] at *
 generalize lv.map V.cells = VL at *
 clear hv
 replace hB := Lib.hid hB
 have happ : (X ++ Y).map encB = X.map encB ++ Y.map encB := List.map_append ..
 by_cases h0 : (Y.length : Int) = 0
 · rw [decide_eq_true h0, Bool.or_true]
   refine Qin [] Tryz.func110 Tryz.results110 Tryz.ntmps110 ?_
   repeat' (first | refine QX ?_ | (refine QB ?_; intro b) | (refine QP ?_; intro o' ho') | (with_reducible refine QZ ?_ <;> (try constructor) <;> intro hb <;> try intro hb1) | fail)
   all_goals (refine retA_mk (by simp) q_y (st' := .box pb 136 [.sl o' (X.map encB ++ Y.map encB), .b true] :: .room o' 5 1 (X.map encB ++ Y.map encB).length :: s) q_t (LE.of_eq rfl) ⟨o', ho', rfl, ?_⟩; unfold penQ; rw [happ])
 · rw [decide_eq_false h0, Bool.or_false]
   have h0b : ((Y.length : Int) == 0) = false := beq_eq_false_iff_ne.2 h0
   refine Qin [] Tryz.func110 Tryz.results110 Tryz.ntmps110 ?_
   repeat' (first | refine QX ?_ | (refine QB ?_; intro b) | (refine QP ?_; intro o' ho') | (with_reducible refine QZ ?_ <;> (try constructor) <;> intro hb <;> try intro hb1) | fail)
   all_goals (refine retA_mk (by simp) q_y (st' := .box pb 136 [.sl o' (X.map encB ++ Y.map encB), .b q] :: .room o' 5 1 (X.map encB ++ Y.map encB).length :: s) q_t (LE.of_eq rfl) ⟨o', ho', rfl, ?_⟩; unfold penQ; rw [happ])
end
section
attribute [local push_cast] encB encI encC encBs V.cells_mk V.cells_len Nat.mul_one Int.sub_zero List.map_nil beq_self_eq_true bne_self_eq_false List.head?_cons
open Go.RowKit B
set_option maxHeartbeats 32000000
namespace Rul
def bitB (b : Bool) : UInt8 := if b = true then 1 else 0
def tsQ (t : Ts) : List UInt8 × Bool := ([r8 t.kind] ++ [r8 t.slot] ++ [r8 t.var] ++ t.val.bin, badN t.kind || badN t.slot || badN t.var || decide (t.val.bin = []))
def ptQ (p : Pt) : List UInt8 × Bool := ([r8 p.tmpl] ++ [bitB p.neg] ++ (listW tsQ p.tests).1, badN p.tmpl || (listW tsQ p.tests).2)
def exQ (e : Ex) : List UInt8 × Bool := ([bitB e.isVar] ++ [r8 e.var] ++ e.val.bin, badN e.var || decide (e.val.bin = []))
def acQ (a : Ac) : List UInt8 × Bool := ([r8 a.kind] ++ [r8 a.pat] ++ [r8 a.tmpl] ++ [r8 a.slot] ++ (listW exQ a.vals).1, badN a.kind || badN a.pat || badN a.tmpl || badN a.slot || (listW exQ a.vals).2)
def rlQ (x : Rl) : List UInt8 × Bool := (headW x ++ (listW ptQ x.pats).1 ++ (listW acQ x.acts).1, (listW ptQ x.pats).2 || (listW acQ x.acts).2)
def putQ (R : List Rl) : List UInt8 := if (listW rlQ R).2 = true then [] else (listW rlQ R).1
theorem flat_drop {α : Type} {f : α → List UInt8} {l : List α} {i : Nat} {a : α} (h : l[i]? = some a) : ((l.drop i).map f).flatten = f a ++ ((l.drop (i + 1)).map f).flatten := by
 obtain ⟨h1, rfl⟩ := List.getElem?_eq_some_iff.1 h
 rw [List.drop_eq_getElem_cons h1, List.map_cons, List.flatten_cons]
theorem any_dropQ {α : Type} {p : α → Bool} {l : List α} {i : Nat} {x : α} (h : l[i]? = some x) : (l.drop i).any p = (p x || (l.drop (i + 1)).any p) := by
 obtain ⟨h1, rfl⟩ := List.getElem?_eq_some_iff.1 h
 rw [List.drop_eq_getElem_cons h1, List.any_cons]
def Eqv {α : Type} (f g : α → List UInt8 × Bool) : Prop := ∀ a, (f a).2 = (g a).2 ∧ ((g a).2 = false → (f a).1 = (g a).1)
theorem listW_eqv {α : Type} {f g : α → List UInt8 × Bool} (h : Eqv f g) : Eqv (listW f) (listW g) := fun l => by
 unfold listW
 dsimp only
 constructor
 · congr 1; funext a; exact (h a).1
 · intro hb
   congr 2
   refine List.map_congr_left fun a ha => (h a).2 ?_
   rw [List.any_eq_false] at hb
   exact Bool.not_eq_true _ ▸ hb a ha
theorem r8_b8 {n : Int} (h : badN n = false) : r8 n = Reg.b8 n := by unfold r8; rw [h]; rfl
theorem bit_b8 (b : Bool) : Reg.b8 (bitI b) = bitB b ∧ badN (bitI b) = false := by cases b <;> exact ⟨by decide, rfl⟩
theorem ts_eqv : Eqv tsQ tsW := fun t => by
 unfold tsQ tsW catW numsW valW
 simp only [List.any_cons, List.any_nil, List.map_cons, List.map_nil, Bool.or_false]
 refine ⟨by simp only [Bool.or_assoc], fun h => ?_⟩
 simp only [Bool.or_eq_false_iff] at h
 obtain ⟨⟨h1, h2, h3⟩, -⟩ := h
 rw [r8_b8 h1, r8_b8 h2, r8_b8 h3]
 rfl
theorem pt_eqv : Eqv ptQ ptW := fun p => by
 have hl := listW_eqv ts_eqv p.tests
 have hb := bit_b8 p.neg
 unfold ptQ ptW catW numsW
 simp only [List.any_cons, List.any_nil, List.map_cons, List.map_nil, Bool.or_false, hb.2, hb.1]
 refine ⟨by rw [hl.1], fun h => ?_⟩
 simp only [Bool.or_eq_false_iff] at h
 rw [r8_b8 h.1, hl.2 h.2]
 rfl
theorem ex_eqv : Eqv exQ exW := fun e => by
 have hb := bit_b8 e.isVar
 unfold exQ exW catW numsW valW
 simp only [List.any_cons, List.any_nil, List.map_cons, List.map_nil, Bool.or_false, Bool.false_or, hb.2, hb.1]
 refine ⟨trivial, fun h => ?_⟩
 simp only [Bool.or_eq_false_iff] at h
 rw [r8_b8 h.1]
 rfl
theorem ac_eqv : Eqv acQ acW := fun a => by
 have hl := listW_eqv ex_eqv a.vals
 unfold acQ acW catW numsW
 simp only [List.any_cons, List.any_nil, List.map_cons, List.map_nil, Bool.or_false]
 refine ⟨by rw [hl.1]; simp only [Bool.or_assoc], fun h => ?_⟩
 simp only [Bool.or_eq_false_iff] at h
 obtain ⟨⟨h1, h2, h3, h4⟩, h5⟩ := h
 rw [r8_b8 h1, r8_b8 h2, r8_b8 h3, r8_b8 h4, hl.2 h5]
 rfl
theorem rl_eqv : Eqv rlQ rlW := fun x => by
 have h1 := listW_eqv pt_eqv x.pats
 have h2 := listW_eqv ac_eqv x.acts
 unfold rlQ rlW catW
 simp only [Bool.false_or]
 refine ⟨by rw [h1.1, h2.1], fun h => ?_⟩
 simp only [Bool.or_eq_false_iff] at h
 rw [h1.2 h.1, h2.2 h.2]
theorem putQ_eq (R : List Rl) : putQ R = put R := by
 have h := listW_eqv rl_eqv R
 unfold putQ put
 rw [h.1]
 cases hq : (listW rlW R).2 with
 | true => rfl
 | false => rw [if_neg Bool.false_ne_true, if_neg Bool.false_ne_true, h.2 hq]
theorem listQ_len {α : Type} (f : α → List UInt8 × Bool) (c : Nat) (l : List α) (h : ∀ a ∈ l, (f a).1.length ≤ c) : (listW f l).1.length ≤ 4 + l.length * c := Reg.listB_len (fun a => (f a).1) c l h
theorem tsQ_len (t : Ts) : (tsQ t).1.length ≤ 20510 := by
 have := Reg.bin_len t.val
 unfold tsQ
 simp only [List.length_append, List.length_cons, List.length_nil]
 omega
theorem exQ_len (t : Ex) : (exQ t).1.length ≤ 20510 := by
 have := Reg.bin_len t.val
 unfold exQ
 simp only [List.length_append, List.length_cons, List.length_nil]
 omega
theorem ptQ_len (p : Pt) (h : p.tests.length ≤ 100) : (ptQ p).1.length ≤ 2051010 := by
 have h1 := listQ_len tsQ 20510 p.tests fun t _ => tsQ_len t
 have h2 : p.tests.length * 20510 ≤ 100 * 20510 := Nat.mul_le_mul_right _ h
 unfold ptQ
 simp only [List.length_append, List.length_cons, List.length_nil]
 omega
theorem acQ_len (a : Ac) (h : a.vals.length ≤ 100) : (acQ a).1.length ≤ 2051010 := by
 have h1 := listQ_len exQ 20510 a.vals fun t _ => exQ_len t
 have h2 : a.vals.length * 20510 ≤ 100 * 20510 := Nat.mul_le_mul_right _ h
 unfold acQ
 simp only [List.length_append, List.length_cons, List.length_nil]
 omega
theorem rlQ_len (x : Rl) (h : RK x) : (rlQ x).1.length ≤ 411103000 := by
 have h0 := headW_len x h.nm
 have h1 := listQ_len ptQ 2051010 x.pats fun p hp => ptQ_len p (h.nt p hp)
 have h2 := listQ_len acQ 2051010 x.acts fun a ha => acQ_len a (h.nv a ha)
 have h3 : x.pats.length * 2051010 ≤ 100 * 2051010 := Nat.mul_le_mul_right _ h.np
 have h4 : x.acts.length * 2051010 ≤ 100 * 2051010 := Nat.mul_le_mul_right _ h.na
 unfold rlQ
 simp only [List.length_append]
 omega
end Rul
end
section
attribute [local push_cast] encB encI encC encBs V.cells_mk V.cells_len Nat.mul_one Int.sub_zero List.map_nil beq_self_eq_true bne_self_eq_false List.head?_cons
open Go.RowKit B
set_option maxHeartbeats 64000000
theorem ref17PutF (R : List Rl) (hR : ∀ x ∈ R, Rul.RK x ∧ (-9223372036854775808 ≤ x.sal ∧ x.sal ≤ 9223372036854775807)) (hl : R.length ≤ 1000) (st : St) : TrF Tryz.prog 40 [.sl .shared (R.map Rl.cells)] st fun d st' => d = .sl .shared ((Rul.put R).map encB) ∧ st' = st := by
 rw [← Rul.putQ_eq]
 unfold Rul.putQ
 have hTl := Rul.listQ_len Rul.rlQ 411103000 R fun x h => Rul.rlQ_len x (hR x h).1
 have h3 : R.length * 411103000 ≤ 1000 * 411103000 := Nat.mul_le_mul_right _ hl
 obtain ⟨T, hT⟩ : ∃ T, (Rul.listW Rul.rlQ R).1 = T := ⟨_, rfl⟩
 obtain ⟨Q, hQ⟩ : ∃ Q, (Rul.listW Rul.rlQ R).2 = Q := ⟨_, rfl⟩
 rw [hT] at hTl
 rw [hT, hQ]
 have hT0 : Hid (([] ++ be 4 R.length) ++ ((R.drop 0).map fun a => (Rul.rlQ a).1).flatten = T) := hT
 have hQ0 : Hid ((false || (R.drop 0).any fun a => (Rul.rlQ a).2) = Q) := hQ
 replace hTl : T.length ≤ 1000000000000 := by omega
 clear hT hQ h3
 have hm : (R.map Rl.cells).length = R.length := List.length_map ..
 have hc := hMp Rl.cells R
 have hM := Lib.hid fun (pb n : Nat) (hn : n ≤ 1000) (X : List UInt8) (q : Bool) (h : X.length ≤ 1000000000000) (o : Own) (ho : o ≠ .shared) => pen17ManyF pb n q_o X q q_o o ho
 have hP := Lib.hid fun (pb : Nat) (n : Int) (X : List UInt8) (q : Bool) (h : X.length ≤ 1000000000000) (o : Own) (ho : o ≠ .shared) => pen17PutF pb n X q q_o o ho
 have hF := Lib.hid fun (pb : Nat) (n : Bool) (X : List UInt8) (q : Bool) (h : X.length ≤ 1000000000000) (o : Own) (ho : o ≠ .shared) => pen17FlagF pb n X q q_o o ho
 have hV := Lib.hid fun (pb : Nat) (v : V) (hv : VQ v) (X : List UInt8) (q : Bool) (h : X.length ≤ 1000000000000) (o : Own) (ho : o ≠ .shared) => pen17ValueF pb v hv X q q_o o ho
 have hpre : Hid (∀ X Y : List UInt8, X ++ Y = T → X.length ≤ 1000000000000) := Lib.hid fun X Y h => by
  have := congrArg List.length h
  rw [List.length_append] at this
  omega
 have hR2 := Lib.hid hR
 clear hR
 generalize R.map Rl.cells = RS at *
 have hM0 := fun pb => hM.out pb R.length hl [] false (by decide) .tight tight_ne
 unfold penQ at hM0
 simp only [List.map_nil] at hM0
 replace hM0 := Lib.hid hM0
 refine Qin [2] Tryz.func40 Tryz.results40 Tryz.ntmps40 ?_
 refine tr_room 5 1 ([] : List (List D)).length ?_
 repeat' (first | with_reducible refine s_boxP ?_ | refine QX ?_ | (refine QB ?_; intro b) | (refine QP ?_; intro o' ho') | (with_reducible refine QZ ?_ <;> (try constructor) <;> intro hb <;> try intro hb1) | ((with_reducible apply (ck_ex2 Tryz.call106)); exact (hM0.out b); (focus exact q_l); (focus exact fun _ => q_a); (focus exact ⟨.tight, by intro h; cases h⟩); intro o1 ho1) | fail)
 clear hM0
 revert b
 intro pb
 refine tr_loopd (ι := Nat) (fun i A st' => i ≤ R.length ∧ A.df = [] ∧ A.e 0 = .sl .shared RS ∧ A.e 3 = .ptr pb 0 ∧ A.e 4 = .i i ∧ ∃ (o : Own) (X : List UInt8) (q : Bool), o ≠ .shared ∧ Hid (X ++ ((R.drop i).map fun a => (Rul.rlQ a).1).flatten = T) ∧ Hid ((q || (R.drop i).any fun a => (Rul.rlQ a).2) = Q) ∧ st' = penQ pb o X q st) (fun i => R.length - i) 0 ⟨Nat.zero_le _, Qf, Qf, Qf, Qf, o1, _, _, ho1, hT0, hQ0, rfl⟩ ?_
 clear hT0 hQ0 ho1 o1
 rintro i A st' ⟨hi, hdf, e0, e3, e4, o, X, q, ho, HT, HQ, rfl⟩
 by_cases hlt : ¬ i < R.length
 · obtain rfl : i = R.length := by omega
   have h1 := HT.out
   have h2 := HQ.out
   rw [List.drop_length, List.map_nil, List.flatten_nil, List.append_nil] at h1
   rw [List.drop_length, List.any_nil, Bool.or_false] at h2
   subst h1 h2
   clear HT HQ hpre hV hF hP hM hc hR2
   cases q
   · repeat' (first | refine QX ?_ | (refine QB ?_; intro b) | (refine QP ?_; intro o' ho') | (with_reducible refine QZ ?_ <;> (try constructor) <;> intro hb <;> try intro hb1) | fail)
     all_goals exact Qret
   · repeat' (first | refine QX ?_ | (refine QB ?_; intro b) | (refine QP ?_; intro o' ho') | (with_reducible refine QZ ?_ <;> (try constructor) <;> intro hb <;> try intro hb1) | fail)
     all_goals exact Qret
 rw [Classical.not_not] at hlt
 obtain ⟨x, hx⟩ := gEx hlt
 have h1 := hc.out i x hx
 obtain ⟨hk, hs⟩ := hR2.out x (List.mem_of_getElem? hx)
 have h2 := HT.out
 have h3 := HQ.out
 rw [Rul.flat_drop hx] at h2
 rw [Rul.any_dropQ hx] at h3
 clear HT HQ hx hc hR2
 obtain ⟨Z, hZ⟩ : ∃ Z, ((R.drop (i + 1)).map fun a => (Rul.rlQ a).1).flatten = Z := ⟨_, rfl⟩
 obtain ⟨z, hz⟩ : ∃ z, ((R.drop (i + 1)).any fun a => (Rul.rlQ a).2) = z := ⟨_, rfl⟩
 rw [hZ] at h2
 rw [hz] at h3
 replace hZ := Lib.hid hZ
 replace hz := Lib.hid hz
 have hTx := refTextF x.name (by have := hk.nm; omega)
 have hLo := refLongF x.sal
 have hnp := hk.np
 have hna := hk.na
 have hnt := Lib.hid hk.nt
 have hnv := Lib.hid hk.nv
 have hvt := Lib.hid hk.vt
 have hva := Lib.hid hk.va
 have hnml : x.name.data.toList.length ≤ 900000 := by
  have := hk.nm
  have : x.name.data.toList.length = x.name.size := by simp
  omega
 clear hk
 cases x with
 | mk nm sal ps acts =>
 unfold Rl.cells at h1
 unfold Rul.rlQ Rul.headW at h2 h3
 dsimp only at *
 have hmp : (ps.map Pt.cells).length = ps.length := List.length_map ..
 have hma : (acts.map Ac.cells).length = acts.length := List.length_map ..
 have hcp := hMp Pt.cells ps
 have hca := hMp Ac.cells acts
 generalize ps.map Pt.cells = PS at *
 generalize acts.map Ac.cells = AS at *
 have htl : (tx nm.data.toList).length ≤ 900004 := by
  unfold tx
  rw [List.length_append, be_len]
  omega
 generalize tx nm.data.toList = B1 at *
 have hbl : (be 8 (IntKind.u64.wrap sal).toNat).length = 8 := be_len ..
 generalize be 8 (IntKind.u64.wrap sal).toNat = B2 at *
 have hXl := hpre.out _ _ h2
 have hB1m : (B1.map encB).length = B1.length := List.length_map ..
 have hB2m : (B2.map encB).length = B2.length := List.length_map ..
 have hXm : (X.map encB).length = X.length := List.length_map ..
 have hX2 : (X ++ B1 ++ B2).map encB = X.map encB ++ B1.map encB ++ B2.map encB := by rw [List.map_append, List.map_append]
 replace hTx := Lib.hid hTx
 replace hLo := Lib.hid hLo
 have h4 : (X ++ B1 ++ B2) ++ (be 4 ps.length ++ ((ps.map fun a => (Rul.ptQ a).1).flatten ++ (be 4 acts.length ++ ((acts.map fun a => (Rul.acQ a).1).flatten ++ Z)))) = T := by
  rw [← h2]
  unfold Rul.listW
  simp only [List.flatten_cons, List.flatten_nil, List.append_nil, List.append_assoc]
 have h5 : (q || (ps.any (fun a => (Rul.ptQ a).2) || (acts.any (fun a => (Rul.acQ a).2) || z))) = Q := by
  rw [← h3]
  unfold Rul.listW
  simp only [Bool.or_assoc]
 clear h2 h3
 replace h4 := Lib.hid h4
 replace h5 := Lib.hid h5
 repeat' (first | refine QV ?_ | (refine tr_cutR 8 (fun A' st' => ∃ (bx : Nat) (o : Own), o ≠ .shared ∧ A'.df = [] ∧ A'.e 0 = .sl .shared RS ∧ A'.e 3 = .ptr pb 0 ∧ A'.e 4 = .i i ∧ A'.e 5 = .ptr bx 0 ∧ st' = .box bx 55 [.str nm, .i sal, .sl .shared PS, .sl .shared AS] :: penQ pb o (X ++ B1 ++ B2) q st) ?_ ?_) | ((with_reducible apply (w_drawN [(b, [.str nm, .i sal, .sl .shared PS, .sl .shared AS]), (pb, [.sl o (X.map encB), .b q])])); (iterate 3 (focus kernel_rfl)); (focus exact q_k); intro hne; simp only [nes, ne1, and_assoc] at hne; repeat (have hq := hne.1; replace hne := hne.2)) | ((with_reducible refine And.intro ?_ ?_); (focus exact q_k)) | ((with_reducible apply (w_drawN [(b, [.str nm, .i sal, .sl .shared PS, .sl .shared AS]), (pb, [.sl o' (X.map encB ++ B1.map encB), .b q])])); (iterate 3 (focus kernel_rfl)); (focus exact q_k); intro hne; simp only [nes, ne1, and_assoc] at hne; repeat (have hq := hne.1; replace hne := hne.2)) | ((with_reducible refine And.intro ?_ ?_); (focus exact q_k)) | refine QY ?_ | (refine QB ?_; intro b) | (refine QP ?_; intro o' ho') | (with_reducible refine QZ ?_ <;> (try constructor) <;> intro hb <;> try intro hb1) | refine Qc Tryz.call61 ((hTx.out _)) ?_ | refine Qc Tryz.call107 ((hLo.out _)) ?_ | fail)
 all_goals try (exact ⟨_, _, by assumption, Qf, Qf, Qf, Qf, Qf, by unfold penQ; rw [hX2]⟩)
 clear hTx hLo hdf e0 e3 e4 A ho hX2 hXl hXm h1
 clear o
 rintro A st' ⟨bx, o, ho, hdf, e0, e3, e4, e5, rfl⟩
 clear hB1m hB2m htl hbl hnml
 obtain ⟨X2, hX2⟩ : ∃ Y, X ++ B1 ++ B2 = Y := ⟨_, rfl⟩
 rw [hX2] at h4 ⊢
 clear hX2 B1 B2 X
 obtain ⟨ZP, hZP⟩ : ∃ Y, be 4 acts.length ++ ((acts.map fun a => (Rul.acQ a).1).flatten ++ Z) = Y := ⟨_, rfl⟩
 obtain ⟨zP, hzP⟩ : ∃ Y, (acts.any (fun a => (Rul.acQ a).2) || z) = Y := ⟨_, rfl⟩
 rw [hZP] at h4
 rw [hzP] at h5
 replace hZP := Lib.hid hZP
 replace hzP := Lib.hid hzP
 have hMp := Lib.hid (hM.out pb ps.length q_o X2 q (hpre.out _ _ h4.out) o ho)
 have h6 : Hid ((X2 ++ be 4 ps.length) ++ (((ps.drop 0).map fun a => (Rul.ptQ a).1).flatten ++ ZP) = T) := Lib.hid (by rw [← h4.out, List.append_assoc]; rfl)
 have h7 : Hid (((q || false) || ((ps.drop 0).any (fun a => (Rul.ptQ a).2) || zP)) = Q) := Lib.hid (by rw [← h5.out, Bool.or_false]; rfl)
 clear h4 h5
 repeat' (first | refine QX ?_ | (refine QB ?_; intro b) | (refine QP ?_; intro o' ho') | (with_reducible refine QZ ?_ <;> (try constructor) <;> intro hb <;> try intro hb1) | ((with_reducible apply (ck_ex2 Tryz.call106)); exact (hMp.out); (focus exact q_l); (focus exact fun _ => q_a); (focus exact ⟨.tight, by intro h; cases h⟩); intro o1 ho1) | fail)
 clear hMp
 refine tr_loopd (ι := Nat) (fun k A st' => k ≤ ps.length ∧ A.df = [] ∧ A.e 0 = .sl .shared RS ∧ A.e 3 = .ptr pb 0 ∧ A.e 4 = .i i ∧ A.e 5 = .ptr bx 0 ∧ A.e 6 = .i k ∧ ∃ (o : Own) (X : List UInt8) (q : Bool), o ≠ .shared ∧ Hid (X ++ (((ps.drop k).map fun a => (Rul.ptQ a).1).flatten ++ ZP) = T) ∧ Hid ((q || ((ps.drop k).any (fun a => (Rul.ptQ a).2) || zP)) = Q) ∧ st' = .box bx 55 [.str nm, .i sal, .sl .shared PS, .sl .shared AS] :: penQ pb o X q st) (fun k => ps.length - k) 0 ⟨Nat.zero_le _, Qf, Qf, Qf, Qf, Qf, Qf, o1, _, _, ho1, h6, h7, rfl⟩ ?_
 clear h6 h7 ho1 X2 e0 e3 e4 e5 hdf A ho
 clear o1 o q
 rintro k A st' ⟨hkk, hdf, e0, e3, e4, e5, e6, o, X, q, ho, HT, HQ, rfl⟩
 by_cases hkl : k < ps.length
 · obtain ⟨p, hp⟩ := gEx hkl
   have g1 := hcp.out k p hp
   have gnt := hnt.out p (List.mem_of_getElem? hp)
   have gvt := Lib.hid (hvt.out p (List.mem_of_getElem? hp))
   have h4 := HT.out
   have h5 := HQ.out
   rw [Rul.flat_drop hp] at h4
   rw [Rul.any_dropQ hp] at h5
   clear HT HQ hp hcp hnt hvt hca hnv hva hZ hz hZP hzP hma
   obtain ⟨Z2, hZ2⟩ : ∃ Y, ((ps.drop (k + 1)).map fun a => (Rul.ptQ a).1).flatten ++ ZP = Y := ⟨_, rfl⟩
   obtain ⟨z2, hz2⟩ : ∃ Y, ((ps.drop (k + 1)).any (fun a => (Rul.ptQ a).2) || zP) = Y := ⟨_, rfl⟩
   rw [List.append_assoc, hZ2] at h4
   rw [Bool.or_assoc, hz2] at h5
   replace hZ2 := Lib.hid hZ2
   replace hz2 := Lib.hid hz2
   cases p with
   | mk tmpl neg ts =>
   unfold Pt.cells at g1
   unfold Rul.ptQ Rul.listW Rul.bitB at h4 h5
   dsimp only at *
   have hmt : (ts.map Ts.cells).length = ts.length := List.length_map ..
   have hct := hMp Ts.cells ts
   generalize ts.map Ts.cells = TS at *
   have hXl := hpre.out _ _ h4
   have c1 := hP.out pb tmpl X q hXl o ho
   have h4a : (X ++ [Rul.r8 tmpl]) ++ ([if neg = true then 1 else 0] ++ (be 4 ts.length ++ ((ts.map fun a => (Rul.tsQ a).1).flatten ++ Z2))) = T := by rw [← h4]; simp only [List.append_assoc]
   have c2 := Lib.hid fun o ho => hF.out pb neg (X ++ [Rul.r8 tmpl]) (q || Rul.badN tmpl) (hpre.out _ _ h4a) o ho
   have h4b : (X ++ [Rul.r8 tmpl] ++ [if neg = true then 1 else 0]) ++ (be 4 ts.length ++ ((ts.map fun a => (Rul.tsQ a).1).flatten ++ Z2)) = T := by rw [← h4]; simp only [List.append_assoc]
   have c3 := Lib.hid fun o ho => hM.out pb ts.length q_o (X ++ [Rul.r8 tmpl] ++ [if neg = true then 1 else 0]) (q || Rul.badN tmpl || false) (hpre.out _ _ h4b) o ho
   have h6 : Hid ((X ++ [Rul.r8 tmpl] ++ [if neg = true then 1 else 0] ++ be 4 ts.length) ++ (((ts.drop 0).map fun a => (Rul.tsQ a).1).flatten ++ Z2) = T) := Lib.hid (by rw [← h4]; simp only [List.append_assoc, List.drop_zero])
   have h7 : Hid ((q || Rul.badN tmpl || false || false || ((ts.drop 0).any (fun a => (Rul.tsQ a).2) || z2)) = Q) := Lib.hid (by rw [← h5]; simp only [Bool.or_assoc, Bool.or_false, Bool.false_or, List.drop_zero])
   clear h4 h5 h4a h4b hM hF
   generalize ([if neg = true then (1 : UInt8) else 0]) = NB at *
   replace c1 := Lib.hid c1
   repeat' (first | refine QX ?_ | (refine QB ?_; intro b) | (refine QP ?_; intro o' ho') | (with_reducible refine QZ ?_ <;> (try constructor) <;> intro hb <;> try intro hb1) | ((with_reducible apply (ck_ex2 Tryz.call108)); exact c1.out; (focus exact q_l); (focus exact fun _ => q_a); (focus exact ⟨.tight, by intro h; cases h⟩); intro o1 ho1) | ((with_reducible apply (ck_ex2 Tryz.call109)); exact (c2.out o1 ho1); (focus exact q_l); (focus exact fun _ => q_a); (focus exact ⟨.tight, by intro h; cases h⟩); intro o2 ho2) | ((with_reducible apply (ck_ex2 Tryz.call106)); exact (c3.out o2 ho2); (focus exact q_l); (focus exact fun _ => q_a); (focus exact ⟨.tight, by intro h; cases h⟩); intro o3 ho3) | fail)
   clear c1 c2 c3 ho1 ho2 hXl
   refine tr_loopd (ι := Nat) (fun m A st' => m ≤ ts.length ∧ A.df = [] ∧ A.e 0 = .sl .shared RS ∧ A.e 3 = .ptr pb 0 ∧ A.e 4 = .i i ∧ A.e 5 = .ptr bx 0 ∧ A.e 6 = .i k ∧ A.e 7 = .i m ∧ ∃ (o : Own) (X : List UInt8) (q : Bool), o ≠ .shared ∧ Hid (X ++ (((ts.drop m).map fun a => (Rul.tsQ a).1).flatten ++ Z2) = T) ∧ Hid ((q || ((ts.drop m).any (fun a => (Rul.tsQ a).2) || z2)) = Q) ∧ st' = .box bx 55 [.str nm, .i sal, .sl .shared PS, .sl .shared AS] :: penQ pb o X q st) (fun m => ts.length - m) 0 ⟨Nat.zero_le _, Qf, Qf, Qf, Qf, Qf, Qf, Qf, o3, _, _, ho3, h6, h7, rfl⟩ ?_
   clear h6 h7 ho3 e0 e3 e4 e5 e6 hdf A ho X
   clear o3 o2 o1 o q NB
   rintro m A st' ⟨hmm, hdf, e0, e3, e4, e5, e6, e7, o, X, q, ho, HT, HQ, rfl⟩
   by_cases hml : m < ts.length
   · obtain ⟨t, ht⟩ := gEx hml
     have g2 := hct.out m t ht
     have gv := gvt.out t (List.mem_of_getElem? ht)
     have h4 := HT.out
     have h5 := HQ.out
     rw [Rul.flat_drop ht] at h4
     rw [Rul.any_dropQ ht] at h5
     clear HT HQ ht hct hZ2 hz2
     obtain ⟨Z3, hZ3⟩ : ∃ Y, ((ts.drop (m + 1)).map fun a => (Rul.tsQ a).1).flatten ++ Z2 = Y := ⟨_, rfl⟩
     obtain ⟨z3, hz3⟩ : ∃ Y, ((ts.drop (m + 1)).any (fun a => (Rul.tsQ a).2) || z2) = Y := ⟨_, rfl⟩
     rw [List.append_assoc, hZ3] at h4
     rw [Bool.or_assoc, hz3] at h5
     unfold Rul.tsQ at h4 h5
     dsimp only at h4 h5
     have c1 := Lib.hid (hP.out pb t.kind X q (hpre.out _ _ h4) o ho)
     have c2 := Lib.hid fun o ho => hP.out pb t.slot (X ++ [Rul.r8 t.kind]) (q || Rul.badN t.kind) (hpre.out _ ([Rul.r8 t.slot] ++ ([Rul.r8 t.var] ++ (t.val.bin ++ Z3))) (by rw [← h4]; simp only [List.append_assoc])) o ho
     have c3 := Lib.hid fun o ho => hP.out pb t.var (X ++ [Rul.r8 t.kind] ++ [Rul.r8 t.slot]) (q || Rul.badN t.kind || Rul.badN t.slot) (hpre.out _ ([Rul.r8 t.var] ++ (t.val.bin ++ Z3)) (by rw [← h4]; simp only [List.append_assoc])) o ho
     have c4 := fun o ho => hV.out pb t.val gv (X ++ [Rul.r8 t.kind] ++ [Rul.r8 t.slot] ++ [Rul.r8 t.var]) (q || Rul.badN t.kind || Rul.badN t.slot || Rul.badN t.var) (hpre.out _ (t.val.bin ++ Z3) (by rw [← h4]; simp only [List.append_assoc])) o ho
     have h6 : Hid ((X ++ [Rul.r8 t.kind] ++ [Rul.r8 t.slot] ++ [Rul.r8 t.var] ++ t.val.bin) ++ (((ts.drop (m + 1)).map fun a => (Rul.tsQ a).1).flatten ++ Z2) = T) := Lib.hid (by rw [← h4, hZ3]; simp only [List.append_assoc])
     have h7 : Hid ((q || Rul.badN t.kind || Rul.badN t.slot || Rul.badN t.var || decide (t.val.bin = []) || ((ts.drop (m + 1)).any (fun a => (Rul.tsQ a).2) || z2)) = Q) := Lib.hid (by rw [← h5, hz3]; simp only [Bool.or_assoc])
     clear h4 h5 hZ3 hz3 gv hP hV
     generalize t.val.bin = VB at *
     generalize decide (VB = []) = vb at *
     cases t with
     | mk kind slot var val =>
     cases val with
     | mk k1 n1 s1 l1 =>
     rw [Ts.cells_mk] at g2
     dsimp only at *
     rw [V.cells_mk] at c4
     generalize l1.map V.cells = VL at *
     replace c4 := Lib.hid c4
     generalize [Rul.r8 kind] = E1 at *
     generalize [Rul.r8 slot] = E2 at *
     generalize [Rul.r8 var] = E3 at *
     generalize Rul.badN kind = b1 at *
     generalize Rul.badN slot = b2 at *
     generalize Rul.badN var = b3 at *
     repeat' (first | refine QX ?_ | (refine QB ?_; intro b) | (refine QP ?_; intro o' ho') | (with_reducible refine QZ ?_ <;> (try constructor) <;> intro hb <;> try intro hb1) | ((with_reducible apply (ck_ex2 Tryz.call108)); exact c1.out; (focus exact q_l); (focus exact fun _ => q_a); (focus exact ⟨.tight, by intro h; cases h⟩); intro o1 ho1) | ((with_reducible apply (ck_ex2 Tryz.call108)); exact (c2.out o1 ho1); (focus exact q_l); (focus exact fun _ => q_a); (focus exact ⟨.tight, by intro h; cases h⟩); intro o2 ho2) | ((with_reducible apply (ck_ex2 Tryz.call108)); exact (c3.out o2 ho2); (focus exact q_l); (focus exact fun _ => q_a); (focus exact ⟨.tight, by intro h; cases h⟩); intro o3 ho3) | ((with_reducible apply (ck_ex2 Tryz.call110)); exact (c4.out o3 ho3); (focus exact q_l); (focus exact fun _ => q_a); (focus exact ⟨.tight, by intro h; cases h⟩); intro o4 ho4) | fail)
     refine ⟨m + 1, .box bx 55 [.str nm, .i sal, .sl .shared PS, .sl .shared AS] :: penQ pb o4 (X ++ E1 ++ E2 ++ E3 ++ VB) (q || b1 || b2 || b3 || vb) st, q_u, ⟨hml, ?_, ?_, ?_, ?_, ?_, ?_, ?_, o4, _, _, ho4, h6, h7, rfl⟩, by omega⟩
     all_goals exact Qf
   · obtain rfl : m = ts.length := by omega
     have h6 : Hid (X ++ (((ps.drop (k + 1)).map fun a => (Rul.ptQ a).1).flatten ++ ZP) = T) := Lib.hid (by rw [hZ2.out, ← HT.out, List.drop_length]; rfl)
     have h7 : Hid ((q || ((ps.drop (k + 1)).any (fun a => (Rul.ptQ a).2) || zP)) = Q) := Lib.hid (by rw [hz2.out, ← HQ.out, List.drop_length]; rfl)
     clear HT HQ hZ2 hz2 hct gvt hP hV hpre
     repeat' (first | refine QX ?_ | (refine QB ?_; intro b) | (refine QP ?_; intro o' ho') | (with_reducible refine QZ ?_ <;> (try constructor) <;> intro hb <;> try intro hb1) | fail)
     refine ⟨k + 1, .box bx 55 [.str nm, .i sal, .sl .shared PS, .sl .shared AS] :: penQ pb o X q st, q_u, ⟨hkl, ?_, ?_, ?_, ?_, ?_, ?_, o, X, q, ho, h6, h7, rfl⟩, by omega⟩
     all_goals exact Qf
 obtain rfl : k = ps.length := by omega
 have h4 : X ++ ZP = T := by rw [← HT.out, List.drop_length]; rfl
 have h5 : (q || zP) = Q := by rw [← HQ.out, List.drop_length]; rfl
 rw [← hZP.out] at h4
 rw [← hzP.out] at h5
 clear HT HQ hcp hnt hvt hZP hzP
 have hMp := Lib.hid (hM.out pb acts.length q_o X q (hpre.out _ _ h4) o ho)
 have h6 : Hid ((X ++ be 4 acts.length) ++ (((acts.drop 0).map fun a => (Rul.acQ a).1).flatten ++ Z) = T) := Lib.hid (by rw [← h4, List.append_assoc]; rfl)
 have h7 : Hid (((q || false) || ((acts.drop 0).any (fun a => (Rul.acQ a).2) || z)) = Q) := Lib.hid (by rw [← h5, Bool.or_false]; rfl)
 clear h4 h5
 repeat' (first | refine QX ?_ | (refine QB ?_; intro b) | (refine QP ?_; intro o' ho') | (with_reducible refine QZ ?_ <;> (try constructor) <;> intro hb <;> try intro hb1) | ((with_reducible apply (ck_ex2 Tryz.call106)); exact (hMp.out); (focus exact q_l); (focus exact fun _ => q_a); (focus exact ⟨.tight, by intro h; cases h⟩); intro o1 ho1) | fail)
 clear hMp
 refine tr_loopd (ι := Nat) (fun k A st' => k ≤ acts.length ∧ A.df = [] ∧ A.e 0 = .sl .shared RS ∧ A.e 3 = .ptr pb 0 ∧ A.e 4 = .i i ∧ A.e 5 = .ptr bx 0 ∧ A.e 9 = .i k ∧ ∃ (o : Own) (X : List UInt8) (q : Bool), o ≠ .shared ∧ Hid (X ++ (((acts.drop k).map fun a => (Rul.acQ a).1).flatten ++ Z) = T) ∧ Hid ((q || ((acts.drop k).any (fun a => (Rul.acQ a).2) || z)) = Q) ∧ st' = .box bx 55 [.str nm, .i sal, .sl .shared PS, .sl .shared AS] :: penQ pb o X q st) (fun k => acts.length - k) 0 ⟨Nat.zero_le _, Qf, Qf, Qf, Qf, Qf, Qf, o1, _, _, ho1, h6, h7, rfl⟩ ?_
 clear h6 h7 ho1 e0 e3 e4 e5 e6 hdf A ho X hkl hkk
 clear o1 o q
 rintro k A st' ⟨hkk, hdf, e0, e3, e4, e5, e9, o, X, q, ho, HT, HQ, rfl⟩
 by_cases hkl : k < acts.length
 · obtain ⟨a, ha⟩ := gEx hkl
   have g1 := hca.out k a ha
   have gnv := hnv.out a (List.mem_of_getElem? ha)
   have gva := Lib.hid (hva.out a (List.mem_of_getElem? ha))
   have h4 := HT.out
   have h5 := HQ.out
   rw [Rul.flat_drop ha] at h4
   rw [Rul.any_dropQ ha] at h5
   clear HT HQ ha hca hnv hva hZ hz
   obtain ⟨Z2, hZ2⟩ : ∃ Y, ((acts.drop (k + 1)).map fun a => (Rul.acQ a).1).flatten ++ Z = Y := ⟨_, rfl⟩
   obtain ⟨z2, hz2⟩ : ∃ Y, ((acts.drop (k + 1)).any (fun a => (Rul.acQ a).2) || z) = Y := ⟨_, rfl⟩
   rw [List.append_assoc, hZ2] at h4
   rw [Bool.or_assoc, hz2] at h5
   replace hZ2 := Lib.hid hZ2
   replace hz2 := Lib.hid hz2
   unfold Ac.cells at g1
   unfold Rul.acQ Rul.listW at h4 h5
   dsimp only at h4 h5
   have hmt : (a.vals.map Ex.cells).length = a.vals.length := List.length_map ..
   have hct := hMp Ex.cells a.vals
   generalize a.vals.map Ex.cells = TS at *
   have c1 := Lib.hid (hP.out pb a.kind X q (hpre.out _ _ h4) o ho)
   have c2 := Lib.hid fun o ho => hP.out pb a.pat (X ++ [Rul.r8 a.kind]) (q || Rul.badN a.kind) (hpre.out _ ([Rul.r8 a.pat] ++ ([Rul.r8 a.tmpl] ++ ([Rul.r8 a.slot] ++ (be 4 a.vals.length ++ ((a.vals.map fun a => (Rul.exQ a).1).flatten ++ Z2))))) (by rw [← h4]; simp only [List.append_assoc])) o ho
   have c3 := Lib.hid fun o ho => hP.out pb a.tmpl (X ++ [Rul.r8 a.kind] ++ [Rul.r8 a.pat]) (q || Rul.badN a.kind || Rul.badN a.pat) (hpre.out _ ([Rul.r8 a.tmpl] ++ ([Rul.r8 a.slot] ++ (be 4 a.vals.length ++ ((a.vals.map fun a => (Rul.exQ a).1).flatten ++ Z2)))) (by rw [← h4]; simp only [List.append_assoc])) o ho
   have c4 := Lib.hid fun o ho => hP.out pb a.slot (X ++ [Rul.r8 a.kind] ++ [Rul.r8 a.pat] ++ [Rul.r8 a.tmpl]) (q || Rul.badN a.kind || Rul.badN a.pat || Rul.badN a.tmpl) (hpre.out _ ([Rul.r8 a.slot] ++ (be 4 a.vals.length ++ ((a.vals.map fun a => (Rul.exQ a).1).flatten ++ Z2))) (by rw [← h4]; simp only [List.append_assoc])) o ho
   have c5 := Lib.hid fun o ho => hM.out pb a.vals.length q_o (X ++ [Rul.r8 a.kind] ++ [Rul.r8 a.pat] ++ [Rul.r8 a.tmpl] ++ [Rul.r8 a.slot]) (q || Rul.badN a.kind || Rul.badN a.pat || Rul.badN a.tmpl || Rul.badN a.slot) (hpre.out _ (be 4 a.vals.length ++ ((a.vals.map fun a => (Rul.exQ a).1).flatten ++ Z2)) (by rw [← h4]; simp only [List.append_assoc])) o ho
   have h6 : Hid ((X ++ [Rul.r8 a.kind] ++ [Rul.r8 a.pat] ++ [Rul.r8 a.tmpl] ++ [Rul.r8 a.slot] ++ be 4 a.vals.length) ++ (((a.vals.drop 0).map fun a => (Rul.exQ a).1).flatten ++ Z2) = T) := Lib.hid (by rw [← h4]; simp only [List.append_assoc, List.drop_zero])
   have h7 : Hid ((q || Rul.badN a.kind || Rul.badN a.pat || Rul.badN a.tmpl || Rul.badN a.slot || false || ((a.vals.drop 0).any (fun a => (Rul.exQ a).2) || z2)) = Q) := Lib.hid (by rw [← h5]; simp only [Bool.or_assoc, Bool.or_false, Bool.false_or, List.drop_zero])
   clear h4 h5 hM
   cases a with
   | mk kind pat tmpl slot vals =>
   dsimp only at *
   generalize [Rul.r8 kind] = E1 at *
   generalize [Rul.r8 pat] = E2 at *
   generalize [Rul.r8 tmpl] = E3 at *
   generalize [Rul.r8 slot] = E4 at *
   generalize Rul.badN kind = b1 at *
   generalize Rul.badN pat = b2 at *
   generalize Rul.badN tmpl = b3 at *
   generalize Rul.badN slot = b4 at *
   repeat' (first | refine QX ?_ | (refine QB ?_; intro b) | (refine QP ?_; intro o' ho') | (with_reducible refine QZ ?_ <;> (try constructor) <;> intro hb <;> try intro hb1) | ((with_reducible apply (ck_ex2 Tryz.call108)); exact c1.out; (focus exact q_l); (focus exact fun _ => q_a); (focus exact ⟨.tight, by intro h; cases h⟩); intro o1 ho1) | ((with_reducible apply (ck_ex2 Tryz.call108)); exact (c2.out o1 ho1); (focus exact q_l); (focus exact fun _ => q_a); (focus exact ⟨.tight, by intro h; cases h⟩); intro o2 ho2) | ((with_reducible apply (ck_ex2 Tryz.call108)); exact (c3.out o2 ho2); (focus exact q_l); (focus exact fun _ => q_a); (focus exact ⟨.tight, by intro h; cases h⟩); intro o3 ho3) | ((with_reducible apply (ck_ex2 Tryz.call108)); exact (c4.out o3 ho3); (focus exact q_l); (focus exact fun _ => q_a); (focus exact ⟨.tight, by intro h; cases h⟩); intro o4 ho4) | ((with_reducible apply (ck_ex2 Tryz.call106)); exact (c5.out o4 ho4); (focus exact q_l); (focus exact fun _ => q_a); (focus exact ⟨.tight, by intro h; cases h⟩); intro o5 ho5) | fail)
   revert b
   intro ba
   refine tr_loopd (ι := Nat) (fun m A st' => m ≤ vals.length ∧ A.df = [] ∧ A.e 0 = .sl .shared RS ∧ A.e 3 = .ptr pb 0 ∧ A.e 4 = .i i ∧ A.e 5 = .ptr bx 0 ∧ A.e 9 = .i k ∧ A.e 10 = .ptr ba 0 ∧ A.e 11 = .i m ∧ ∃ (o : Own) (X : List UInt8) (q : Bool), o ≠ .shared ∧ Hid (X ++ (((vals.drop m).map fun a => (Rul.exQ a).1).flatten ++ Z2) = T) ∧ Hid ((q || ((vals.drop m).any (fun a => (Rul.exQ a).2) || z2)) = Q) ∧ st' = .box ba 110 [.i kind, .i pat, .i tmpl, .i slot, .sl .shared TS] :: .box bx 55 [.str nm, .i sal, .sl .shared PS, .sl .shared AS] :: penQ pb o X q st) (fun m => vals.length - m) 0 ⟨Nat.zero_le _, Qf, Qf, Qf, Qf, Qf, Qf, Qf, Qf, o5, _, _, ho5, h6, h7, rfl⟩ ?_
   clear c1 c2 c3 c4 c5 e0 e3 e4 e5 e9 hdf A ho ho1 ho2 ho3 ho4 h6 h7 ho5 X g1
   clear o5 o4 o3 o2 o1 o q b1 b2 b3 b4 E1 E2 E3 E4
   rintro m A st' ⟨hmm, hdf, e0, e3, e4, e5, e9, e10, e11, o, X, q, ho, HT, HQ, rfl⟩
   by_cases hml : m < vals.length
   · obtain ⟨t, ht⟩ := gEx hml
     have g2 := hct.out m t ht
     have gv := gva.out t (List.mem_of_getElem? ht)
     have h4 := HT.out
     have h5 := HQ.out
     rw [Rul.flat_drop ht] at h4
     rw [Rul.any_dropQ ht] at h5
     clear HT HQ ht hct hZ2 hz2
     obtain ⟨Z3, hZ3⟩ : ∃ Y, ((vals.drop (m + 1)).map fun a => (Rul.exQ a).1).flatten ++ Z2 = Y := ⟨_, rfl⟩
     obtain ⟨z3, hz3⟩ : ∃ Y, ((vals.drop (m + 1)).any (fun a => (Rul.exQ a).2) || z2) = Y := ⟨_, rfl⟩
     rw [List.append_assoc, hZ3] at h4
     rw [Bool.or_assoc, hz3] at h5
     unfold Rul.exQ Rul.bitB at h4 h5
     dsimp only at h4 h5
     have c1 := Lib.hid (hF.out pb t.isVar X q (hpre.out _ _ h4) o ho)
     have c2 := Lib.hid fun o ho => hP.out pb t.var (X ++ [if t.isVar = true then 1 else 0]) (q || false) (hpre.out _ ([Rul.r8 t.var] ++ (t.val.bin ++ Z3)) (by rw [← h4]; simp only [List.append_assoc])) o ho
     have c4 := fun o ho => hV.out pb t.val gv (X ++ [if t.isVar = true then 1 else 0] ++ [Rul.r8 t.var]) (q || false || Rul.badN t.var) (hpre.out _ (t.val.bin ++ Z3) (by rw [← h4]; simp only [List.append_assoc])) o ho
     have h6 : Hid ((X ++ [if t.isVar = true then 1 else 0] ++ [Rul.r8 t.var] ++ t.val.bin) ++ (((vals.drop (m + 1)).map fun a => (Rul.exQ a).1).flatten ++ Z2) = T) := Lib.hid (by rw [← h4, hZ3]; simp only [List.append_assoc])
     have h7 : Hid ((q || false || Rul.badN t.var || decide (t.val.bin = []) || ((vals.drop (m + 1)).any (fun a => (Rul.exQ a).2) || z2)) = Q) := Lib.hid (by rw [← h5, hz3]; simp only [Bool.or_assoc, Bool.or_false, Bool.false_or])
     clear h4 h5 hZ3 hz3 gv hP hV hF
     generalize t.val.bin = VB at *
     generalize decide (VB = []) = vb at *
     cases t with
     | mk iv var val =>
     cases val with
     | mk k1 n1 s1 l1 =>
     rw [Ex.cells_mk] at g2
     dsimp only at *
     rw [V.cells_mk] at c4
     generalize l1.map V.cells = VL at *
     replace c4 := Lib.hid c4
     generalize [if iv = true then (1 : UInt8) else 0] = E1 at *
     generalize [Rul.r8 var] = E3 at *
     generalize Rul.badN var = b3 at *
     repeat' (first | refine QX ?_ | (refine QB ?_; intro b) | (refine QP ?_; intro o' ho') | (with_reducible refine QZ ?_ <;> (try constructor) <;> intro hb <;> try intro hb1) | ((with_reducible apply (ck_ex2 Tryz.call109)); exact c1.out; (focus exact q_l); (focus exact fun _ => q_a); (focus exact ⟨.tight, by intro h; cases h⟩); intro o1 ho1) | ((with_reducible apply (ck_ex2 Tryz.call108)); exact (c2.out o1 ho1); (focus exact q_l); (focus exact fun _ => q_a); (focus exact ⟨.tight, by intro h; cases h⟩); intro o2 ho2) | ((with_reducible apply (ck_ex2 Tryz.call110)); exact (c4.out o2 ho2); (focus exact q_l); (focus exact fun _ => q_a); (focus exact ⟨.tight, by intro h; cases h⟩); intro o4 ho4) | fail)
     refine ⟨m + 1, .box ba 110 [.i kind, .i pat, .i tmpl, .i slot, .sl .shared TS] :: .box bx 55 [.str nm, .i sal, .sl .shared PS, .sl .shared AS] :: penQ pb o4 (X ++ E1 ++ E3 ++ VB) (q || false || b3 || vb) st, q_u, ⟨hml, ?_, ?_, ?_, ?_, ?_, ?_, ?_, ?_, o4, _, _, ho4, h6, h7, rfl⟩, by omega⟩
     all_goals exact Qf
   · obtain rfl : m = vals.length := by omega
     have h6 : Hid (X ++ (((acts.drop (k + 1)).map fun a => (Rul.acQ a).1).flatten ++ Z) = T) := Lib.hid (by rw [hZ2.out, ← HT.out, List.drop_length]; rfl)
     have h7 : Hid ((q || ((acts.drop (k + 1)).any (fun a => (Rul.acQ a).2) || z)) = Q) := Lib.hid (by rw [hz2.out, ← HQ.out, List.drop_length]; rfl)
     clear HT HQ hZ2 hz2 hct gva hP hV hF hpre
     repeat' (first | refine QX ?_ | (refine QB ?_; intro b) | (refine QP ?_; intro o' ho') | (with_reducible refine QZ ?_ <;> (try constructor) <;> intro hb <;> try intro hb1) | fail)
     refine ⟨k + 1, .box bx 55 [.str nm, .i sal, .sl .shared PS, .sl .shared AS] :: penQ pb o X q st, q_u, ⟨hkl, ?_, ?_, ?_, ?_, ?_, ?_, o, X, q, ho, h6, h7, rfl⟩, by omega⟩
     all_goals exact Qf
 obtain rfl : k = acts.length := by omega
 have h6 : Hid (X ++ ((R.drop (i + 1)).map fun a => (Rul.rlQ a).1).flatten = T) := Lib.hid (by rw [hZ.out, ← HT.out, List.drop_length]; rfl)
 have h7 : Hid ((q || (R.drop (i + 1)).any fun a => (Rul.rlQ a).2) = Q) := Lib.hid (by rw [hz.out, ← HQ.out, List.drop_length]; rfl)
 clear HT HQ hZ hz hca hnv hva hP hV hF hM hpre
 repeat' (first | refine QX ?_ | (refine QB ?_; intro b) | (refine QP ?_; intro o' ho') | (with_reducible refine QZ ?_ <;> (try constructor) <;> intro hb <;> try intro hb1) | fail)
 refine ⟨i + 1, penQ pb o X q st, q_u, ⟨hlt, ?_, ?_, ?_, ?_, o, X, q, ho, h6, h7, rfl⟩, by omega⟩
 all_goals exact Qf
end
section
attribute [local push_cast] encB encI encC V.cells_mk V.cells_len Nat.mul_one Int.sub_zero List.map_nil beq_self_eq_true bne_self_eq_false List.head?_cons
namespace Rul
theorem refVers_get (t : Tm) (v : Int) : Sch.ver t v = if 1 ≤ v then (Sch.refVers t)[(v - 1).toNat]? else none := by
 unfold Sch.ver Sch.refVers
 by_cases h1 : 0 < Sch.last t
 · simp [h1]
 · rw [if_neg (fun h => h1 h.1), if_neg h1]
   split <;> rfl
theorem slots_ref {L : List Tm} {k : Nat} {t : Tm} (h : L[k]? = some t) : (Sch.refVers t = [] ∧ slots L k = []) ∨ ∃ n x, (Sch.refVers t).length = n + 1 ∧ (Sch.refVers t)[n]? = some x ∧ slots L k = x.slots := by
 rw [slots_in h]
 unfold Sch.verX
 rw [refVers_get]
 unfold Sch.refVers
 by_cases h0 : 0 < Sch.last t
 · obtain ⟨h1, h2⟩ := Sch.last_len h0
   rw [if_pos h0, if_pos q_o]
   refine .inr ⟨t.steps.length, (Sch.vers t)[t.steps.length], h1, List.getElem?_eq_getElem q_o, ?_⟩
   rw [show ((Sch.last t : Int) - 1).toNat = t.steps.length by omega, List.getElem?_eq_getElem q_o]
   rfl
 · rw [if_neg h0, if_neg q_o]
   exact .inl ⟨rfl, rfl⟩
end Rul
theorem ref17SlotsF (L : List Tm) (hQ : ∀ t ∈ L, TQ t) (hl : L.length ≤ 1000000) (k : Int) (st : St) : TrF Tryz.prog 43 [.sl .shared (L.map Tm.cells), .i k] st fun d st' => d = .sl .shared ((Rul.slots L k).map Sl.cells) ∧ st' = st := by
 have hm : (L.map Tm.cells).length = L.length := List.length_map ..
 by_cases hk : 0 ≤ k ∧ k < L.length
 · obtain ⟨n, rfl⟩ : ∃ n : Nat, (n : Int) = k := ⟨k.toNat, Int.toNat_of_nonneg hk.1⟩
   obtain ⟨t, ht⟩ := gEx (l := L) (i := n) q_o
   have hc : (L.map Tm.cells)[n]? = some t.cells := by rw [List.getElem?_map, ht]; rfl
   have hV := refVersF t (hQ t (List.mem_of_getElem? ht))
   have hS := Rul.slots_ref ht
   have hml : ((Sch.refVers t).map Vr.cells).length = (Sch.refVers t).length := List.length_map ..
   have hgc : ∀ (i : Nat) (x : Vr), (Sch.refVers t)[i]? = some x → ((Sch.refVers t).map Vr.cells)[i]? = some [.sl .shared (x.slots.map Sl.cells), .sl .shared (x.cols.map encC)] := fun i x h => by rw [List.getElem?_map, h]; rfl
   generalize Rul.slots L n = SX at *
   have hll : (Sch.refVers t).length ≤ 9 := by
    have := (Sch.vers_len t).2
    unfold Sch.refVers
    split
    · exact this
    · simp
   generalize Sch.refVers t = RV at *
   clear hQ ht
   generalize L.map Tm.cells = LS at *
   unfold Tm.cells at *
   generalize t.slots.map Sl.cells = SL at *
   generalize t.steps.map Stp.cells = TL at *
   generalize t.name = nm at *
   obtain ⟨hk1, hk2⟩ := hk
   rcases hS with ⟨rfl, rfl⟩ | ⟨m, x, h1, h2, rfl⟩
   · clear hgc hml
     replace hV := Lib.hid hV
     refine Qin [4] Tryz.func43 Tryz.results43 Tryz.ntmps43 ?_
     exact WR
   · have hc2 := hgc m x h2
     clear hgc h2
     rw [h1] at hml
     have hsub : ((m : Int) + 1 - 1) = m := by omega
     generalize RV.map Vr.cells = RC at *
     generalize x.cols.map encC = XC at *
     generalize x.slots.map Sl.cells = XS at *
     replace hV := Lib.hid hV
     refine Qin [4] Tryz.func43 Tryz.results43 Tryz.ntmps43 ?_
     exact WR
 · rw [Rul.slots_out hk]
   generalize L.map Tm.cells = LS at *
   by_cases h0 : k < 0
   · refine Qin [4] Tryz.func43 Tryz.results43 Tryz.ntmps43 ?_
     exact WR
   · have h1 : (L.length : Int) ≤ k := by omega
     refine Qin [4] Tryz.func43 Tryz.results43 Tryz.ntmps43 ?_
     exact WR
theorem ref17HasF (o : Own) (l : List Int) (n : Int) (hl : l.length ≤ 1000000000) (st : St) : TrF Tryz.prog 157 [.sl o (l.map encI), .i n] st fun d st' => d = .b (decide (n ∈ l)) ∧ st' = st := by
 have hm : (l.map encI).length = l.length := List.length_map ..
 have hc : Hid (∀ (i : Nat) (n : Int), l[i]? = some n → (l.map encI)[i]? = some [.i n]) := fun i n h => by rw [List.getElem?_map, h]; rfl
 obtain ⟨Q, hQ⟩ : ∃ Q, decide (n ∈ l) = Q := ⟨_, rfl⟩
 rw [hQ]
 have HQ : Hid (decide (n ∈ l.drop 0) = Q) := hQ
 clear hQ
 generalize l.map encI = LI at *
 refine Qin [4] Tryz.func157 Tryz.results157 Tryz.ntmps157 ?_
 repeat' (first | refine QX ?_ | (refine QB ?_; intro b) | (refine QP ?_; intro o' ho') | (with_reducible refine QZ ?_ <;> (try constructor) <;> intro hb <;> try intro hb1) | fail)
 refine tr_loopd (ι := Nat) (fun i A st' => i ≤ l.length ∧ Hid (decide (n ∈ l.drop i) = Q) ∧ A.df = [] ∧ A.e 0 = .sl o LI ∧ A.e 1 = .i n ∧ A.e 5 = .i i ∧ st = st') (fun i => l.length - i) 0 ⟨Nat.zero_le _, HQ, Qf, Qf, Qf, Qf, rfl⟩ ?_
 rintro i A st' ⟨hi, HT, hdf, e0, e1, e5, rfl⟩
 clear HQ
 have HE := HT.out
 clear HT
 by_cases hlt : i < l.length
 · obtain ⟨x, hx⟩ := gEx hlt
   have h1 := hc.out i x hx
   have hd : l.drop i = x :: l.drop (i + 1) := by
    obtain ⟨h2, rfl⟩ := List.getElem?_eq_some_iff.1 hx
    exact List.drop_eq_getElem_cons h2
   rw [hd] at HE
   clear hd hx hc
   by_cases hxn : x = n
   · subst hxn
     have : Q = true := by rw [← HE]; simp
     subst this
     clear HE
     exact WRa
   · have HF : Hid (decide (n ∈ l.drop (i + 1)) = Q) := by
      rw [← HE]
      refine decide_eq_decide.2 ⟨fun h => List.mem_cons_of_mem _ h, fun h => ?_⟩
      rcases List.mem_cons.1 h with h | h
      · exact absurd h.symm hxn
      · exact h
     clear HE
     repeat' (first | refine QX ?_ | (refine QB ?_; intro b) | (refine QP ?_; intro o' ho') | (with_reducible refine QZ ?_ <;> (try constructor) <;> intro hb <;> try intro hb1) | fail)
     refine ⟨i + 1, st, q_u, ⟨hlt, HF, ?_, ?_, ?_, ?_, rfl⟩, by omega⟩
     all_goals exact Qf
 · rw [List.drop_of_length_le q_o] at HE
   have : Q = false := by rw [← HE]; simp
   subst this
   clear HE
   exact WRa
theorem ref17BoundF (x : Rl) (hp : x.pats.length ≤ 1000) (ht : ∀ p ∈ x.pats, p.tests.length ≤ 1000) (st : St) : TrF Tryz.prog 38 [.agg x.cells] st fun d st' => d = .sl .shared ((Rul.bound x).map encI) ∧ st' = st := by
 cases x with
 | mk nm sal ps acts =>
 unfold Rul.bound Rl.cells
 dsimp only at *
 generalize acts.map Ac.cells = AS at *
 have hm : (ps.map Pt.cells).length = ps.length := List.length_map ..
 have hc := hMp Pt.cells ps
 obtain ⟨BF, hBF⟩ : ∃ BF : Nat → List Int, (fun i : Nat => Rul.bindP (ps.take i)) = BF := ⟨_, rfl⟩
 have hBi : ∀ i, Rul.bindP (ps.take i) = BF i := fun i => by rw [← hBF]
 have hB0 : Hid (BF 0 = []) := Lib.hid (by rw [← hBi]; rfl)
 have hBn : Hid (Rul.bindP ps = BF ps.length) := Lib.hid (by rw [← hBi, List.take_length])
 have hBs : Hid (∀ (i : Nat) (p : Pt), ps[i]? = some p → BF (i + 1) = BF i ++ Rul.bindT p.tests) := fun i p h => by rw [← hBi, ← hBi]; exact Rul.bindP_take h
 have hBl : Hid (∀ i, i ≤ ps.length → (BF i).length ≤ 1000000) := fun i hi => by
  rw [← hBi]
  have := Rul.bindP_len 1000 (ps.take i) fun p hp => ht p (List.mem_of_mem_take hp)
  rw [List.length_take] at this
  have h3 : min i ps.length * 1000 ≤ 1000 * 1000 := Nat.mul_le_mul_right _ q_o
  omega
 rw [hBn.out]
 have ht2 := Lib.hid ht
 clear hBF hBi hBn ht
 generalize ps.map Pt.cells = PS at *
 refine Qin [2] Tryz.func38 Tryz.results38 Tryz.ntmps38 ?_
 refine tr_room 3 1 ([] : List (List D)).length ?_
 repeat' (first | refine QX ?_ | (refine QB ?_; intro b) | (refine QP ?_; intro o' ho') | (with_reducible refine QZ ?_ <;> (try constructor) <;> intro hb <;> try intro hb1) | fail)
 refine tr_loopd (ι := Nat) (fun i A st' => i ≤ ps.length ∧ A.df = [] ∧ A.e 1 = .ip [.str nm, .i sal, .sl .shared PS, .sl .shared AS] ∧ A.e 4 = .i i ∧ ∃ o', o' ≠ .shared ∧ A.e 3 = .sl o' ((BF i).map encI) ∧ st' = .room o' 3 1 ((BF i).map encI).length :: st) (fun i => ps.length - i) 0 ⟨Nat.zero_le _, Qf, Qf, Qf, .tight, by decide, by rw [hB0.out]; exact Qf, by rw [hB0.out]; rfl⟩ ?_
 rintro i A st' ⟨hi, hdf, e1, e4, o', ho', e3, rfl⟩
 by_cases hlt : i < ps.length
 · obtain ⟨p, hp2⟩ := gEx hlt
   have h1 := hc.out i p hp2
   have hB := hBs.out i p hp2
   have hBx := hBl.out i q_o
   have htl := ht2.out p (List.mem_of_getElem? hp2)
   clear hp2 hBs hBl ht2 hc hB0
   cases p with
   | mk tmpl neg ts =>
   unfold Pt.cells at h1
   dsimp only at *
   have hmt : (ts.map Ts.cells).length = ts.length := List.length_map ..
   have hct := hMp Ts.cells ts
   generalize BF i = X0 at *
   obtain ⟨TF, hTF⟩ : ∃ TF : Nat → List Int, (fun k : Nat => X0 ++ Rul.bindT (ts.take k)) = TF := ⟨_, rfl⟩
   have hTi : ∀ i, X0 ++ Rul.bindT (ts.take i) = TF i := fun i => by rw [← hTF]
   have hT0 : Hid (X0 = TF 0) := Lib.hid (by rw [← hTi]; exact (List.append_nil _).symm)
   have hTn : Hid (BF (i + 1) = TF ts.length) := Lib.hid (by rw [← hTi, List.take_length]; exact hB)
   have hTs : Hid (∀ (k : Nat) (t : Ts), ts[k]? = some t → TF (k + 1) = TF k ++ if t.kind = 5 then [t.var] else []) := fun k t h => by
    rw [← hTi, ← hTi, Rul.bindT_take h, List.append_assoc]
   have hTl : Hid (∀ k, k ≤ ts.length → (TF k).length ≤ 2000000) := fun k hk => by
    rw [← hTi]
    have := Rul.bindT_len (ts.take k)
    rw [List.length_take] at this
    rw [List.length_append]
    omega
   clear hTF hTi hB
   generalize ts.map Ts.cells = TS at *
   repeat' (first | refine QX ?_ | (refine QB ?_; intro b) | (refine QP ?_; intro o' ho') | (with_reducible refine QZ ?_ <;> (try constructor) <;> intro hb <;> try intro hb1) | fail)
   refine tr_loopd (ι := Nat) (fun k A st' => k ≤ ts.length ∧ A.df = [] ∧ A.e 1 = .ip [.str nm, .i sal, .sl .shared PS, .sl .shared AS] ∧ A.e 4 = .i i ∧ A.e 5 = .i k ∧ ∃ o', o' ≠ .shared ∧ A.e 3 = .sl o' ((TF k).map encI) ∧ st' = .room o' 3 1 ((TF k).map encI).length :: st) (fun k => ts.length - k) 0 ?_ ?_
   · rw [← hT0.out]
     exact ⟨Nat.zero_le _, Qf, Qf, Qf, Qf, o', ho', Qf, rfl⟩
   clear e3 e1 e4 hdf A ho' hT0
   clear o'
   rintro k A st' ⟨hk, hdf, e1, e4, e5, o', ho', e3, rfl⟩
   by_cases hkl : k < ts.length
   · obtain ⟨t, ht⟩ := gEx hkl
     have g1 := hct.out k t ht
     have hT := hTs.out k t ht
     have hTx := hTl.out k q_o
     clear ht hTs hTl hct hTn
     generalize TF k = Y at *
     cases t with
     | mk kind slot var val =>
     cases val with
     | mk k1 n1 s1 l1 =>
     rw [Ts.cells_mk] at g1
     dsimp only at hT
     by_cases h5 : kind = 5
     · subst h5
       rw [if_pos rfl] at hT
       have hT2 := Lib.hid hT
       clear hT
       have hY : (Y.map encI).length = Y.length := List.length_map ..
       repeat' (first | refine QX ?_ | (refine QB ?_; intro b) | (refine QP ?_; intro o' ho') | (with_reducible refine QZ ?_ <;> (try constructor) <;> intro hb <;> try intro hb1) | fail)
       refine ⟨k + 1, .room o' 3 1 ((Y ++ [var]).map encI).length :: st, ?_, ⟨hkl, ?_, ?_, ?_, ?_, o', ho', ?_, ?_⟩, ?_⟩
       · rw [List.map_append]; (repeat (first | exact List.Sublist.refl _ | with_reducible apply List.Sublist.cons_cons | apply List.Sublist.cons))
       rotate_right 3
       · rw [hT2.out, List.map_append]; exact Qf
       · rw [hT2.out]
       all_goals exact Qf
     · rw [if_neg h5, List.append_nil] at hT
       have h5b : (kind == 5) = false := beq_eq_false_iff_ne.2 h5
       have hT2 := Lib.hid hT
       clear hT
       repeat' (first | refine QX ?_ | (refine QB ?_; intro b) | (refine QP ?_; intro o' ho') | (with_reducible refine QZ ?_ <;> (try constructor) <;> intro hb <;> try intro hb1) | fail)
       refine ⟨k + 1, .room o' 3 1 (Y.map encI).length :: st, q_u, ⟨hkl, ?_, ?_, ?_, ?_, o', ho', ?_, ?_⟩, ?_⟩
       rotate_right 3
       · rw [hT2.out]; exact Qf
       · rw [hT2.out]
       all_goals exact Qf
   · obtain rfl : k = ts.length := by omega
     have hE := hTn
     clear hTs hTl hct hTn
     repeat' (first | refine QX ?_ | (refine QB ?_; intro b) | (refine QP ?_; intro o' ho') | (with_reducible refine QZ ?_ <;> (try constructor) <;> intro hb <;> try intro hb1) | fail)
     refine ⟨i + 1, .room o' 3 1 ((TF ts.length).map encI).length :: st, q_u, ⟨hlt, ?_, ?_, ?_, o', ho', ?_, ?_⟩, by omega⟩
     rotate_right 2
     · rw [hE.out]; exact Qf
     · rw [hE.out]
     all_goals exact Qf
 · obtain rfl : i = ps.length := by omega
   exact WRa
end
section
attribute [local push_cast] encB encI encC V.cells_mk V.cells_len Nat.mul_one Int.sub_zero List.map_nil beq_self_eq_true bne_self_eq_false List.head?_cons
end
section
attribute [local push_cast] encB encI encC V.cells_mk V.cells_len Nat.mul_one Int.sub_zero List.map_nil beq_self_eq_true bne_self_eq_false List.head?_cons
structure Reg.TmR (t : Tm) : Prop where
 ls : t.slots.length ≤ 1000000
 lt : t.steps.length ≤ 1000000
 os : ∀ s ∈ t.slots, s.dv.Ok
 ot : ∀ s ∈ t.steps, s.slot.dv.Ok
end
section
attribute [local push_cast] encB encI encC V.cells_mk V.cells_len Nat.mul_one Int.sub_zero List.map_nil beq_self_eq_true bne_self_eq_false List.head?_cons
open Go.RowKit B
namespace Reg
structure KnR (t : Tm) : Prop where
 q : TQ t
 r : TmR t
theorem not_greatR {L : List Tm} (hw : ∀ t ∈ L, t.Wf) (h : great L = false) : ∀ t ∈ L, KnR t := by
 unfold great at h
 rw [Bool.or_eq_false_iff, decide_eq_false_iff_not, List.any_eq_false] at h
 intro t ht
 have hg : Sch.great t = false := by
  have := h.2 t ht
  cases hq : Sch.great t with
  | false => rfl
  | true => exact absurd hq this
 obtain ⟨hT, hs, hp, -, hl1, hl2⟩ := not_great10 (hw t ht) hg
 exact ⟨⟨by omega, by omega, fun s h => ⟨⟨(hs s h).2.2.2.2.2, (hs s h).1, by have := (hs s h).2.1; omega⟩, (hs s h).2.2.2.2.1⟩, fun s h => ⟨⟨(hp s h).2.2.2.1.2.2, (hp s h).1, by have := (hp s h).2.1; omega⟩, (hp s h).2.2.2.1.2.1, by have := (hp s h).2.2.2.2; omega⟩⟩, ⟨by omega, by omega, fun s h => (hs s h).2.2.2.2.2, fun s h => (hp s h).2.2.2.1.2.2⟩⟩
end Reg
end
theorem readsBs : Reads Tryz.prog 26 (fun l : List UInt8 => [D.sl .shared (l.map encB)]) fun l => (∀ x ∈ l, True) ∧ l.length ≤ maxLen :=
 reads_slice' (sz := 1) Tryz.underlying26 (by kernel_rfl) q_o (reads_u8 Tryz.underlying5) (fun _ => rfl) fun _ d hd => by
  rw [encB, List.mem_singleton] at hd; subst hd; rfl
section
attribute [local push_cast] encB encI Nat.mul_one
open Go.RowKit B
structure TS where
 o : Own
 l : List UInt8
 a : Nat
 bad : Bool
namespace TS
def cells (t : TS) : List D := [.sl t.o (t.l.map encB), .i t.a, .b t.bad]
attribute [local push_cast] TS.cells
def fail (t : TS) : TS := ⟨t.o, t.l, t.a, true⟩
def go (t : TS) (n : Nat) : TS := ⟨t.o, t.l, t.a + n, t.bad⟩
def left (t : TS) : Nat := t.l.length - t.a
def rd (t : TS) (n : Nat) : Nat × Bool × TS := if t.bad = true ∨ t.left < n then (0, false, t.fail) else (num ((t.l.drop t.a).take n), true, t.go n)
end TS
attribute [local push_cast] TS.cells
abbrev rfR (b : Nat) (t : TS) : Res := .box b 42 t.cells
theorem num_take_lt (l : List UInt8) (i : Nat) (h : i ≤ 8) : num (l.take i) < 18446744073709551616 := by
 have h1 := num_lt (l.take i)
 rw [List.length_take] at h1
 exact Nat.lt_of_lt_of_le h1 (Nat.pow_le_pow_right q_o (show min i l.length ≤ 8 by omega))
theorem refNumberF (b : Nat) (t : TS) (ha : t.a ≤ t.l.length) (hl : t.l.length ≤ 4611686018427387904) (n : Nat) (hn : n ≤ 8) (st : St) : TrF Tryz.prog 147 [.ptr b 0, .i n] (rfR b t :: st) fun x st' => x = .tup [.s (.int .u64 ((t.rd n).1 : Nat)), .b (t.rd n).2.1] ∧ st' = rfR b (t.rd n).2.2 :: st := by
 obtain ⟨o, l, a, bad⟩ := t
 unfold TS.rd TS.left TS.fail TS.go
 dsimp only at *
 cases bad with
 | true =>
  rw [if_pos (.inl rfl)]
  refine Qin [4,5] Tryz.func147 Tryz.results147 Tryz.ntmps147 ?_
  repeat' (first | refine QV ?_ | ((with_reducible refine w_draw [(b, [.sl o (l.map encB), .i a, .b true])] ?_ ?_ ?_ ?_ ?_); (iterate 3 (focus kernel_rfl)); (focus exact q_1)) | ((with_reducible refine And.intro ?_ ?_); (focus exact q_1)) | refine QY ?_ | (refine QB ?_; intro b) | (with_reducible refine QZ ?_ <;> (try constructor) <;> intro hb <;> try intro hb1) | fail)
  all_goals exact Qret
 | false =>
  by_cases h : l.length - a < n
  · rw [if_pos (.inr h)]
    refine Qin [4,5] Tryz.func147 Tryz.results147 Tryz.ntmps147 ?_
    repeat' (first | refine QV ?_ | ((with_reducible refine w_draw [(b, [.sl o (l.map encB), .i a, .b false])] ?_ ?_ ?_ ?_ ?_); (iterate 3 (focus kernel_rfl)); (focus exact q_1)) | ((with_reducible refine And.intro ?_ ?_); (focus exact q_1)) | refine QY ?_ | (refine QB ?_; intro b) | (with_reducible refine QZ ?_ <;> (try constructor) <;> intro hb <;> try intro hb1) | fail)
    all_goals exact Qret
  · rw [if_neg (by simp; omega)]
    dsimp only
    refine Qin [4,5] Tryz.func147 Tryz.results147 Tryz.ntmps147 ?_
    repeat' (first | refine QV ?_ | ((with_reducible refine w_draw [(b, [.sl o (l.map encB), .i a, .b false])] ?_ ?_ ?_ ?_ ?_); (iterate 3 (focus kernel_rfl)); (focus exact q_1)) | ((with_reducible refine And.intro ?_ ?_); (focus exact q_1)) | refine QY ?_ | (refine QB ?_; intro b) | (with_reducible refine QZ ?_ <;> (try constructor) <;> intro hb <;> try intro hb1) | fail)
    refine tr_loopd (ι := Nat) (fun i A st' => i ≤ n ∧ A.df = [] ∧ A.e 0 = .ptr b 0 ∧ A.e 1 = .i n ∧ A.e 7 = .i i ∧ ∃ q : Nat, Hid (num ((l.drop a).take i) = q) ∧ A.e 6 = .s (.int .u64 (q : Int)) ∧ st' = rfR b ⟨o, l, a, false⟩ :: st) (fun i => n - i) 0 ⟨Nat.zero_le _, Qf, Qf, Qf, Qf, 0, rfl, Qf, rfl⟩ ?_
    rintro i A st' ⟨hi, hdf, e0, e1, e7, q0, hq, e6, rfl⟩
    have hqq := hq.out
    by_cases hlt : i < n
    · obtain ⟨x, hx⟩ : ∃ x, l[a + i]? = some x := ⟨_, List.getElem?_eq_getElem q_o⟩
      have hs : num ((l.drop a).take (i + 1)) = num ((l.drop a).take i) * 256 + x.toNat := by
       rw [List.take_add_one, List.getElem?_drop, hx]; exact num_snoc _ _
      have hn1 := num_take_lt (l.drop a) (i + 1) q_o
      have hx2 := x.toNat_lt
      rw [hqq] at hs
      rw [hs] at hn1
      replace hs := Lib.hid hs
      clear hqq hq
      have hxi : ((a : Int) + (i : Int)).toNat = a + i := by omega
      have hw1 : IntKind.u64.wrap ((q0 : Int) * 256) = (q0 : Int) * 256 := by
       simp [IntKind.wrap, IntKind.bits, IntKind.signed]; omega
      have hw2 : IntKind.u64.wrap (x.toNat : Int) = x.toNat := by
       simp [IntKind.wrap, IntKind.bits, IntKind.signed]; omega
      have hw3 : IntKind.u64.wrap ((q0 : Int) * 256 + x.toNat) = (q0 : Int) * 256 + x.toNat := by
       simp [IntKind.wrap, IntKind.bits, IntKind.signed]; omega
      repeat' (first | refine QV ?_ | ((with_reducible refine w_draw [(b, [.sl o (l.map encB), .i a, .b false])] ?_ ?_ ?_ ?_ ?_); (iterate 3 (focus kernel_rfl)); (focus exact q_1)) | ((with_reducible refine And.intro ?_ ?_); (focus exact q_1)) | refine QY ?_ | (refine QB ?_; intro b) | (with_reducible refine QZ ?_ <;> (try constructor) <;> intro hb <;> try intro hb1) | fail)
      refine ⟨i + 1, _, .refl _, ⟨hlt, ?_, ?_, ?_, ?_, q0 * 256 + x.toNat, hs, ?_, rfl⟩, ?_⟩
      all_goals exact Qf
    · obtain rfl : i = n := by omega
      rw [hqq]
      clear hqq hq
      repeat' (first | refine QV ?_ | ((with_reducible refine w_draw [(b, [.sl o (l.map encB), .i a, .b false])] ?_ ?_ ?_ ?_ ?_); (iterate 3 (focus kernel_rfl)); (focus exact q_1)) | ((with_reducible refine And.intro ?_ ?_); (focus exact q_1)) | refine QY ?_ | (refine QB ?_; intro b) | (with_reducible refine QZ ?_ <;> (try constructor) <;> intro hb <;> try intro hb1) | fail)
      all_goals exact Qret
end
section
attribute [local push_cast] encB encI TS.cells TS.fail TS.go Nat.mul_one
open Go.RowKit B
namespace TS
def Ok (t : TS) : Prop := t.a ≤ t.l.length ∧ t.l.length ≤ 1000000
def byte (t : TS) : Int × TS := ((t.rd 1).1, (t.rd 1).2.2)
def rnum (t : TS) : Int × TS := if (t.rd 4).2.1 = true ∧ 2147483647 < (t.rd 4).1 then (0, (t.rd 4).2.2.fail) else ((t.rd 4).1, (t.rd 4).2.2)
def long (t : TS) : Int × TS := (IntKind.i64.wrap (t.rd 8).1, (t.rd 8).2.2)
def textN (t : TS) (n : Int) : ByteArray × TS := if t.bad = true ∨ t.left < n then (⟨#[]⟩, t.fail) else (⟨((t.l.drop t.a).take n.toNat).toArray⟩, t.go n.toNat)
def text (t : TS) : ByteArray × TS := t.rnum.2.textN t.rnum.1
theorem rd_lt (t : TS) (n : Nat) : (t.rd n).1 < 256 ^ n := by
 unfold rd
 split
 · exact Nat.pow_pos (by decide)
 · have h1 := num_lt ((t.l.drop t.a).take n)
   rw [List.length_take] at h1
   exact Nat.lt_of_lt_of_le h1 (Nat.pow_le_pow_right q_o (Nat.min_le_left _ _))
theorem rd_ok {t : TS} (h : t.Ok) (n : Nat) : (t.rd n).2.2.Ok := by
 unfold rd
 split
 · exact h
 · rename_i hb
   refine ⟨?_, h.2⟩
   show t.a + n ≤ t.l.length
   have := h.1
   have : ¬ t.left < n := fun x => hb (.inr x)
   unfold left at this
   omega
theorem rnum_ok {t : TS} (h : t.Ok) : t.rnum.2.Ok := by
 unfold rnum; split
 · exact rd_ok h 4
 · exact rd_ok h 4
theorem textN_ok {t : TS} (h : t.Ok) (n : Int) (hn : 0 ≤ n) : (t.textN n).2.Ok := by
 unfold textN
 split
 · exact h
 · rename_i hb
   refine ⟨?_, h.2⟩
   show t.a + n.toNat ≤ t.l.length
   have := h.1
   have : ¬ (t.left : Int) < n := fun x => hb (.inr x)
   unfold left at this
   omega
theorem rnum_pos (t : TS) : 0 ≤ t.rnum.1 := by
 unfold rnum; split
 · exact Int.le_refl _
 · exact Int.natCast_nonneg _
end TS
theorem rfLeftF (b : Nat) (t : TS) (h : t.Ok) (st : St) : TrF Tryz.prog 31 [.ptr b 0] (rfR b t :: st) fun x st' => x = .i (if t.bad = true then 0 else t.left : Nat) ∧ st' = rfR b t :: st := by
 obtain ⟨o, l, a, bad⟩ := t
 obtain ⟨h1, h2⟩ := h
 unfold TS.left
 dsimp only at *
 cases bad with
 | true =>
  rw [if_pos rfl]
  refine Qin [2] Tryz.func31 Tryz.results31 Tryz.ntmps31 ?_
  repeat' (first | refine QV ?_ | ((with_reducible refine w_draw [(b, [.sl o (l.map encB), .i a, .b true])] ?_ ?_ ?_ ?_ ?_); (iterate 3 (focus kernel_rfl)); (focus exact q_1)) | ((with_reducible refine And.intro ?_ ?_); (focus exact q_1)) | refine QY ?_ | (refine QB ?_; intro b) | (with_reducible refine QZ ?_ <;> (try constructor) <;> intro hb <;> try intro hb1) | fail)
  all_goals exact Qret
 | false =>
  rw [if_neg Bool.false_ne_true]
  have hs : ((l.length - a : Nat) : Int) = (l.length : Int) - a := by omega
  rw [hs]
  refine Qin [2] Tryz.func31 Tryz.results31 Tryz.ntmps31 ?_
  repeat' (first | refine QV ?_ | ((with_reducible refine w_draw [(b, [.sl o (l.map encB), .i a, .b false])] ?_ ?_ ?_ ?_ ?_); (iterate 3 (focus kernel_rfl)); (focus exact q_1)) | ((with_reducible refine And.intro ?_ ?_); (focus exact q_1)) | refine QY ?_ | (refine QB ?_; intro b) | (with_reducible refine QZ ?_ <;> (try constructor) <;> intro hb <;> try intro hb1) | fail)
  all_goals exact Qret
theorem rfByteF (b : Nat) (t : TS) (h : t.Ok) (st : St) : TrF Tryz.prog 84 [.ptr b 0] (rfR b t :: st) fun x st' => x = .i t.byte.1 ∧ st' = rfR b t.byte.2 :: st := by
 have hC := Lib.hid (refNumberF b t h.1 (by have := h.2; omega) 1 q_o)
 have hw := TS.rd_lt t 1
 unfold TS.byte
 generalize t.rd 1 = q at *
 obtain ⟨m, k, t2⟩ := q
 dsimp only at *
 refine Qin [2] Tryz.func84 Tryz.results84 Tryz.ntmps84 ?_
 repeat' (first | refine QX ?_ | (refine QB ?_; intro b) | (with_reducible refine QZ ?_ <;> (try constructor) <;> intro hb <;> try intro hb1) | refine Qc Tryz.call147 ((hC.out _)) ?_ | fail)
 all_goals exact Qret
theorem rfLongF (b : Nat) (t : TS) (h : t.Ok) (st : St) : TrF Tryz.prog 129 [.ptr b 0] (rfR b t :: st) fun x st' => x = .i t.long.1 ∧ st' = rfR b t.long.2 :: st := by
 have hC := Lib.hid (refNumberF b t h.1 (by have := h.2; omega) 8 q_o)
 unfold TS.long
 generalize t.rd 8 = q at *
 obtain ⟨m, k, t2⟩ := q
 dsimp only at *
 refine Qin [2] Tryz.func129 Tryz.results129 Tryz.ntmps129 ?_
 repeat' (first | refine QX ?_ | (refine QB ?_; intro b) | (with_reducible refine QZ ?_ <;> (try constructor) <;> intro hb <;> try intro hb1) | refine Qc Tryz.call147 ((hC.out _)) ?_ | fail)
 all_goals exact Qret
theorem rfNumF (b : Nat) (t : TS) (h : t.Ok) (st : St) : TrF Tryz.prog 81 [.ptr b 0] (rfR b t :: st) fun x st' => x = .i t.rnum.1 ∧ st' = rfR b t.rnum.2 :: st := by
 have hC := Lib.hid (refNumberF b t h.1 (by have := h.2; omega) 4 q_o)
 have hw := TS.rd_lt t 4
 unfold TS.rnum
 generalize t.rd 4 = q at *
 obtain ⟨m, k, o, l, a, bad⟩ := q
 dsimp only at *
 by_cases hm : k = true ∧ 2147483647 < m
 · rw [if_pos hm]
   obtain ⟨rfl, hm⟩ := hm
   refine Qin [2] Tryz.func81 Tryz.results81 Tryz.ntmps81 ?_
   repeat' (first | refine QX ?_ | (refine QB ?_; intro b) | (with_reducible refine QZ ?_ <;> (try constructor) <;> intro hb <;> try intro hb1) | refine Qc Tryz.call147 ((hC.out _)) ?_ | fail)
   all_goals exact Qret
 · rw [if_neg hm]
   cases k with
   | true =>
    have hm : m ≤ 2147483647 := by simpa using hm
    refine Qin [2] Tryz.func81 Tryz.results81 Tryz.ntmps81 ?_
    repeat' (first | refine QX ?_ | (refine QB ?_; intro b) | (with_reducible refine QZ ?_ <;> (try constructor) <;> intro hb <;> try intro hb1) | refine Qc Tryz.call147 ((hC.out _)) ?_ | fail)
    all_goals exact Qret
   | false =>
    clear hm
    refine Qin [2] Tryz.func81 Tryz.results81 Tryz.ntmps81 ?_
    repeat' (first | refine QX ?_ | (refine QB ?_; intro b) | (with_reducible refine QZ ?_ <;> (try constructor) <;> intro hb <;> try intro hb1) | refine Qc Tryz.call147 ((hC.out _)) ?_ | fail)
    all_goals exact Qret
theorem rfTextF (b : Nat) (t : TS) (h : t.Ok) (st : St) : TrF Tryz.prog 82 [.ptr b 0] (rfR b t :: st) fun x st' => x = .str t.text.1 ∧ st' = rfR b t.text.2 :: st := by
 have hC := Lib.hid (rfNumF b t h)
 have hq := TS.rnum_ok h
 have hp := TS.rnum_pos t
 unfold TS.text TS.textN TS.left
 generalize t.rnum = q at *
 obtain ⟨n, o, l, a, bad⟩ := q
 obtain ⟨h1, h2⟩ := hq
 obtain ⟨n, rfl⟩ : ∃ m : Nat, n = m := ⟨n.toNat, by dsimp only at hp; omega⟩
 dsimp only at *
 rw [Int.toNat_natCast]
 cases bad with
 | true =>
  rw [if_pos (.inl rfl)]
  refine Qin [2] Tryz.func82 Tryz.results82 Tryz.ntmps82 ?_
  repeat' (first | refine QV ?_ | ((with_reducible refine w_draw [(b, [.sl o (l.map encB), .i a, .b true])] ?_ ?_ ?_ ?_ ?_); (iterate 3 (focus kernel_rfl)); (focus exact q_1)) | ((with_reducible refine And.intro ?_ ?_); (focus exact q_1)) | refine QY ?_ | (refine QB ?_; intro b) | (with_reducible refine QZ ?_ <;> (try constructor) <;> intro hb <;> try intro hb1) | fail)
  all_goals exact Qret
 | false =>
  by_cases hlt : ((l.length - a : Nat) : Int) < n
  · rw [if_pos (.inr hlt)]
    have hlt2 : (l.length : Int) - a < n := by omega
    refine Qin [2] Tryz.func82 Tryz.results82 Tryz.ntmps82 ?_
    repeat' (first | refine QV ?_ | ((with_reducible refine w_draw [(b, [.sl o (l.map encB), .i a, .b false])] ?_ ?_ ?_ ?_ ?_); (iterate 3 (focus kernel_rfl)); (focus exact q_1)) | ((with_reducible refine And.intro ?_ ?_); (focus exact q_1)) | refine QY ?_ | (refine QB ?_; intro b) | (with_reducible refine QZ ?_ <;> (try constructor) <;> intro hb <;> try intro hb1) | fail)
    all_goals exact Qret
  · rw [if_neg (by simp; omega)]
    have hlt2 : ¬ (l.length : Int) - a < n := by omega
    have e1 : ((a : Int) + n).toNat = a + n := by omega
    have e2 : ((a : Int) + n - n).toNat = a := by omega
    have e3 : a + n ≤ l.length := by omega
    have e4 : List.take n (List.drop a (List.map encB l)) = List.map encB ((l.drop a).take n) := by rw [← List.map_drop, ← List.map_take]
    generalize (l.drop a).take n = l2 at *
    refine Qin [2] Tryz.func82 Tryz.results82 Tryz.ntmps82 ?_
    repeat' (first | refine QV ?_ | ((with_reducible refine w_draw [(b, [.sl o (l.map encB), .i a, .b false])] ?_ ?_ ?_ ?_ ?_); (iterate 3 (focus kernel_rfl)); (focus exact q_1)) | ((with_reducible refine And.intro ?_ ?_); (focus exact q_1)) | ((with_reducible refine w_draw [(b, [.sl o (l.map encB), .i ((a : Int) + n), .b false])] ?_ ?_ ?_ ?_ ?_); (iterate 3 (focus kernel_rfl)); (focus exact q_1)) | ((with_reducible refine And.intro ?_ ?_); (focus exact q_1)) | refine QY ?_ | (refine QB ?_; intro b) | (with_reducible refine QZ ?_ <;> (try constructor) <;> intro hb <;> try intro hb1) | fail)
    all_goals exact Qret
end
section
attribute [local push_cast] encB encI TS.cells TS.fail V.cells_mk V.cells_take V.cells_len Nat.mul_one
open Go.RowKit B
namespace TS
def vals (f : TS → V × TS) : Nat → TS → List V × TS
 | 0, s => ([], s)
 | n + 1, s => if s.bad = true then ([], s) else ((f s).1 :: (vals f n (f s).2).1, (vals f n (f s).2).2)
def list5 (f : Option (TS → V × TS)) (n : Int) (s : TS) : V × TS :=
 match f with
 | none => (.mk 5 0 ⟨#[]⟩ [], s.fail)
 | some f => if 20 < n then (.mk 5 0 ⟨#[]⟩ [], s.fail) else (.mk 5 0 ⟨#[]⟩ (vals f n.toNat s).1, (vals f n.toNat s).2)
def body (f : Option (TS → V × TS)) (s : TS) : V × TS :=
 if s.byte.1 = 1 then (.mk 1 s.byte.2.byte.1 ⟨#[]⟩ [], s.byte.2.byte.2)
 else if s.byte.1 = 2 then (.mk 2 s.byte.2.long.1 ⟨#[]⟩ [], s.byte.2.long.2)
 else if s.byte.1 = 3 ∨ s.byte.1 = 4 then (.mk s.byte.1 0 s.byte.2.text.1 [], s.byte.2.text.2)
 else if s.byte.1 = 5 then list5 f s.byte.2.rnum.1 s.byte.2.rnum.2
 else (.mk s.byte.1 0 ⟨#[]⟩ [], s.byte.2)
def value : Nat → TS → V × TS
 | 0 => body none
 | d + 1 => body (some (value d))
def sub : Nat → Option (TS → V × TS)
 | 0 => none
 | e + 1 => some (value e)
theorem value_eq (d : Nat) (s : TS) : value d s = body (sub d) s := by cases d <;> rfl
theorem text_ok {t : TS} (h : t.Ok) : t.text.2.Ok := textN_ok (rnum_ok h) _ (rnum_pos t)
theorem vals_ok {f : TS → V × TS} (hf : ∀ t, t.Ok → (f t).2.Ok) : ∀ n t, t.Ok → (vals f n t).2.Ok
 | 0, _, h => h
 | n + 1, t, h => by
  unfold vals
  split
  · exact h
  · exact vals_ok hf n _ (hf t h)
theorem body_ok {f : Option (TS → V × TS)} (hf : ∀ g, f = some g → ∀ t, t.Ok → (g t).2.Ok) (t : TS) (h : t.Ok) : (body f t).2.Ok := by
 have h1 : t.byte.2.Ok := rd_ok h 1
 unfold body
 split
 · exact rd_ok h1 1
 split
 · exact rd_ok h1 8
 split
 · exact text_ok h1
 split
 · unfold list5
   cases f with
   | none => exact rnum_ok h1
   | some g =>
    dsimp only
    split
    · exact rnum_ok h1
    · exact vals_ok (hf g rfl) _ _ (rnum_ok h1)
 · exact h1
theorem value_ok : ∀ d t, t.Ok → (value d t).2.Ok
 | 0 => body_ok fun _ h => by cases h
 | d + 1 => body_ok fun g h => by cases h; exact value_ok d
end TS
open TS in
theorem rfGetF : ∀ (d : Nat), d ≤ 4 → ∀ (rb : Nat) (s : TS) (hs : s.Ok) (st : St), TrF Tryz.prog 173 [.ptr rb 0, .i d] (rfR rb s :: st) fun x st' => x = .agg (TS.value d s).1.cells ∧ st' = rfR rb (TS.value d s).2 :: st := fun d => by
 induction d using Nat.strongRecOn with
 | _ d IHd =>
 intro hd4 rb s hs st
 have IH : ∀ f, sub d = some f → (∀ s, s.Ok → (f s).2.Ok) ∧ ∀ b s, s.Ok → ∀ st, TrF Tryz.prog 173 [.ptr b 0, .i ((d : Int) - 1)] (rfR b s :: st) fun x st' => x = .agg (f s).1.cells ∧ st' = rfR b (f s).2 :: st := by
  intro f hf
  cases d with
  | zero => cases hf
  | succ e =>
   cases hf
   refine ⟨value_ok e, fun b s hs st => ?_⟩
   have := IHd e q_o q_o b s hs st
   rwa [show (((e + 1 : Nat) : Int) - 1) = (e : Int) by omega]
 have hd0 : d = 0 ↔ sub d = none := by cases d <;> simp [sub]
 rw [value_eq]
 clear IHd
 generalize sub d = f? at *
 have hB := Lib.hid (rfByteF rb s hs)
 have hs1 : s.byte.2.Ok := rd_ok hs 1
 unfold body
 generalize s.byte = q at *
 obtain ⟨k, s1⟩ := q
 dsimp only at *
 refine QinC 4 73 Tryz.func173 Tryz.ntmps173 ?_
 refine tr_room 73 4 0 ?_
 by_cases k1 : k = 1
 · subst k1
   rw [if_pos rfl]
   have hB2 := Lib.hid (rfByteF rb s1 hs1)
   generalize s1.byte = q2 at *
   clear IH hd0
   repeat' (first | refine QX ?_ | (refine QB ?_; intro b) | (refine QP ?_; intro o' ho') | (with_reducible refine QZ ?_ <;> (try constructor) <;> intro hb <;> try intro hb1) | refine QR Tryz.call84 hB.out ?_ | refine QR Tryz.call84 hB2.out ?_ | fail)
   all_goals exact QretC
 rw [if_neg k1]
 have b1 : (k == 1) = false := by simpa using k1
 by_cases k2 : k = 2
 · subst k2
   rw [if_pos rfl]
   have hB2 := Lib.hid (rfLongF rb s1 hs1)
   generalize s1.long = q2 at *
   clear IH hd0
   repeat' (first | refine QX ?_ | (refine QB ?_; intro b) | (refine QP ?_; intro o' ho') | (with_reducible refine QZ ?_ <;> (try constructor) <;> intro hb <;> try intro hb1) | fail)
   all_goals exact QretC
 rw [if_neg k2]
 have b2 : (k == 2) = false := by simpa using k2
 by_cases k3 : k = 3 ∨ k = 4
 · rw [if_pos k3]
   have hB2 := Lib.hid (rfTextF rb s1 hs1)
   generalize s1.text = q2 at *
   clear IH hd0 b1 b2 k1 k2
   rcases k3 with rfl | rfl
   · repeat' (first | refine QX ?_ | (refine QB ?_; intro b) | (refine QP ?_; intro o' ho') | (with_reducible refine QZ ?_ <;> (try constructor) <;> intro hb <;> try intro hb1) | fail)
     all_goals exact QretC
   · repeat' (first | refine QX ?_ | (refine QB ?_; intro b) | (refine QP ?_; intro o' ho') | (with_reducible refine QZ ?_ <;> (try constructor) <;> intro hb <;> try intro hb1) | fail)
     all_goals exact QretC
 rw [if_neg k3]
 have b3 : (k == 3) = false := by simp; omega
 have b4 : (k == 4) = false := by simp; omega
 by_cases k5 : k = 5
 case neg =>
  rw [if_neg k5]
  have b5 : (k == 5) = false := by simpa using k5
  clear IH hd0
  repeat' (first | refine QX ?_ | (refine QB ?_; intro b) | (refine QP ?_; intro o' ho') | (with_reducible refine QZ ?_ <;> (try constructor) <;> intro hb <;> try intro hb1) | fail)
  all_goals exact QretC
 subst k5
 rw [if_pos rfl]
 have hN := Lib.hid (rfNumF rb s1 hs1)
 have hnp := rnum_pos s1
 have hs2 := rnum_ok hs1
 clear k1 k2 k3 b1 b2 b3 b4
 generalize s1.rnum = q2 at *
 obtain ⟨n, s2⟩ := q2
 dsimp only at *
 by_cases hbad : d = 0 ∨ 20 < n
 · have hres : list5 f? n s2 = (V.mk 5 0 ⟨#[]⟩ [], s2.fail) := by
    unfold list5
    cases f? with
    | none => rfl
    | some f =>
     have : d ≠ 0 := fun h => by have := hd0.1 h; cases this
     exact if_pos q_o
   rw [hres]
   clear hres hd0 IH
   have hbad' : (d : Int) = 0 ∨ 20 < n := by omega
   clear hbad
   obtain ⟨o2, l2, a2, bad2⟩ := s2
   unfold TS.fail
   dsimp only
   repeat' (first | refine QX ?_ | (refine QB ?_; intro b) | (refine QP ?_; intro o' ho') | (with_reducible refine QZ ?_ <;> (try constructor) <;> intro hb <;> try intro hb1) | fail)
   all_goals
    refine tr_once ?_
    by_cases hn0 : 0 < n
    · repeat' (first | refine QX ?_ | (refine QB ?_; intro b) | (refine QP ?_; intro o' ho') | (with_reducible refine QZ ?_ <;> (try constructor) <;> intro hb <;> try intro hb1) | fail)
      all_goals exact QretC
    · repeat' (first | refine QX ?_ | (refine QB ?_; intro b) | (refine QP ?_; intro o' ho') | (with_reducible refine QZ ?_ <;> (try constructor) <;> intro hb <;> try intro hb1) | fail)
      all_goals exact QretC
 obtain ⟨f, rfl⟩ : ∃ f, f? = some f := by
  cases f? with
  | none => exact absurd (.inl (hd0.2 rfl)) hbad
  | some f => exact ⟨f, rfl⟩
 obtain ⟨hfo, hI⟩ := IH f rfl
 replace hI := Lib.hid (hI rb)
 obtain ⟨m, rfl⟩ : ∃ m : Nat, n = m := ⟨n.toNat, by omega⟩
 rw [show list5 (some f) m s2 = (V.mk 5 0 ⟨#[]⟩ (vals f m s2).1, (vals f m s2).2) from if_neg q_o]
 have hd1 : ¬ (d : Int) = 0 := by omega
 have hm20 : m ≤ 20 := by omega
 obtain ⟨res, hres⟩ : ∃ r, vals f m s2 = r := ⟨_, rfl⟩
 have hE : Hid ([] ++ (vals f (m - 0) s2).1 = res.1 ∧ (vals f (m - 0) s2).2 = res.2) := by
  show _ ∧ _
  rw [Nat.sub_zero, hres]
  exact ⟨rfl, rfl⟩
 rw [hres]
 clear hres
 clear IH hd0 hbad
 repeat' (first | refine QX ?_ | (refine QB ?_; intro b) | (refine QP ?_; intro o' ho') | (with_reducible refine QZ ?_ <;> (try constructor) <;> intro hb <;> try intro hb1) | fail)
 rename_i b4 _
 clear hB hN
 refine tr_loopd (ι := Nat) (fun i A st' => i ≤ m ∧ A.df = [] ∧ A.e 0 = .ptr rb 0 ∧ A.e 1 = .i d ∧ A.e 4 = .ptr b4 0 ∧ A.e 5 = .ptr b 0 ∧ A.e 6 = .i m ∧ A.e 7 = .i i ∧ ∃ o' L s' zs, o' ≠ .shared ∧ L.length ≤ i ∧ zs.length = 4 ∧ s'.Ok ∧ Hid (L ++ (vals f (m - i) s').1 = res.1 ∧ (vals f (m - i) s').2 = res.2) ∧ st' = .box b 73 [.i 5, .i 0, .str ⟨#[]⟩, .sl o' (L.map V.cells)] :: .box b4 73 zs :: .room o' 73 4 (L.map V.cells).length :: rfR rb s' :: st) (fun i => m - i) 0 ⟨Nat.zero_le _, Qf, Qf, Qf, Qf, Qf, Qf, Qf, .tight, [], s2, _, by simp, Nat.le_refl _, rfl, hs2, hE, rfl⟩ ?_
 clear hE hnp
 rintro i A st' ⟨hi, hdf, e0, e1, e4, e5, e6, e7, o', L, s', zs, ho', hLi, hzs, hok', hE, rfl⟩
 have hLc : (L.map V.cells).length = L.length := List.length_map _
 by_cases hlt : i < m
 · have hHE := hE.out
   rw [show m - i = (m - (i + 1)) + 1 by omega, vals] at hHE
   cases hsb : s'.bad with
   | true =>
    rw [hsb, if_pos rfl] at hHE
    obtain ⟨r1, r2⟩ := res
    obtain ⟨hr1, hr2⟩ := hHE
    dsimp only at hr1 hr2
    rw [List.append_nil] at hr1
    subst hr1 hr2
    clear hE hI
    repeat' (first | refine QX ?_ | (refine QB ?_; intro b) | (refine QP ?_; intro o' ho') | (with_reducible refine QZ ?_ <;> (try constructor) <;> intro hb <;> try intro hb1) | fail)
    all_goals exact QretC
   | false =>
    rw [hsb, if_neg Bool.false_ne_true] at hHE
    have hIs := hI.out s' hok'
    have hok3 := hfo s' hok'
    generalize f s' = x3 at *
    obtain ⟨⟨k1, n1, t1, l1⟩, s3⟩ := x3
    dsimp only at hHE hIs
    rw [V.cells_mk] at hIs
    have hE2 : Hid ((L ++ [V.mk k1 n1 t1 l1]) ++ (vals f (m - (i + 1)) s3).1 = res.1 ∧ (vals f (m - (i + 1)) s3).2 = res.2) := by
     show _ ∧ _
     rw [List.append_assoc]
     exact hHE
    replace hIs := Lib.hid hIs
    clear hE hI hHE
    have hL4 : ∀ a ∈ L.map V.cells, a.length = 4 := fun a ha => by
     obtain ⟨x, -, rfl⟩ := List.mem_map.1 ha
     exact V.cells_len x
    repeat' (first | refine QV ?_ | ((with_reducible refine w_draw [(b, [.i 5, .i 0, .str ⟨#[]⟩, .sl o' (L.map V.cells)])] ?_ ?_ ?_ ?_ ?_); (focus kernel_rfl); (focus kernel_rfl); (focus kernel_rfl); (focus exact keep_one (List.Mem.head _))) | ((with_reducible refine And.intro ?_ ?_); (focus exact q_1)) | ((with_reducible apply (a2_go ho')); (focus (intro o'; repeat (first | exact ra_h | apply ra_t))); (focus exact hL4); (focus exact len_one rfl); (focus (simp only [List.length_map, List.length_cons, List.length_nil]; omega)); (focus (simp only [List.length_map, List.length_cons, List.length_nil]; omega)); intro o' ho') | refine QY ?_ | (refine QB ?_; intro b) | (refine QP ?_; intro o' ho') | (with_reducible refine QZ ?_ <;> (try constructor) <;> intro hb <;> try intro hb1) | fail)
    refine ⟨i + 1, .box b 73 [.i 5, .i 0, .str ⟨#[]⟩, .sl o' ((L ++ [V.mk k1 n1 t1 l1]).map V.cells)] :: .box b4 73 zs :: .room o' 73 4 ((L ++ [V.mk k1 n1 t1 l1]).map V.cells).length :: rfR rb s3 :: st, ?_, ⟨hlt, ?_, ?_, ?_, ?_, ?_, ?_, ?_, o', L ++ [V.mk k1 n1 t1 l1], s3, zs, ho', ?_, hzs, hok3, hE2, rfl⟩, ?_⟩
    · simp only [List.map_append, List.map_cons, List.map_nil, V.cells_mk]; (repeat (first | exact List.Sublist.refl _ | apply List.Sublist.cons))
    · exact Qf
    · exact Qf
    · exact Qf
    · exact Qf
    · exact Qf
    · exact Qf
    · exact Qf
    · rw [List.length_append, List.length_singleton]; omega
    · omega
 · have hHE := hE.out
   rw [show m - i = 0 by omega, vals] at hHE
   obtain ⟨r1, r2⟩ := res
   obtain ⟨hr1, hr2⟩ := hHE
   dsimp only at hr1 hr2
   rw [List.append_nil] at hr1
   subst hr1 hr2
   clear hE hI
   repeat' (first | refine QX ?_ | (refine QB ?_; intro b) | (refine QP ?_; intro o' ho') | (with_reducible refine QZ ?_ <;> (try constructor) <;> intro hb <;> try intro hb1) | fail)
   all_goals exact QretC
end
section
attribute [local push_cast] encB encI TS.cells TS.fail V.cells_mk V.cells_take V.cells_len Nat.mul_one
open Go.RowKit B
def TS.val (t : TS) : V × TS := if t.bad = true then (V.zero, t) else if (TS.value 4 t).2.bad = true ∨ (TS.value 4 t).1.right = false then (V.zero, (TS.value 4 t).2.fail) else TS.value 4 t
end
end Go.Proofs.YtgcienlfpnpbgaaGreat
