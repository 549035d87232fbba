/- An abstract view of memory: what a value reads as, which cells somebody may still write, and what a step of a program keeps. No statement is proved here. -/
import Derived.Test.YthlidbddeclnaaaAppend
namespace Go.Proofs.Ythlidbddeclnaaa
open Go.RowKit

/-- Whose the room behind a slice is: nobody may use it; there is none; the row g's. -/
inductive Own where
  | shared | tight | row (g c : Nat)
  deriving DecidableEq
/-- Data: what values are read as. -/
inductive D where
  | s (v : Value)
  | sl (o : Own) (es : List (List D))
  | ar (g off n cap : Nat)
  | agg (cs : List D)
  | tup (vs : List D)
  | ptr (b off : Nat)
  | ip (cs : List D)
  | fn (f : Fn) (first caps : List D)
def D.un : D := .s undef
def noAgg : Value → Bool
  | .agg _ => false
  | _ => true
def D.leaf : D → Bool
  | .s v => v.oneCell'
  | .agg _ => false
  | .tup _ => false
  | _ => true
def D.cells : D → List D
  | .agg cs => cs
  | d => [d]
/-- In an element's cell nobody remembers whose the room is. -/
def D.sh : D → D
  | .sl _ es => .sl .shared es
  | d => d

/-- A cell that lies, and that nobody may write any more. -/
def Calm (O : Nat → Nat → Prop) (w : World) (b off : Nat) (u : Value) : Prop :=
  b < w.heap.size ∧ ¬ O b off ∧ w.cell? ⟨b, off, none⟩ = some u
def OwnOk (a : Option Addr) (n cap : Nat) : Own → Prop
  | .shared => True
  | .tight => cap = n
  | .row g c => a = some ⟨g, 0, none⟩ ∧ cap = c

inductive Rep (O : Nat → Nat → Prop) (w : World) : Value → D → Prop where
  | s (v : Value) (h : noAgg v = true) : Rep O w v (.s v)
  | sl (o : Own) (es : List (List D)) (a : Option Addr) (cap : Nat) (us : List Value) (sz : Nat)
      (h1 : es.length ≤ cap) (h2 : cap ≤ maxLen) (h3 : a = none → cap = 0) (hsz : 0 < sz) (he : ∀ e ∈ es, e.length = sz)
      (hl : us.length = es.flatten.length) (hleaf : ∀ d ∈ es.flatten, d.leaf = true)
      (hc : ∀ (i : Nat) (h : i < us.length), ∃ b off, a = some ⟨b, off, none⟩ ∧ Calm O w b (off + i) us[i])
      (hr : ∀ (i : Nat) (h : i < us.length) (h' : i < es.flatten.length), Rep O w us[i] es.flatten[i])
      (ho : OwnOk a es.length cap o) : Rep O w (.slice a es.length cap) (.sl o es)
  | ar (g off n cap : Nat) (h1 : n ≤ cap) (h2 : cap ≤ maxLen) : Rep O w (.slice (some ⟨g, off, none⟩) n cap) (.ar g off n cap)
  | agg (us : List Value) (cs : List D) (hl : us.length = cs.length) (hr : ∀ (i : Nat) (h : i < us.length) (h' : i < cs.length), Rep O w us[i] cs[i]) : Rep O w (.agg us.toArray) (.agg cs)
  | tup (us : List Value) (cs : List D) (hl : us.length = cs.length) (hr : ∀ (i : Nat) (h : i < us.length) (h' : i < cs.length), Rep O w us[i] cs[i]) : Rep O w (.tuple us.toArray) (.tup cs)
  | ptr (b off : Nat) : Rep O w (.pointer (some ⟨b, off, none⟩)) (.ptr b off)
  | ip (b off : Nat) (us : List Value) (cs : List D) (hl : us.length = cs.length) (hleaf : ∀ d ∈ cs, d.leaf = true) (hc : ∀ (i : Nat) (h : i < us.length), Calm O w b (off + i) us[i])
      (hr : ∀ (i : Nat) (h : i < us.length) (h' : i < cs.length), Rep O w us[i] cs[i]) : Rep O w (.pointer (some ⟨b, off, none⟩)) (.ip cs)
  | fn (f : Fn) (us1 us2 : List Value) (cs1 cs2 : List D) (hl1 : us1.length = cs1.length) (hl2 : us2.length = cs2.length)
      (hr1 : ∀ (i : Nat) (h : i < us1.length) (h' : i < cs1.length), Rep O w us1[i] cs1[i]) (hr2 : ∀ (i : Nat) (h : i < us2.length) (h' : i < cs2.length), Rep O w us2[i] cs2[i]) :
      Rep O w (.func f us1.toArray us2.toArray) (.fn f cs1 cs2)

/-- Values that read as data, side by side. -/
def RepL (O : Nat → Nat → Prop) (w : World) (us : List Value) (cs : List D) : Prop :=
  us.length = cs.length ∧ ∀ (i : Nat) (h : i < us.length) (h' : i < cs.length), Rep O w us[i] cs[i]
section
variable {O : Nat → Nat → Prop} {w : World}
theorem RepL.nil : RepL O w [] [] := ⟨rfl, fun i h => absurd h (Nat.not_lt_zero _)⟩
theorem RepL.cons {u : Value} {us : List Value} {c : D} {cs : List D} (h : Rep O w u c) (t : RepL O w us cs) : RepL O w (u :: us) (c :: cs) := by
  refine ⟨by simp [t.1], fun i h1 h2 => ?_⟩
  cases i with
  | zero => exact h
  | succ i => exact t.2 i (by simpa using h1) (by simpa using h2)
theorem RepL.inv_nil {us : List Value} (h : RepL O w us []) : us = [] := List.eq_nil_of_length_eq_zero h.1
theorem RepL.inv_cons {us : List Value} {c : D} {cs : List D} (h : RepL O w us (c :: cs)) : ∃ u t, us = u :: t ∧ Rep O w u c ∧ RepL O w t cs := by
  cases us with
  | nil => have := h.1; simp at this
  | cons u t =>
    refine ⟨u, t, rfl, h.2 0 (by simp) (by simp), ?_, fun i h1 h2 => ?_⟩
    · have := h.1; simpa using this
    · exact h.2 (i + 1) (by simpa using h1) (by simpa using h2)
theorem RepL.append {us vs : List Value} {cs ds : List D} (h : RepL O w us cs) (k : RepL O w vs ds) : RepL O w (us ++ vs) (cs ++ ds) := by
  induction us generalizing cs with
  | nil => obtain rfl : cs = [] := List.eq_nil_of_length_eq_zero h.1.symm; simpa using k
  | cons u us ih =>
    cases cs with
    | nil => have := h.1; simp at this
    | cons c cs =>
      obtain ⟨u', t', e, h1, h2⟩ := h.inv_cons
      cases e
      exact RepL.cons h1 (ih h2)
theorem RepL.take {us : List Value} {cs : List D} (h : RepL O w us cs) (n : Nat) : RepL O w (us.take n) (cs.take n) := by
  refine ⟨by simp [h.1], fun i h1 h2 => ?_⟩
  rw [List.getElem_take, List.getElem_take]
  exact h.2 i (by simp at h1; omega) (by simp at h2; omega)
theorem RepL.drop {us : List Value} {cs : List D} (h : RepL O w us cs) (n : Nat) : RepL O w (us.drop n) (cs.drop n) := by
  refine ⟨by simp [h.1], fun i h1 h2 => ?_⟩
  rw [List.getElem_drop, List.getElem_drop]
  exact h.2 (n + i) (by simp at h1; omega) (by simp at h2; omega)
theorem RepL.set {us : List Value} {cs : List D} (h : RepL O w us cs) {u : Value} {c : D} (hu : Rep O w u c) (n : Nat) : RepL O w (us.set n u) (cs.set n c) := by
  refine ⟨by simp [h.1], fun i h1 h2 => ?_⟩
  rw [List.getElem_set, List.getElem_set]
  split
  · exact hu
  · exact h.2 i (by simpa using h1) (by simpa using h2)
theorem RepL.get? {us : List Value} {cs : List D} (h : RepL O w us cs) {i : Nat} {c : D} (hc : cs[i]? = some c) : ∃ u, us[i]? = some u ∧ Rep O w u c := by
  obtain ⟨h1, rfl⟩ := List.getElem?_eq_some_iff.1 hc
  have h2 : i < us.length := by rw [h.1]; exact h1
  exact ⟨us[i], List.getElem?_eq_getElem h2, h.2 i h2 h1⟩
theorem RepL.map {α : Type} {l : List α} {f : α → Value} {g : α → D} (h : ∀ x ∈ l, Rep O w (f x) (g x)) : RepL O w (l.map f) (l.map g) :=
  ⟨by simp, fun _ _ _ => by rw [List.getElem_map, List.getElem_map]; exact h _ (List.getElem_mem _)⟩
theorem Rep.leafOne {u : Value} {c : D} (h : Rep O w u c) (hl : c.leaf = true) : u.oneCell' = true := by
  cases h <;> first | rfl | exact hl | (simp [D.leaf] at hl)
theorem RepL.leafOne {us : List Value} {cs : List D} (h : RepL O w us cs) (hl : ∀ d ∈ cs, d.leaf = true) : ∀ u ∈ us, u.oneCell' = true := by
  intro u hu
  obtain ⟨i, hi, rfl⟩ := List.getElem_of_mem hu
  have h2 : i < cs.length := by rw [← h.1]; exact hi
  exact (h.2 i hi h2).leafOne (hl _ (List.getElem_mem h2))
theorem Rep.share {v : Value} {o : Own} {es : List (List D)} (h : Rep O w v (.sl o es)) : Rep O w v (.sl .shared es) := by
  cases h with
  | sl _ _ a cap us sz h1 h2 h3 hsz he hl hleaf hc hr ho => exact .sl _ _ _ _ us sz h1 h2 h3 hsz he hl hleaf hc hr trivial
theorem Rep.sh {v : Value} {d : D} (h : Rep O w v d) : Rep O w v d.sh := by
  cases d <;> first | exact h | exact h.share
theorem D.leaf_sh (d : D) : d.sh.leaf = d.leaf := by cases d <;> rfl
theorem RepL.sh {us : List Value} {cs : List D} (h : RepL O w us cs) : RepL O w us (cs.map D.sh) :=
  ⟨by simp [h.1], fun i h1 h2 => by rw [List.getElem_map]; exact (h.2 i h1 (by simpa using h2)).sh⟩

/-! ### what may still be written, and what is kept -/
inductive Res where
  | box (b : Nat) (ty : TypeId) (cs : List D)
  | room (o : Own) (ty : TypeId) (sz n : Nat)
  | raw (b : Nat) (o : Obj)
abbrev St := List Res
def Res.blk : Res → Option Nat
  | .box b _ _ => some b
  | .room (.row g _) _ _ _ => some g
  | .room _ _ _ _ => none
  | .raw b _ => some b
def Res.from : Res → Nat
  | .room _ _ sz n => n * sz
  | _ => 0
def Res.owns (r : Res) (b off : Nat) : Prop := r.blk = some b ∧ r.from ≤ off
def Res.ok (O : Nat → Nat → Prop) (w : World) : Res → Prop
  | .box b ty cs => (∃ us, w.heap[b]? = some (.cells us ty (0, 0)) ∧ RepL O w us.toList cs) ∧ ∀ d ∈ cs, d.leaf = true
  | .room (.row g c) ty sz n => ∃ cur, w.heap[g]? = some (.cells cur ty (0, 0)) ∧ cur.size = c * sz ∧ n ≤ c
  | .room _ _ _ _ => True
  | .raw b o => w.heap[b]? = some o
def OwnS (st : St) (b off : Nat) : Prop := ∃ r ∈ st, r.owns b off
def Apart (r r' : Res) : Prop := ∀ b, r.blk = some b → r'.blk ≠ some b
def Holds (st : St) (w : World) : Prop := st.Pairwise Apart ∧ ∀ r ∈ st, r.ok (OwnS st) w

/-- What a step keeps: all that was nobody's. -/
structure Ext (O : Nat → Nat → Prop) (w : World) (O' : Nat → Nat → Prop) (w' : World) : Prop where
  os : w'.os = w.os
  tape : w'.tape = w.tape
  output : w'.output = w.output
  size : w.heap.size ≤ w'.heap.size
  own : ∀ b off, b < w.heap.size → O' b off → O b off
  block : ∀ b, b < w.heap.size → (∀ off, ¬ O b off) → w'.heap[b]? = w.heap[b]?
  part : ∀ b c E fr, w.heap[b]? = some (.cells c E fr) → ∃ c' fr', w'.heap[b]? = some (.cells c' E fr') ∧ c'.size = c.size ∧ ∀ off, ¬ O b off → c'[off]? = c[off]?
/-- A value's cells read as its data's. -/
theorem Rep.cells {v : Value} {d : D} (h : Rep O w v d) : RepL O w v.cells.toList d.cells := by
  cases h with
  | agg us cs hl hr => exact ⟨hl, hr⟩
  | s _ h => cases v <;> first | exact RepL.cons (.s _ h) .nil | (simp [noAgg] at h)
  | sl => rename_i h1 h2 h3 h4 h5 h6 h7 h8 h9 h10; exact RepL.cons (.sl _ _ _ _ _ _ h1 h2 h3 h4 h5 h6 h7 h8 h9 h10) .nil
  | ar g off n cap h1 h2 => exact RepL.cons (.ar _ _ _ _ h1 h2) .nil
  | tup us cs hl hr => exact RepL.cons (.tup _ _ hl hr) .nil
  | ptr b off => exact RepL.cons (.ptr _ _) .nil
  | ip b off us cs h1 h2 h3 h4 => exact RepL.cons (.ip _ _ _ _ h1 h2 h3 h4) .nil
  | fn f us1 us2 cs1 cs2 h1 h2 h3 h4 => exact RepL.cons (.fn _ _ _ _ _ h1 h2 h3 h4) .nil
end
section
variable {O O' O'' : Nat → Nat → Prop} {w w' w'' : World}
theorem Ext.refl (O : Nat → Nat → Prop) (w : World) : Ext O w O w := ⟨rfl, rfl, rfl, Nat.le_refl _, fun _ _ _ h => h, fun _ _ _ => rfl, fun _ c _ fr h => ⟨c, fr, h, rfl, fun _ _ => rfl⟩⟩
theorem Ext.trans (h : Ext O w O' w') (k : Ext O' w' O'' w'') : Ext O w O'' w'' := by
  refine ⟨k.os.trans h.os, k.tape.trans h.tape, k.output.trans h.output, Nat.le_trans h.size k.size, fun b off hb ho => h.own b off hb (k.own b off (Nat.lt_of_lt_of_le hb h.size) ho), fun b hb hn => ?_, fun b c E fr hc => ?_⟩
  · exact (k.block b (Nat.lt_of_lt_of_le hb h.size) fun off ho => hn off (h.own b off hb ho)).trans (h.block b hb hn)
  · have hb := (Array.getElem?_eq_some_iff.1 hc).1
    obtain ⟨c', fr', h1, h2, h3⟩ := h.part b c E fr hc
    obtain ⟨c'', fr'', k1, k2, k3⟩ := k.part b c' E fr' h1
    exact ⟨c'', fr'', k1, k2.trans h2, fun off ho => (k3 off fun x => ho (h.own b off hb x)).trans (h3 off ho)⟩
/-- Less is one's own. -/
theorem Ext.less (hO : ∀ b off, O' b off → O b off) (h : Ext O w O w') : Ext O w O' w' :=
  ⟨h.os, h.tape, h.output, h.size, fun b off _ ho => hO b off ho, h.block, h.part⟩
theorem Ext.calm (h : Ext O w O' w') {b off : Nat} {u : Value} (hc : Calm O w b off u) : Calm O' w' b off u := by
  obtain ⟨h1, h2, h3⟩ := hc
  refine ⟨Nat.lt_of_lt_of_le h1 h.size, fun x => h2 (h.own b off h1 x), ?_⟩
  unfold World.cell? at h3 ⊢
  dsimp only at h3 ⊢
  cases hb : w.heap[b]? with
  | none => rw [hb] at h3; cases h3
  | some o =>
    cases o <;> (rw [hb] at h3; try (cases h3; done))
    rename_i c E fr
    obtain ⟨c', fr', k1, k2, k3⟩ := h.part b c E fr hb
    rw [k1]
    simp only [Option.isSome_none, Bool.false_eq_true, if_false] at h3 ⊢
    rw [k3 off h2]; exact h3
theorem Rep.ext (h : Ext O w O' w') {v : Value} {d : D} (hr : Rep O w v d) : Rep O' w' v d := by
  induction hr with
  | s v hv => exact .s v hv
  | sl o es a cap us sz h1 h2 h3 hsz he hl hleaf hc hr ho ih =>
    refine .sl o es a cap us sz h1 h2 h3 hsz he hl hleaf (fun i hi => ?_) ih ho
    obtain ⟨b, off, e, hcalm⟩ := hc i hi
    exact ⟨b, off, e, h.calm hcalm⟩
  | ar g off n cap h1 h2 => exact .ar _ _ _ _ h1 h2
  | agg us cs hl hr ih => exact .agg us cs hl ih
  | tup us cs hl hr ih => exact .tup us cs hl ih
  | ptr b off => exact .ptr b off
  | ip b off us cs hl hleaf hc hr ih => exact .ip b off us cs hl hleaf (fun i hi => h.calm (hc i hi)) ih
  | fn f us1 us2 cs1 cs2 hl1 hl2 hr1 hr2 ih1 ih2 => exact .fn f us1 us2 cs1 cs2 hl1 hl2 ih1 ih2
theorem RepL.ext (h : Ext O w O' w') {us : List Value} {cs : List D} (hr : RepL O w us cs) : RepL O' w' us cs := ⟨hr.1, fun i h1 h2 => (hr.2 i h1 h2).ext h⟩

/-! ### steps of memory -/
theorem OwnS.nil (b off : Nat) : ¬ OwnS [] b off := fun ⟨_, h, _⟩ => by cases h
theorem OwnS.cons_iff {r : Res} {st : St} {b off : Nat} : OwnS (r :: st) b off ↔ r.owns b off ∨ OwnS st b off := by
  unfold OwnS; simp
theorem Res.ok.lt {r : Res} {b : Nat} (hr : r.ok O w) (hb : r.blk = some b) : b < w.heap.size := by
  cases r with
  | box b ty cs => cases hb; obtain ⟨⟨us, h1, h2⟩, h3⟩ := hr; exact (Array.getElem?_eq_some_iff.1 h1).1
  | room o ty sz n =>
    cases o <;> first | (cases hb; done) | skip
    cases hb; obtain ⟨cur, h1, h2⟩ := hr; exact (Array.getElem?_eq_some_iff.1 h1).1
  | raw b o => cases hb; exact (Array.getElem?_eq_some_iff.1 hr).1
theorem Holds.lt {st : St} (h : Holds st w) {b off : Nat} (ho : OwnS st b off) : b < w.heap.size := by
  obtain ⟨r, hr, hb, _⟩ := ho
  exact (h.2 r hr).lt hb
theorem Res.ok.ext (h : Ext O w O' w') {r : Res} (hr : r.ok O w) (hb : ∀ b, r.blk = some b → w'.heap[b]? = w.heap[b]?) : r.ok O' w' := by
  cases r with
  | box b ty cs => obtain ⟨⟨us, h1, h2⟩, h3⟩ := hr; exact ⟨⟨us, (hb b rfl).trans h1, h2.ext h⟩, h3⟩
  | room o ty sz n =>
    cases o <;> first | exact trivial | skip
    obtain ⟨cur, h1, h2⟩ := hr; exact ⟨cur, (hb _ rfl).trans h1, h2⟩
  | raw b o => exact (hb b rfl).trans hr
theorem Apart.symm {r r' : Res} (h : Apart r r') : Apart r' r := fun b h1 h2 => h b h2 h1
theorem OwnS.perm {st st' : St} (h : st.Perm st') : OwnS st = OwnS st' := by
  funext b off; apply propext; unfold OwnS
  exact ⟨fun ⟨r, h1, h2⟩ => ⟨r, h.mem_iff.1 h1, h2⟩, fun ⟨r, h1, h2⟩ => ⟨r, h.mem_iff.2 h1, h2⟩⟩
theorem Holds.perm {st st' : St} (hp : st.Perm st') (h : Holds st w) : Holds st' w :=
  ⟨(hp.pairwise_iff fun h => h.symm).1 h.1, fun r hr => by rw [← OwnS.perm hp]; exact h.2 r (hp.mem_iff.2 hr)⟩
/-- A new block, nobody's. -/
theorem Ext.alloc (O : Nat → Nat → Prop) (w : World) (o : Obj) : Ext O w O (w.alloc o) :=
  ⟨rfl, rfl, rfl, by simp, fun _ _ _ h => h, fun b hb _ => Below.heap_alloc _ _ _ hb, fun b c E fr h => ⟨c, fr, (Below.heap_alloc _ _ _ (Array.getElem?_eq_some_iff.1 h).1).trans h, rfl, fun _ _ => rfl⟩⟩
theorem Ext.drewN (O : Nat → Nat → Prop) (w : World) (n : Nat) : Ext O w O (w.drewN n) :=
  ⟨rfl, rfl, rfl, Nat.le_refl _, fun _ _ _ h => h, fun _ _ _ => rfl, fun _ c _ fr h => ⟨c, fr, h, rfl, fun _ _ => rfl⟩⟩
/-- A step that keeps every block keeps all that is held. -/
theorem Holds.keep {st : St} (h : Holds st w) (he : Ext (OwnS st) w (OwnS st) w') (hb : ∀ b, b < w.heap.size → w'.heap[b]? = w.heap[b]?) : Holds st w' :=
  ⟨h.1, fun r hr => (h.2 r hr).ext he fun b hbl => hb b ((h.2 r hr).lt hbl)⟩
theorem Holds.alloc {st : St} (h : Holds st w) (o : Obj) : Holds st (w.alloc o) := h.keep (Ext.alloc _ _ o) fun _ hb => Below.heap_alloc _ _ _ hb
theorem Holds.drewN {st : St} (h : Holds st w) (n : Nat) : Holds st (w.drewN n) := h.keep (Ext.drewN _ _ n) fun _ _ => rfl
/-- Something is forgotten. -/
theorem Ext.drop {st st' : St} (hs : ∀ r ∈ st', r ∈ st) (w : World) : Ext (OwnS st) w (OwnS st') w :=
  (Ext.refl _ w).less fun _ _ ⟨r, h1, h2⟩ => ⟨r, hs r h1, h2⟩
theorem Holds.sub {st st' : St} (h : Holds st w) (hs : st'.Sublist st) : Holds st' w :=
  ⟨h.1.sublist hs, fun r hr => (h.2 r (hs.subset hr)).ext (Ext.drop (fun _ h => hs.subset h) w) fun _ _ => rfl⟩
/-- What is held turns in one thing. -/
theorem Holds.put {r r' : Res} {st : St} (h : Holds (r :: st) w) (he : Ext (OwnS (r :: st)) w (OwnS (r' :: st)) w') (hb : ∀ x ∈ st, ∀ b, x.blk = some b → w'.heap[b]? = w.heap[b]?) (hr : r'.ok (OwnS (r' :: st)) w') (ha : ∀ x ∈ st, Apart r' x) : Holds (r' :: st) w' := by
  refine ⟨List.pairwise_cons.2 ⟨ha, (List.pairwise_cons.1 h.1).2⟩, fun x hx => ?_⟩
  rcases List.mem_cons.1 hx with rfl | hx
  · exact hr
  · exact (h.2 x (List.mem_cons_of_mem _ hx)).ext he (hb x hx)
theorem Holds.push {r : Res} {st : St} (h : Holds st w) (he : Ext (OwnS st) w (OwnS (r :: st)) w') (hb : ∀ x ∈ st, ∀ b, x.blk = some b → w'.heap[b]? = w.heap[b]?) (hr : r.ok (OwnS (r :: st)) w') (ha : ∀ x ∈ st, Apart r x) : Holds (r :: st) w' := by
  refine ⟨List.pairwise_cons.2 ⟨ha, h.1⟩, fun x hx => ?_⟩
  rcases List.mem_cons.1 hx with rfl | hx
  · exact hr
  · exact (h.2 x hx).ext he (hb x hx)
/-- A new block is one's own. -/
theorem new_own {st : St} (h : Holds st w) (r : Res) (hbl : ∀ b, r.blk = some b → b = w.heap.size) (o : Obj) (hr : Ext (OwnS st) w (OwnS (r :: st)) (w.alloc o) → r.ok (OwnS (r :: st)) (w.alloc o)) :
    Holds (r :: st) (w.alloc o) ∧ Ext (OwnS st) w (OwnS (r :: st)) (w.alloc o) := by
  have he : Ext (OwnS st) w (OwnS (r :: st)) (w.alloc o) :=
    ⟨rfl, rfl, rfl, by simp, fun b off hb ho => (OwnS.cons_iff.1 ho).elim (fun x => by have := hbl b x.1; omega) id, fun b hb _ => Below.heap_alloc _ _ _ hb, fun b c E fr h => ⟨c, fr, (Below.heap_alloc _ _ _ (Array.getElem?_eq_some_iff.1 h).1).trans h, rfl, fun _ _ => rfl⟩⟩
  refine ⟨h.push he (fun x hx b hb => Below.heap_alloc _ _ _ ((h.2 x hx).lt hb)) (hr he) fun x hx b hb hb' => ?_, he⟩
  have := (h.2 x hx).lt hb'
  have := hbl b hb
  omega
theorem new_box {st : St} (h : Holds st w) (ty : TypeId) {us : List Value} {cs : List D} (hr : RepL (OwnS st) w us cs) (hl : ∀ d ∈ cs, d.leaf = true) :
    Holds (.box w.heap.size ty cs :: st) (w.alloc (.cells us.toArray ty)) ∧ Ext (OwnS st) w (OwnS (.box w.heap.size ty cs :: st)) (w.alloc (.cells us.toArray ty)) :=
  new_own h _ (fun b e => by cases e; rfl) _ fun he => ⟨⟨us.toArray, heap_alloc_new w _, hr.ext he⟩, hl⟩
theorem new_calm {st : St} (h : Holds st w) (us : List Value) (ty : TypeId) (fr : Nat × Nat) {i : Nat} (hi : i < us.length) : Calm (OwnS st) (w.alloc (.cells us.toArray ty fr)) w.heap.size i us[i] := by
  refine ⟨by simp, fun ho => by have := h.lt ho; omega, ?_⟩
  rw [cell_of_row _ w.heap.size i us.toArray ty fr (heap_alloc_new w _)]
  simp [hi]
end
end Go.Proofs.Ythlidbddeclnaaa
