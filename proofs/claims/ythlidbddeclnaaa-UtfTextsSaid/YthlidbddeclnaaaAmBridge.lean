/- From contracts over memory to contracts over data, and back. No statement is proved here. -/
import Derived.Test.YthlidbddeclnaaaAmStep
namespace Go.Proofs.Ythlidbddeclnaaa
open Go.RowKit
section
variable {P : Program} {st : St} {w w' : World} {O : Nat → Nat → Prop}
theorem ext_of_below (h : Holds st w) (hb : Below w.heap.size w w') : Holds st w' ∧ Ext (OwnS st) w (OwnS st) w' := by
  have he : Ext (OwnS st) w (OwnS st) w' := ⟨hb.os, hb.tape, hb.output, hb.size, fun _ _ _ h => h, fun b hl _ => hb.block b hl, fun b c E fr hc => ⟨c, fr, (hb.block b (Array.getElem?_eq_some_iff.1 hc).1).trans hc, rfl, fun _ _ => rfl⟩⟩
  exact ⟨h.keep he fun b hl => hb.block b hl, he⟩
theorem below_of_ext (h : Ext (OwnS []) w (OwnS []) w') : Below w.heap.size w w' :=
  ⟨h.os, h.tape, h.output, h.size, fun b hb => h.block b hb fun off => OwnS.nil b off⟩
theorem holds_nil (w : World) : Holds [] w := ⟨.nil, fun r hr => by cases hr⟩
/-- A list of one-celled elements. -/
theorem flat_one {α : Type} {f : α → D} (l : List α) : (l.map fun x => [f x]).flatten = l.map f := by
  induction l with
  | nil => rfl
  | cons x l ih => rw [List.map_cons, List.flatten_cons, ih]; rfl
theorem sees_of_rep {α : Type} {f : α → Value} {v : Value} {o : Own} {l : List α} (h : Rep O w v (.sl o (l.map fun x => [D.s (f x)]))) : Sees f w v l := by
  obtain ⟨a, cap, us, sz, rfl, h1, h2, h3, h4, h5, h6, h7, h8, h9, -⟩ := calm_src h
  rw [List.length_map] at *
  have hul : us.length = l.length := by rw [h6.1, flat_one, List.length_map]
  refine ⟨a, cap, rfl, h1, h2, h8, fun b hb hl => ?_⟩
  subst hb
  obtain ⟨bk, off, e, c1, c2, c3⟩ := h9 0 (by omega)
  cases e
  refine ⟨rfl, c1, fun i hi => ?_⟩
  obtain ⟨bk', off', e', d1, d2, d3⟩ := h9 i (by omega)
  cases e'
  have hr := h6.2 i (by omega) (by rw [← h6.1]; omega)
  simp only [flat_one, List.getElem_map] at hr
  rw [d3, rep_s hr]
theorem rep_of_sees {α : Type} {f : α → Value} (hf : ∀ x, (f x).oneCell' = true) (hn : ∀ x, noAgg (f x) = true) {v : Value} {l : List α} (h : Sees f w v l) (hO : ∀ b off, b < w.heap.size → (∀ k, k < l.length → v = .slice (some ⟨b, off, none⟩) l.length (match v with | .slice _ _ c => c | _ => 0) → ¬ O b (off + k))) : Rep O w v (.sl .shared (l.map fun x => [D.s (f x)])) := by
  obtain ⟨a, cap, rfl, h1, h2, h3, h4⟩ := h
  have := Rep.sl (O := O) (w := w) .shared (l.map fun x => [D.s (f x)]) a cap (l.map f) 1 (by simpa using h1) h2 h3 (Nat.lt_succ_self _) (fun e he => by obtain ⟨x, -, rfl⟩ := List.mem_map.1 he; rfl) (by rw [flat_one]; simp) (fun d hd => by rw [flat_one] at hd; obtain ⟨x, -, rfl⟩ := List.mem_map.1 hd; exact hf x)
    (fun i hi => by
      rw [List.length_map] at hi
      obtain ⟨b, rfl⟩ : ∃ b, a = some b := by
        cases a with
        | none => have := h3 rfl; omega
        | some b => exact ⟨b, rfl⟩
      obtain ⟨e1, e2, e3⟩ := h4 b rfl (by omega)
      obtain ⟨bk, off, sp⟩ := b
      dsimp only at e1 e2 e3
      subst e1
      exact ⟨bk, off, rfl, e2, hO bk off e2 i hi rfl, by rw [e3 i hi]; simp⟩)
    (fun i hi hi' => by simp only [flat_one, List.getElem_map]; exact .s _ (hn _)) trivial
  rwa [List.length_map] at this
theorem rep_sees_free {α : Type} {f : α → Value} (hf : ∀ x, (f x).oneCell' = true) (hn : ∀ x, noAgg (f x) = true) {v : Value} {l : List α} (h : Sees f w v l) : Rep (OwnS []) w v (.sl .shared (l.map fun x => [D.s (f x)])) :=
  rep_of_sees hf hn h fun _ _ _ _ _ _ => OwnS.nil _ _
theorem rep_bytes {v : Value} {l : List UInt8} (h : Sees bv w v l) : Rep (OwnS []) w v (.sl .shared (l.map encB)) := rep_sees_free (fun _ => rfl) (fun _ => rfl) h
theorem rep_ints {v : Value} {l : List Int} (h : Sees iv w v l) : Rep (OwnS []) w v (.sl .shared (l.map encI)) := rep_sees_free (fun _ => rfl) (fun _ => rfl) h
theorem sees_bytes {v : Value} {o : Own} {l : List UInt8} (h : Rep O w v (.sl o (l.map encB))) : Sees bv w v l := sees_of_rep (f := bv) h
theorem sees_ints {v : Value} {o : Own} {l : List Int} (h : Rep O w v (.sl o (l.map encI))) : Sees iv w v l := sees_of_rep (f := iv) h
/-- New memory that is seen: nobody's. -/
theorem rep_fresh {α : Type} {f : α → Value} (hf : ∀ x, (f x).oneCell' = true) (hn : ∀ x, noAgg (f x) = true) (hh : Holds st w) {v : Value} {E : TypeId} {n : Nat} {xs : List Value} {l : List α} (h : w'.ownsRow w.heap.size E 1 v n xs) (hx : xs = l.map f) (hl : n = l.length) : Rep (OwnS st) w' v (.sl .shared (l.map fun x => [D.s (f x)])) := by
  have hs := Sees.of_owns h hx hl
  refine rep_of_sees hf hn hs fun b off hb k hk e ho => ?_
  have h1 := (h.lt b (by rw [e]; rfl)).1
  have := hh.lt ho
  omega
theorem rep_inv_str {v : Value} {s : ByteArray} (h : Rep O w v (.str s)) : v = .string s := rep_s h
/-- A contract that only computes. -/
theorem trF_pure {f : FuncId} {args : List D} {X : D} (h : ∀ (vs : Array Value) w, RepL (OwnS st) w vs.toList args → ∃ v, (∀ O w', Rep O w' v X) ∧ Calls P f vs w fun e w' => e = .returned v ∧ Below w.heap.size w w') : TrF P f args st fun d st' => d = X ∧ st' = st := by
  intro vs w hv hh
  obtain ⟨v, hr, hc⟩ := h vs w hv
  refine hc.mono fun e w' ⟨he, hb⟩ => ⟨v, he, X, st, hr _ _, (ext_of_below hh hb).1, (ext_of_below hh hb).2, rfl, rfl⟩
/-- A contract that makes a list. -/
theorem trF_list {α : Type} {fv : α → Value} (hf : ∀ x, (fv x).oneCell' = true) (hn : ∀ x, noAgg (fv x) = true) {f : FuncId} {args : List D} {E : TypeId} {l : List α} (h : ∀ (vs : Array Value) w, RepL (OwnS st) w vs.toList args → Calls P f vs w fun e w' => ∃ v, e = .returned v ∧ w'.ownsRow w.heap.size E 1 v l.length (l.map fv) ∧ Below w.heap.size w w') :
    TrF P f args st fun d st' => d = .sl .shared (l.map fun x => [D.s (fv x)]) ∧ st' = st := by
  intro vs w hv hh
  refine (h vs w hv).mono fun e w' ⟨v, he, ho, hb⟩ => ⟨v, he, _, st, rep_fresh hf hn hh ho rfl rfl, (ext_of_below hh hb).1, (ext_of_below hh hb).2, rfl, rfl⟩
/-- What a law comes to. -/
theorem law_of {f : FuncId} {args : List D} {vs : Array Value} (h : TrF P f args [] fun d st' => d = .b true ∧ st' = []) (hv : RepL (OwnS []) w vs.toList args) : Calls P f vs w fun e w' => e = .returned (.bool true) ∧ Below w.heap.size w w' :=
  (h vs w hv (holds_nil w)).mono fun e w' ⟨v, he, d, st', h1, _, h3, h4, h5⟩ => by
    subst h4 h5
    exact ⟨by rw [he, rep_s h1], below_of_ext h3⟩
theorem args1 {vs : Array Value} {d : D} (h : RepL O w vs.toList [d]) : ∃ v, vs = #[v] ∧ Rep O w v d := by
  obtain ⟨l⟩ := vs
  obtain ⟨u, e, h1⟩ := RepL.one h
  dsimp only at e
  subst e
  exact ⟨u, rfl, h1⟩
theorem args2 {vs : Array Value} {d d' : D} (h : RepL O w vs.toList [d, d']) : ∃ v v', vs = #[v, v'] ∧ Rep O w v d ∧ Rep O w v' d' := by
  obtain ⟨l⟩ := vs
  obtain ⟨u, u', e, h1, h2⟩ := RepL.two h
  dsimp only at e
  subst e
  exact ⟨u, u', rfl, h1, h2⟩
end
end Go.Proofs.Ythlidbddeclnaaa
