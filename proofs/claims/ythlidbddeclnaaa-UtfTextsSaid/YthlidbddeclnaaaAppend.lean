/- append: one law for whatever source, which tells where the new row lies; plain and in a fence. (The run's equations are the kit's.) -/
import Derived.Test.YthlidbddeclnaaaRange
import Derived.Maps.AppendAt
import Derived.RangeFuncCalls
namespace Go.Proofs.Ythlidbddeclnaaa
open Go.RowKit

/-- A slice value that reads as a list of cells: a source of an append. -/
def Src (w : World) (v : Value) (m size : Nat) (news : List Value) : Prop :=
  ∃ (A : Option Addr) (c : Nat), v = .slice A m c ∧ news.length = m * size ∧ (0 < m → ∃ ad, A = some ad ∧ ∀ j u, news[j]? = some u → w.cell? (ad.add j) = some u)
theorem add_lit (b o i : Nat) : (⟨b, o, none⟩ : Addr).add i = ⟨b, o + i, none⟩ := by unfold Addr.add; split <;> simp_all
theorem Sees.src {α : Type} {enc : α → Value} {w : World} {v : Value} {l : List α} (h : Sees enc w v l) : Src w v l.length 1 (l.map enc) := by
  obtain ⟨a, cap, rfl, h1, h2, h3, h4⟩ := h
  refine ⟨a, cap, rfl, by simp, fun hm => ?_⟩
  cases a with
  | none => have := h3 rfl; omega
  | some b =>
    obtain ⟨e1, e2, e3⟩ := h4 b rfl hm
    obtain ⟨blk, off, sp⟩ := b
    dsimp only at e1 e2 e3
    subst e1
    refine ⟨_, rfl, fun j u hu => ?_⟩
    rw [add_lit]
    rw [List.getElem?_map] at hu
    rcases Nat.lt_or_ge j l.length with hj | hj
    · rw [List.getElem?_eq_getElem hj] at hu
      simp only [Option.map_some, Option.some.injEq] at hu
      rw [← hu]; exact e3 j hj
    · rw [List.getElem?_eq_none hj] at hu; cases hu
theorem Src.new (w : World) (cs : Array Value) (t : TypeId) (m c size : Nat) (hs : cs.size = m * size) : Src (w.alloc (.cells cs t)) (.slice (some ⟨w.heap.size, 0, none⟩) m c) m size cs.toList := by
  refine ⟨_, _, rfl, by simpa using hs, fun _ => ⟨_, rfl, fun j u hu => ?_⟩⟩
  rw [add_lit, cell_of_row _ w.heap.size (0 + j) cs t (0, 0) (heap_alloc_new w _)]
  simpa using hu
theorem Src.of_owns {w : World} {base : Nat} {e : TypeId} {size n : Nat} {v : Value} {xs : List Value} (h : w.ownsRow base e size v n xs) : Src w v n size xs := by
  rcases h.2 with ⟨rfl, rfl⟩ | ⟨g, cap, cur, rfl, _⟩
  · exact ⟨_, _, rfl, h.1, fun h0 => absurd h0 (by omega)⟩
  · exact ⟨_, _, rfl, h.1, fun _ => ⟨_, rfl, h.cells (g := g) rfl⟩⟩
theorem Src.keep {w w' : World} {v : Value} {m size : Nat} {news : List Value} (h : Src w v m size news) (hk : ∀ p x, w.cell? p = some x → w'.cell? p = some x) : Src w' v m size news := by
  obtain ⟨A, c, rfl, hl, hc⟩ := h
  refine ⟨A, c, rfl, hl, fun hm => ?_⟩
  obtain ⟨ad, e, hx⟩ := hc hm
  exact ⟨ad, e, fun j u hu => hk _ _ (hx j u hu)⟩
theorem Src.below {w w' : World} {v : Value} {m size : Nat} {news : List Value} (h : Src w v m size news) (hb : Below w.heap.size w w') : Src w' v m size news :=
  h.keep fun p _ hp => (hb.cell (World.block_lt_of_cell? w p hp)).trans hp

section
variable {P : Program} (w : World)
theorem run_app_nil (base : Nat) (t ty e : TypeId) (i : TypeInfo) (size : Nat) (ht : P.underlying t = some (.slice e)) (hi : P.info? e = some i)
    (v : Value) (n : Nat) (xs : List Value) (hown : w.ownsRow base e size v n xs) (c : Nat) : (Builtin.append_ #[t, t] ty #[v, .slice none 0 c]).run P w = .ok v w := by
  rcases hown.2 with ⟨rfl, rfl⟩ | ⟨g, cap, cur, rfl, _, _, hnc, _⟩
  · simp [Builtin.append_, run_underlying ht, sizeOf, typeInfo, hi, Builtin.lenOf, Builtin.firstCells]
  · simp [Builtin.append_, run_underlying ht, sizeOf, typeInfo, hi, Builtin.lenOf, Builtin.firstCells, hnc, storeCells]
theorem run_app (base : Nat) (t ty e : TypeId) (z : Value) (size bytes : Nat) (ht : P.underlying t = some (.slice e)) (hinfo : (P.info? e).map (fun i => (i.zero, i.size, i.bytes)) = some (some z, size, bytes))
    (hzs : z.cells.size = size) (hsz : 0 < size) (v : Value) (n : Nat) (xs : List Value) (hown : w.ownsRow base e size v n xs)
    (xv : Value) (m : Nat) (news : List Value) (hr : Src w xv m size news) (h1 : ∀ u ∈ news, u.oneCell' = true)
    (h63 : n + m ≤ maxLen) (hbytes : (n + m) * bytes ≤ 140737488355328) (hbase : base ≤ w.heap.size) :
    ∃ v' w', (Builtin.append_ #[t, t] ty #[v, xv]).run P w = .ok v' w' ∧ w'.ownsRow base e size v' (n + m) (xs ++ news) ∧ Chg (fun k => v.ownBlock = some k) w w' ∧
      (v'.ownBlock = v.ownBlock ∨ v'.ownBlock = some w.heap.size) ∧ (v' = .slice none 0 0 ↔ v = .slice none 0 0 ∧ m = 0) := by
  obtain ⟨i, hi, hz, hsize, hby⟩ := info_parts hinfo
  obtain ⟨A, c, rfl, hl, hc⟩ := hr
  have chg : ∀ {w' : World}, w.grownBy w' v.ownBlock → Chg (fun k => v.ownBlock = some k) w w' := fun hg => (Chg.refl _ w).grown hg fun k e _ => e
  rcases A with _ | ad
  · have hm : m = 0 := by
      rcases Nat.eq_zero_or_pos m with h0 | h0
      · exact h0
      · obtain ⟨ad, h, _⟩ := hc h0; cases h
    subst hm
    have hn : news = [] := List.eq_nil_of_length_eq_zero (by simpa using hl)
    subst hn
    exact ⟨v, w, run_app_nil w base t ty e i size ht hi v n xs hown c, by simpa using hown, Chg.refl _ _, .inl rfl, by simp⟩
  · have hcells : ∀ j u, news[j]? = some u → w.cell? (ad.add j) = some u := by
      intro j u hu
      rcases Nat.eq_zero_or_pos m with h0 | h0
      · subst h0
        have hn : news = [] := List.eq_nil_of_length_eq_zero (by simpa using hl)
        subst hn
        simp at hu
      · obtain ⟨ad', h, hc'⟩ := hc h0
        injection h with h
        subst h
        exact hc' j u hu
    obtain ⟨v', w', hrun, h2, h3, h4, h5⟩ := run_append_own_at (P := P) w base t ty e i z size bytes ht hi hz hsize hby hzs hsz v n xs hown ad m c news hl hcells h1 h63 hbytes hbase
    exact ⟨v', w', hrun, h2, chg h3, h5, h4⟩
theorem wpList_app {ops : Array Oper} {rest : List Oper} {o : Oper} {a : Act} {Q : Exit → Act → World → Prop} (hgd : o.guard = none) (s x : Operand) (t : TypeId)
    (ho : o.op = .call { callee := .builtin .append, args := #[s, x], argTypes := #[t, t] })
    (base : Nat) (e : TypeId) (z : Value) (size bytes : Nat) (ht : P.underlying t = some (.slice e)) (hinfo : (P.info? e).map (fun i => (i.zero, i.size, i.bytes)) = some (some z, size, bytes))
    (hzs : z.cells.size = size) (hsz : 0 < size) (v : Value) (n : Nat) (xs : List Value) (hs : a.eval s = v) (hown : w.ownsRow base e size v n xs)
    (xv : Value) (m : Nat) (news : List Value) (hx : a.eval x = xv) (hr : Src w xv m size news) (h1 : ∀ u ∈ news, u.oneCell' = true)
    (h63 : n + m ≤ maxLen) (hbytes : (n + m) * bytes ≤ 140737488355328) (hbase : base ≤ w.heap.size)
    (h : ∀ v' w', w'.ownsRow base e size v' (n + m) (xs ++ news) → Chg (fun k => v.ownBlock = some k) w w' → (v'.ownBlock = v.ownBlock ∨ v'.ownBlock = some w.heap.size) → (v' = .slice none 0 0 ↔ v = .slice none 0 0 ∧ m = 0) → wpList P ops Q rest (a.put o.dst v') w') : wpList P ops Q (o :: rest) a w := by
  refine wpList_plain hgd fun K hK => ?_
  obtain ⟨v', w', hrun, r1, r2, r3, r4⟩ := run_app (P := P) w base t o.type e z size bytes ht hinfo hzs hsz v n xs hown xv m news hr h1 h63 hbytes hbase
  unfold Oper.wp execOp
  simp only [ho, resolve, invoke, builtin, Sem.run_bind, Sem.run_pure, Result.andThen_ok, List.map_toArray, List.map_cons, List.map_nil, hs, hx, hrun]
  exact hK _ _ (h v' w' r1 r2 r3 r4)
theorem wpListIn_app {F : Fence} {fn : Nat} {ops : Array Oper} {rest : List Oper} {o : Oper} {a : Act} {Q : Exit → Act → World → Prop} (hgd : o.guard = none) (s x : Operand) (t : TypeId)
    (ho : o.op = .call { callee := .builtin .append, args := #[s, x], argTypes := #[t, t] })
    (base : Nat) (e : TypeId) (z : Value) (size bytes : Nat) (ht : P.underlying t = some (.slice e)) (hinfo : (P.info? e).map (fun i => (i.zero, i.size, i.bytes)) = some (some z, size, bytes))
    (hzs : z.cells.size = size) (hsz : 0 < size) (v : Value) (n : Nat) (xs : List Value) (hs : a.eval s = v) (hown : w.ownsRow base e size v n xs)
    (xv : Value) (m : Nat) (news : List Value) (hx : a.eval x = xv) (hr : Src w xv m size news) (h1 : ∀ u ∈ news, u.oneCell' = true)
    (h63 : n + m ≤ maxLen) (hbytes : (n + m) * bytes ≤ 140737488355328) (hbase : base ≤ w.heap.size)
    (h : ∀ v' w', w'.ownsRow base e size v' (n + m) (xs ++ news) → Chg (fun k => v.ownBlock = some k) w w' → (v'.ownBlock = v.ownBlock ∨ v'.ownBlock = some w.heap.size) → (v' = .slice none 0 0 ↔ v = .slice none 0 0 ∧ m = 0) → wpListIn F fn P ops Q rest (a.put o.dst v') w') : wpListIn F fn P ops Q (o :: rest) a w := by
  refine wpListIn_plain hgd fun K hK => ?_
  obtain ⟨v', w', hrun, r1, r2, r3, r4⟩ := run_app (P := P) w base t o.type e z size bytes ht hinfo hzs hsz v n xs hown xv m news hr h1 h63 hbytes hbase
  unfold Oper.wpIn
  refine ⟨?_, ?_⟩
  · simp [Oper.about, ho, resolve, Target.leads, Sem.run_pure]
  · rw [Oper.semAt_plain F _ _ (by rw [ho]; intro c hc'; cases hc')]
    simp [execOp, ho, resolve, invoke, builtin, hs, hx, hrun, Result.andThen]
    exact hK _ _ (h v' w' r1 r2 r3 r4)
end

/-! ### a loop body that collects in a boxed variable -/
/-- The box B holds a slice that owns xs; box and row are not protected, and not among the blocks that others turn. -/
def Coll (base B : Nat) (t e : TypeId) (size n : Nat) (xs : List Value) (M Pr : Nat → Prop) (W : World) : Prop :=
  ∃ v, Boxed W B t v ∧ ¬ Pr B ∧ ¬ M B ∧ W.ownsRow base e size v n xs ∧ (∀ k, v.ownBlock = some k → ¬ Pr k ∧ ¬ M k) ∧ (v = .slice none 0 0 ↔ n = 0)
theorem Coll.step {base B : Nat} {t e : TypeId} {size n : Nat} {xs : List Value} {M M' Pr : Nat → Prop} {A C : World} (h : Coll base B t e size n xs M Pr A) (hc : Chg M' A C) (hm : ∀ k, M' k → M k) : Coll base B t e size n xs M (NewIn A C Pr) C := by
  obtain ⟨v, h1, h2, h3, h4, h5, h6⟩ := h
  refine ⟨v, Boxed.chg h1 hc (fun x => h3 (hm _ x)), ?_, h3, ownsRow_chg h4 hc (fun k e x => (h5 k e).2 (hm _ x)), fun k e => ⟨?_, (h5 k e).2⟩, h6⟩
  · rintro (x | x)
    · exact h2 x
    · have := h1.lt; omega
  · rintro (x | x)
    · exact (h5 k e).1 x
    · have := (h4.lt k e).2; omega
theorem Coll.less {base B : Nat} {t e : TypeId} {size n : Nat} {xs : List Value} {M Pr Pr' : Nat → Prop} {A : World} (h : Coll base B t e size n xs M Pr A) (hp : ∀ k, Pr' k → Pr k) : Coll base B t e size n xs M Pr' A := by
  obtain ⟨v, h1, h2, h3, h4, h5, h6⟩ := h
  exact ⟨v, h1, fun x => h2 (hp _ x), h3, h4, fun k e => ⟨fun x => (h5 k e).1 (hp _ x), (h5 k e).2⟩, h6⟩
theorem Coll.bears {β : Type} {base B : Nat} {t e : TypeId} {size : Nat} {n : β → Nat} {xs : β → List Value} {M M' : Nat → Prop} (hm : ∀ k, M' k → M k) : Bears M' (fun (s : β) Pr W => Coll base B t e size (n s) (xs s) M Pr W) :=
  ⟨fun _ _ _ _ h hc => h.step hc hm, fun _ _ _ _ h hp => h.less hp⟩
theorem Bears.and {β : Type} {M : Nat → Prop} {I J : β → (Nat → Prop) → World → Prop} (h : Bears M I) (k : Bears M J) : Bears M (fun s Pr W => I s Pr W ∧ J s Pr W) :=
  ⟨fun s Pr A B x hc => ⟨h.step s Pr A B x.1 hc, k.step s Pr A B x.2 hc⟩, fun s Pr Pr' A x hp => ⟨h.less s Pr Pr' A x.1 hp, k.less s Pr Pr' A x.2 hp⟩⟩
theorem Bears.false {β : Type} (M : Nat → Prop) : Bears M (fun (_ : β) _ _ => False) := ⟨fun _ _ _ _ h _ => h, fun _ _ _ _ h _ => h⟩
theorem Bears.pure {β : Type} (M : Nat → Prop) (p : β → Prop) : Bears M (fun (s : β) _ _ => p s) := ⟨fun _ _ _ _ h _ => h, fun _ _ _ _ h _ => h⟩
/-- What lay below n, out of M, lies as it lay. -/
theorem Bears.below {β : Type} {M : Nat → Prop} {n : Nat} {w : World} (hn : n ≤ w.heap.size) (hM : ∀ k, k < n → ¬ M k) : Bears M (fun (_ : β) _ W => Below n w W) :=
  ⟨fun _ _ _ _ h hc => h.trans (hc.below (by have := h.size; omega) hM), fun _ _ _ _ h _ => h⟩
/-- Behind 'out = append(out, ..)' in a round: the block tmp holds what is appended. -/
theorem Coll.appended {W w1 : World} {base B : Nat} {t e : TypeId} {size k m : Nat} {v v' : Value} {xs ys : List Value} {M Pr : Nat → Prop} {tmp : Obj} (hv : Boxed W B t v) (hPB : ¬ Pr B) (hMB : ¬ M B) (hrow : W.ownsRow base e size v k xs) (hvb : ∀ k, v.ownBlock = some k → ¬ Pr k ∧ ¬ M k)
    (hte : t ≠ e) (hM : ∀ k, M k → k < W.heap.size) (hP : ∀ k, Pr k → k < W.heap.size)
    (hown' : w1.ownsRow base e size v' m ys) (hc : Chg (fun k => v.ownBlock = some k) (W.alloc tmp) w1) (hb : v'.ownBlock = v.ownBlock ∨ v'.ownBlock = some (W.alloc tmp).heap.size) (hn : v' = .slice none 0 0 ↔ m = 0) :
    Boxed w1 B t v ∧ Coll base B t e size m ys M Pr (w1.setCell ⟨B, 0, none⟩ v') ∧ Chg (fun k => ¬ Pr k) W (w1.setCell ⟨B, 0, none⟩ v') := by
  have hbv : ¬ v.ownBlock = some B := fun e => (hv.not_row hte hrow) e.symm
  have h1 : Boxed w1 B t v := Boxed.chg (hv.alloc tmp) hc hbv
  have hbv' : ¬ v'.ownBlock = some B := fun e => (h1.not_row hte hown') e.symm
  refine ⟨h1, ⟨v', h1.set v', hPB, hMB, ownsRow_chg (M := fun k => k = B) hown' ((Chg.refl (fun k => k = B) w1).setCell (p := ⟨B, 0, none⟩) (fun _ => rfl) v') (fun k e x => hbv' (by rw [e, x])), fun k e => ?_, hn⟩, ?_⟩
  · rcases hb with hb | hb
    · exact hvb k (hb ▸ e)
    · rw [hb] at e
      simp only [World.size_alloc, Option.some.injEq] at e
      exact ⟨fun x => by have := hP k x; omega, fun x => by have := hM k x; omega⟩
  · refine Chg.setCell ?_ (fun _ => hPB) _
    exact ((Chg.refl _ W).alloc tmp).trans (hc.mono fun k _ e => (hvb k e).1)

/-! ### a call of a function with a plain contract, in a fence and in a round -/
theorem wcall {n : Nat} {P : Program} {f : FuncId} {args : Array Value} {w : World} {R R' : Ending → World → Prop} (h : Calls P f args w R) (hr : ∀ e w', R e w' → R' e w') :
    Fence.wide.fn f ∧ CallsIn Fence.wide n P f args w R' := ⟨trivial, (callsIn_wide.2 h).mono hr⟩
theorem rcall {l n : Nat} {P : Program} {f : FuncId} {args : Array Value} {w : World} {R R' : Ending → World → Prop} (h : Calls P f args w R) (hr : ∀ e w', R e w' → R' e w') :
    (Fence.wide.inRound l).fn f ∧ CallsIn (Fence.wide.inRound l) n P f args w R' := ⟨trivial, (CallsIn.inRound l (callsIn_wide.2 h)).mono hr⟩
/-! ### a boxed variable that a loop's body writes -/
def Held (B : Nat) (t : TypeId) (v : Value) (M Pr : Nat → Prop) (W : World) : Prop := Boxed W B t v ∧ ¬ Pr B ∧ ¬ M B
theorem Held.bears {β : Type} {B : Nat} {t : TypeId} {v : β → Value} {M M' : Nat → Prop} (hm : ∀ k, M' k → M k) : Bears M' (fun (s : β) Pr W => Held B t (v s) M Pr W) :=
  ⟨fun s Pr A C h hc => ⟨Boxed.chg h.1 hc (fun x => h.2.2 (hm _ x)), fun x => x.elim h.2.1 (fun x => by have := h.1.lt; omega), h.2.2⟩, fun s Pr Pr' A h hp => ⟨h.1, fun x => h.2.1 (hp _ x), h.2.2⟩⟩
end Go.Proofs.Ythlidbddeclnaaa
