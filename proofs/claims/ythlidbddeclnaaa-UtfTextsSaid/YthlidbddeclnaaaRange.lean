/- A law for a range over a function whose iterator may keep memory of its own, and turn some of the memory that lay: the iterator and the loop's body each say which blocks they turn. The proof of the law follows the kit's own law for such loops (turned by hand). -/
import Derived.RangeFuncNested
import Derived.RangeFuncLeaves
import Derived.Test.YthlidbddeclnaaaBase
namespace Go.Proofs.Ythlidbddeclnaaa
open Go.RowKit

/-- From A to B only blocks in M, and new ones, have turned. -/
structure Chg (M : Nat → Prop) (A B : World) : Prop where
  os : B.os = A.os
  tape : B.tape = A.tape
  output : B.output = A.output
  size : A.heap.size ≤ B.heap.size
  block : ∀ k, k < A.heap.size → ¬ M k → B.heap[k]? = A.heap[k]?
section
variable {M : Nat → Prop} {A B C : World}
theorem Chg.refl (M : Nat → Prop) (A : World) : Chg M A A := ⟨rfl, rfl, rfl, Nat.le_refl _, fun _ _ _ => rfl⟩
theorem Chg.trans (h : Chg M A B) (k : Chg M B C) : Chg M A C :=
  ⟨k.os.trans h.os, k.tape.trans h.tape, k.output.trans h.output, Nat.le_trans h.size k.size, fun i hi hm => (k.block i (Nat.lt_of_lt_of_le hi h.size) hm).trans (h.block i hi hm)⟩
theorem Chg.mono {M' : Nat → Prop} (h : Chg M A B) (hm : ∀ k, k < A.heap.size → M k → M' k) : Chg M' A B :=
  ⟨h.os, h.tape, h.output, h.size, fun k hk hn => h.block k hk fun x => hn (hm k hk x)⟩
theorem Chg.of_below (h : Below A.heap.size A B) : Chg M A B := ⟨h.os, h.tape, h.output, h.size, fun k hk _ => h.block k hk⟩
theorem Chg.below {n : Nat} (h : Chg M A B) (hn : n ≤ A.heap.size) (hm : ∀ k, k < n → ¬ M k) : Below n A B :=
  ⟨h.os, h.tape, h.output, h.size, fun k hk => h.block k (by omega) (hm k hk)⟩
theorem Chg.below' (h : Chg (fun _ => False) A B) : Below A.heap.size A B := h.below (Nat.le_refl _) fun _ _ h => h
theorem Chg.drewN (h : Chg M A B) (n : Nat) : Chg M A (B.drewN n) := h.trans ⟨rfl, rfl, rfl, Nat.le_refl _, fun _ _ _ => rfl⟩
theorem Chg.drew (h : Chg M A B) : Chg M A B.drew := h.trans ⟨rfl, rfl, rfl, Nat.le_refl _, fun _ _ _ => rfl⟩
theorem Chg.alloc (h : Chg M A B) (o : Obj) : Chg M A (B.alloc o) := h.trans ⟨rfl, rfl, rfl, by simp, fun k hk _ => Below.heap_alloc _ _ _ hk⟩
theorem Chg.setCell (h : Chg M A B) {p : Addr} (hp : p.block < A.heap.size → M p.block) (v : Value) : Chg M A (B.setCell p v) :=
  ⟨h.os, h.tape, h.output, Nat.le_trans h.size (KeepsWalks.setCell B p v).size, fun k hk hn =>
    (Below.heap_setCell B p v k (fun e => hn (by subst e; exact hp hk))).trans (h.block k hk hn)⟩
theorem Chg.grown (h : Chg M A B) {row : Option Nat} (hg : B.grownBy C row) (hr : ∀ k, row = some k → k < A.heap.size → M k) : Chg M A C :=
  ⟨hg.os.trans h.os, hg.tape.trans h.tape, hg.output.trans h.output, Nat.le_trans h.size hg.size, fun k hk hn =>
    (hg.block k (Nat.lt_of_lt_of_le hk h.size) (fun e => hn (hr k e.symm hk))).trans (h.block k hk hn)⟩
theorem Chg.putObj (h : Chg M A B) {l : Nat} (hl : l < A.heap.size → M l) (o : Obj) : Chg M A (B.putObj l o) :=
  h.grown (grownBy_putObj' B l o) fun k e => by cases e; exact hl
theorem Chg.cell (h : Chg M A B) {p : Addr} (hp : p.block < A.heap.size) (hn : ¬ M p.block) : B.cell? p = A.cell? p := World.cell?_of_block (h.block _ hp hn)
theorem Chg.frozen (h : Chg M A B) {p : Addr} (hp : p.block < A.heap.size) (hn : ¬ M p.block) : B.frozen? p = A.frozen? p := World.frozen?_of_block (h.block _ hp hn)
theorem Boxed.chg {b : Nat} {t : TypeId} {v : Value} (h : Boxed A b t v) (hc : Chg M A B) (hn : ¬ M b) : Boxed B b t v := (hc.block b h.lt hn).trans h
theorem ownsRow_chg {base : Nat} {e : TypeId} {size n : Nat} {v : Value} {xs : List Value} (h : A.ownsRow base e size v n xs) (hc : Chg M A B) (hn : ∀ k, v.ownBlock = some k → ¬ M k) : B.ownsRow base e size v n xs := by
  refine ⟨h.1, ?_⟩
  rcases h.2 with h2 | ⟨g, cap, cur, rfl, hb, hg, rest⟩
  · exact .inl h2
  · exact .inr ⟨g, cap, cur, rfl, hb, (hc.block g (Array.getElem?_eq_some_iff.1 hg).1 (hn g rfl)).trans hg, rest⟩
end

/-- The blocks that are new in B. -/
def NewIn (A B : World) (Pr : Nat → Prop) : Nat → Prop := fun k => Pr k ∨ (A.heap.size ≤ k ∧ k < B.heap.size)

/-- What a caller's invariant must bear: the iterator's steps (they turn M; what is new is the iterator's, and protected), and that less is protected. -/
structure Bears {β : Type} (M : Nat → Prop) (J : β → (Nat → Prop) → World → Prop) : Prop where
  step : ∀ s Pr A B, J s Pr A → Chg M A B → J s (NewIn A B Pr) B
  less : ∀ s Pr Pr' A, J s Pr A → (∀ k, Pr' k → Pr k) → J s Pr' A

/-- The contract of an iterator value: it turns blocks in M alone; Pr0: what lay and must be kept while it goes; G: what has come so far; S: all has come; Sp: a round has said 'no more'. -/
def SeqC {α : Type} (F : Fence) (n : Nat) (P : Program) (g : Nat) (lb : Array Value) (encs : α → Array Value) (M Pr0 : Nat → Prop) (G : List α → Prop) (S Sp : List α → World → Prop) (w : World) : Prop :=
  ∀ (l : Nat) (J Jx : List α → (Nat → Prop) → World → Prop) (W : World), Chg (fun _ => False) w W → Bears M J → Bears M Jx →
    (∀ pre x Pr W1, J pre Pr W1 → (∀ k, Pr0 k → Pr k) → G (pre ++ [x]) → YieldAt F (n - 1) P l (encs x) W1 fun e W' =>
      (e = .returned (.bool true) ∧ J (pre ++ [x]) Pr W' ∧ Chg (fun k => ¬ Pr k) W1 W') ∨ (e = .returned (.bool false) ∧ Jx (pre ++ [x]) Pr W' ∧ Chg (fun k => ¬ Pr k) W1 W')) →
    J [] Pr0 W →
    CallsIn F n P g (#[.func (.yield l) #[] #[]] ++ lb) W fun e W' => (∃ v, e = .returned v) ∧ ((∃ xs, S xs W' ∧ J xs Pr0 W') ∨ (∃ pre, Sp pre W' ∧ Jx pre Pr0 W'))
theorem SeqC.inRound {α : Type} {F : Fence} {n : Nat} {P : Program} {g : Nat} {lb : Array Value} {encs : α → Array Value} {M Pr0 : Nat → Prop} {G : List α → Prop} {S Sp : List α → World → Prop} {w : World} (l : Nat)
    (h : SeqC F n P g lb encs M Pr0 G S Sp w) : SeqC (F.inRound l) n P g lb encs M Pr0 G S Sp w := h

/-- How a round's body may be left. -/
def rPost {α : Type} (I : List α → (Nat → Prop) → World → Prop) (Ix : Code → List α → (Nat → Prop) → World → Prop) (xs : List α) (Pr : Nat → Prop) (W : World) : Exit → Act → World → Prop
  | .normal, _, W' => Chg (fun k => ¬ Pr k) W W' ∧ I xs Pr W'
  | .ret, _, W' => Chg (fun k => ¬ Pr k) W W' ∧ Ix .ret xs Pr W'
  | .exit id, _, W' => Chg (fun k => ¬ Pr k) W W' ∧ Ix (.exit id) xs Pr W'
  | .goto t, _, W' => Chg (fun k => ¬ Pr k) W W' ∧ Ix (.goto t) xs Pr W'
  | .panic _, _, _ => False
  | .outgrown, _, _ => False

/-- The law: a range over a function, no round around it. -/
theorem wpIn_range {F : Fence} {n : Nat} {P : Program} {w : World} {α : Type} {g : Operand} {ps : Array Tmp} {assign body : Code} {Q : Exit → Act → World → Prop} {a : Act}
    (hro : F.round = none) (h1 : 1 ≤ n) {gf : Nat} {lb : Array Value} (hg : a.eval g = .func (.func gf) #[] lb) (hFg : F.fn gf) (eg : ∀ args w, (callFunc gf args).run P w = .ok (.enter gf args) w)
    {encs : α → Array Value} {M Pr0 : Nat → Prop} {G : List α → Prop} {S Sp : List α → World → Prop} {w0 : World} (hseq : SeqC F (n - 1) P gf lb encs M Pr0 G S Sp w0)
    (hb0 : Chg (fun _ => False) w0 w) (hM : ∀ k, M k → k < w.heap.size) (hPr0 : ∀ k, Pr0 k → k < w.heap.size) (hps : ∀ x, (encs x).size = ps.size)
    (I : List α → (Nat → Prop) → World → Prop) (Ix : Code → List α → (Nat → Prop) → World → Prop) (hI : Bears (fun k => M k ∨ w.heap.size = k ∨ w.heap.size + 1 = k) I) (hIx : ∀ c, Bears (fun k => M k ∨ w.heap.size = k ∨ w.heap.size + 1 = k) (Ix c))
    (h0 : I [] (fun k => Pr0 k) w) (Ax : α → Act → (Nat → Prop) → World → Prop) (hAx : ∀ x a', Bears (fun k => w.heap.size = k ∨ w.heap.size + 1 = k) (fun (_ : Unit) => Ax x a'))
    (hassign : ∀ (l : Nat) (pre : List α) (x : α) (Pr : Nat → Prop) (W : World) (K : Act → World → Prop), w.heap.size + 2 ≤ W.heap.size → (∀ k, Pr k → k < W.heap.size) → I pre Pr W → (∀ a' W', Chg (fun k => ¬ Pr k) W W' → I pre Pr W' → Ax x a' Pr W' → K a' W') →
      assign.wpIn (F.inRound l) (n - 1 - 1) P (Exit.then K (fun _ _ _ => False)) { tmps := (ps.zip (encs x)).foldl (fun t (p, v) => t.setIfInBounds p v) a.tmps, defers := [] } W)
    (hbody : ∀ (l : Nat) (pre : List α) (x : α) (a' : Act) (Pr : Nat → Prop) (W : World), w.heap.size + 2 ≤ W.heap.size → (∀ k, Pr k → k < W.heap.size) → (∀ k, Pr0 k → Pr k) → Pr l → (∃ r, W.heap[l]? = some (.loop r)) → I pre Pr W → Ax x a' Pr W → G (pre ++ [x]) →
      body.wpIn (F.inRound l) (n - 1 - 1) P (rPost I Ix (pre ++ [x]) Pr W) a' W)
    (hdone : ∀ (xs : List α) (W0 W : World), S xs W0 → Chg (fun k => w.heap.size = k ∨ w.heap.size + 1 = k) W0 W → I xs Pr0 W → W.heap[w.heap.size]? = some (.deferred (some [])) → Q .normal { a with defers := { target := .collected w.heap.size, args := #[] } :: a.defers } W)
    (hstop : ∀ (c : Code) (pre : List α) (W0 W : World), Sp pre W0 → Chg (fun k => w.heap.size = k ∨ w.heap.size + 1 = k) W0 W → Ix c pre Pr0 W → W.heap[w.heap.size]? = some (.deferred (some [])) → c.wpIn F n P Q { a with defers := { target := .collected w.heap.size, args := #[] } :: a.defers } W) :
    (Code.rangeFunc g ps assign body).wpIn F n P Q a w := by
  refine wpIn_rangeFunc ?_
  intro fn hfn
  rw [hro]
  obtain ⟨rec, hrec⟩ : ∃ rec : LoopState → Option Code → Loop, rec = fun st pe => { state := st, pending := pe, fn, tmps := a.tmps, params := ps, assign, body, defers := w.heap.size } := ⟨_, rfl⟩
  obtain ⟨W1, hW1⟩ : ∃ W1, (w.alloc (.deferred (some []))).alloc (.loop (rec .ready none)) = W1 := ⟨_, rfl⟩
  have hs1 : W1.heap.size = w.heap.size + 2 := by rw [← hW1]; simp
  have hL1 : W1.heap[w.heap.size + 1]? = some (.loop (rec .ready none)) := by
    rw [← hW1]; have := World.alloc_heap_new (w.alloc (.deferred (some []))) (.loop (rec .ready none)); rwa [World.size_alloc] at this
  have hK1 : W1.heap[w.heap.size]? = some (.deferred (some [])) := by
    rw [← hW1]; exact (Below.heap_alloc _ _ _ (by simp)).trans (World.alloc_heap_new w _)
  obtain ⟨Bk, hBk⟩ : ∃ Bk : Nat → Prop, Bk = fun k => w.heap.size = k ∨ w.heap.size + 1 = k := ⟨_, rfl⟩
  have hc1 : Chg (fun k => M k ∨ w.heap.size = k ∨ w.heap.size + 1 = k) w W1 := by
    rw [← hW1]; exact ((Chg.refl _ w).alloc _).alloc _
  have hI1 : I [] (fun k => Pr0 k ∨ Bk k) W1 := hI.less _ _ _ _ (hI.step _ _ _ _ h0 hc1) fun k hk => by
    rcases hk with hk | hk
    · exact .inl hk
    · rw [hBk] at hk; exact .inr ⟨by omega, by omega⟩
  have hb1 : Chg (fun _ => False) w0 W1 := by rw [← hW1]; exact ((hb0.alloc _).alloc _)
  -- what book-keeping says: the two blocks lie; they are protected
  refine ⟨w.heap.size + 1, [{ target := .collected w.heap.size, args := #[] }], W1, { target := .fn (.func gf) lb, args := #[.func (.yield (w.heap.size + 1)) #[] #[]] }, W1, gf,
    #[.func (.yield (w.heap.size + 1)) #[] #[]] ++ lb, W1, ?_, ?_, ?_, ?_, fun _ => h1, ?_⟩
  · rw [← hW1, hrec]; exact run_enterLoop_outer _ _ _ _ _
  · simp only [resolve, hg]
    simp [go_sem]
  · intro f' hf'; simp [Target.leads] at hf'; subst hf'; exact hFg
  · simp [invoke, go_sem, eg]
  · have hMl : ∀ k, M k → ¬ Bk k := fun k hk hb => by have := hM k hk; rw [hBk] at hb; omega
    refine (hseq (w.heap.size + 1)
      (fun pre Pr W => ((∀ k, Bk k → ¬ Pr k) ∧ ∀ k, Pr k → k < W.heap.size) ∧ I pre (fun k => Pr k ∨ Bk k) W ∧ W.heap[w.heap.size + 1]? = some (.loop (rec .ready none)) ∧ W.heap[w.heap.size]? = some (.deferred (some [])))
      (fun pre Pr W => ((∀ k, Bk k → ¬ Pr k) ∧ ∀ k, Pr k → k < W.heap.size) ∧ ∃ c, Ix c pre (fun k => Pr k ∨ Bk k) W ∧ W.heap[w.heap.size + 1]? = some (.loop (rec .done (some c))) ∧ W.heap[w.heap.size]? = some (.deferred (some [])))
      W1 hb1 ?_ ?_ ?_ ⟨⟨fun k hb hp => by have := hPr0 k hp; rw [hBk] at hb; omega, fun k hp => by have := hPr0 k hp; omega⟩, hI1, hL1, hK1⟩).mono ?_
    · refine ⟨fun s Pr A B hs hc => ?_, fun s Pr Pr' A hs hle => ⟨⟨fun k hb hp => hs.1.1 k hb (hle k hp), fun k hp => hs.1.2 k (hle k hp)⟩, hI.less _ _ _ _ hs.2.1 (fun k hk => hk.imp (hle k) id), hs.2.2⟩⟩
      obtain ⟨hn, hi, hl, hk⟩ := hs
      have hltA := (Array.getElem?_eq_some_iff.1 hl).1
      refine ⟨⟨fun k hb hp => hp.elim (hn.1 k hb) (fun h => by rw [hBk] at hb; omega), fun k hp => hp.elim (fun h => by have := hn.2 k h; have := hc.size; omega) (fun h => h.2)⟩, hI.less _ _ _ _ (hI.step _ _ _ _ hi (hc.mono fun k _ h => .inl h)) ?_, (hc.block _ (Array.getElem?_eq_some_iff.1 hl).1 (fun h => hMl _ h (by rw [hBk]; exact .inr rfl))).trans hl, (hc.block _ (Array.getElem?_eq_some_iff.1 hk).1 (fun h => hMl _ h (by rw [hBk]; exact .inl rfl))).trans hk⟩
      rintro k ((h | h) | h)
      · exact .inl (.inl h)
      · exact .inr h
      · exact .inl (.inr h)
    · refine ⟨fun s Pr A B hs hc => ?_, fun s Pr Pr' A hs hle => ?_⟩
      · obtain ⟨hn, c, hi, hl, hk⟩ := hs
        have hltA := (Array.getElem?_eq_some_iff.1 hl).1
        refine ⟨⟨fun k hb hp => hp.elim (hn.1 k hb) (fun h => by rw [hBk] at hb; omega), fun k hp => hp.elim (fun h => by have := hn.2 k h; have := hc.size; omega) (fun h => h.2)⟩, c, (hIx c).less _ _ _ _ ((hIx c).step _ _ _ _ hi (hc.mono fun k _ h => .inl h)) ?_, (hc.block _ (Array.getElem?_eq_some_iff.1 hl).1 (fun h => hMl _ h (by rw [hBk]; exact .inr rfl))).trans hl, (hc.block _ (Array.getElem?_eq_some_iff.1 hk).1 (fun h => hMl _ h (by rw [hBk]; exact .inl rfl))).trans hk⟩
        rintro k ((h | h) | h)
        · exact .inl (.inl h)
        · exact .inr h
        · exact .inl (.inr h)
      · obtain ⟨hn, c, hi, hr⟩ := hs
        exact ⟨⟨fun k hb hp => hn.1 k hb (hle k hp), fun k hp => hn.2 k (hle k hp)⟩, c, (hIx c).less _ _ _ _ hi (fun k hk => hk.imp (hle k) id), hr⟩
    · -- one round
      rintro pre x Pr W ⟨hn, hi, hl, hk⟩ hPr hG
      have hlt : w.heap.size + 1 < W.heap.size := (Array.getElem?_eq_some_iff.1 hl).1
      have hy := run_yield (P := P) (args := encs x) hl (by rw [hrec]; exact hps x)
      rw [hrec] at hy
      refine ⟨fn, _, assign, body, hy, roundIn_of_wpIn hfn (hassign _ pre x _ W _ (by omega) (fun k hk => hk.elim (hn.2 k) (fun h => by rw [hBk] at h; omega)) hi ?_)⟩
      clear hy
      intro a' Wa hca hia hax
      have hbk0 : ¬ ¬ (Pr (w.heap.size + 1) ∨ Bk (w.heap.size + 1)) := fun h => h (.inr (by rw [hBk]; exact .inr rfl))
      have hbk1 : ¬ ¬ (Pr w.heap.size ∨ Bk w.heap.size) := fun h => h (.inr (by rw [hBk]; exact .inl rfl))
      have hla := (hca.block _ hlt hbk0).trans hl
      have hka := (hca.block _ (by omega) hbk1).trans hk
      have hlta : w.heap.size + 1 < Wa.heap.size := (Array.getElem?_eq_some_iff.1 hla).1
      refine ⟨_, run_beginRound hla (by rw [hrec]), ?_⟩
      obtain ⟨W2, hW2⟩ : ∃ W2, Wa.putObj (w.heap.size + 1) (.loop { rec .ready none with state := .busy }) = W2 := ⟨_, rfl⟩
      rw [hW2]
      have hl2 : W2.heap[w.heap.size + 1]? = some (.loop { rec .ready none with state := .busy }) := by rw [← hW2]; exact World.putObj_heap_same hlta
      have hk2 : W2.heap[w.heap.size]? = some (.deferred (some [])) := by rw [← hW2]; exact (World.putObj_heap_other (by omega)).trans hka
      have hc2 : Chg (fun k => w.heap.size = k ∨ w.heap.size + 1 = k) Wa W2 := by rw [← hW2]; exact (Chg.refl _ Wa).putObj (fun _ => .inr rfl) _
      have hs2 : W2.heap.size = Wa.heap.size := by rw [← hW2]; simp
      have hbusy : I pre (fun k => Pr k ∨ Bk k) W2 := hI.less _ _ _ _ (hI.step _ _ _ _ hia (hc2.mono fun k _ h => .inr h)) (fun k hk => .inl hk)
      have haxb := (hAx x a').less () _ (fun k => Pr k ∨ Bk k) _ ((hAx x a').step () _ _ _ hax hc2) (fun k hk => .inl hk)
      refine wpIn_mono (hbody _ pre x a' _ _ (by have := hca.size; omega) (fun k hk => by have := hca.size; exact hk.elim (fun h => by have := hn.2 k h; omega) (fun h => by rw [hBk] at h; omega)) (fun k hk => .inl (hPr k hk)) (.inr (by rw [hBk]; exact .inr rfl)) ⟨_, hl2⟩ hbusy haxb hG) ?_
      have fin : ∀ (jump : Option Code) (W3 : World), Chg (fun k => ¬ (Pr k ∨ Bk k)) W2 W3 →
          (Instr.endRound (w.heap.size + 1) jump).run P W3 = .ok (.bool jump.isNone) (W3.putObj (w.heap.size + 1) (.loop (rec (if jump.isNone then .ready else .done) jump))) ∧
          (W3.putObj (w.heap.size + 1) (.loop (rec (if jump.isNone then .ready else .done) jump))).heap[w.heap.size + 1]? = some (.loop (rec (if jump.isNone then .ready else .done) jump)) ∧
          (W3.putObj (w.heap.size + 1) (.loop (rec (if jump.isNone then .ready else .done) jump))).heap[w.heap.size]? = some (.deferred (some [])) ∧
          Chg (fun k => ¬ Pr k) W (W3.putObj (w.heap.size + 1) (.loop (rec (if jump.isNone then .ready else .done) jump))) ∧
          (∀ k, Pr k → k < (W3.putObj (w.heap.size + 1) (.loop (rec (if jump.isNone then .ready else .done) jump))).heap.size) ∧
          Chg (fun k => M k ∨ w.heap.size = k ∨ w.heap.size + 1 = k) W3 (W3.putObj (w.heap.size + 1) (.loop (rec (if jump.isNone then .ready else .done) jump))) := fun jump W3 hk3 => by
        have hl3 := (hk3.block _ (by omega) hbk0).trans hl2
        have hk3' := (hk3.block _ (by omega) hbk1).trans hk2
        have := run_endRound (P := P) jump hl3
        rw [hrec] at this ⊢
        refine ⟨this, World.putObj_heap_same (Array.getElem?_eq_some_iff.1 hl3).1, (World.putObj_heap_other (by omega)).trans hk3', ?_, fun k hp => by have := hn.2 k hp; have := hk3.size; have := hca.size; simp; omega, (Chg.refl _ _).putObj (fun _ => .inr (.inr rfl)) _⟩
        have hnl : ¬ Pr (w.heap.size + 1) := hn.1 _ (by rw [hBk]; exact .inr rfl)
        refine Chg.putObj ?_ (fun _ => hnl) _
        refine ((hca.mono fun k _ h hp => h (.inl hp)).trans ?_).trans (hk3.mono fun k _ h hp => h (.inl hp))
        rw [← hW2]; exact (Chg.refl _ Wa).putObj (fun _ => hnl) _
      rintro e a3 W3 hp
      cases e with
      | normal =>
        obtain ⟨hk3, hi3⟩ := hp
        obtain ⟨hr, hl4, hk4, hc4, hp4, hc5⟩ := fin none W3 hk3
        exact ⟨_, _, hr, .inl ⟨rfl, ⟨⟨hn.1, hp4⟩, hI.less _ _ _ _ (hI.step _ _ _ _ hi3 hc5) (fun k hk => .inl hk), hl4, hk4⟩, hc4⟩⟩
      | ret =>
        obtain ⟨hk3, hi3⟩ := hp
        obtain ⟨hr, hl4, hk4, hc4, hp4, hc5⟩ := fin (some .ret) W3 hk3
        exact ⟨_, _, hr, .inr ⟨rfl, ⟨⟨hn.1, hp4⟩, .ret, (hIx _).less _ _ _ _ ((hIx _).step _ _ _ _ hi3 hc5) (fun k hk => .inl hk), hl4, hk4⟩, hc4⟩⟩
      | exit id =>
        obtain ⟨hk3, hi3⟩ := hp
        obtain ⟨hr, hl4, hk4, hc4, hp4, hc5⟩ := fin (some (.exit id)) W3 hk3
        exact ⟨_, _, hr, .inr ⟨rfl, ⟨⟨hn.1, hp4⟩, .exit id, (hIx _).less _ _ _ _ ((hIx _).step _ _ _ _ hi3 hc5) (fun k hk => .inl hk), hl4, hk4⟩, hc4⟩⟩
      | goto t =>
        obtain ⟨hk3, hi3⟩ := hp
        obtain ⟨hr, hl4, hk4, hc4, hp4, hc5⟩ := fin (some (.goto t)) W3 hk3
        exact ⟨_, _, hr, .inr ⟨rfl, ⟨⟨hn.1, hp4⟩, .goto t, (hIx _).less _ _ _ _ ((hIx _).step _ _ _ _ hi3 hc5) (fun k hk => .inl hk), hl4, hk4⟩, hc4⟩⟩
      | panic ch => exact hp.elim
      | outgrown => exact hp.elim
    · -- behind the iterator
      rintro e W2 ⟨⟨v, rfl⟩, (⟨xs, hS, hn, hi, hl, hk⟩ | ⟨pre, hSp, hn, c, hi, hl, hk⟩)⟩
      · exact ⟨none, _, by have := run_endLoop (P := P) hl (by rw [hrec]; simp); rw [hrec] at this; exact this, hdone xs W2 _ hS ((Chg.refl _ _).putObj (fun _ => .inr rfl) _)
          (hI.less _ _ _ _ (hI.step _ _ _ _ hi ((Chg.refl _ _).putObj (fun _ => .inr (.inr rfl)) _)) (fun k hk => .inl (.inl hk))) ((World.putObj_heap_other (by omega)).trans hk)⟩
      · exact ⟨some c, _, by have := run_endLoop (P := P) hl (by rw [hrec]; simp); rw [hrec] at this; exact this, hstop c pre W2 _ hSp ((Chg.refl _ _).putObj (fun _ => .inr rfl) _)
          ((hIx c).less _ _ _ _ ((hIx c).step _ _ _ _ hi ((Chg.refl _ _).putObj (fun _ => .inr (.inr rfl)) _)) (fun k hk => .inl (.inl hk))) ((World.putObj_heap_other (by omega)).trans hk)⟩

/-- The law where the assign code lays nothing: the activation behind it is known. -/
theorem wpIn_range1 {F : Fence} {n : Nat} {P : Program} {w : World} {α : Type} {g : Operand} {ps : Array Tmp} {assign body : Code} {Q : Exit → Act → World → Prop} {a : Act}
    (hro : F.round = none) (h1 : 1 ≤ n) {gf : Nat} {lb : Array Value} (hg : a.eval g = .func (.func gf) #[] lb) (hFg : F.fn gf) (eg : ∀ args w, (callFunc gf args).run P w = .ok (.enter gf args) w)
    {encs : α → Array Value} {M Pr0 : Nat → Prop} {G : List α → Prop} {S Sp : List α → World → Prop} {w0 : World} (hseq : SeqC F (n - 1) P gf lb encs M Pr0 G S Sp w0)
    (hb0 : Chg (fun _ => False) w0 w) (hM : ∀ k, M k → k < w.heap.size) (hPr0 : ∀ k, Pr0 k → k < w.heap.size) (hps : ∀ x, (encs x).size = ps.size)
    (I : List α → (Nat → Prop) → World → Prop) (Ix : Code → List α → (Nat → Prop) → World → Prop) (hI : Bears (fun k => M k ∨ w.heap.size = k ∨ w.heap.size + 1 = k) I) (hIx : ∀ c, Bears (fun k => M k ∨ w.heap.size = k ∨ w.heap.size + 1 = k) (Ix c))
    (h0 : I [] (fun k => Pr0 k) w) (a₁ : α → Act)
    (hassign : ∀ (l : Nat) (x : α) (W : World) (K : Act → World → Prop), K (a₁ x) W →
      assign.wpIn (F.inRound l) (n - 1 - 1) P (Exit.then K (fun _ _ _ => False)) { tmps := (ps.zip (encs x)).foldl (fun t (p, v) => t.setIfInBounds p v) a.tmps, defers := [] } W)
    (hbody : ∀ (l : Nat) (pre : List α) (x : α) (Pr : Nat → Prop) (W : World), w.heap.size + 2 ≤ W.heap.size → (∀ k, Pr k → k < W.heap.size) → (∀ k, Pr0 k → Pr k) → Pr l → (∃ r, W.heap[l]? = some (.loop r)) → I pre Pr W → G (pre ++ [x]) →
      body.wpIn (F.inRound l) (n - 1 - 1) P (rPost I Ix (pre ++ [x]) Pr W) (a₁ x) W)
    (hdone : ∀ (xs : List α) (W0 W : World), S xs W0 → Chg (fun k => w.heap.size = k ∨ w.heap.size + 1 = k) W0 W → I xs Pr0 W → W.heap[w.heap.size]? = some (.deferred (some [])) → Q .normal { a with defers := { target := .collected w.heap.size, args := #[] } :: a.defers } W)
    (hstop : ∀ (c : Code) (pre : List α) (W0 W : World), Sp pre W0 → Chg (fun k => w.heap.size = k ∨ w.heap.size + 1 = k) W0 W → Ix c pre Pr0 W → W.heap[w.heap.size]? = some (.deferred (some [])) → c.wpIn F n P Q { a with defers := { target := .collected w.heap.size, args := #[] } :: a.defers } W) :
    (Code.rangeFunc g ps assign body).wpIn F n P Q a w :=
  wpIn_range hro h1 hg hFg eg hseq hb0 hM hPr0 hps I Ix hI hIx h0 (fun x a' _ _ => a' = a₁ x) (fun _ _ => ⟨fun _ _ _ _ h _ => h, fun _ _ _ _ h _ => h⟩)
    (fun l pre x Pr W K _ _ hi hK => hassign l x W K (hK _ _ (Chg.refl _ _) hi rfl)) (fun l pre x a' Pr W h1 h2 h3 h4 h5 hi e hG => by subst e; exact hbody l pre x Pr W h1 h2 h3 h4 h5 hi hG) hdone hstop
end Go.Proofs.Ythlidbddeclnaaa
