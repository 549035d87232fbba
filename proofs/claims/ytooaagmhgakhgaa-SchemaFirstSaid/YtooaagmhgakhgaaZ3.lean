/- Texts put together: AmReads, Types, Val, Val03a, Val03b, Val03c, Val03d, Val03e, UtfLaw, UtfWalk, UtfGet, UtfScan, UtfCodes, UtfCodes2, UtfText0, UtfRef, UtfRefL, UtfOnly0, RefBytes, UtfRefGet, AmUtf0, Val03f, Val03g, Val03h, Val03i. No statement is proved here. -/
import Derived.OpenShut
import Derived.ShutString
import Derived.ChangeOld
import Derived.Below
import Derived.WalkKit
import Derived.ProofKit
import Derived.Test.YtooaagmhgakhgaaProg
import Derived.LoopN
import Derived.Laws.IdiomStrings
import Derived.RangeFuncCalls
import Derived.Shelf.Abstract
import Derived.TacticsInMore
import Derived.LoopNIn
import Derived.LoopIn
import Derived.BigQuiet
import Derived.BigRegionIn
import Derived.Lib.SmallJoins
import Derived.Deep.QuietTactic
import Derived.Deep.RegionWith
import Derived.Test.YtooaagmhgakhgaaZ2
set_option linter.all false
section
namespace Go.Proofs.Ytooaagmhgakhgaa
open Go.RowKit Go.ChangeShapes Go.WideShapes

def ReadsN {α : Type} (n : Nat) (P : Program) (t : TypeId) (e : α → List D) (ok : α → Prop) : Prop :=
  ∀ (H : Type) (enc : TypeId × Value → H) (W : World) (fuel : Nat) (cs : List Value) (x : DataW H × List MemPlace), fuel ≤ n →
    DataW.trod enc P W 0 (fun _ => true) true fuel t cs = some x → ∃ a, RepL (OwnS []) W cs (e a) ∧ ok a
def Reads {α : Type} (P : Program) (t : TypeId) (e : α → List D) (ok : α → Prop) : Prop := ∀ n, ReadsN n P t e ok
section
variable {P : Program} {t : TypeId} {n : Nat} {W : World}
theorem reads_int {k : IntKind} (ht : P.underlying t = some (.int k)) : Reads P t (fun a : Int => [.s (.int k a)]) fun a => (Lit.int k a).wf = true := by
  intro n H enc W fuel cs x _ h
  obtain ⟨a, rfl, -, hw⟩ := DataW.trod_int ht h
  exact ⟨a, .cons (.s _ rfl) .nil, hw⟩
theorem reads_bool (ht : P.underlying t = some .bool) : Reads P t (fun a : Bool => [.b a]) fun _ => True := by
  intro n H enc W fuel cs x _ h
  obtain ⟨a, rfl, -⟩ := DataW.trod_bool ht h
  exact ⟨a, .cons (.s _ rfl) .nil, trivial⟩
theorem reads_string (ht : P.underlying t = some .string) : Reads P t (fun a : ByteArray => [.str a]) fun a => a.size ≤ maxLen := by
  intro n H enc W fuel cs x _ h
  obtain ⟨a, rfl, -, hs⟩ := DataW.trod_string ht h
  exact ⟨a, .cons (.s _ rfl) .nil, hs⟩
theorem chosen {α : Type} {k : Nat} {p : Nat → α → Prop} (h : ∀ i, i < k → ∃ a, p i a) : ∃ l : List α, l.length = k ∧ ∀ i (hi : i < l.length), p i l[i] := by
  induction k with
  | zero => exact ⟨[], rfl, fun i hi => absurd hi (Nat.not_lt_zero _)⟩
  | succ k ih =>
    obtain ⟨l, h1, h2⟩ := ih fun i hi => h i (by omega)
    obtain ⟨a, ha⟩ := h k (by omega)
    refine ⟨l ++ [a], by simp [h1], fun i hi => ?_⟩
    rw [List.getElem_append]
    split
    · exact h2 i _
    · have : i = k := by simp at hi; omega
      subst this; simpa using ha
theorem flat_get {β : Type} {ls : List (List β)} {sz : Nat} (h : ∀ l ∈ ls, l.length = sz) {i j : Nat} (hi : i < ls.length) (hj : j < sz) :
    ls.flatten[i * sz + j]? = (ls[i])[j]? := by
  induction ls generalizing i with
  | nil => simp at hi
  | cons l ls ih =>
    have hl : l.length = sz := h l (by simp)
    cases i with
    | zero => rw [List.flatten_cons, List.getElem?_append_left (by omega)]; simp
    | succ i =>
      rw [List.flatten_cons, List.getElem?_append_right (by rw [hl, Nat.succ_mul]; omega), hl, show (i + 1) * sz + j - sz = i * sz + j by rw [Nat.succ_mul]; omega, ih (fun l hl => h l (by simp [hl])) (by simpa using hi)]
      simp
theorem flat_lenV {β : Type} {ls : List (List β)} {sz : Nat} (h : ∀ l ∈ ls, l.length = sz) : ls.flatten.length = ls.length * sz := by
  induction ls with
  | nil => simp
  | cons l ls ih => rw [List.flatten_cons, List.length_append, ih (fun l hl => h l (by simp [hl])), h l (by simp), List.length_cons, Nat.succ_mul]; omega
theorem add_spot {bk off k : Nat} : (Addr.mk bk off none).add k = ⟨bk, off + k, none⟩ := by
  unfold Addr.add
  by_cases hk : k = 0
  · subst hk; simp
  · simp [hk]
theorem repL_flat {O : Nat → Nat → Prop} : ∀ {us : List (List Value)} {ds : List (List D)}, us.length = ds.length → (∀ i (h : i < us.length) (h' : i < ds.length), RepL O W us[i] ds[i]) → RepL O W us.flatten ds.flatten
  | [], [], _, _ => .nil
  | [], _ :: _, h, _ => by simp at h
  | _ :: _, [], h, _ => by simp at h
  | u :: us, d :: ds, hl, h => by
    rw [List.flatten_cons, List.flatten_cons]
    exact (h 0 (by simp) (by simp)).append (repL_flat (by simpa using hl) fun i h1 h2 => h (i + 1) (by simpa using h1) (by simpa using h2))
theorem reads_slice {α : Type} {e : TypeId} {sz : Nat} {f : α → List D} {ok : α → Prop} (ht : P.underlying t = some (.slice e)) (hsz : P.cellsOf e = sz) (hp : 0 < sz) (h : ReadsN n P e f ok) (hlen : ∀ a, (f a).length = sz) (hleaf : ∀ a, ∀ d ∈ f a, d.leaf = true) :
    ReadsN (n + 1) P t (fun l : List α => [.sl .shared (l.map f)]) fun l => (∀ a ∈ l, ok a) ∧ l.length ≤ maxLen := by
  intro H enc W fuel cs x hn hx
  rcases DataW.trod_slice ht hx with ⟨rfl, -⟩ | ⟨a, len, cap, elems, rest, m, rfl, rfl, -, -, hlc, hcm, hel, hget, -, -⟩
  · refine ⟨[], .cons ?_ .nil, ⟨by simp, by simp⟩⟩
    exact .sl .shared [] none 0 [] 1 (Nat.le_refl _) (by simp) (fun _ => rfl) (Nat.lt_succ_self _) (by simp) rfl (by simp) (fun i hi => absurd hi (by simp)) (fun i hi => absurd hi (by simp)) trivial
  · have hone : ∀ i, i < len → ∃ p : α × List Value, W.cells? 0 (a.add (i * sz)) sz = some p.2 ∧ RepL (OwnS []) W p.2 (f p.1) ∧ ok p.1 := by
      intro i hi
      have h1 := hget i hi
      rw [hsz, List.getElem?_eq_getElem (by omega)] at h1
      obtain ⟨cs', h2, h3⟩ := Option.bind_eq_some_iff.1 h1
      obtain ⟨b, h4, h5⟩ := h H enc W m cs' _ (by omega) h3
      exact ⟨(b, cs'), h2, h4, h5⟩
    obtain ⟨l, hl, hl2⟩ := chosen hone
    refine ⟨l.map (·.1), .cons ?_ .nil, fun b hb => ?_, by simp; omega⟩
    · have hus : ∀ u ∈ l.map (·.2), u.length = sz := by
        intro u hu
        obtain ⟨p, hp', rfl⟩ := List.mem_map.1 hu
        obtain ⟨i, hi, rfl⟩ := List.getElem_of_mem hp'
        exact (World.cells?_some (hl2 i hi).1).2.1
      have hrl : RepL (OwnS []) W (l.map (·.2)).flatten ((l.map (·.1)).map f).flatten := repL_flat (by simp) fun i h1 h2 => by
        simp only [List.getElem_map]
        exact (hl2 i (by simpa using h1)).2.1
      have key := Rep.sl (O := OwnS []) (w := W) .shared ((l.map (·.1)).map f) (some a) cap (l.map (·.2)).flatten sz (by simp; omega) hcm (fun h => by cases h) hp
        (fun e he => by obtain ⟨b, -, rfl⟩ := List.mem_map.1 he; exact hlen b) hrl.1
        (fun d hd => by obtain ⟨q, hq, hd⟩ := List.mem_flatten.1 hd; obtain ⟨b, -, rfl⟩ := List.mem_map.1 hq; exact hleaf b d hd)
        (fun i hi => by
          have hfl : (l.map (·.2)).flatten.length = l.length * sz := by rw [flat_lenV hus]; simp
          have hi' : i / sz < l.length := by rw [hfl] at hi; exact Nat.div_lt_of_lt_mul (by rw [Nat.mul_comm]; exact hi)
          obtain ⟨-, c2, c3⟩ := World.cells?_some (hl2 _ hi').1
          have hj : i % sz < sz := Nat.mod_lt _ hp
          have c4 := c3 _ hj
          have hidx : (l.map (·.2)).flatten[i / sz * sz + i % sz]? = (l[i / sz].2)[i % sz]? := by
            rw [flat_get hus (by simpa using hi') hj]; simp
          have hi2 : i / sz * sz + i % sz = i := Nat.div_add_mod' i sz
          rw [hi2] at hidx
          rw [List.getElem?_eq_getElem hi] at hidx
          rw [← hidx] at c4
          obtain ⟨bk, off, sp⟩ := a
          have hsp : sp = none := by
            cases sp with
            | none => rfl
            | some q =>
              have h0 : 0 < l.length := Nat.lt_of_le_of_lt (Nat.zero_le _) hi'
              have hz := (World.cells?_some (hl2 0 h0).1).2.2 0 hp
              rw [List.getElem?_eq_getElem (by rw [(World.cells?_some (hl2 0 h0).1).2.1]; exact hp)] at hz
              simp only [Addr.add, World.cell?, Nat.zero_mul, if_true, Option.isSome_some] at hz
              split at hz <;> cases hz
          subst hsp
          have c5 : W.cell? ⟨bk, off + i, none⟩ = some (l.map (·.2)).flatten[i] := by
            rw [← c4, add_spot, add_spot, show off + i / sz * sz + i % sz = off + i by omega]
          refine ⟨bk, off, rfl, ?_, OwnS.nil bk _, c5⟩
          unfold World.cell? at c5
          dsimp only at c5
          by_cases hb : bk < W.heap.size
          · exact hb
          · rw [Array.getElem?_eq_none (by omega)] at c5; cases c5)
        (fun i h1 h2 => hrl.2 i h1 h2) trivial
      rw [List.length_map, List.length_map, hl] at key
      exact key
    · obtain ⟨p, hp', rfl⟩ := List.mem_map.1 hb
      obtain ⟨i, hi, rfl⟩ := List.getElem_of_mem hp'
      exact (hl2 i hi).2.2
theorem reads_slice' {α : Type} {e : TypeId} {sz : Nat} {f : α → List D} {ok : α → Prop} (ht : P.underlying t = some (.slice e)) (hsz : P.cellsOf e = sz) (hp : 0 < sz) (h : Reads P e f ok) (hlen : ∀ a, (f a).length = sz) (hleaf : ∀ a, ∀ d ∈ f a, d.leaf = true) :
    Reads P t (fun l : List α => [.sl .shared (l.map f)]) fun l => (∀ a ∈ l, ok a) ∧ l.length ≤ maxLen :=
  fun m H enc W fuel cs x hn hx => reads_slice ht hsz hp (h m) hlen hleaf H enc W fuel cs x (by omega) hx
theorem RepL.glue {O : Nat → Nat → Prop} {cs : List Value} {o k : Nat} {L R : List D} (h1 : RepL O W ((cs.drop o).take k) L) (h2 : RepL O W (cs.drop (o + k)) R) : RepL O W (cs.drop o) (L ++ R) := by
  have := h1.append h2
  rwa [show cs.drop (o + k) = (cs.drop o).drop k by rw [List.drop_drop], List.take_append_drop] at this
theorem RepL.glue_end {O : Nat → Nat → Prop} {cs : List Value} {o : Nat} (h : cs.length = o) : RepL O W (cs.drop o) [] := by
  rw [List.drop_eq_nil_of_le (by omega)]; exact .nil
theorem struct_field {fs : Array Field} {H : Type} {enc : TypeId × Value → H} {m : Nat} {cs : List Value} {xs : List (DataW H × List MemPlace)} {α : Type} {f : α → List D} {ok : α → Prop} {i : Nat} {g : Field} {k : Nat}
    (hx : ∀ (i : Nat) (f : Field), fs[i]? = some f → DataW.trod enc P W 0 (fun _ => true) true m f.type ((cs.drop f.offset).take (P.cellsOf f.type)) = xs[i]?) (hl : xs.length = fs.size) (hg : fs[i]? = some g) (hk : P.cellsOf g.type = k) (h : ReadsN n P g.type f ok) (hm : m ≤ n) :
    ∃ a, RepL (OwnS []) W ((cs.drop g.offset).take k) (f a) ∧ ok a := by
  have h1 := hx i g hg
  have hi : i < xs.length := by rw [hl]; exact (Array.getElem?_eq_some_iff.1 hg).1
  rw [List.getElem?_eq_getElem hi] at h1
  obtain ⟨a, h2, h3⟩ := h _ _ _ _ _ _ hm h1
  rw [hk] at h2
  exact ⟨a, h2, h3⟩

section
variable {H : Type} {enc : TypeId × Value → H} {r : Reach} {b0 : Nat} {v : Value} {d : DataW H} {ps : List MemPlace} {α : Type} {f : α → List D} {ok : α → Prop}
theorem arg_u8 (ht : P.underlying t = some (.int .u8)) (hv : Value.okWide P W r b0 t v) (h : DataW.Trod enc P W 0 (fun _ => true) true t v d ps) : ∃ a : UInt8, Rep (OwnS []) W v (.y a) ∧ True := by
  obtain ⟨a, rfl, -, -, hw⟩ := open_int ht hv h
  have hw' : 0 ≤ a ∧ a ≤ 255 := by simpa [Lit.wf, IntKind.min, IntKind.max, IntKind.bits, IntKind.signed] using hw
  obtain ⟨b, rfl⟩ : ∃ b : UInt8, (b.toNat : Int) = a := ⟨UInt8.ofNat a.toNat, by simp; omega⟩
  exact ⟨b, .s _ rfl, trivial⟩
theorem arg_struct {fs : Array Field} (ht : P.underlying t = some (.struct fs)) (hv : Value.okWide P W r b0 t v) (h : DataW.Trod enc P W 0 (fun _ => true) true t v d ps) (hr : Reads P t f ok) : ∃ a, Rep (OwnS []) W v (.agg (f a)) ∧ ok a := by
  obtain ⟨cs, rfl, -⟩ := okWide_struct ht hv
  obtain ⟨fuel, hf⟩ := h
  obtain ⟨b, h1, h2⟩ := hr fuel _ _ _ _ _ _ (Nat.le_refl _) hf
  have h3 : RepL (OwnS []) W cs.toList (f b) := h1
  exact ⟨b, by have := Rep.agg (O := OwnS []) (w := W) cs.toList (f b) h3.1 h3.2; simpa using this, h2⟩
theorem trodAll_stays (hl : laidOutB P = true) {W' : World} (hb : Below W.heap.size W W') : ∀ {ts : List TypeId} {vs : List Value} {ds : List (DataW H)} {p : List MemPlace}, (∀ t ∈ ts, P.readableRec t = true ∧ t < P.types.size) → DataW.TrodAll enc P W 0 (fun _ => true) true ts vs ds p →
    ∃ q, DataW.TrodAll enc P W' 0 (fun b => decide (b < W.heap.size)) true ts vs ds q
  | [], [], [], _, _, _ => ⟨[], rfl⟩
  | t :: ts, v :: vs, d :: ds, p, ht, h => by
    obtain ⟨p1, p2, h1, h2, rfl⟩ := h
    obtain ⟨q, hq⟩ := trodAll_stays hl hb (fun t h => ht t (by simp [h])) h2
    have hlt : ∀ x ∈ p1, x.block < W.heap.size := by obtain ⟨m, hm⟩ := h1; exact DataW.trod_lt m _ _ _ hm
    exact ⟨_, _, q, Below.trod hl (ht t (by simp)).1 (ht t (by simp)).2 h1 hb hlt, hq, rfl⟩
  | [], [], _ :: _, _, _, h => by cases h
  | [], _ :: _, _, _, _, h => by cases h
  | _ :: _, [], _, _, _, h => by cases h
  | _ :: _, _ :: _, [], _, _, h => by cases h
end
end
end Go.Proofs.Ytooaagmhgakhgaa
end

section
namespace Go.Proofs.Ytooaagmhgakhgaa
open Go.RowKit
set_option maxRecDepth 100000
theorem ti2 : tinfo Try.prog 2 = some ⟨false, 1, [Go.Value.int Go.IntKind.i64 0], .int Go.IntKind.i64⟩ := by kernel_rfl
theorem ti3 : tinfo Try.prog 3 = some ⟨false, 1, [Go.Value.int Go.IntKind.i64 0], .int Go.IntKind.i64⟩ := by kernel_rfl
theorem ti4 : tinfo Try.prog 4 = some ⟨false, 1, [Go.Value.bool false], .bool⟩ := by kernel_rfl
theorem ti5 : tinfo Try.prog 5 = some ⟨false, 1, [Go.Value.int Go.IntKind.u8 0], .int Go.IntKind.u8⟩ := by kernel_rfl
theorem ti9 : tinfo Try.prog 9 = some ⟨false, 1, [Go.Value.string ⟨#[]⟩], .string⟩ := by kernel_rfl
theorem ti12 : tinfo Try.prog 12 = some ⟨false, 1, [Go.Value.int Go.IntKind.u64 0], .int Go.IntKind.u64⟩ := by kernel_rfl
theorem ti13 : tinfo Try.prog 13 = some ⟨true, 2, [Go.Value.string ⟨#[]⟩, Go.Value.int Go.IntKind.u64 0], .struct [(0, 1, false), (1, 1, false)]⟩ := by kernel_rfl
theorem ti21 : tinfo Try.prog 21 = some ⟨false, 1, [Go.Value.int Go.IntKind.i32 0], .int Go.IntKind.i32⟩ := by kernel_rfl
theorem ti22 : tinfo Try.prog 22 = some ⟨false, 1, [Go.Value.slice none 0 0], .slice 24 4 56 [Go.Value.int Go.IntKind.i64 0, Go.Value.int Go.IntKind.i64 0, Go.Value.string ⟨#[]⟩, Go.Value.slice none 0 0]⟩ := by kernel_rfl
theorem ti23 : tinfo Try.prog 23 = some ⟨true, 4, [Go.Value.int Go.IntKind.i64 0, Go.Value.int Go.IntKind.i64 0, Go.Value.string ⟨#[]⟩, Go.Value.slice none 0 0], .struct [(0, 1, false), (1, 1, false), (2, 1, false), (3, 1, false)]⟩ := by kernel_rfl
theorem ti24 : tinfo Try.prog 24 = some ⟨true, 4, [Go.Value.int Go.IntKind.i64 0, Go.Value.int Go.IntKind.i64 0, Go.Value.string ⟨#[]⟩, Go.Value.slice none 0 0], .struct [(0, 1, false), (1, 1, false), (2, 1, false), (3, 1, false)]⟩ := by kernel_rfl
theorem ti25 : tinfo Try.prog 25 = some ⟨true, 7, [Go.Value.string ⟨#[]⟩, Go.Value.int Go.IntKind.i64 0, Go.Value.bool false, Go.Value.int Go.IntKind.i64 0, Go.Value.int Go.IntKind.i64 0, Go.Value.string ⟨#[]⟩, Go.Value.slice none 0 0], .struct [(0, 1, false), (1, 1, false), (2, 1, false), (3, 4, true)]⟩ := by kernel_rfl
theorem ti26 : tinfo Try.prog 26 = some ⟨true, 7, [Go.Value.string ⟨#[]⟩, Go.Value.int Go.IntKind.i64 0, Go.Value.bool false, Go.Value.int Go.IntKind.i64 0, Go.Value.int Go.IntKind.i64 0, Go.Value.string ⟨#[]⟩, Go.Value.slice none 0 0], .struct [(0, 1, false), (1, 1, false), (2, 1, false), (3, 4, true)]⟩ := by kernel_rfl
theorem ti30 : tinfo Try.prog 30 = some ⟨false, 1, [Go.Value.slice none 0 0], .slice 26 7 88 [Go.Value.string ⟨#[]⟩, Go.Value.int Go.IntKind.i64 0, Go.Value.bool false, Go.Value.int Go.IntKind.i64 0, Go.Value.int Go.IntKind.i64 0, Go.Value.string ⟨#[]⟩, Go.Value.slice none 0 0]⟩ := by kernel_rfl
theorem ti31 : tinfo Try.prog 31 = some ⟨false, 1, [Go.Value.slice none 0 0], .slice 74 10 128 [Go.Value.int Go.IntKind.i64 0, Go.Value.int Go.IntKind.i64 0, Go.Value.string ⟨#[]⟩, Go.Value.int Go.IntKind.i64 0, Go.Value.bool false, Go.Value.int Go.IntKind.i64 0, Go.Value.int Go.IntKind.i64 0, Go.Value.string ⟨#[]⟩, Go.Value.slice none 0 0, Go.Value.slice none 0 0]⟩ := by kernel_rfl
theorem ti32 : tinfo Try.prog 32 = some ⟨true, 3, [Go.Value.string ⟨#[]⟩, Go.Value.slice none 0 0, Go.Value.slice none 0 0], .struct [(0, 1, false), (1, 1, false), (2, 1, false)]⟩ := by kernel_rfl
theorem ti33 : tinfo Try.prog 33 = some ⟨true, 3, [Go.Value.string ⟨#[]⟩, Go.Value.slice none 0 0, Go.Value.slice none 0 0], .struct [(0, 1, false), (1, 1, false), (2, 1, false)]⟩ := by kernel_rfl
theorem ti36 : tinfo Try.prog 36 = some ⟨false, 1, [Go.Value.slice none 0 0], .slice 3 1 8 [Go.Value.int Go.IntKind.i64 0]⟩ := by kernel_rfl
theorem ti37 : tinfo Try.prog 37 = some ⟨true, 2, [Go.Value.slice none 0 0, Go.Value.slice none 0 0], .struct [(0, 1, false), (1, 1, false)]⟩ := by kernel_rfl
theorem ti38 : tinfo Try.prog 38 = some ⟨true, 2, [Go.Value.slice none 0 0, Go.Value.slice none 0 0], .struct [(0, 1, false), (1, 1, false)]⟩ := by kernel_rfl
theorem ti44 : tinfo Try.prog 44 = some ⟨true, 2, [Go.Value.int Go.IntKind.i64 0, Go.Value.slice none 0 0], .struct [(0, 1, false), (1, 1, false)]⟩ := by kernel_rfl
theorem ti45 : tinfo Try.prog 45 = some ⟨true, 2, [Go.Value.int Go.IntKind.i64 0, Go.Value.slice none 0 0], .struct [(0, 1, false), (1, 1, false)]⟩ := by kernel_rfl
theorem ti47 : tinfo Try.prog 47 = some ⟨false, 1, [Go.Value.int Go.IntKind.i64 0], .int Go.IntKind.i64⟩ := by kernel_rfl
theorem ti52 : tinfo Try.prog 52 = some ⟨true, 2, [Go.Value.slice none 0 0, Go.Value.slice none 0 0], .struct [(0, 1, false), (1, 1, false)]⟩ := by kernel_rfl
theorem ti60 : tinfo Try.prog 60 = some ⟨false, 1, [Go.Value.slice none 0 0], .slice 9 1 16 [Go.Value.string ⟨#[]⟩]⟩ := by kernel_rfl
theorem ti73 : tinfo Try.prog 73 = some ⟨true, 10, [Go.Value.int Go.IntKind.i64 0, Go.Value.int Go.IntKind.i64 0, Go.Value.string ⟨#[]⟩, Go.Value.int Go.IntKind.i64 0, Go.Value.bool false, Go.Value.int Go.IntKind.i64 0, Go.Value.int Go.IntKind.i64 0, Go.Value.string ⟨#[]⟩, Go.Value.slice none 0 0, Go.Value.slice none 0 0], .struct [(0, 1, false), (1, 1, false), (2, 7, true), (9, 1, false)]⟩ := by kernel_rfl
theorem ti74 : tinfo Try.prog 74 = some ⟨true, 10, [Go.Value.int Go.IntKind.i64 0, Go.Value.int Go.IntKind.i64 0, Go.Value.string ⟨#[]⟩, Go.Value.int Go.IntKind.i64 0, Go.Value.bool false, Go.Value.int Go.IntKind.i64 0, Go.Value.int Go.IntKind.i64 0, Go.Value.string ⟨#[]⟩, Go.Value.slice none 0 0, Go.Value.slice none 0 0], .struct [(0, 1, false), (1, 1, false), (2, 7, true), (9, 1, false)]⟩ := by kernel_rfl
theorem ti80 : tinfo Try.prog 80 = some ⟨false, 1, [Go.Value.slice none 0 0], .slice 52 2 48 [Go.Value.slice none 0 0, Go.Value.slice none 0 0]⟩ := by kernel_rfl
theorem ti97 : tinfo Try.prog 97 = some ⟨true, 6, [Go.Value.nilFunc, Go.Value.nilFunc, Go.Value.nilFunc, Go.Value.nilFunc, Go.Value.nilFunc, Go.Value.nilFunc], .array 6 1 false⟩ := by kernel_rfl
theorem ti99 : tinfo Try.prog 99 = some ⟨false, 1, [Go.Value.pointer none], .pointer⟩ := by kernel_rfl
theorem ti120 : tinfo Try.prog 120 = some ⟨false, 1, [Go.Value.pointer none], .pointer⟩ := by kernel_rfl
theorem ti127 : tinfo Try.prog 127 = some ⟨false, 1, [Go.Value.slice none 0 0], .slice 5 1 1 [Go.Value.int Go.IntKind.u8 0]⟩ := by kernel_rfl
theorem ti141 : tinfo Try.prog 141 = some ⟨false, 1, [Go.Value.int Go.IntKind.u64 0], .int Go.IntKind.u64⟩ := by kernel_rfl
theorem ti150 : tinfo Try.prog 150 = some ⟨false, 1, [Go.Value.int Go.IntKind.u32 0], .int Go.IntKind.u32⟩ := by kernel_rfl
theorem ti154 : tinfo Try.prog 154 = some ⟨false, 1, [Go.Value.pointer none], .pointer⟩ := by kernel_rfl
attribute [push_cast] ti2 ti3 ti4 ti5 ti9 ti12 ti13 ti21 ti22 ti23 ti24 ti25 ti26 ti30 ti31 ti32 ti33 ti36 ti37 ti38 ti44 ti45 ti47 ti52 ti60 ti73 ti74 ti80 ti97 ti99 ti120 ti127 ti141 ti150 ti154
end Go.Proofs.Ytooaagmhgakhgaa
end

section
namespace Go.Proofs.Ytooaagmhgakhgaa
set_option linter.unusedSimpArgs false
open Go.RowKit Go.ChangeShapes

inductive V where
  | mk (k n : Int) (s : ByteArray) (l : List V)
namespace V
mutual
def cells : V → List D
  | .mk k n s l => [.i k, .i n, .str s, .sl .shared (cellsL l)]
def cellsL : List V → List (List D)
  | [] => []
  | x :: l => x.cells :: cellsL l
end
theorem cellsL_map : ∀ l : List V, cellsL l = l.map cells
  | [] => rfl
  | x :: l => by rw [cellsL, cellsL_map l]; rfl
theorem cells_mk (k n : Int) (s : ByteArray) (l : List V) : (V.mk k n s l).cells = [.i k, .i n, .str s, .sl .shared (l.map cells)] := by rw [cells, cellsL_map]
theorem cells_len (v : V) : v.cells.length = 4 := by cases v; rw [cells_mk]; rfl
theorem cells_take (v : V) : v.cells.take 4 = v.cells := List.take_of_length_le (by rw [cells_len]; omega)
theorem cells_leaf (v : V) : ∀ d ∈ v.cells, d.leaf = true := by
  cases v
  rw [cells_mk]
  intro d hd
  simp only [List.mem_cons, List.not_mem_nil, or_false] at hd
  rcases hd with rfl | rfl | rfl | rfl <;> rfl
mutual
def nodes : V → Nat
  | .mk _ _ _ l => 1 + nodesL l
def nodesL : List V → Nat
  | [] => 0
  | x :: l => x.nodes + nodesL l
end
mutual
def deep : V → Nat
  | .mk k _ _ l => if k = 5 ∨ l ≠ [] then deepL l + 1 else 0
def deepL : List V → Nat
  | [] => 0
  | x :: l => max x.deep (deepL l)
end
theorem nodes_pos (v : V) : 0 < v.nodes := by cases v; rw [nodes]; omega
theorem nodesL_mem {x : V} : ∀ {l : List V}, x ∈ l → x.nodes ≤ nodesL l
  | y :: l, h => by
    rw [nodesL]
    rcases List.mem_cons.1 h with rfl | h
    · omega
    · have := nodesL_mem h; omega
theorem nodes_lt {k n : Int} {s : ByteArray} {l : List V} {x : V} (h : x ∈ l) : x.nodes < (V.mk k n s l).nodes := by
  have := nodesL_mem h
  rw [nodes]; omega
theorem nodesL_len : ∀ l : List V, l.length ≤ nodesL l
  | [] => Nat.le_refl _
  | x :: l => by have := nodesL_len l; have := x.nodes_pos; rw [nodesL, List.length_cons]; omega
mutual
theorem deep_le : ∀ v : V, v.deep ≤ v.nodes
  | .mk k n s l => by
    have := deepL_le l
    rw [deep, nodes]
    split <;> omega
theorem deepL_le : ∀ l : List V, deepL l ≤ nodesL l
  | [] => Nat.le_refl _
  | x :: l => by
    have := deep_le x
    have := deepL_le l
    rw [deepL, nodesL]; omega
end
theorem drop_cons {α : Type} {l : List α} {i : Nat} {x : α} (h : l[i]? = some x) : l.drop i = x :: l.drop (i + 1) := by
  obtain ⟨h1, rfl⟩ := List.getElem?_eq_some_iff.1 h
  exact List.drop_eq_getElem_cons h1
theorem mem_of {α : Type} {l : List α} {i : Nat} {x : α} (h : l[i]? = some x) : x ∈ l := List.mem_of_getElem? h
inductive Ok : V → Prop
  | mk {k n : Int} {s : ByteArray} {l : List V} (hk : -9223372036854775808 ≤ k ∧ k ≤ 9223372036854775807) (hn : -9223372036854775808 ≤ n ∧ n ≤ 9223372036854775807) (hs : s.size ≤ maxLen) (hl : l.length ≤ maxLen) (h : ∀ x ∈ l, Ok x) : Ok (.mk k n s l)
end V
theorem i64_bounds {n : Int} (h : (Lit.int .i64 n).wf = true) : -9223372036854775808 ≤ n ∧ n ≤ 9223372036854775807 := by
  simpa [Lit.wf, IntKind.min, IntKind.max, IntKind.bits, IntKind.signed] using h
section
open V
theorem readsV : ∀ n, ReadsN n Try.prog 24 V.cells V.Ok
  | 0 => fun H enc W fuel cs x hf h => by
    obtain rfl : fuel = 0 := by omega
    simp [DataW.trod] at h
  | 1 => fun H enc W fuel cs x hf h => by
    obtain ⟨xs, m, rfl, -, hl, hn, hx⟩ := DataW.trod_struct Try.underlying24 h
    obtain ⟨a, -⟩ := struct_field (i := 0) (n := 0) (f := fun a : Int => [D.i a]) hx hn rfl (k := 1) (by kernel_rfl) (reads_int (k := .i64) Try.underlying3 0) (by omega)
    have := hx 0 _ rfl
    obtain rfl : m = 0 := by omega
    rw [List.getElem?_eq_getElem (by rw [hn]; exact Nat.le_of_ble_eq_true rfl)] at this
    simp [DataW.trod] at this
  | n + 2 => fun H enc W fuel cs x hf h => by
    obtain ⟨xs, m, rfl, -, hl, hn, hx⟩ := DataW.trod_struct Try.underlying24 h
    have hl4 : cs.length = 4 := hl.trans (by kernel_rfl)
    obtain ⟨a, a1, a2⟩ := struct_field (i := 0) (n := n + 1) (f := fun a : Int => [D.i a]) hx hn rfl (k := 1) (by kernel_rfl) (reads_int (k := .i64) Try.underlying3 _) (by omega)
    obtain ⟨b, b1, b2⟩ := struct_field (i := 1) (n := n + 1) (f := fun a : Int => [D.i a]) hx hn rfl (k := 1) (by kernel_rfl) (reads_int (k := .i64) Try.underlying2 _) (by omega)
    obtain ⟨c, c1, c2⟩ := struct_field (i := 2) (n := n + 1) (f := fun a : ByteArray => [D.str a]) hx hn rfl (k := 1) (by kernel_rfl) (reads_string Try.underlying9 _) (by omega)
    obtain ⟨d, d1, d2, d3⟩ := struct_field (i := 3) (n := n + 1) (f := fun l : List V => [D.sl .shared (l.map V.cells)]) hx hn rfl (k := 1) (by kernel_rfl) (reads_slice (sz := 4) Try.underlying22 (by kernel_rfl) (by omega) (readsV n) V.cells_len V.cells_leaf) (by omega)
    refine ⟨.mk a b c d, ?_, .mk (i64_bounds a2) (i64_bounds b2) c2 d3 d2⟩
    rw [V.cells_mk]
    have := RepL.glue a1 (RepL.glue b1 (RepL.glue c1 (RepL.glue d1 (RepL.glue_end hl4))))
    exact this
end
end Go.Proofs.Ytooaagmhgakhgaa
end

section
namespace Go.Proofs.Ytooaagmhgakhgaa
set_option linter.unusedSimpArgs false
open Go.RowKit
set_option maxRecDepth 10000
namespace V
mutual
def cnt : V → Int → Int → Int
  | .mk _ _ _ l, n, d => if n - 1 < 0 ∨ d < 0 then -1 else cntL l (n - 1) (d - 1)
def cntL : List V → Int → Int → Int
  | [], n, _ => n
  | x :: l, n, d => if x.cnt n d < 0 then -1 else cntL l (x.cnt n d) d
end
mutual
theorem cnt_le : ∀ (v : V) (n d : Int), -1 ≤ n → -1 ≤ v.cnt n d ∧ v.cnt n d ≤ n
  | .mk k m s l, n, d, h => by
    rw [cnt]
    split
    · omega
    · have := cntL_le l (n - 1) (d - 1) (by omega)
      omega
theorem cntL_le : ∀ (l : List V) (n d : Int), -1 ≤ n → -1 ≤ cntL l n d ∧ cntL l n d ≤ n
  | [], n, d, h => by rw [cntL]; omega
  | x :: l, n, d, h => by
    rw [cntL]
    have h1 := cnt_le x n d h
    split
    · omega
    · have := cntL_le l (x.cnt n d) d (by omega)
      omega
end
end V
open V in
theorem refCountF : ∀ (N : Nat) (v : V), v.nodes ≤ N → v.Ok → ∀ (n d : Int), -1 ≤ n → n ≤ 4611686018427387904 → -1 ≤ d → d ≤ 4611686018427387904 → ∀ st, TrF Try.prog 40 [.agg v.cells, .i n, .i d] st fun x st' => x = .i (v.cnt n d) ∧ st' = st
  | 0, v, h, _ => by have := v.nodes_pos; omega
  | N + 1, .mk k n0 s l, hN, hok => by
    intro n d h1 h2 h3 h4 st
    obtain ⟨hk, hn, hs, hl, hall⟩ := hok
    unfold maxLen at hl
    have IH := fun x (hx : x ∈ l) => refCountF N x (by have := nodes_lt (k := k) (n := n0) (s := s) hx; omega) (hall x hx)
    clear hall hN
    rw [V.cells_mk]
    refine trF_enter (ts := [6]) Try.func40 rfl (by rw [Try.ntmps40]; exact Nat.le_of_ble_eq_true rfl) (fun tmps w => by simp [results, Try.results40, go_sem, resVal]) ?_
    simp only [Try.ntmps40]
    by_cases c1 : n - 1 < 0
    · rw [cnt, if_pos (.inl c1)]
      clear IH
      repeat' (first | with_reducible refine Go1.go ?_ | ((with_reducible apply ev_go); (focus (try simp (disch := omega) only [push_cast, Nat.reduceEqDiff, reduceCtorEq, ↓reduceIte, Nat.reduceAdd, Nat.reduceMul, Nat.reduceSub, Nat.reduceLT, Nat.reduceLeDiff, Int.reduceToNat, Int.reduceLT, Int.reduceLE, Int.reduceAdd, Int.reduceSub, Int.reduceMul, Int.reduceBEq, Int.reduceBNe, encB, encI, V.cells_mk, V.cells_take, V.cells_len, *]); (try exact rfl); done)) | ((with_reducible refine w_last ?_ ?_ ?_); (focus kernel_rfl); (focus rfl)) | ((with_reducible apply w_stepG); (focus rfl)) | ((with_reducible apply lk_mem); (focus ((repeat (first | exact mm_h | apply mm_t)); done))) | with_reducible refine Go2.go ?_ | ((with_reducible apply sto_go); (focus (intro cs'; repeat (first | exact ra_h | apply ra_t)))) | ((with_reducible refine al_go ?_); intro b) | ((with_reducible refine And.intro ?_ ?_); (focus ((repeat (first | exact keep_none | exact keep_nil | exact keep_ro | refine keep_cons ?_)); done))) | ((with_reducible refine s_bi ?_ ?_); (focus rfl)) | with_reducible refine blk_ne rfl ?_ | ((with_reducible refine w_region ?_ ?_); (focus kernel_rfl)) | ((with_reducible refine w_draw [] ?_ ?_ ?_ ?_ ?_); (iterate 3 (focus kernel_rfl)); (focus exact keeps_nil)) | ((with_reducible first | refine gd_d1 ?_ ?_ | refine gd_d0 ?_ ?_); all_goals (intro hb; (first | with_reducible replace hb := nt_t hb | with_reducible replace hb := nt_f hb | skip); (first | replace hb := dc_t hb | replace hb := dc_f hb | have hb1 := eq_b hb | have hb1 := ne_b hb | have hb1 := bne_t hb | have hb1 := bne_f hb | skip); (try (exfalso; first | contradiction | omega)))))
      all_goals (refine ret_eq (by first | exact .inl rfl | exact .inr rfl) (by first | rfl | assumption) (by (repeat (first | exact List.Sublist.refl _ | apply List.Sublist.cons))) ?_; (try simp (disch := omega) only [push_cast, Nat.reduceEqDiff, reduceCtorEq, ↓reduceIte, Nat.reduceAdd, Nat.reduceMul, Nat.reduceSub, Nat.reduceLT, Nat.reduceLeDiff, Int.reduceToNat, Int.reduceLT, Int.reduceLE, Int.reduceAdd, Int.reduceSub, Int.reduceMul, Int.reduceBEq, Int.reduceBNe, encB, encI, V.cells_mk, V.cells_take, V.cells_len, *]); try (first | exact LE.refl _ | exact LE.sl _ _ | (refine LE.tup ?_; (repeat' (first | exact LEL.nil | refine LEL.cons ?_ ?_ | exact LE.refl _ | exact LE.sl _ _ | refine LE.agg ?_)); done) | (refine LE.agg ?_; (repeat' (first | exact LEL.nil | refine LEL.cons ?_ ?_ | exact LE.refl _ | exact LE.sl _ _)); done) | refine LE.of_eq ?_))
    by_cases c2 : d < 0
    · rw [cnt, if_pos (.inr c2)]
      clear IH
      repeat' (first | with_reducible refine Go1.go ?_ | ((with_reducible apply ev_go); (focus (try simp (disch := omega) only [push_cast, Nat.reduceEqDiff, reduceCtorEq, ↓reduceIte, Nat.reduceAdd, Nat.reduceMul, Nat.reduceSub, Nat.reduceLT, Nat.reduceLeDiff, Int.reduceToNat, Int.reduceLT, Int.reduceLE, Int.reduceAdd, Int.reduceSub, Int.reduceMul, Int.reduceBEq, Int.reduceBNe, encB, encI, V.cells_mk, V.cells_take, V.cells_len, *]); (try exact rfl); done)) | ((with_reducible refine w_last ?_ ?_ ?_); (focus kernel_rfl); (focus rfl)) | ((with_reducible apply w_stepG); (focus rfl)) | ((with_reducible apply lk_mem); (focus ((repeat (first | exact mm_h | apply mm_t)); done))) | with_reducible refine Go2.go ?_ | ((with_reducible apply sto_go); (focus (intro cs'; repeat (first | exact ra_h | apply ra_t)))) | ((with_reducible refine al_go ?_); intro b) | ((with_reducible refine And.intro ?_ ?_); (focus ((repeat (first | exact keep_none | exact keep_nil | exact keep_ro | refine keep_cons ?_)); done))) | ((with_reducible refine s_bi ?_ ?_); (focus rfl)) | with_reducible refine blk_ne rfl ?_ | ((with_reducible refine w_region ?_ ?_); (focus kernel_rfl)) | ((with_reducible refine w_draw [] ?_ ?_ ?_ ?_ ?_); (iterate 3 (focus kernel_rfl)); (focus exact keeps_nil)) | ((with_reducible first | refine gd_d1 ?_ ?_ | refine gd_d0 ?_ ?_); all_goals (intro hb; (first | with_reducible replace hb := nt_t hb | with_reducible replace hb := nt_f hb | skip); (first | replace hb := dc_t hb | replace hb := dc_f hb | have hb1 := eq_b hb | have hb1 := ne_b hb | have hb1 := bne_t hb | have hb1 := bne_f hb | skip); (try (exfalso; first | contradiction | omega)))))
      all_goals (refine ret_eq (by first | exact .inl rfl | exact .inr rfl) (by first | rfl | assumption) (by (repeat (first | exact List.Sublist.refl _ | apply List.Sublist.cons))) ?_; (try simp (disch := omega) only [push_cast, Nat.reduceEqDiff, reduceCtorEq, ↓reduceIte, Nat.reduceAdd, Nat.reduceMul, Nat.reduceSub, Nat.reduceLT, Nat.reduceLeDiff, Int.reduceToNat, Int.reduceLT, Int.reduceLE, Int.reduceAdd, Int.reduceSub, Int.reduceMul, Int.reduceBEq, Int.reduceBNe, encB, encI, V.cells_mk, V.cells_take, V.cells_len, *]); try (first | exact LE.refl _ | exact LE.sl _ _ | (refine LE.tup ?_; (repeat' (first | exact LEL.nil | refine LEL.cons ?_ ?_ | exact LE.refl _ | exact LE.sl _ _ | refine LE.agg ?_)); done) | (refine LE.agg ?_; (repeat' (first | exact LEL.nil | refine LEL.cons ?_ ?_ | exact LE.refl _ | exact LE.sl _ _)); done) | refine LE.of_eq ?_))
    rw [cnt, if_neg (by omega)]
    repeat' (first | with_reducible refine Go1.go ?_ | ((with_reducible apply ev_go); (focus (try simp (disch := omega) only [push_cast, Nat.reduceEqDiff, reduceCtorEq, ↓reduceIte, Nat.reduceAdd, Nat.reduceMul, Nat.reduceSub, Nat.reduceLT, Nat.reduceLeDiff, Int.reduceToNat, Int.reduceLT, Int.reduceLE, Int.reduceAdd, Int.reduceSub, Int.reduceMul, Int.reduceBEq, Int.reduceBNe, encB, encI, V.cells_mk, V.cells_take, V.cells_len, *]); (try exact rfl); done)) | ((with_reducible refine w_last ?_ ?_ ?_); (focus kernel_rfl); (focus rfl)) | ((with_reducible apply w_stepG); (focus rfl)) | ((with_reducible apply lk_mem); (focus ((repeat (first | exact mm_h | apply mm_t)); done))) | with_reducible refine Go2.go ?_ | ((with_reducible apply sto_go); (focus (intro cs'; repeat (first | exact ra_h | apply ra_t)))) | ((with_reducible refine al_go ?_); intro b) | ((with_reducible refine And.intro ?_ ?_); (focus ((repeat (first | exact keep_none | exact keep_nil | exact keep_ro | refine keep_cons ?_)); done))) | ((with_reducible refine s_bi ?_ ?_); (focus rfl)) | with_reducible refine blk_ne rfl ?_ | ((with_reducible refine w_region ?_ ?_); (focus kernel_rfl)) | ((with_reducible refine w_draw [] ?_ ?_ ?_ ?_ ?_); (iterate 3 (focus kernel_rfl)); (focus exact keeps_nil)) | ((with_reducible first | refine gd_d1 ?_ ?_ | refine gd_d0 ?_ ?_); all_goals (intro hb; (first | with_reducible replace hb := nt_t hb | with_reducible replace hb := nt_f hb | skip); (first | replace hb := dc_t hb | replace hb := dc_f hb | have hb1 := eq_b hb | have hb1 := ne_b hb | have hb1 := bne_t hb | have hb1 := bne_f hb | skip); (try (exfalso; first | contradiction | omega)))))
    refine tr_loop (ι := Nat × Int) (fun i A st' => i.1 ≤ l.length ∧ 0 ≤ i.2 ∧ i.2 ≤ n ∧ Hid (cntL (l.drop i.1) i.2 (d - 1) = cntL l (n - 1) (d - 1)) ∧ A.df = [] ∧ A.e 1 = .i i.2 ∧ A.e 2 = .i d ∧ A.e 3 = .ip [.i k, .i n0, .str s, .sl .shared (l.map V.cells)] ∧ A.e 7 = .i i.1 ∧ st' = st) (fun i => l.length - i.1) (0, n - 1) ⟨Nat.zero_le _, by omega, by omega, rfl, rfl, ?_, ?_, ?_, ?_, rfl⟩ ?_
    iterate 4 (focus (first | rfl | assumption | omega | (simp (disch := omega) only [push_cast, Nat.reduceEqDiff, reduceCtorEq, ↓reduceIte, Nat.reduceAdd, Nat.reduceMul, Nat.reduceSub, Nat.reduceLT, Nat.reduceLeDiff, Int.reduceToNat, Int.reduceLT, Int.reduceLE, Int.reduceAdd, Int.reduceSub, Int.reduceMul, Int.reduceBEq, Int.reduceBNe, encB, encI, V.cells_mk, V.cells_take, V.cells_len, *]; try omega; done)))
    rintro ⟨i, m⟩ A st' ⟨hi, hm0, hmn, HT, hdf, h1', h2', h3', h7, rfl⟩
    dsimp only at hi hm0 hmn HT h1' h7 ⊢
    by_cases hlt : i < l.length
    · obtain ⟨x, hx⟩ : ∃ x, l[i]? = some x := ⟨_, List.getElem?_eq_getElem hlt⟩
      have ih := IH x (mem_of hx) m (d - 1) (by omega) (by omega) (by omega) (by omega)
      have hb := cnt_le x m (d - 1) (by omega)
      have hlx := V.cells_len x
      have HD := HT.out
      rw [drop_cons hx, cntL] at HD
      generalize x.cnt m (d - 1) = m' at *
      clear IH
      by_cases hm' : m' < 0
      · rw [if_pos hm'] at HD
        rw [← HD]
        clear HD HT
        repeat' (first | with_reducible refine Go1.go ?_ | ((with_reducible apply ev_go); (focus (try simp (disch := omega) only [push_cast, Nat.reduceEqDiff, reduceCtorEq, ↓reduceIte, Nat.reduceAdd, Nat.reduceMul, Nat.reduceSub, Nat.reduceLT, Nat.reduceLeDiff, Int.reduceToNat, Int.reduceLT, Int.reduceLE, Int.reduceAdd, Int.reduceSub, Int.reduceMul, Int.reduceBEq, Int.reduceBNe, encB, encI, V.cells_mk, V.cells_take, V.cells_len, *]); (try exact rfl); done)) | ((with_reducible refine w_last ?_ ?_ ?_); (focus kernel_rfl); (focus rfl)) | ((with_reducible apply w_stepG); (focus rfl)) | ((with_reducible apply lk_mem); (focus ((repeat (first | exact mm_h | apply mm_t)); done))) | with_reducible refine Go2.go ?_ | ((with_reducible apply sto_go); (focus (intro cs'; repeat (first | exact ra_h | apply ra_t)))) | ((with_reducible refine al_go ?_); intro b) | ((with_reducible refine And.intro ?_ ?_); (focus ((repeat (first | exact keep_none | exact keep_nil | exact keep_ro | refine keep_cons ?_)); done))) | ((with_reducible apply (ck_le Try.call40)); (focus exact LEL.refl _); (focus exact ih _)) | ((with_reducible refine s_bi ?_ ?_); (focus rfl)) | with_reducible refine blk_ne rfl ?_ | ((with_reducible refine w_region ?_ ?_); (focus kernel_rfl)) | ((with_reducible refine w_draw [] ?_ ?_ ?_ ?_ ?_); (iterate 3 (focus kernel_rfl)); (focus exact keeps_nil)) | ((with_reducible first | refine gd_d1 ?_ ?_ | refine gd_d0 ?_ ?_); all_goals (intro hb; (first | with_reducible replace hb := nt_t hb | with_reducible replace hb := nt_f hb | skip); (first | replace hb := dc_t hb | replace hb := dc_f hb | have hb1 := eq_b hb | have hb1 := ne_b hb | have hb1 := bne_t hb | have hb1 := bne_f hb | skip); (try (exfalso; first | contradiction | omega)))))
        all_goals (refine ret_eq (by first | exact .inl rfl | exact .inr rfl) (by first | rfl | assumption) (by (repeat (first | exact List.Sublist.refl _ | apply List.Sublist.cons))) ?_; (try simp (disch := omega) only [push_cast, Nat.reduceEqDiff, reduceCtorEq, ↓reduceIte, Nat.reduceAdd, Nat.reduceMul, Nat.reduceSub, Nat.reduceLT, Nat.reduceLeDiff, Int.reduceToNat, Int.reduceLT, Int.reduceLE, Int.reduceAdd, Int.reduceSub, Int.reduceMul, Int.reduceBEq, Int.reduceBNe, encB, encI, V.cells_mk, V.cells_take, V.cells_len, *]); try (first | exact LE.refl _ | exact LE.sl _ _ | (refine LE.tup ?_; (repeat' (first | exact LEL.nil | refine LEL.cons ?_ ?_ | exact LE.refl _ | exact LE.sl _ _ | refine LE.agg ?_)); done) | (refine LE.agg ?_; (repeat' (first | exact LEL.nil | refine LEL.cons ?_ ?_ | exact LE.refl _ | exact LE.sl _ _)); done) | refine LE.of_eq ?_))
      · rw [if_neg hm'] at HD
        have HE := Lib.hid HD
        clear HD HT
        repeat' (first | with_reducible refine Go1.go ?_ | ((with_reducible apply ev_go); (focus (try simp (disch := omega) only [push_cast, Nat.reduceEqDiff, reduceCtorEq, ↓reduceIte, Nat.reduceAdd, Nat.reduceMul, Nat.reduceSub, Nat.reduceLT, Nat.reduceLeDiff, Int.reduceToNat, Int.reduceLT, Int.reduceLE, Int.reduceAdd, Int.reduceSub, Int.reduceMul, Int.reduceBEq, Int.reduceBNe, encB, encI, V.cells_mk, V.cells_take, V.cells_len, *]); (try exact rfl); done)) | ((with_reducible refine w_last ?_ ?_ ?_); (focus kernel_rfl); (focus rfl)) | ((with_reducible apply w_stepG); (focus rfl)) | ((with_reducible apply lk_mem); (focus ((repeat (first | exact mm_h | apply mm_t)); done))) | with_reducible refine Go2.go ?_ | ((with_reducible apply sto_go); (focus (intro cs'; repeat (first | exact ra_h | apply ra_t)))) | ((with_reducible refine al_go ?_); intro b) | ((with_reducible refine And.intro ?_ ?_); (focus ((repeat (first | exact keep_none | exact keep_nil | exact keep_ro | refine keep_cons ?_)); done))) | ((with_reducible apply (ck_le Try.call40)); (focus exact LEL.refl _); (focus exact ih _)) | ((with_reducible refine s_bi ?_ ?_); (focus rfl)) | with_reducible refine blk_ne rfl ?_ | ((with_reducible refine w_region ?_ ?_); (focus kernel_rfl)) | ((with_reducible refine w_draw [] ?_ ?_ ?_ ?_ ?_); (iterate 3 (focus kernel_rfl)); (focus exact keeps_nil)) | ((with_reducible first | refine gd_d1 ?_ ?_ | refine gd_d0 ?_ ?_); all_goals (intro hb; (first | with_reducible replace hb := nt_t hb | with_reducible replace hb := nt_f hb | skip); (first | replace hb := dc_t hb | replace hb := dc_f hb | have hb1 := eq_b hb | have hb1 := ne_b hb | have hb1 := bne_t hb | have hb1 := bne_f hb | skip); (try (exfalso; first | contradiction | omega)))))
        refine ⟨(i + 1, m'), ⟨hlt, by omega, by dsimp only; omega, HE, ?_, ?_, ?_, ?_, ?_, rfl⟩, ?_⟩
        all_goals (first | rfl | assumption | omega | (simp (disch := omega) only [push_cast, Nat.reduceEqDiff, reduceCtorEq, ↓reduceIte, Nat.reduceAdd, Nat.reduceMul, Nat.reduceSub, Nat.reduceLT, Nat.reduceLeDiff, Int.reduceToNat, Int.reduceLT, Int.reduceLE, Int.reduceAdd, Int.reduceSub, Int.reduceMul, Int.reduceBEq, Int.reduceBNe, encB, encI, V.cells_mk, V.cells_take, V.cells_len, *]; try omega; done))
    · have HD := HT.out
      rw [List.drop_eq_nil_of_le (by omega), cntL] at HD
      rw [← HD]
      clear HD HT IH
      repeat' (first | with_reducible refine Go1.go ?_ | ((with_reducible apply ev_go); (focus (try simp (disch := omega) only [push_cast, Nat.reduceEqDiff, reduceCtorEq, ↓reduceIte, Nat.reduceAdd, Nat.reduceMul, Nat.reduceSub, Nat.reduceLT, Nat.reduceLeDiff, Int.reduceToNat, Int.reduceLT, Int.reduceLE, Int.reduceAdd, Int.reduceSub, Int.reduceMul, Int.reduceBEq, Int.reduceBNe, encB, encI, V.cells_mk, V.cells_take, V.cells_len, *]); (try exact rfl); done)) | ((with_reducible refine w_last ?_ ?_ ?_); (focus kernel_rfl); (focus rfl)) | ((with_reducible apply w_stepG); (focus rfl)) | ((with_reducible apply lk_mem); (focus ((repeat (first | exact mm_h | apply mm_t)); done))) | with_reducible refine Go2.go ?_ | ((with_reducible apply sto_go); (focus (intro cs'; repeat (first | exact ra_h | apply ra_t)))) | ((with_reducible refine al_go ?_); intro b) | ((with_reducible refine And.intro ?_ ?_); (focus ((repeat (first | exact keep_none | exact keep_nil | exact keep_ro | refine keep_cons ?_)); done))) | ((with_reducible refine s_bi ?_ ?_); (focus rfl)) | with_reducible refine blk_ne rfl ?_ | ((with_reducible refine w_region ?_ ?_); (focus kernel_rfl)) | ((with_reducible refine w_draw [] ?_ ?_ ?_ ?_ ?_); (iterate 3 (focus kernel_rfl)); (focus exact keeps_nil)) | ((with_reducible first | refine gd_d1 ?_ ?_ | refine gd_d0 ?_ ?_); all_goals (intro hb; (first | with_reducible replace hb := nt_t hb | with_reducible replace hb := nt_f hb | skip); (first | replace hb := dc_t hb | replace hb := dc_f hb | have hb1 := eq_b hb | have hb1 := ne_b hb | have hb1 := bne_t hb | have hb1 := bne_f hb | skip); (try (exfalso; first | contradiction | omega)))))
      all_goals (refine ret_eq (by first | exact .inl rfl | exact .inr rfl) (by first | rfl | assumption) (by (repeat (first | exact List.Sublist.refl _ | apply List.Sublist.cons))) ?_; (try simp (disch := omega) only [push_cast, Nat.reduceEqDiff, reduceCtorEq, ↓reduceIte, Nat.reduceAdd, Nat.reduceMul, Nat.reduceSub, Nat.reduceLT, Nat.reduceLeDiff, Int.reduceToNat, Int.reduceLT, Int.reduceLE, Int.reduceAdd, Int.reduceSub, Int.reduceMul, Int.reduceBEq, Int.reduceBNe, encB, encI, V.cells_mk, V.cells_take, V.cells_len, *]); try (first | exact LE.refl _ | exact LE.sl _ _ | (refine LE.tup ?_; (repeat' (first | exact LEL.nil | refine LEL.cons ?_ ?_ | exact LE.refl _ | exact LE.sl _ _ | refine LE.agg ?_)); done) | (refine LE.agg ?_; (repeat' (first | exact LEL.nil | refine LEL.cons ?_ ?_ | exact LE.refl _ | exact LE.sl _ _)); done) | refine LE.of_eq ?_))
end Go.Proofs.Ytooaagmhgakhgaa
end

section
namespace Go.Proofs.Ytooaagmhgakhgaa
set_option linter.unusedSimpArgs false
open Go.RowKit
set_option maxRecDepth 10000
namespace V
mutual
theorem cnt_eq : ∀ (v : V) (n d : Int), 0 ≤ v.cnt n d → v.cnt n d = n - v.nodes
  | .mk k m s l, n, d, h => by
    rw [cnt] at h ⊢
    split at h
    · omega
    · rename_i hc
      rw [if_neg hc, nodes]
      have := cntL_eq l (n - 1) (d - 1) h
      omega
theorem cntL_eq : ∀ (l : List V) (n d : Int), 0 ≤ cntL l n d → cntL l n d = n - nodesL l
  | [], n, d, h => by rw [cntL, nodesL]; omega
  | x :: l, n, d, h => by
    rw [cntL] at h ⊢
    split at h
    · omega
    · rename_i hc
      rw [if_neg hc, nodesL, cntL_eq l _ d h]
      have := cnt_eq x n d (by omega)
      omega
end
mutual
theorem cnt_all : ∀ (v : V) (n d : Int), (v.nodes : Int) ≤ n → (v.deep : Int) ≤ d → v.cnt n d = n - v.nodes
  | .mk k m s l, n, d, h, hd => by
    have hp := (V.mk k m s l).nodes_pos
    rw [cnt, if_neg (by omega), nodes] at *
    rw [deep] at hd
    have := cntL_all l (n - 1) (d - 1) (by omega) (by
      cases l with
      | nil => exact .inl rfl
      | cons x l => rw [if_pos (.inr (by simp))] at hd; exact .inr (by omega))
    omega
theorem cntL_all : ∀ (l : List V) (n d : Int), (nodesL l : Int) ≤ n → (l = [] ∨ (deepL l : Int) ≤ d) → cntL l n d = n - nodesL l
  | [], n, d, h, _ => by rw [cntL, nodesL]; omega
  | x :: l, n, d, h, hd => by
    rw [nodesL] at h
    rcases hd with hd | hd
    · cases hd
    rw [deepL] at hd
    have h1 := cnt_all x n d (by omega) (by omega)
    rw [cntL, if_neg (by omega), h1, cntL_all l _ d (by omega) (.inr (by omega)), nodesL]
    omega
end
def accI : Int → List V → Int
  | n, [] => n
  | n, x :: l => accI (if (x.deep : Int) > n then x.deep else n) l
theorem max_if (a b : Nat) : ((max a b : Nat) : Int) = if (a : Int) ≤ b then (b : Int) else a := by
  rw [Nat.max_def]; split <;> split <;> omega
theorem accI_eq : ∀ (l : List V) (n : Int), accI n l = match l with | [] => n | x :: l => max n (deepL (x :: l))
  | [], n => rfl
  | [x], n => by
    show (if (x.deep : Int) > n then (x.deep : Int) else n) = max n ((max x.deep 0 : Nat) : Int)
    rw [max_if]; split <;> split <;> omega
  | x :: y :: l, n => by
    have h := accI_eq (y :: l) (if (x.deep : Int) > n then x.deep else n)
    show accI _ (y :: l) = max n ((max x.deep (deepL (y :: l)) : Nat) : Int)
    rw [h, max_if]
    dsimp only
    split <;> split <;> omega
theorem accI_deep (k n : Int) (s : ByteArray) (l : List V) : accI (if k = 5 then 0 else -1) l + 1 = (V.mk k n s l).deep := by
  rw [accI_eq, deep]
  cases l with
  | nil =>
    by_cases h : k = 5
    · simp [h, deepL]
    · simp [h]
  | cons x l =>
    rw [if_pos (show k = 5 ∨ x :: l ≠ [] from .inr (by simp))]
    dsimp only
    split <;> omega
theorem accI_deep' (k n : Int) (s : ByteArray) (l : List V) : (if k = 5 ∨ 0 < l.length then accI 0 l + 1 else accI 0 l) = (V.mk k n s l).deep := by
  rw [accI_eq, deep]
  cases l with
  | nil =>
    by_cases h : k = 5
    · simp [h, deepL]
    · simp [h]
  | cons x l =>
    rw [if_pos (show k = 5 ∨ x :: l ≠ [] from .inr (by simp)), if_pos (show k = 5 ∨ 0 < (x :: l).length from .inr (by simp))]
    dsimp only
    omega
end V
open V in
theorem refDeepF : ∀ (N : Nat) (v : V), v.nodes ≤ N → v.nodes ≤ 4611686018427387904 → ∀ st, TrF Try.prog 41 [.agg v.cells] st fun x st' => x = .i v.deep ∧ st' = st
  | 0, v, h, _ => by have := v.nodes_pos; omega
  | N + 1, .mk k n0 s l, hN, hB => by
    intro st
    have IH := fun x (hx : x ∈ l) => refDeepF N x (by have := nodes_lt (k := k) (n := n0) (s := s) hx; omega) (by have := nodes_lt (k := k) (n := n0) (s := s) hx; omega)
    have hll := nodesL_len l
    have hdl := deepL_le l
    rw [nodes] at hN hB
    have hD := accI_deep k n0 s l
    generalize (V.mk k n0 s l).deep = dd at *
    rw [V.cells_mk]
    clear hN
    refine trF_enter (ts := [2]) Try.func41 rfl (by rw [Try.ntmps41]; exact Nat.le_of_ble_eq_true rfl) (fun tmps w => by simp [results, Try.results41, go_sem, resVal]) ?_
    simp only [Try.ntmps41]
    obtain ⟨a0, ha0⟩ : ∃ a0 : Int, (if k = 5 then (0 : Int) else -1) = a0 := ⟨_, rfl⟩
    have hab : -1 ≤ a0 ∧ a0 ≤ 0 := by rw [← ha0]; split <;> omega
    have HD := Lib.hid hD
    rw [ha0] at HD
    clear hD
    by_cases hk : k = 5
    all_goals
      simp only [hk, if_true, if_false] at ha0
      first | have hkb : (k == 5) = true := by rw [hk]; rfl
            | have hkb : (k == 5) = false := by rw [beq_eq_false_iff_ne]; exact hk
      clear hk
      subst ha0
      have IH := Lib.hid IH
      repeat' (first | with_reducible refine Go1.go ?_ | ((with_reducible apply ev_go); (focus (try simp (disch := omega) only [push_cast, Nat.reduceEqDiff, reduceCtorEq, ↓reduceIte, Nat.reduceAdd, Nat.reduceMul, Nat.reduceSub, Nat.reduceLT, Nat.reduceLeDiff, Int.reduceToNat, Int.reduceLT, Int.reduceLE, Int.reduceAdd, Int.reduceSub, Int.reduceMul, Int.reduceBEq, Int.reduceBNe, encB, encI, V.cells_mk, V.cells_take, V.cells_len, *]); (try exact rfl); done)) | ((with_reducible refine w_last ?_ ?_ ?_); (focus kernel_rfl); (focus rfl)) | ((with_reducible apply w_stepG); (focus rfl)) | ((with_reducible apply lk_mem); (focus ((repeat (first | exact mm_h | apply mm_t)); done))) | with_reducible refine Go2.go ?_ | ((with_reducible apply sto_go); (focus (intro cs'; repeat (first | exact ra_h | apply ra_t)))) | ((with_reducible refine al_go ?_); intro b) | ((with_reducible refine And.intro ?_ ?_); (focus ((repeat (first | exact keep_none | exact keep_nil | exact keep_ro | refine keep_cons ?_)); done))) | ((with_reducible refine s_bi ?_ ?_); (focus rfl)) | with_reducible refine blk_ne rfl ?_ | ((with_reducible refine w_region ?_ ?_); (focus kernel_rfl)) | ((with_reducible refine w_draw [] ?_ ?_ ?_ ?_ ?_); (iterate 3 (focus kernel_rfl)); (focus exact keeps_nil)) | ((with_reducible first | refine gd_d1 ?_ ?_ | refine gd_d0 ?_ ?_); all_goals (intro hb; (first | with_reducible replace hb := nt_t hb | with_reducible replace hb := nt_f hb | skip); (first | replace hb := dc_t hb | replace hb := dc_f hb | have hb1 := eq_b hb | have hb1 := ne_b hb | have hb1 := bne_t hb | have hb1 := bne_f hb | skip); (try (exfalso; first | contradiction | omega)))))
      refine tr_loop (ι := Nat × Int) (fun i A st' => i.1 ≤ l.length ∧ -1 ≤ i.2 ∧ i.2 ≤ nodesL l ∧ Hid (accI i.2 (l.drop i.1) + 1 = dd) ∧ A.df = [] ∧ A.e 1 = .ip [.i k, .i n0, .str s, .sl .shared (l.map V.cells)] ∧ A.e 3 = .i i.2 ∧ A.e 4 = .i i.1 ∧ st' = st) (fun i => l.length - i.1) (0, _) ⟨Nat.zero_le _, hab.1, by dsimp only; omega, HD.out, ?_, ?_, ?_, ?_, rfl⟩ ?_
      iterate 4 (focus (first | rfl | assumption | omega | (simp (disch := omega) only [push_cast, Nat.reduceEqDiff, reduceCtorEq, ↓reduceIte, Nat.reduceAdd, Nat.reduceMul, Nat.reduceSub, Nat.reduceLT, Nat.reduceLeDiff, Int.reduceToNat, Int.reduceLT, Int.reduceLE, Int.reduceAdd, Int.reduceSub, Int.reduceMul, Int.reduceBEq, Int.reduceBNe, encB, encI, V.cells_mk, V.cells_take, V.cells_len, *]; try omega; done)))
      rintro ⟨i, m⟩ A st' ⟨hi, hm0, hmn, HT, hdf, h1', h3', h4', rfl⟩
      dsimp only at hi hm0 hmn HT h3' h4' ⊢
      by_cases hlt : i < l.length
      · obtain ⟨x, hx⟩ : ∃ x, l[i]? = some x := ⟨_, List.getElem?_eq_getElem hlt⟩
        have ih := IH.out x (mem_of hx)
        have hdx := deep_le x
        have hnx := nodesL_mem (mem_of hx)
        have HE := HT.out
        rw [drop_cons hx, accI] at HE
        have HE := Lib.hid HE
        generalize x.deep = dx at *
        by_cases hm' : (dx : Int) > m
        · have he := HE.out
          rw [if_pos hm'] at he
          have HE := Lib.hid he
          clear he HT IH
          repeat' (first | with_reducible refine Go1.go ?_ | ((with_reducible apply ev_go); (focus (try simp (disch := omega) only [push_cast, Nat.reduceEqDiff, reduceCtorEq, ↓reduceIte, Nat.reduceAdd, Nat.reduceMul, Nat.reduceSub, Nat.reduceLT, Nat.reduceLeDiff, Int.reduceToNat, Int.reduceLT, Int.reduceLE, Int.reduceAdd, Int.reduceSub, Int.reduceMul, Int.reduceBEq, Int.reduceBNe, encB, encI, V.cells_mk, V.cells_take, V.cells_len, *]); (try exact rfl); done)) | ((with_reducible refine w_last ?_ ?_ ?_); (focus kernel_rfl); (focus rfl)) | ((with_reducible apply w_stepG); (focus rfl)) | ((with_reducible apply lk_mem); (focus ((repeat (first | exact mm_h | apply mm_t)); done))) | with_reducible refine Go2.go ?_ | ((with_reducible apply sto_go); (focus (intro cs'; repeat (first | exact ra_h | apply ra_t)))) | ((with_reducible refine al_go ?_); intro b) | ((with_reducible refine And.intro ?_ ?_); (focus ((repeat (first | exact keep_none | exact keep_nil | exact keep_ro | refine keep_cons ?_)); done))) | ((with_reducible apply (ck_le Try.call41)); (focus exact LEL.refl _); (focus exact ih _)) | ((with_reducible refine s_bi ?_ ?_); (focus rfl)) | with_reducible refine blk_ne rfl ?_ | ((with_reducible refine w_region ?_ ?_); (focus kernel_rfl)) | ((with_reducible refine w_draw [] ?_ ?_ ?_ ?_ ?_); (iterate 3 (focus kernel_rfl)); (focus exact keeps_nil)) | ((with_reducible first | refine gd_d1 ?_ ?_ | refine gd_d0 ?_ ?_); all_goals (intro hb; (first | with_reducible replace hb := nt_t hb | with_reducible replace hb := nt_f hb | skip); (first | replace hb := dc_t hb | replace hb := dc_f hb | have hb1 := eq_b hb | have hb1 := ne_b hb | have hb1 := bne_t hb | have hb1 := bne_f hb | skip); (try (exfalso; first | contradiction | omega)))))
          refine ⟨(i + 1, dx), ⟨hlt, by dsimp only; omega, by dsimp only; omega, HE, ?_, ?_, ?_, ?_, rfl⟩, ?_⟩
          all_goals (first | rfl | assumption | omega | (simp (disch := omega) only [push_cast, Nat.reduceEqDiff, reduceCtorEq, ↓reduceIte, Nat.reduceAdd, Nat.reduceMul, Nat.reduceSub, Nat.reduceLT, Nat.reduceLeDiff, Int.reduceToNat, Int.reduceLT, Int.reduceLE, Int.reduceAdd, Int.reduceSub, Int.reduceMul, Int.reduceBEq, Int.reduceBNe, encB, encI, V.cells_mk, V.cells_take, V.cells_len, *]; try omega; done))
        · have he := HE.out
          rw [if_neg hm'] at he
          have HE := Lib.hid he
          clear he HT IH
          repeat' (first | with_reducible refine Go1.go ?_ | ((with_reducible apply ev_go); (focus (try simp (disch := omega) only [push_cast, Nat.reduceEqDiff, reduceCtorEq, ↓reduceIte, Nat.reduceAdd, Nat.reduceMul, Nat.reduceSub, Nat.reduceLT, Nat.reduceLeDiff, Int.reduceToNat, Int.reduceLT, Int.reduceLE, Int.reduceAdd, Int.reduceSub, Int.reduceMul, Int.reduceBEq, Int.reduceBNe, encB, encI, V.cells_mk, V.cells_take, V.cells_len, *]); (try exact rfl); done)) | ((with_reducible refine w_last ?_ ?_ ?_); (focus kernel_rfl); (focus rfl)) | ((with_reducible apply w_stepG); (focus rfl)) | ((with_reducible apply lk_mem); (focus ((repeat (first | exact mm_h | apply mm_t)); done))) | with_reducible refine Go2.go ?_ | ((with_reducible apply sto_go); (focus (intro cs'; repeat (first | exact ra_h | apply ra_t)))) | ((with_reducible refine al_go ?_); intro b) | ((with_reducible refine And.intro ?_ ?_); (focus ((repeat (first | exact keep_none | exact keep_nil | exact keep_ro | refine keep_cons ?_)); done))) | ((with_reducible apply (ck_le Try.call41)); (focus exact LEL.refl _); (focus exact ih _)) | ((with_reducible refine s_bi ?_ ?_); (focus rfl)) | with_reducible refine blk_ne rfl ?_ | ((with_reducible refine w_region ?_ ?_); (focus kernel_rfl)) | ((with_reducible refine w_draw [] ?_ ?_ ?_ ?_ ?_); (iterate 3 (focus kernel_rfl)); (focus exact keeps_nil)) | ((with_reducible first | refine gd_d1 ?_ ?_ | refine gd_d0 ?_ ?_); all_goals (intro hb; (first | with_reducible replace hb := nt_t hb | with_reducible replace hb := nt_f hb | skip); (first | replace hb := dc_t hb | replace hb := dc_f hb | have hb1 := eq_b hb | have hb1 := ne_b hb | have hb1 := bne_t hb | have hb1 := bne_f hb | skip); (try (exfalso; first | contradiction | omega)))))
          refine ⟨(i + 1, m), ⟨hlt, by dsimp only; omega, by dsimp only; omega, HE, ?_, ?_, ?_, ?_, rfl⟩, ?_⟩
          all_goals (first | rfl | assumption | omega | (simp (disch := omega) only [push_cast, Nat.reduceEqDiff, reduceCtorEq, ↓reduceIte, Nat.reduceAdd, Nat.reduceMul, Nat.reduceSub, Nat.reduceLT, Nat.reduceLeDiff, Int.reduceToNat, Int.reduceLT, Int.reduceLE, Int.reduceAdd, Int.reduceSub, Int.reduceMul, Int.reduceBEq, Int.reduceBNe, encB, encI, V.cells_mk, V.cells_take, V.cells_len, *]; try omega; done))
      · have he := HT.out
        rw [List.drop_eq_nil_of_le (by omega), accI] at he
        clear IH HT HD
        repeat' (first | with_reducible refine Go1.go ?_ | ((with_reducible apply ev_go); (focus (try simp (disch := omega) only [push_cast, Nat.reduceEqDiff, reduceCtorEq, ↓reduceIte, Nat.reduceAdd, Nat.reduceMul, Nat.reduceSub, Nat.reduceLT, Nat.reduceLeDiff, Int.reduceToNat, Int.reduceLT, Int.reduceLE, Int.reduceAdd, Int.reduceSub, Int.reduceMul, Int.reduceBEq, Int.reduceBNe, encB, encI, V.cells_mk, V.cells_take, V.cells_len, *]); (try exact rfl); done)) | ((with_reducible refine w_last ?_ ?_ ?_); (focus kernel_rfl); (focus rfl)) | ((with_reducible apply w_stepG); (focus rfl)) | ((with_reducible apply lk_mem); (focus ((repeat (first | exact mm_h | apply mm_t)); done))) | with_reducible refine Go2.go ?_ | ((with_reducible apply sto_go); (focus (intro cs'; repeat (first | exact ra_h | apply ra_t)))) | ((with_reducible refine al_go ?_); intro b) | ((with_reducible refine And.intro ?_ ?_); (focus ((repeat (first | exact keep_none | exact keep_nil | exact keep_ro | refine keep_cons ?_)); done))) | ((with_reducible refine s_bi ?_ ?_); (focus rfl)) | with_reducible refine blk_ne rfl ?_ | ((with_reducible refine w_region ?_ ?_); (focus kernel_rfl)) | ((with_reducible refine w_draw [] ?_ ?_ ?_ ?_ ?_); (iterate 3 (focus kernel_rfl)); (focus exact keeps_nil)) | ((with_reducible first | refine gd_d1 ?_ ?_ | refine gd_d0 ?_ ?_); all_goals (intro hb; (first | with_reducible replace hb := nt_t hb | with_reducible replace hb := nt_f hb | skip); (first | replace hb := dc_t hb | replace hb := dc_f hb | have hb1 := eq_b hb | have hb1 := ne_b hb | have hb1 := bne_t hb | have hb1 := bne_f hb | skip); (try (exfalso; first | contradiction | omega)))))
        all_goals (refine ret_eq (by first | exact .inl rfl | exact .inr rfl) (by first | rfl | assumption) (by (repeat (first | exact List.Sublist.refl _ | apply List.Sublist.cons))) ?_; (try simp (disch := omega) only [push_cast, Nat.reduceEqDiff, reduceCtorEq, ↓reduceIte, Nat.reduceAdd, Nat.reduceMul, Nat.reduceSub, Nat.reduceLT, Nat.reduceLeDiff, Int.reduceToNat, Int.reduceLT, Int.reduceLE, Int.reduceAdd, Int.reduceSub, Int.reduceMul, Int.reduceBEq, Int.reduceBNe, encB, encI, V.cells_mk, V.cells_take, V.cells_len, *]); try (first | exact LE.refl _ | exact LE.sl _ _ | (refine LE.tup ?_; (repeat' (first | exact LEL.nil | refine LEL.cons ?_ ?_ | exact LE.refl _ | exact LE.sl _ _ | refine LE.agg ?_)); done) | (refine LE.agg ?_; (repeat' (first | exact LEL.nil | refine LEL.cons ?_ ?_ | exact LE.refl _ | exact LE.sl _ _)); done) | refine LE.of_eq ?_))
end Go.Proofs.Ytooaagmhgakhgaa
end

section
namespace Go.Proofs.Ytooaagmhgakhgaa
set_option linter.unusedSimpArgs false
open Go.RowKit
set_option maxRecDepth 10000
open V in
theorem valDeepF : ∀ (N : Nat) (v : V), v.nodes ≤ N → v.nodes ≤ 4611686018427387904 → ∀ st, TrF Try.prog 65 [.agg v.cells] st fun x st' => x = .i v.deep ∧ st' = st
  | 0, v, h, _ => by have := v.nodes_pos; omega
  | N + 1, .mk k n0 s l, hN, hB => by
    intro st
    have IH := fun x (hx : x ∈ l) => valDeepF N x (by have := nodes_lt (k := k) (n := n0) (s := s) hx; omega) (by have := nodes_lt (k := k) (n := n0) (s := s) hx; omega)
    have hll := nodesL_len l
    have hdl := deepL_le l
    rw [nodes] at hN hB
    have HD := Lib.hid (accI_deep' k n0 s l)
    generalize (V.mk k n0 s l).deep = dd at *
    rw [V.cells_mk]
    clear hN
    refine trF_enter (ts := [2]) Try.func65 rfl (by rw [Try.ntmps65]; exact Nat.le_of_ble_eq_true rfl) (fun tmps w => by simp [results, Try.results65, go_sem, resVal]) ?_
    simp only [Try.ntmps65]
    have IH := Lib.hid IH
    repeat' (first | with_reducible refine Go1.go ?_ | ((with_reducible apply ev_go); (focus (try simp (disch := omega) only [push_cast, Nat.reduceEqDiff, reduceCtorEq, ↓reduceIte, Nat.reduceAdd, Nat.reduceMul, Nat.reduceSub, Nat.reduceLT, Nat.reduceLeDiff, Int.reduceToNat, Int.reduceLT, Int.reduceLE, Int.reduceAdd, Int.reduceSub, Int.reduceMul, Int.reduceBEq, Int.reduceBNe, encB, encI, V.cells_mk, V.cells_take, V.cells_len, *]); (try exact rfl); done)) | ((with_reducible refine w_last ?_ ?_ ?_); (focus kernel_rfl); (focus rfl)) | ((with_reducible apply w_stepG); (focus rfl)) | ((with_reducible apply lk_mem); (focus ((repeat (first | exact mm_h | apply mm_t)); done))) | with_reducible refine Go2.go ?_ | ((with_reducible apply sto_go); (focus (intro cs'; repeat (first | exact ra_h | apply ra_t)))) | ((with_reducible refine al_go ?_); intro b) | ((with_reducible refine And.intro ?_ ?_); (focus ((repeat (first | exact keep_none | exact keep_nil | exact keep_ro | refine keep_cons ?_)); done))) | ((with_reducible refine s_bi ?_ ?_); (focus rfl)) | with_reducible refine blk_ne rfl ?_ | ((with_reducible refine w_region ?_ ?_); (focus kernel_rfl)) | ((with_reducible refine w_draw [] ?_ ?_ ?_ ?_ ?_); (iterate 3 (focus kernel_rfl)); (focus exact keeps_nil)) | ((with_reducible first | refine gd_d1 ?_ ?_ | refine gd_d0 ?_ ?_); all_goals (intro hb; (first | with_reducible replace hb := nt_t hb | with_reducible replace hb := nt_f hb | skip); (first | replace hb := dc_t hb | replace hb := dc_f hb | have hb1 := eq_b hb | have hb1 := ne_b hb | have hb1 := bne_t hb | have hb1 := bne_f hb | skip); (try (exfalso; first | contradiction | omega)))))
    refine tr_loopd (ι := Nat × Int) (fun i A st' => i.1 ≤ l.length ∧ 0 ≤ i.2 ∧ i.2 ≤ nodesL l ∧ Hid (accI i.2 (l.drop i.1) = accI 0 l) ∧ A.df = [] ∧ A.e 1 = .ip [.i k, .i n0, .str s, .sl .shared (l.map V.cells)] ∧ A.e 3 = .i i.2 ∧ A.e 7 = .sl .shared (l.map V.cells) ∧ A.e 8 = .i l.length ∧ A.e 9 = .i i.1 ∧ st' = st) (fun i => l.length - i.1) (0, 0) ⟨Nat.zero_le _, Int.le_refl _, by dsimp only; omega, rfl, ?_, ?_, ?_, ?_, ?_, ?_, rfl⟩ ?_
    iterate 6 (focus (first | rfl | assumption | omega | (simp (disch := omega) only [push_cast, Nat.reduceEqDiff, reduceCtorEq, ↓reduceIte, Nat.reduceAdd, Nat.reduceMul, Nat.reduceSub, Nat.reduceLT, Nat.reduceLeDiff, Int.reduceToNat, Int.reduceLT, Int.reduceLE, Int.reduceAdd, Int.reduceSub, Int.reduceMul, Int.reduceBEq, Int.reduceBNe, encB, encI, V.cells_mk, V.cells_take, V.cells_len, *]; try omega; done)))
    rintro ⟨i, m⟩ A st' ⟨hi, hm0, hmn, HT, hdf, h1', h3', h7', h8', h9', rfl⟩
    dsimp only at hi hm0 hmn HT h3' h9' ⊢
    by_cases hlt : i < l.length
    · obtain ⟨x, hx⟩ : ∃ x, l[i]? = some x := ⟨_, List.getElem?_eq_getElem hlt⟩
      have ih := fun st => IH.out x (mem_of hx) st
      have hdx := deep_le x
      have hnx := nodesL_mem (mem_of hx)
      have HE := HT.out
      rw [drop_cons hx, accI] at HE
      have HE := Lib.hid HE
      clear IH HT HD
      cases x with
      | mk k1 n1 s1 l1 =>
        simp only [V.cells_mk] at ih
        generalize (V.mk k1 n1 s1 l1).deep = dx at *
        repeat' (first | with_reducible refine Go1.go ?_ | ((with_reducible apply ev_go); (focus (try simp (disch := omega) only [push_cast, Nat.reduceEqDiff, reduceCtorEq, ↓reduceIte, Nat.reduceAdd, Nat.reduceMul, Nat.reduceSub, Nat.reduceLT, Nat.reduceLeDiff, Int.reduceToNat, Int.reduceLT, Int.reduceLE, Int.reduceAdd, Int.reduceSub, Int.reduceMul, Int.reduceBEq, Int.reduceBNe, encB, encI, V.cells_mk, V.cells_take, V.cells_len, *]); (try exact rfl); done)) | ((with_reducible refine w_last ?_ ?_ ?_); (focus kernel_rfl); (focus rfl)) | ((with_reducible apply w_stepG); (focus rfl)) | ((with_reducible apply lk_mem); (focus ((repeat (first | exact mm_h | apply mm_t)); done))) | with_reducible refine Go2.go ?_ | ((with_reducible apply sto_go); (focus (intro cs'; repeat (first | exact ra_h | apply ra_t)))) | ((with_reducible refine al_go ?_); intro b) | ((with_reducible refine And.intro ?_ ?_); (focus ((repeat (first | exact keep_none | exact keep_nil | exact keep_ro | refine keep_cons ?_)); done))) | ((with_reducible apply (ck_le Try.call65)); (focus exact LEL.refl _); (focus exact ih _)) | ((with_reducible refine s_bi ?_ ?_); (focus rfl)) | with_reducible refine blk_ne rfl ?_ | ((with_reducible refine w_region ?_ ?_); (focus kernel_rfl)) | ((with_reducible refine w_draw [] ?_ ?_ ?_ ?_ ?_); (iterate 3 (focus kernel_rfl)); (focus exact keeps_nil)) | ((with_reducible first | refine gd_d1 ?_ ?_ | refine gd_d0 ?_ ?_); all_goals (intro hb; (first | with_reducible replace hb := nt_t hb | with_reducible replace hb := nt_f hb | skip); (first | replace hb := dc_t hb | replace hb := dc_f hb | have hb1 := eq_b hb | have hb1 := ne_b hb | have hb1 := bne_t hb | have hb1 := bne_f hb | skip); (try (exfalso; first | contradiction | omega)))))
        refine ⟨(i + 1, if (dx : Int) > m then dx else m), _, List.sublist_cons_self _ _, ⟨hlt, ?_, ?_, HE, ?_, ?_, ?_, ?_, ?_, ?_, rfl⟩, ?_⟩
        · dsimp only; split <;> omega
        · dsimp only; split <;> omega
        all_goals (first | rfl | assumption | omega | (simp (disch := omega) only [push_cast, Nat.reduceEqDiff, reduceCtorEq, ↓reduceIte, Nat.reduceAdd, Nat.reduceMul, Nat.reduceSub, Nat.reduceLT, Nat.reduceLeDiff, Int.reduceToNat, Int.reduceLT, Int.reduceLE, Int.reduceAdd, Int.reduceSub, Int.reduceMul, Int.reduceBEq, Int.reduceBNe, encB, encI, V.cells_mk, V.cells_take, V.cells_len, *]; try omega; done))
    · have he := HT.out
      rw [List.drop_eq_nil_of_le (by omega), accI] at he
      have hd := HD.out
      rw [← he] at hd
      clear IH HT HD he
      by_cases hk : k = 5 ∨ 0 < l.length
      · rw [if_pos hk] at hd
        rw [← hd]
        clear hd
        rcases hk with hk | hk
        · have hkb : (k == 5) = true := by rw [hk]; rfl
          clear hk
          repeat' (first | with_reducible refine Go1.go ?_ | ((with_reducible apply ev_go); (focus (try simp (disch := omega) only [push_cast, Nat.reduceEqDiff, reduceCtorEq, ↓reduceIte, Nat.reduceAdd, Nat.reduceMul, Nat.reduceSub, Nat.reduceLT, Nat.reduceLeDiff, Int.reduceToNat, Int.reduceLT, Int.reduceLE, Int.reduceAdd, Int.reduceSub, Int.reduceMul, Int.reduceBEq, Int.reduceBNe, encB, encI, V.cells_mk, V.cells_take, V.cells_len, *]); (try exact rfl); done)) | ((with_reducible refine w_last ?_ ?_ ?_); (focus kernel_rfl); (focus rfl)) | ((with_reducible apply w_stepG); (focus rfl)) | ((with_reducible apply lk_mem); (focus ((repeat (first | exact mm_h | apply mm_t)); done))) | with_reducible refine Go2.go ?_ | ((with_reducible apply sto_go); (focus (intro cs'; repeat (first | exact ra_h | apply ra_t)))) | ((with_reducible refine al_go ?_); intro b) | ((with_reducible refine And.intro ?_ ?_); (focus ((repeat (first | exact keep_none | exact keep_nil | exact keep_ro | refine keep_cons ?_)); done))) | ((with_reducible refine s_bi ?_ ?_); (focus rfl)) | with_reducible refine blk_ne rfl ?_ | ((with_reducible refine w_region ?_ ?_); (focus kernel_rfl)) | ((with_reducible refine w_draw [] ?_ ?_ ?_ ?_ ?_); (iterate 3 (focus kernel_rfl)); (focus exact keeps_nil)) | ((with_reducible first | refine gd_d1 ?_ ?_ | refine gd_d0 ?_ ?_); all_goals (intro hb; (first | with_reducible replace hb := nt_t hb | with_reducible replace hb := nt_f hb | skip); (first | replace hb := dc_t hb | replace hb := dc_f hb | have hb1 := eq_b hb | have hb1 := ne_b hb | have hb1 := bne_t hb | have hb1 := bne_f hb | skip); (try (exfalso; first | contradiction | omega)))))
          all_goals (refine ret_eq (by first | exact .inl rfl | exact .inr rfl) (by first | rfl | assumption) (by (repeat (first | exact List.Sublist.refl _ | apply List.Sublist.cons))) ?_; (try simp (disch := omega) only [push_cast, Nat.reduceEqDiff, reduceCtorEq, ↓reduceIte, Nat.reduceAdd, Nat.reduceMul, Nat.reduceSub, Nat.reduceLT, Nat.reduceLeDiff, Int.reduceToNat, Int.reduceLT, Int.reduceLE, Int.reduceAdd, Int.reduceSub, Int.reduceMul, Int.reduceBEq, Int.reduceBNe, encB, encI, V.cells_mk, V.cells_take, V.cells_len, *]); try (first | exact LE.refl _ | exact LE.sl _ _ | (refine LE.tup ?_; (repeat' (first | exact LEL.nil | refine LEL.cons ?_ ?_ | exact LE.refl _ | exact LE.sl _ _ | refine LE.agg ?_)); done) | (refine LE.agg ?_; (repeat' (first | exact LEL.nil | refine LEL.cons ?_ ?_ | exact LE.refl _ | exact LE.sl _ _)); done) | refine LE.of_eq ?_))
        · have hk : (0 : Int) < l.length := by omega
          by_cases hk5 : k = 5
          · have hkb : (k == 5) = true := by rw [hk5]; rfl
            clear hk5
            repeat' (first | with_reducible refine Go1.go ?_ | ((with_reducible apply ev_go); (focus (try simp (disch := omega) only [push_cast, Nat.reduceEqDiff, reduceCtorEq, ↓reduceIte, Nat.reduceAdd, Nat.reduceMul, Nat.reduceSub, Nat.reduceLT, Nat.reduceLeDiff, Int.reduceToNat, Int.reduceLT, Int.reduceLE, Int.reduceAdd, Int.reduceSub, Int.reduceMul, Int.reduceBEq, Int.reduceBNe, encB, encI, V.cells_mk, V.cells_take, V.cells_len, *]); (try exact rfl); done)) | ((with_reducible refine w_last ?_ ?_ ?_); (focus kernel_rfl); (focus rfl)) | ((with_reducible apply w_stepG); (focus rfl)) | ((with_reducible apply lk_mem); (focus ((repeat (first | exact mm_h | apply mm_t)); done))) | with_reducible refine Go2.go ?_ | ((with_reducible apply sto_go); (focus (intro cs'; repeat (first | exact ra_h | apply ra_t)))) | ((with_reducible refine al_go ?_); intro b) | ((with_reducible refine And.intro ?_ ?_); (focus ((repeat (first | exact keep_none | exact keep_nil | exact keep_ro | refine keep_cons ?_)); done))) | ((with_reducible refine s_bi ?_ ?_); (focus rfl)) | with_reducible refine blk_ne rfl ?_ | ((with_reducible refine w_region ?_ ?_); (focus kernel_rfl)) | ((with_reducible refine w_draw [] ?_ ?_ ?_ ?_ ?_); (iterate 3 (focus kernel_rfl)); (focus exact keeps_nil)) | ((with_reducible first | refine gd_d1 ?_ ?_ | refine gd_d0 ?_ ?_); all_goals (intro hb; (first | with_reducible replace hb := nt_t hb | with_reducible replace hb := nt_f hb | skip); (first | replace hb := dc_t hb | replace hb := dc_f hb | have hb1 := eq_b hb | have hb1 := ne_b hb | have hb1 := bne_t hb | have hb1 := bne_f hb | skip); (try (exfalso; first | contradiction | omega)))))
            all_goals (refine ret_eq (by first | exact .inl rfl | exact .inr rfl) (by first | rfl | assumption) (by (repeat (first | exact List.Sublist.refl _ | apply List.Sublist.cons))) ?_; (try simp (disch := omega) only [push_cast, Nat.reduceEqDiff, reduceCtorEq, ↓reduceIte, Nat.reduceAdd, Nat.reduceMul, Nat.reduceSub, Nat.reduceLT, Nat.reduceLeDiff, Int.reduceToNat, Int.reduceLT, Int.reduceLE, Int.reduceAdd, Int.reduceSub, Int.reduceMul, Int.reduceBEq, Int.reduceBNe, encB, encI, V.cells_mk, V.cells_take, V.cells_len, *]); try (first | exact LE.refl _ | exact LE.sl _ _ | (refine LE.tup ?_; (repeat' (first | exact LEL.nil | refine LEL.cons ?_ ?_ | exact LE.refl _ | exact LE.sl _ _ | refine LE.agg ?_)); done) | (refine LE.agg ?_; (repeat' (first | exact LEL.nil | refine LEL.cons ?_ ?_ | exact LE.refl _ | exact LE.sl _ _)); done) | refine LE.of_eq ?_))
          · have hkb : (k == 5) = false := by rw [beq_eq_false_iff_ne]; exact hk5
            clear hk5
            repeat' (first | with_reducible refine Go1.go ?_ | ((with_reducible apply ev_go); (focus (try simp (disch := omega) only [push_cast, Nat.reduceEqDiff, reduceCtorEq, ↓reduceIte, Nat.reduceAdd, Nat.reduceMul, Nat.reduceSub, Nat.reduceLT, Nat.reduceLeDiff, Int.reduceToNat, Int.reduceLT, Int.reduceLE, Int.reduceAdd, Int.reduceSub, Int.reduceMul, Int.reduceBEq, Int.reduceBNe, encB, encI, V.cells_mk, V.cells_take, V.cells_len, *]); (try exact rfl); done)) | ((with_reducible refine w_last ?_ ?_ ?_); (focus kernel_rfl); (focus rfl)) | ((with_reducible apply w_stepG); (focus rfl)) | ((with_reducible apply lk_mem); (focus ((repeat (first | exact mm_h | apply mm_t)); done))) | with_reducible refine Go2.go ?_ | ((with_reducible apply sto_go); (focus (intro cs'; repeat (first | exact ra_h | apply ra_t)))) | ((with_reducible refine al_go ?_); intro b) | ((with_reducible refine And.intro ?_ ?_); (focus ((repeat (first | exact keep_none | exact keep_nil | exact keep_ro | refine keep_cons ?_)); done))) | ((with_reducible refine s_bi ?_ ?_); (focus rfl)) | with_reducible refine blk_ne rfl ?_ | ((with_reducible refine w_region ?_ ?_); (focus kernel_rfl)) | ((with_reducible refine w_draw [] ?_ ?_ ?_ ?_ ?_); (iterate 3 (focus kernel_rfl)); (focus exact keeps_nil)) | ((with_reducible first | refine gd_d1 ?_ ?_ | refine gd_d0 ?_ ?_); all_goals (intro hb; (first | with_reducible replace hb := nt_t hb | with_reducible replace hb := nt_f hb | skip); (first | replace hb := dc_t hb | replace hb := dc_f hb | have hb1 := eq_b hb | have hb1 := ne_b hb | have hb1 := bne_t hb | have hb1 := bne_f hb | skip); (try (exfalso; first | contradiction | omega)))))
            all_goals (refine ret_eq (by first | exact .inl rfl | exact .inr rfl) (by first | rfl | assumption) (by (repeat (first | exact List.Sublist.refl _ | apply List.Sublist.cons))) ?_; (try simp (disch := omega) only [push_cast, Nat.reduceEqDiff, reduceCtorEq, ↓reduceIte, Nat.reduceAdd, Nat.reduceMul, Nat.reduceSub, Nat.reduceLT, Nat.reduceLeDiff, Int.reduceToNat, Int.reduceLT, Int.reduceLE, Int.reduceAdd, Int.reduceSub, Int.reduceMul, Int.reduceBEq, Int.reduceBNe, encB, encI, V.cells_mk, V.cells_take, V.cells_len, *]); try (first | exact LE.refl _ | exact LE.sl _ _ | (refine LE.tup ?_; (repeat' (first | exact LEL.nil | refine LEL.cons ?_ ?_ | exact LE.refl _ | exact LE.sl _ _ | refine LE.agg ?_)); done) | (refine LE.agg ?_; (repeat' (first | exact LEL.nil | refine LEL.cons ?_ ?_ | exact LE.refl _ | exact LE.sl _ _)); done) | refine LE.of_eq ?_))
      · rw [if_neg hk] at hd
        rw [← hd]
        have hkb : (k == 5) = false := by rw [beq_eq_false_iff_ne]; intro h; exact hk (.inl h)
        have hl0 : ¬ (0 : Int) < l.length := fun h => hk (.inr (by omega))
        clear hk hd
        repeat' (first | with_reducible refine Go1.go ?_ | ((with_reducible apply ev_go); (focus (try simp (disch := omega) only [push_cast, Nat.reduceEqDiff, reduceCtorEq, ↓reduceIte, Nat.reduceAdd, Nat.reduceMul, Nat.reduceSub, Nat.reduceLT, Nat.reduceLeDiff, Int.reduceToNat, Int.reduceLT, Int.reduceLE, Int.reduceAdd, Int.reduceSub, Int.reduceMul, Int.reduceBEq, Int.reduceBNe, encB, encI, V.cells_mk, V.cells_take, V.cells_len, *]); (try exact rfl); done)) | ((with_reducible refine w_last ?_ ?_ ?_); (focus kernel_rfl); (focus rfl)) | ((with_reducible apply w_stepG); (focus rfl)) | ((with_reducible apply lk_mem); (focus ((repeat (first | exact mm_h | apply mm_t)); done))) | with_reducible refine Go2.go ?_ | ((with_reducible apply sto_go); (focus (intro cs'; repeat (first | exact ra_h | apply ra_t)))) | ((with_reducible refine al_go ?_); intro b) | ((with_reducible refine And.intro ?_ ?_); (focus ((repeat (first | exact keep_none | exact keep_nil | exact keep_ro | refine keep_cons ?_)); done))) | ((with_reducible refine s_bi ?_ ?_); (focus rfl)) | with_reducible refine blk_ne rfl ?_ | ((with_reducible refine w_region ?_ ?_); (focus kernel_rfl)) | ((with_reducible refine w_draw [] ?_ ?_ ?_ ?_ ?_); (iterate 3 (focus kernel_rfl)); (focus exact keeps_nil)) | ((with_reducible first | refine gd_d1 ?_ ?_ | refine gd_d0 ?_ ?_); all_goals (intro hb; (first | with_reducible replace hb := nt_t hb | with_reducible replace hb := nt_f hb | skip); (first | replace hb := dc_t hb | replace hb := dc_f hb | have hb1 := eq_b hb | have hb1 := ne_b hb | have hb1 := bne_t hb | have hb1 := bne_f hb | skip); (try (exfalso; first | contradiction | omega)))))
        all_goals (refine ret_eq (by first | exact .inl rfl | exact .inr rfl) (by first | rfl | assumption) (by (repeat (first | exact List.Sublist.refl _ | apply List.Sublist.cons))) ?_; (try simp (disch := omega) only [push_cast, Nat.reduceEqDiff, reduceCtorEq, ↓reduceIte, Nat.reduceAdd, Nat.reduceMul, Nat.reduceSub, Nat.reduceLT, Nat.reduceLeDiff, Int.reduceToNat, Int.reduceLT, Int.reduceLE, Int.reduceAdd, Int.reduceSub, Int.reduceMul, Int.reduceBEq, Int.reduceBNe, encB, encI, V.cells_mk, V.cells_take, V.cells_len, *]); try (first | exact LE.refl _ | exact LE.sl _ _ | (refine LE.tup ?_; (repeat' (first | exact LEL.nil | refine LEL.cons ?_ ?_ | exact LE.refl _ | exact LE.sl _ _ | refine LE.agg ?_)); done) | (refine LE.agg ?_; (repeat' (first | exact LEL.nil | refine LEL.cons ?_ ?_ | exact LE.refl _ | exact LE.sl _ _)); done) | refine LE.of_eq ?_))
open V in
theorem valNodesF : ∀ (N : Nat) (v : V), v.nodes ≤ N → v.nodes ≤ 4611686018427387904 → ∀ st, TrF Try.prog 66 [.agg v.cells] st fun x st' => x = .i v.nodes ∧ st' = st
  | 0, v, h, _ => by have := v.nodes_pos; omega
  | N + 1, .mk k n0 s l, hN, hB => by
    intro st
    have IH := Lib.hid fun x (hx : x ∈ l) => valNodesF N x (by have := nodes_lt (k := k) (n := n0) (s := s) hx; omega) (by have := nodes_lt (k := k) (n := n0) (s := s) hx; omega)
    have hll := nodesL_len l
    rw [nodes] at hN hB
    rw [V.cells_mk, show (V.mk k n0 s l).nodes = 1 + nodesL l from nodes.eq_1 ..]
    clear hN
    obtain ⟨T, hT⟩ : ∃ T, nodesL l = T := ⟨_, rfl⟩
    rw [hT] at hll hB ⊢
    have HT0 := Lib.hid hT
    clear hT
    refine trF_enter (ts := [2]) Try.func66 rfl (by rw [Try.ntmps66]; exact Nat.le_of_ble_eq_true rfl) (fun tmps w => by simp [results, Try.results66, go_sem, resVal]) ?_
    simp only [Try.ntmps66]
    repeat' (first | with_reducible refine Go1.go ?_ | ((with_reducible apply ev_go); (focus (try simp (disch := omega) only [push_cast, Nat.reduceEqDiff, reduceCtorEq, ↓reduceIte, Nat.reduceAdd, Nat.reduceMul, Nat.reduceSub, Nat.reduceLT, Nat.reduceLeDiff, Int.reduceToNat, Int.reduceLT, Int.reduceLE, Int.reduceAdd, Int.reduceSub, Int.reduceMul, Int.reduceBEq, Int.reduceBNe, encB, encI, V.cells_mk, V.cells_take, V.cells_len, *]); (try exact rfl); done)) | ((with_reducible refine w_last ?_ ?_ ?_); (focus kernel_rfl); (focus rfl)) | ((with_reducible apply w_stepG); (focus rfl)) | ((with_reducible apply lk_mem); (focus ((repeat (first | exact mm_h | apply mm_t)); done))) | with_reducible refine Go2.go ?_ | ((with_reducible apply sto_go); (focus (intro cs'; repeat (first | exact ra_h | apply ra_t)))) | ((with_reducible refine al_go ?_); intro b) | ((with_reducible refine And.intro ?_ ?_); (focus ((repeat (first | exact keep_none | exact keep_nil | exact keep_ro | refine keep_cons ?_)); done))) | ((with_reducible refine s_bi ?_ ?_); (focus rfl)) | with_reducible refine blk_ne rfl ?_ | ((with_reducible refine w_region ?_ ?_); (focus kernel_rfl)) | ((with_reducible refine w_draw [] ?_ ?_ ?_ ?_ ?_); (iterate 3 (focus kernel_rfl)); (focus exact keeps_nil)) | ((with_reducible first | refine gd_d1 ?_ ?_ | refine gd_d0 ?_ ?_); all_goals (intro hb; (first | with_reducible replace hb := nt_t hb | with_reducible replace hb := nt_f hb | skip); (first | replace hb := dc_t hb | replace hb := dc_f hb | have hb1 := eq_b hb | have hb1 := ne_b hb | have hb1 := bne_t hb | have hb1 := bne_f hb | skip); (try (exfalso; first | contradiction | omega)))))
    refine tr_loopd (ι := Nat × Nat) (fun i A st' => i.1 ≤ l.length ∧ Hid (i.2 + nodesL (l.drop i.1) = 1 + T) ∧ i.2 ≤ 1 + T ∧ A.df = [] ∧ A.e 1 = .ip [.i k, .i n0, .str s, .sl .shared (l.map V.cells)] ∧ A.e 3 = .i i.2 ∧ A.e 7 = .sl .shared (l.map V.cells) ∧ A.e 8 = .i l.length ∧ A.e 9 = .i i.1 ∧ st' = st) (fun i => l.length - i.1) (0, 1) ⟨Nat.zero_le _, by show 1 + nodesL l = 1 + T; rw [HT0.out], by dsimp only; omega, ?_, ?_, ?_, ?_, ?_, ?_, rfl⟩ ?_
    iterate 6 (focus (first | rfl | assumption | omega | (simp (disch := omega) only [push_cast, Nat.reduceEqDiff, reduceCtorEq, ↓reduceIte, Nat.reduceAdd, Nat.reduceMul, Nat.reduceSub, Nat.reduceLT, Nat.reduceLeDiff, Int.reduceToNat, Int.reduceLT, Int.reduceLE, Int.reduceAdd, Int.reduceSub, Int.reduceMul, Int.reduceBEq, Int.reduceBNe, encB, encI, V.cells_mk, V.cells_take, V.cells_len, *]; try omega; done)))
    rintro ⟨i, m⟩ A st' ⟨hi, HT, hm0, hdf, h1', h3', h7', h8', h9', rfl⟩
    dsimp only at hi HT h3' h9' hm0 ⊢
    by_cases hlt : i < l.length
    · obtain ⟨x, hx⟩ : ∃ x, l[i]? = some x := ⟨_, List.getElem?_eq_getElem hlt⟩
      have ih := fun st => IH.out x (mem_of hx) st
      have HE := HT.out
      rw [drop_cons hx, nodesL, ← Nat.add_assoc] at HE
      have hle : m + x.nodes ≤ 1 + T := by omega
      have HE := Lib.hid HE
      clear IH HT
      cases x with
      | mk k1 n1 s1 l1 =>
        simp only [V.cells_mk] at ih
        generalize (V.mk k1 n1 s1 l1).nodes = dx at *
        repeat' (first | with_reducible refine Go1.go ?_ | ((with_reducible apply ev_go); (focus (try simp (disch := omega) only [push_cast, Nat.reduceEqDiff, reduceCtorEq, ↓reduceIte, Nat.reduceAdd, Nat.reduceMul, Nat.reduceSub, Nat.reduceLT, Nat.reduceLeDiff, Int.reduceToNat, Int.reduceLT, Int.reduceLE, Int.reduceAdd, Int.reduceSub, Int.reduceMul, Int.reduceBEq, Int.reduceBNe, encB, encI, V.cells_mk, V.cells_take, V.cells_len, *]); (try exact rfl); done)) | ((with_reducible refine w_last ?_ ?_ ?_); (focus kernel_rfl); (focus rfl)) | ((with_reducible apply w_stepG); (focus rfl)) | ((with_reducible apply lk_mem); (focus ((repeat (first | exact mm_h | apply mm_t)); done))) | with_reducible refine Go2.go ?_ | ((with_reducible apply sto_go); (focus (intro cs'; repeat (first | exact ra_h | apply ra_t)))) | ((with_reducible refine al_go ?_); intro b) | ((with_reducible refine And.intro ?_ ?_); (focus ((repeat (first | exact keep_none | exact keep_nil | exact keep_ro | refine keep_cons ?_)); done))) | ((with_reducible apply (ck_le Try.call66)); (focus exact LEL.refl _); (focus exact ih _)) | ((with_reducible refine s_bi ?_ ?_); (focus rfl)) | with_reducible refine blk_ne rfl ?_ | ((with_reducible refine w_region ?_ ?_); (focus kernel_rfl)) | ((with_reducible refine w_draw [] ?_ ?_ ?_ ?_ ?_); (iterate 3 (focus kernel_rfl)); (focus exact keeps_nil)) | ((with_reducible first | refine gd_d1 ?_ ?_ | refine gd_d0 ?_ ?_); all_goals (intro hb; (first | with_reducible replace hb := nt_t hb | with_reducible replace hb := nt_f hb | skip); (first | replace hb := dc_t hb | replace hb := dc_f hb | have hb1 := eq_b hb | have hb1 := ne_b hb | have hb1 := bne_t hb | have hb1 := bne_f hb | skip); (try (exfalso; first | contradiction | omega)))))
        refine ⟨(i + 1, m + dx), _, List.sublist_cons_self _ _, ⟨hlt, HE, hle, ?_, ?_, ?_, ?_, ?_, ?_, rfl⟩, ?_⟩
        all_goals (first | rfl | assumption | omega | (simp (disch := omega) only [push_cast, Nat.reduceEqDiff, reduceCtorEq, ↓reduceIte, Nat.reduceAdd, Nat.reduceMul, Nat.reduceSub, Nat.reduceLT, Nat.reduceLeDiff, Int.reduceToNat, Int.reduceLT, Int.reduceLE, Int.reduceAdd, Int.reduceSub, Int.reduceMul, Int.reduceBEq, Int.reduceBNe, encB, encI, V.cells_mk, V.cells_take, V.cells_len, *]; try omega; done))
    · have he := HT.out
      rw [List.drop_eq_nil_of_le (by omega), nodesL, Nat.add_zero] at he
      rw [← he]
      clear IH HT HT0 he
      repeat' (first | with_reducible refine Go1.go ?_ | ((with_reducible apply ev_go); (focus (try simp (disch := omega) only [push_cast, Nat.reduceEqDiff, reduceCtorEq, ↓reduceIte, Nat.reduceAdd, Nat.reduceMul, Nat.reduceSub, Nat.reduceLT, Nat.reduceLeDiff, Int.reduceToNat, Int.reduceLT, Int.reduceLE, Int.reduceAdd, Int.reduceSub, Int.reduceMul, Int.reduceBEq, Int.reduceBNe, encB, encI, V.cells_mk, V.cells_take, V.cells_len, *]); (try exact rfl); done)) | ((with_reducible refine w_last ?_ ?_ ?_); (focus kernel_rfl); (focus rfl)) | ((with_reducible apply w_stepG); (focus rfl)) | ((with_reducible apply lk_mem); (focus ((repeat (first | exact mm_h | apply mm_t)); done))) | with_reducible refine Go2.go ?_ | ((with_reducible apply sto_go); (focus (intro cs'; repeat (first | exact ra_h | apply ra_t)))) | ((with_reducible refine al_go ?_); intro b) | ((with_reducible refine And.intro ?_ ?_); (focus ((repeat (first | exact keep_none | exact keep_nil | exact keep_ro | refine keep_cons ?_)); done))) | ((with_reducible refine s_bi ?_ ?_); (focus rfl)) | with_reducible refine blk_ne rfl ?_ | ((with_reducible refine w_region ?_ ?_); (focus kernel_rfl)) | ((with_reducible refine w_draw [] ?_ ?_ ?_ ?_ ?_); (iterate 3 (focus kernel_rfl)); (focus exact keeps_nil)) | ((with_reducible first | refine gd_d1 ?_ ?_ | refine gd_d0 ?_ ?_); all_goals (intro hb; (first | with_reducible replace hb := nt_t hb | with_reducible replace hb := nt_f hb | skip); (first | replace hb := dc_t hb | replace hb := dc_f hb | have hb1 := eq_b hb | have hb1 := ne_b hb | have hb1 := bne_t hb | have hb1 := bne_f hb | skip); (try (exfalso; first | contradiction | omega)))))
      all_goals (refine ret_eq (by first | exact .inl rfl | exact .inr rfl) (by first | rfl | assumption) (by (repeat (first | exact List.Sublist.refl _ | apply List.Sublist.cons))) ?_; (try simp (disch := omega) only [push_cast, Nat.reduceEqDiff, reduceCtorEq, ↓reduceIte, Nat.reduceAdd, Nat.reduceMul, Nat.reduceSub, Nat.reduceLT, Nat.reduceLeDiff, Int.reduceToNat, Int.reduceLT, Int.reduceLE, Int.reduceAdd, Int.reduceSub, Int.reduceMul, Int.reduceBEq, Int.reduceBNe, encB, encI, V.cells_mk, V.cells_take, V.cells_len, *]); try (first | exact LE.refl _ | exact LE.sl _ _ | (refine LE.tup ?_; (repeat' (first | exact LEL.nil | refine LEL.cons ?_ ?_ | exact LE.refl _ | exact LE.sl _ _ | refine LE.agg ?_)); done) | (refine LE.agg ?_; (repeat' (first | exact LEL.nil | refine LEL.cons ?_ ?_ | exact LE.refl _ | exact LE.sl _ _)); done) | refine LE.of_eq ?_))
end Go.Proofs.Ytooaagmhgakhgaa
end

section
namespace Go.Proofs.Ytooaagmhgakhgaa
set_option linter.unusedSimpArgs false
open Go.RowKit
set_option maxRecDepth 10000
set_option maxHeartbeats 4000000
namespace V
def isLetter (c : UInt8) : Bool := (decide (97 ≤ (c.toNat : Int)) && decide ((c.toNat : Int) ≤ 122)) || (decide (65 ≤ (c.toNat : Int)) && decide ((c.toNat : Int) ≤ 90))
def isOther (c : UInt8) : Bool := (decide (48 ≤ (c.toNat : Int)) && decide ((c.toNat : Int) ≤ 57)) || ((c.toNat : Int) == 95) || ((c.toNat : Int) == 45)
def nameFrom : Nat → List UInt8 → Bool
  | _, [] => true
  | i, c :: t => (isLetter c || (decide (i ≠ 0) && isOther c)) && nameFrom (i + 1) t
def isName (l : List UInt8) : Bool := decide (1 ≤ l.length) && decide (l.length ≤ 40) && nameFrom 0 l
end V
theorem letter_bits : ∀ n : Fin 256, (decide (97 ≤ bits .or .u8 (n : Int) 32) && decide (bits .or .u8 (n : Int) 32 ≤ 122)) = ((decide (97 ≤ (n : Int)) && decide ((n : Int) ≤ 122)) || (decide (65 ≤ (n : Int)) && decide ((n : Int) ≤ 90))) := by decide +kernel
theorem letter_eq (c : UInt8) : (decide (97 ≤ bits .or .u8 (c.toNat : Int) 32) && decide (bits .or .u8 (c.toNat : Int) 32 ≤ 122)) = V.isLetter c := letter_bits ⟨c.toNat, c.toNat_lt⟩
theorem valLetterF (c : UInt8) (st : St) : TrF Try.prog 101 [.y c] st fun x st' => x = .b (V.isLetter c) ∧ st' = st := by
  have h := letter_eq c
  generalize hq : bits .or .u8 (c.toNat : Int) 32 = q at *
  rw [← h]
  clear h
  refine trF_enter (ts := [2]) Try.func101 rfl (by rw [Try.ntmps101]; exact Nat.le_of_ble_eq_true rfl) (fun tmps w => by simp [results, Try.results101, go_sem, resVal]) ?_
  simp only [Try.ntmps101]
  repeat' (first | with_reducible refine Go1.go ?_ | ((with_reducible apply ev_go); (focus (try simp (disch := omega) only [push_cast, Nat.reduceEqDiff, reduceCtorEq, ↓reduceIte, Nat.reduceAdd, Nat.reduceMul, Nat.reduceSub, Nat.reduceLT, Nat.reduceLeDiff, Int.reduceToNat, Int.reduceLT, Int.reduceLE, Int.reduceAdd, Int.reduceSub, Int.reduceMul, Int.reduceBEq, Int.reduceBNe, encB, encI, V.cells_mk, V.cells_take, V.cells_len, isE_eq, *]); (try exact rfl); done)) | ((with_reducible refine w_last ?_ ?_ ?_); (focus kernel_rfl); (focus rfl)) | ((with_reducible apply w_stepG); (focus rfl)) | ((with_reducible apply lk_mem); (focus ((repeat (first | exact mm_h | apply mm_t)); done))) | with_reducible refine Go2.go ?_ | ((with_reducible apply sto_go); (focus (intro cs'; repeat (first | exact ra_h | apply ra_t)))) | ((with_reducible refine al_go ?_); intro b) | ((with_reducible refine And.intro ?_ ?_); (focus ((repeat (first | exact keep_none | exact keep_nil | exact keep_ro | refine keep_cons ?_)); done))) | ((with_reducible refine s_bi ?_ ?_); (focus rfl)) | with_reducible refine blk_ne rfl ?_ | ((with_reducible refine w_region ?_ ?_); (focus kernel_rfl)) | ((with_reducible refine w_draw [] ?_ ?_ ?_ ?_ ?_); (iterate 3 (focus kernel_rfl)); (focus exact keeps_nil)) | ((with_reducible first | refine gd_d1 ?_ ?_ | refine gd_d0 ?_ ?_); all_goals (intro hb; (first | with_reducible replace hb := nt_t hb | with_reducible replace hb := nt_f hb | skip); (first | replace hb := dc_t hb | replace hb := dc_f hb | have hb1 := eq_b hb | have hb1 := ne_b hb | have hb1 := bne_t hb | have hb1 := bne_f hb | skip); (try (exfalso; first | contradiction | omega)))))
  all_goals (refine ret_eq (by first | exact .inl rfl | exact .inr rfl) (by first | rfl | assumption) (by (repeat (first | exact List.Sublist.refl _ | apply List.Sublist.cons))) ?_; (try simp (disch := omega) only [push_cast, Nat.reduceEqDiff, reduceCtorEq, ↓reduceIte, Nat.reduceAdd, Nat.reduceMul, Nat.reduceSub, Nat.reduceLT, Nat.reduceLeDiff, Int.reduceToNat, Int.reduceLT, Int.reduceLE, Int.reduceAdd, Int.reduceSub, Int.reduceMul, Int.reduceBEq, Int.reduceBNe, encB, encI, V.cells_mk, V.cells_take, V.cells_len, isE_eq, *]); try (first | exact LE.refl _ | exact LE.sl _ _ | (refine LE.tup ?_; (repeat' (first | exact LEL.nil | refine LEL.cons ?_ ?_ | exact LE.refl _ | exact LE.sl _ _ | refine LE.agg ?_)); done) | (refine LE.agg ?_; (repeat' (first | exact LEL.nil | refine LEL.cons ?_ ?_ | exact LE.refl _ | exact LE.sl _ _)); done) | refine LE.of_eq ?_))
  all_goals (first | rfl | assumption | omega | (simp (disch := omega) only [push_cast, Nat.reduceEqDiff, reduceCtorEq, ↓reduceIte, Nat.reduceAdd, Nat.reduceMul, Nat.reduceSub, Nat.reduceLT, Nat.reduceLeDiff, Int.reduceToNat, Int.reduceLT, Int.reduceLE, Int.reduceAdd, Int.reduceSub, Int.reduceMul, Int.reduceBEq, Int.reduceBNe, encB, encI, V.cells_mk, V.cells_take, V.cells_len, isE_eq, *]; try omega; done))
namespace V
def nameC (c : UInt8) : Bool := isLetter c || isOther c
theorem nameFrom_pos : ∀ (l : List UInt8) (i : Nat), 0 < i → nameFrom i l = l.all nameC
  | [], i, _ => rfl
  | c :: t, i, h => by
    rw [nameFrom, nameFrom_pos t (i + 1) (by omega), List.all_cons, nameC, show decide (i ≠ 0) = true from decide_eq_true (by omega), Bool.true_and]
theorem isName_all {c : UInt8} {t : List UInt8} (h1 : (c :: t).length ≤ 40) (h2 : isLetter c = true) : isName (c :: t) = (c :: t).all nameC := by
  rw [isName, decide_eq_true h1, decide_eq_true (by simp), nameFrom, nameFrom_pos t 1 (by omega), List.all_cons, nameC, h2]; simp
theorem isName_not {c : UInt8} {t : List UInt8} (h2 : isLetter c = false) : isName (c :: t) = false := by
  rw [isName, nameFrom, h2]; simp
theorem nameC_yes {c : UInt8} (h : nameC c = true) (hl : isLetter c = false) : (48 ≤ (c.toNat : Int) ∧ (c.toNat : Int) ≤ 57) ∨ (c.toNat : Int) = 95 ∨ (c.toNat : Int) = 45 := by
  rw [nameC, hl, Bool.false_or, isOther] at h
  simp only [Bool.or_eq_true, Bool.and_eq_true, decide_eq_true_eq, beq_iff_eq] at h
  omega
theorem nameC_no {c : UInt8} (h : nameC c = false) : isLetter c = false ∧ ((c.toNat : Int) < 48 ∨ 57 < (c.toNat : Int)) ∧ (c.toNat : Int) ≠ 95 ∧ (c.toNat : Int) ≠ 45 := by
  rw [nameC, Bool.or_eq_false_iff, isOther] at h
  simp only [Bool.or_eq_false_iff, Bool.and_eq_false_iff, decide_eq_false_iff_not, beq_eq_false_iff_ne, ne_eq] at h
  exact ⟨h.1, by omega, by omega, by omega⟩
end V
open V in
theorem valIsNameF (s : ByteArray) (st : St) : TrF Try.prog 86 [.str s] st fun x st' => x = .b (V.isName s.data.toList) ∧ st' = st := by
  have hl : s.data.toList.length = s.size := by simp
  refine trF_enter (ts := [2]) Try.func86 rfl (by rw [Try.ntmps86]; exact Nat.le_of_ble_eq_true rfl) (fun tmps w => by simp [results, Try.results86, go_sem, resVal]) ?_
  simp only [Try.ntmps86]
  by_cases h0 : s.size = 0
  · have : s.data.toList = [] := List.eq_nil_of_length_eq_zero (by omega)
    rw [this]
    clear this
    repeat' (first | with_reducible refine Go1.go ?_ | ((with_reducible apply ev_go); (focus (try simp (disch := omega) only [push_cast, Nat.reduceEqDiff, reduceCtorEq, ↓reduceIte, Nat.reduceAdd, Nat.reduceMul, Nat.reduceSub, Nat.reduceLT, Nat.reduceLeDiff, Int.reduceToNat, Int.reduceLT, Int.reduceLE, Int.reduceAdd, Int.reduceSub, Int.reduceMul, Int.reduceBEq, Int.reduceBNe, encB, encI, V.cells_mk, V.cells_take, V.cells_len, isE_eq, *]); (try exact rfl); done)) | ((with_reducible refine w_last ?_ ?_ ?_); (focus kernel_rfl); (focus rfl)) | ((with_reducible apply w_stepG); (focus rfl)) | ((with_reducible apply lk_mem); (focus ((repeat (first | exact mm_h | apply mm_t)); done))) | with_reducible refine Go2.go ?_ | ((with_reducible apply sto_go); (focus (intro cs'; repeat (first | exact ra_h | apply ra_t)))) | ((with_reducible refine al_go ?_); intro b) | ((with_reducible refine And.intro ?_ ?_); (focus ((repeat (first | exact keep_none | exact keep_nil | exact keep_ro | refine keep_cons ?_)); done))) | ((with_reducible refine s_bi ?_ ?_); (focus rfl)) | with_reducible refine blk_ne rfl ?_ | ((with_reducible refine w_region ?_ ?_); (focus kernel_rfl)) | ((with_reducible refine w_draw [] ?_ ?_ ?_ ?_ ?_); (iterate 3 (focus kernel_rfl)); (focus exact keeps_nil)) | ((with_reducible first | refine gd_d1 ?_ ?_ | refine gd_d0 ?_ ?_); all_goals (intro hb; (first | with_reducible replace hb := nt_t hb | with_reducible replace hb := nt_f hb | skip); (first | replace hb := dc_t hb | replace hb := dc_f hb | have hb1 := eq_b hb | have hb1 := ne_b hb | have hb1 := bne_t hb | have hb1 := bne_f hb | skip); (try (exfalso; first | contradiction | omega)))))
    all_goals (refine ret_eq (by first | exact .inl rfl | exact .inr rfl) (by first | rfl | assumption) (by (repeat (first | exact List.Sublist.refl _ | apply List.Sublist.cons))) ?_; (try simp (disch := omega) only [push_cast, Nat.reduceEqDiff, reduceCtorEq, ↓reduceIte, Nat.reduceAdd, Nat.reduceMul, Nat.reduceSub, Nat.reduceLT, Nat.reduceLeDiff, Int.reduceToNat, Int.reduceLT, Int.reduceLE, Int.reduceAdd, Int.reduceSub, Int.reduceMul, Int.reduceBEq, Int.reduceBNe, encB, encI, V.cells_mk, V.cells_take, V.cells_len, isE_eq, *]); try (first | exact LE.refl _ | exact LE.sl _ _ | (refine LE.tup ?_; (repeat' (first | exact LEL.nil | refine LEL.cons ?_ ?_ | exact LE.refl _ | exact LE.sl _ _ | refine LE.agg ?_)); done) | (refine LE.agg ?_; (repeat' (first | exact LEL.nil | refine LEL.cons ?_ ?_ | exact LE.refl _ | exact LE.sl _ _)); done) | refine LE.of_eq ?_))
  by_cases h40 : 40 < s.size
  · have : isName s.data.toList = false := by rw [isName, decide_eq_false (show ¬ s.data.toList.length ≤ 40 by omega)]; simp
    rw [this]
    clear this
    repeat' (first | with_reducible refine Go1.go ?_ | ((with_reducible apply ev_go); (focus (try simp (disch := omega) only [push_cast, Nat.reduceEqDiff, reduceCtorEq, ↓reduceIte, Nat.reduceAdd, Nat.reduceMul, Nat.reduceSub, Nat.reduceLT, Nat.reduceLeDiff, Int.reduceToNat, Int.reduceLT, Int.reduceLE, Int.reduceAdd, Int.reduceSub, Int.reduceMul, Int.reduceBEq, Int.reduceBNe, encB, encI, V.cells_mk, V.cells_take, V.cells_len, isE_eq, *]); (try exact rfl); done)) | ((with_reducible refine w_last ?_ ?_ ?_); (focus kernel_rfl); (focus rfl)) | ((with_reducible apply w_stepG); (focus rfl)) | ((with_reducible apply lk_mem); (focus ((repeat (first | exact mm_h | apply mm_t)); done))) | with_reducible refine Go2.go ?_ | ((with_reducible apply sto_go); (focus (intro cs'; repeat (first | exact ra_h | apply ra_t)))) | ((with_reducible refine al_go ?_); intro b) | ((with_reducible refine And.intro ?_ ?_); (focus ((repeat (first | exact keep_none | exact keep_nil | exact keep_ro | refine keep_cons ?_)); done))) | ((with_reducible refine s_bi ?_ ?_); (focus rfl)) | with_reducible refine blk_ne rfl ?_ | ((with_reducible refine w_region ?_ ?_); (focus kernel_rfl)) | ((with_reducible refine w_draw [] ?_ ?_ ?_ ?_ ?_); (iterate 3 (focus kernel_rfl)); (focus exact keeps_nil)) | ((with_reducible first | refine gd_d1 ?_ ?_ | refine gd_d0 ?_ ?_); all_goals (intro hb; (first | with_reducible replace hb := nt_t hb | with_reducible replace hb := nt_f hb | skip); (first | replace hb := dc_t hb | replace hb := dc_f hb | have hb1 := eq_b hb | have hb1 := ne_b hb | have hb1 := bne_t hb | have hb1 := bne_f hb | skip); (try (exfalso; first | contradiction | omega)))))
    all_goals (refine ret_eq (by first | exact .inl rfl | exact .inr rfl) (by first | rfl | assumption) (by (repeat (first | exact List.Sublist.refl _ | apply List.Sublist.cons))) ?_; (try simp (disch := omega) only [push_cast, Nat.reduceEqDiff, reduceCtorEq, ↓reduceIte, Nat.reduceAdd, Nat.reduceMul, Nat.reduceSub, Nat.reduceLT, Nat.reduceLeDiff, Int.reduceToNat, Int.reduceLT, Int.reduceLE, Int.reduceAdd, Int.reduceSub, Int.reduceMul, Int.reduceBEq, Int.reduceBNe, encB, encI, V.cells_mk, V.cells_take, V.cells_len, isE_eq, *]); try (first | exact LE.refl _ | exact LE.sl _ _ | (refine LE.tup ?_; (repeat' (first | exact LEL.nil | refine LEL.cons ?_ ?_ | exact LE.refl _ | exact LE.sl _ _ | refine LE.agg ?_)); done) | (refine LE.agg ?_; (repeat' (first | exact LEL.nil | refine LEL.cons ?_ ?_ | exact LE.refl _ | exact LE.sl _ _)); done) | refine LE.of_eq ?_))
  obtain ⟨c, t, hct⟩ : ∃ c t, s.data.toList = c :: t := by
    cases h : s.data.toList with
    | nil => rw [h] at hl; simp at hl; omega
    | cons c t => exact ⟨c, t, rfl⟩
  have hc0 : s.data.toList[0]? = some c := by rw [hct]; rfl
  by_cases hc : isLetter c = true
  · have HN := Lib.hid (isName_all (c := c) (t := t) (by rw [← hct]; omega) hc)
    rw [← hct] at HN
    clear hct
    obtain ⟨B, hB⟩ : ∃ B, isName s.data.toList = B := ⟨_, rfl⟩
    rw [hB] at HN ⊢
    clear hB
    repeat' (first | with_reducible refine Go1.go ?_ | ((with_reducible apply ev_go); (focus (try simp (disch := omega) only [push_cast, Nat.reduceEqDiff, reduceCtorEq, ↓reduceIte, Nat.reduceAdd, Nat.reduceMul, Nat.reduceSub, Nat.reduceLT, Nat.reduceLeDiff, Int.reduceToNat, Int.reduceLT, Int.reduceLE, Int.reduceAdd, Int.reduceSub, Int.reduceMul, Int.reduceBEq, Int.reduceBNe, encB, encI, V.cells_mk, V.cells_take, V.cells_len, isE_eq, *]); (try exact rfl); done)) | ((with_reducible refine w_last ?_ ?_ ?_); (focus kernel_rfl); (focus rfl)) | ((with_reducible apply w_stepG); (focus rfl)) | ((with_reducible apply lk_mem); (focus ((repeat (first | exact mm_h | apply mm_t)); done))) | with_reducible refine Go2.go ?_ | ((with_reducible apply sto_go); (focus (intro cs'; repeat (first | exact ra_h | apply ra_t)))) | ((with_reducible refine al_go ?_); intro b) | ((with_reducible refine And.intro ?_ ?_); (focus ((repeat (first | exact keep_none | exact keep_nil | exact keep_ro | refine keep_cons ?_)); done))) | ((with_reducible apply (ck_le Try.call101)); (focus exact LEL.refl _); (focus exact valLetterF _ _)) | ((with_reducible refine s_bi ?_ ?_); (focus rfl)) | with_reducible refine blk_ne rfl ?_ | ((with_reducible refine w_region ?_ ?_); (focus kernel_rfl)) | ((with_reducible refine w_draw [] ?_ ?_ ?_ ?_ ?_); (iterate 3 (focus kernel_rfl)); (focus exact keeps_nil)) | ((with_reducible first | refine gd_d1 ?_ ?_ | refine gd_d0 ?_ ?_); all_goals (intro hb; (first | with_reducible replace hb := nt_t hb | with_reducible replace hb := nt_f hb | skip); (first | replace hb := dc_t hb | replace hb := dc_f hb | have hb1 := eq_b hb | have hb1 := ne_b hb | have hb1 := bne_t hb | have hb1 := bne_f hb | skip); (try (exfalso; first | contradiction | omega)))))
    refine tr_loop (ι := Nat) (fun i A st' => i ≤ s.size ∧ Hid (B = (s.data.toList.drop i).all nameC) ∧ A.df = [] ∧ A.e 0 = .str s ∧ A.e 19 = .i s.size ∧ A.e 20 = .i i ∧ st' = st) (fun i => s.size - i) 0 ⟨Nat.zero_le _, HN, ?_, ?_, ?_, ?_, rfl⟩ ?_
    iterate 4 (focus (first | rfl | assumption | omega | (simp (disch := omega) only [push_cast, Nat.reduceEqDiff, reduceCtorEq, ↓reduceIte, Nat.reduceAdd, Nat.reduceMul, Nat.reduceSub, Nat.reduceLT, Nat.reduceLeDiff, Int.reduceToNat, Int.reduceLT, Int.reduceLE, Int.reduceAdd, Int.reduceSub, Int.reduceMul, Int.reduceBEq, Int.reduceBNe, encB, encI, V.cells_mk, V.cells_take, V.cells_len, isE_eq, *]; try omega; done)))
    rintro i A st' ⟨hi, HT, hdf, h1', h2', h3', rfl⟩
    clear HN hc0
    by_cases hlt : i < s.size
    · obtain ⟨x, hx⟩ : ∃ x, s.data.toList[i]? = some x := ⟨_, List.getElem?_eq_getElem (by omega)⟩
      have HE := HT.out
      rw [drop_cons hx, List.all_cons] at HE
      by_cases hnc : nameC x = true
      · rw [hnc, Bool.true_and] at HE
        have HE := Lib.hid HE
        clear HT
        by_cases hL : isLetter x = true
        · clear hnc hc
          repeat' (first | with_reducible refine Go1.go ?_ | ((with_reducible apply ev_go); (focus (try simp (disch := omega) only [push_cast, Nat.reduceEqDiff, reduceCtorEq, ↓reduceIte, Nat.reduceAdd, Nat.reduceMul, Nat.reduceSub, Nat.reduceLT, Nat.reduceLeDiff, Int.reduceToNat, Int.reduceLT, Int.reduceLE, Int.reduceAdd, Int.reduceSub, Int.reduceMul, Int.reduceBEq, Int.reduceBNe, encB, encI, V.cells_mk, V.cells_take, V.cells_len, isE_eq, *]); (try exact rfl); done)) | ((with_reducible refine w_last ?_ ?_ ?_); (focus kernel_rfl); (focus rfl)) | ((with_reducible apply w_stepG); (focus rfl)) | ((with_reducible apply lk_mem); (focus ((repeat (first | exact mm_h | apply mm_t)); done))) | with_reducible refine Go2.go ?_ | ((with_reducible apply sto_go); (focus (intro cs'; repeat (first | exact ra_h | apply ra_t)))) | ((with_reducible refine al_go ?_); intro b) | ((with_reducible refine And.intro ?_ ?_); (focus ((repeat (first | exact keep_none | exact keep_nil | exact keep_ro | refine keep_cons ?_)); done))) | ((with_reducible apply (ck_le Try.call101)); (focus exact LEL.refl _); (focus exact valLetterF _ _)) | ((with_reducible refine s_bi ?_ ?_); (focus rfl)) | with_reducible refine blk_ne rfl ?_ | ((with_reducible refine w_region ?_ ?_); (focus kernel_rfl)) | ((with_reducible refine w_draw [] ?_ ?_ ?_ ?_ ?_); (iterate 3 (focus kernel_rfl)); (focus exact keeps_nil)) | ((with_reducible first | refine gd_d1 ?_ ?_ | refine gd_d0 ?_ ?_); all_goals (intro hb; (first | with_reducible replace hb := nt_t hb | with_reducible replace hb := nt_f hb | skip); (first | replace hb := dc_t hb | replace hb := dc_f hb | have hb1 := eq_b hb | have hb1 := ne_b hb | have hb1 := bne_t hb | have hb1 := bne_f hb | skip); (try (exfalso; first | contradiction | omega)))))
          refine ⟨i + 1, ⟨hlt, HE, ?_, ?_, ?_, ?_, rfl⟩, ?_⟩
          all_goals (first | rfl | assumption | omega | (simp (disch := omega) only [push_cast, Nat.reduceEqDiff, reduceCtorEq, ↓reduceIte, Nat.reduceAdd, Nat.reduceMul, Nat.reduceSub, Nat.reduceLT, Nat.reduceLeDiff, Int.reduceToNat, Int.reduceLT, Int.reduceLE, Int.reduceAdd, Int.reduceSub, Int.reduceMul, Int.reduceBEq, Int.reduceBNe, encB, encI, V.cells_mk, V.cells_take, V.cells_len, isE_eq, *]; try omega; done))
        · have hL' : isLetter x = false := by simpa using hL
          have hq := nameC_yes hnc hL'
          clear hnc hL hc
          repeat' (first | with_reducible refine Go1.go ?_ | ((with_reducible apply ev_go); (focus (try simp (disch := omega) only [push_cast, Nat.reduceEqDiff, reduceCtorEq, ↓reduceIte, Nat.reduceAdd, Nat.reduceMul, Nat.reduceSub, Nat.reduceLT, Nat.reduceLeDiff, Int.reduceToNat, Int.reduceLT, Int.reduceLE, Int.reduceAdd, Int.reduceSub, Int.reduceMul, Int.reduceBEq, Int.reduceBNe, encB, encI, V.cells_mk, V.cells_take, V.cells_len, isE_eq, *]); (try exact rfl); done)) | ((with_reducible refine w_last ?_ ?_ ?_); (focus kernel_rfl); (focus rfl)) | ((with_reducible apply w_stepG); (focus rfl)) | ((with_reducible apply lk_mem); (focus ((repeat (first | exact mm_h | apply mm_t)); done))) | with_reducible refine Go2.go ?_ | ((with_reducible apply sto_go); (focus (intro cs'; repeat (first | exact ra_h | apply ra_t)))) | ((with_reducible refine al_go ?_); intro b) | ((with_reducible refine And.intro ?_ ?_); (focus ((repeat (first | exact keep_none | exact keep_nil | exact keep_ro | refine keep_cons ?_)); done))) | ((with_reducible apply (ck_le Try.call101)); (focus exact LEL.refl _); (focus exact valLetterF _ _)) | ((with_reducible refine s_bi ?_ ?_); (focus rfl)) | with_reducible refine blk_ne rfl ?_ | ((with_reducible refine w_region ?_ ?_); (focus kernel_rfl)) | ((with_reducible refine w_draw [] ?_ ?_ ?_ ?_ ?_); (iterate 3 (focus kernel_rfl)); (focus exact keeps_nil)) | ((with_reducible first | refine gd_d1 ?_ ?_ | refine gd_d0 ?_ ?_); all_goals (intro hb; (first | with_reducible replace hb := nt_t hb | with_reducible replace hb := nt_f hb | skip); (first | replace hb := dc_t hb | replace hb := dc_f hb | have hb1 := eq_b hb | have hb1 := ne_b hb | have hb1 := bne_t hb | have hb1 := bne_f hb | skip); (try (exfalso; first | contradiction | omega)))))
          all_goals
            refine ⟨i + 1, ⟨hlt, HE, ?_, ?_, ?_, ?_, rfl⟩, ?_⟩
            all_goals (first | rfl | assumption | omega | (simp (disch := omega) only [push_cast, Nat.reduceEqDiff, reduceCtorEq, ↓reduceIte, Nat.reduceAdd, Nat.reduceMul, Nat.reduceSub, Nat.reduceLT, Nat.reduceLeDiff, Int.reduceToNat, Int.reduceLT, Int.reduceLE, Int.reduceAdd, Int.reduceSub, Int.reduceMul, Int.reduceBEq, Int.reduceBNe, encB, encI, V.cells_mk, V.cells_take, V.cells_len, isE_eq, *]; try omega; done))
      · obtain ⟨hL, hq⟩ := nameC_no (show nameC x = false by simpa using hnc)
        rw [show nameC x = false by simpa using hnc, Bool.false_and] at HE
        rw [HE]
        clear HE HT hnc hc
        repeat' (first | with_reducible refine Go1.go ?_ | ((with_reducible apply ev_go); (focus (try simp (disch := omega) only [push_cast, Nat.reduceEqDiff, reduceCtorEq, ↓reduceIte, Nat.reduceAdd, Nat.reduceMul, Nat.reduceSub, Nat.reduceLT, Nat.reduceLeDiff, Int.reduceToNat, Int.reduceLT, Int.reduceLE, Int.reduceAdd, Int.reduceSub, Int.reduceMul, Int.reduceBEq, Int.reduceBNe, encB, encI, V.cells_mk, V.cells_take, V.cells_len, isE_eq, *]); (try exact rfl); done)) | ((with_reducible refine w_last ?_ ?_ ?_); (focus kernel_rfl); (focus rfl)) | ((with_reducible apply w_stepG); (focus rfl)) | ((with_reducible apply lk_mem); (focus ((repeat (first | exact mm_h | apply mm_t)); done))) | with_reducible refine Go2.go ?_ | ((with_reducible apply sto_go); (focus (intro cs'; repeat (first | exact ra_h | apply ra_t)))) | ((with_reducible refine al_go ?_); intro b) | ((with_reducible refine And.intro ?_ ?_); (focus ((repeat (first | exact keep_none | exact keep_nil | exact keep_ro | refine keep_cons ?_)); done))) | ((with_reducible apply (ck_le Try.call101)); (focus exact LEL.refl _); (focus exact valLetterF _ _)) | ((with_reducible refine s_bi ?_ ?_); (focus rfl)) | with_reducible refine blk_ne rfl ?_ | ((with_reducible refine w_region ?_ ?_); (focus kernel_rfl)) | ((with_reducible refine w_draw [] ?_ ?_ ?_ ?_ ?_); (iterate 3 (focus kernel_rfl)); (focus exact keeps_nil)) | ((with_reducible first | refine gd_d1 ?_ ?_ | refine gd_d0 ?_ ?_); all_goals (intro hb; (first | with_reducible replace hb := nt_t hb | with_reducible replace hb := nt_f hb | skip); (first | replace hb := dc_t hb | replace hb := dc_f hb | have hb1 := eq_b hb | have hb1 := ne_b hb | have hb1 := bne_t hb | have hb1 := bne_f hb | skip); (try (exfalso; first | contradiction | omega)))))
        all_goals (refine ret_eq (by first | exact .inl rfl | exact .inr rfl) (by first | rfl | assumption) (by (repeat (first | exact List.Sublist.refl _ | apply List.Sublist.cons))) ?_; (try simp (disch := omega) only [push_cast, Nat.reduceEqDiff, reduceCtorEq, ↓reduceIte, Nat.reduceAdd, Nat.reduceMul, Nat.reduceSub, Nat.reduceLT, Nat.reduceLeDiff, Int.reduceToNat, Int.reduceLT, Int.reduceLE, Int.reduceAdd, Int.reduceSub, Int.reduceMul, Int.reduceBEq, Int.reduceBNe, encB, encI, V.cells_mk, V.cells_take, V.cells_len, isE_eq, *]); try (first | exact LE.refl _ | exact LE.sl _ _ | (refine LE.tup ?_; (repeat' (first | exact LEL.nil | refine LEL.cons ?_ ?_ | exact LE.refl _ | exact LE.sl _ _ | refine LE.agg ?_)); done) | (refine LE.agg ?_; (repeat' (first | exact LEL.nil | refine LEL.cons ?_ ?_ | exact LE.refl _ | exact LE.sl _ _)); done) | refine LE.of_eq ?_))
    · have HE := HT.out
      rw [List.drop_eq_nil_of_le (by omega)] at HE
      rw [HE, List.all_nil]
      clear HE HT hc
      repeat' (first | with_reducible refine Go1.go ?_ | ((with_reducible apply ev_go); (focus (try simp (disch := omega) only [push_cast, Nat.reduceEqDiff, reduceCtorEq, ↓reduceIte, Nat.reduceAdd, Nat.reduceMul, Nat.reduceSub, Nat.reduceLT, Nat.reduceLeDiff, Int.reduceToNat, Int.reduceLT, Int.reduceLE, Int.reduceAdd, Int.reduceSub, Int.reduceMul, Int.reduceBEq, Int.reduceBNe, encB, encI, V.cells_mk, V.cells_take, V.cells_len, isE_eq, *]); (try exact rfl); done)) | ((with_reducible refine w_last ?_ ?_ ?_); (focus kernel_rfl); (focus rfl)) | ((with_reducible apply w_stepG); (focus rfl)) | ((with_reducible apply lk_mem); (focus ((repeat (first | exact mm_h | apply mm_t)); done))) | with_reducible refine Go2.go ?_ | ((with_reducible apply sto_go); (focus (intro cs'; repeat (first | exact ra_h | apply ra_t)))) | ((with_reducible refine al_go ?_); intro b) | ((with_reducible refine And.intro ?_ ?_); (focus ((repeat (first | exact keep_none | exact keep_nil | exact keep_ro | refine keep_cons ?_)); done))) | ((with_reducible apply (ck_le Try.call101)); (focus exact LEL.refl _); (focus exact valLetterF _ _)) | ((with_reducible refine s_bi ?_ ?_); (focus rfl)) | with_reducible refine blk_ne rfl ?_ | ((with_reducible refine w_region ?_ ?_); (focus kernel_rfl)) | ((with_reducible refine w_draw [] ?_ ?_ ?_ ?_ ?_); (iterate 3 (focus kernel_rfl)); (focus exact keeps_nil)) | ((with_reducible first | refine gd_d1 ?_ ?_ | refine gd_d0 ?_ ?_); all_goals (intro hb; (first | with_reducible replace hb := nt_t hb | with_reducible replace hb := nt_f hb | skip); (first | replace hb := dc_t hb | replace hb := dc_f hb | have hb1 := eq_b hb | have hb1 := ne_b hb | have hb1 := bne_t hb | have hb1 := bne_f hb | skip); (try (exfalso; first | contradiction | omega)))))
      all_goals (refine ret_eq (by first | exact .inl rfl | exact .inr rfl) (by first | rfl | assumption) (by (repeat (first | exact List.Sublist.refl _ | apply List.Sublist.cons))) ?_; (try simp (disch := omega) only [push_cast, Nat.reduceEqDiff, reduceCtorEq, ↓reduceIte, Nat.reduceAdd, Nat.reduceMul, Nat.reduceSub, Nat.reduceLT, Nat.reduceLeDiff, Int.reduceToNat, Int.reduceLT, Int.reduceLE, Int.reduceAdd, Int.reduceSub, Int.reduceMul, Int.reduceBEq, Int.reduceBNe, encB, encI, V.cells_mk, V.cells_take, V.cells_len, isE_eq, *]); try (first | exact LE.refl _ | exact LE.sl _ _ | (refine LE.tup ?_; (repeat' (first | exact LEL.nil | refine LEL.cons ?_ ?_ | exact LE.refl _ | exact LE.sl _ _ | refine LE.agg ?_)); done) | (refine LE.agg ?_; (repeat' (first | exact LEL.nil | refine LEL.cons ?_ ?_ | exact LE.refl _ | exact LE.sl _ _)); done) | refine LE.of_eq ?_))
  · have : isName s.data.toList = false := by rw [hct]; exact isName_not (by simpa using hc)
    have hc' : isLetter c = false := by simpa using hc
    rw [this]
    clear this hct hc
    repeat' (first | with_reducible refine Go1.go ?_ | ((with_reducible apply ev_go); (focus (try simp (disch := omega) only [push_cast, Nat.reduceEqDiff, reduceCtorEq, ↓reduceIte, Nat.reduceAdd, Nat.reduceMul, Nat.reduceSub, Nat.reduceLT, Nat.reduceLeDiff, Int.reduceToNat, Int.reduceLT, Int.reduceLE, Int.reduceAdd, Int.reduceSub, Int.reduceMul, Int.reduceBEq, Int.reduceBNe, encB, encI, V.cells_mk, V.cells_take, V.cells_len, isE_eq, *]); (try exact rfl); done)) | ((with_reducible refine w_last ?_ ?_ ?_); (focus kernel_rfl); (focus rfl)) | ((with_reducible apply w_stepG); (focus rfl)) | ((with_reducible apply lk_mem); (focus ((repeat (first | exact mm_h | apply mm_t)); done))) | with_reducible refine Go2.go ?_ | ((with_reducible apply sto_go); (focus (intro cs'; repeat (first | exact ra_h | apply ra_t)))) | ((with_reducible refine al_go ?_); intro b) | ((with_reducible refine And.intro ?_ ?_); (focus ((repeat (first | exact keep_none | exact keep_nil | exact keep_ro | refine keep_cons ?_)); done))) | ((with_reducible apply (ck_le Try.call101)); (focus exact LEL.refl _); (focus exact valLetterF _ _)) | ((with_reducible refine s_bi ?_ ?_); (focus rfl)) | with_reducible refine blk_ne rfl ?_ | ((with_reducible refine w_region ?_ ?_); (focus kernel_rfl)) | ((with_reducible refine w_draw [] ?_ ?_ ?_ ?_ ?_); (iterate 3 (focus kernel_rfl)); (focus exact keeps_nil)) | ((with_reducible first | refine gd_d1 ?_ ?_ | refine gd_d0 ?_ ?_); all_goals (intro hb; (first | with_reducible replace hb := nt_t hb | with_reducible replace hb := nt_f hb | skip); (first | replace hb := dc_t hb | replace hb := dc_f hb | have hb1 := eq_b hb | have hb1 := ne_b hb | have hb1 := bne_t hb | have hb1 := bne_f hb | skip); (try (exfalso; first | contradiction | omega)))))
    all_goals (refine ret_eq (by first | exact .inl rfl | exact .inr rfl) (by first | rfl | assumption) (by (repeat (first | exact List.Sublist.refl _ | apply List.Sublist.cons))) ?_; (try simp (disch := omega) only [push_cast, Nat.reduceEqDiff, reduceCtorEq, ↓reduceIte, Nat.reduceAdd, Nat.reduceMul, Nat.reduceSub, Nat.reduceLT, Nat.reduceLeDiff, Int.reduceToNat, Int.reduceLT, Int.reduceLE, Int.reduceAdd, Int.reduceSub, Int.reduceMul, Int.reduceBEq, Int.reduceBNe, encB, encI, V.cells_mk, V.cells_take, V.cells_len, isE_eq, *]); try (first | exact LE.refl _ | exact LE.sl _ _ | (refine LE.tup ?_; (repeat' (first | exact LEL.nil | refine LEL.cons ?_ ?_ | exact LE.refl _ | exact LE.sl _ _ | refine LE.agg ?_)); done) | (refine LE.agg ?_; (repeat' (first | exact LEL.nil | refine LEL.cons ?_ ?_ | exact LE.refl _ | exact LE.sl _ _)); done) | refine LE.of_eq ?_))
end Go.Proofs.Ytooaagmhgakhgaa
end

section
namespace Go.Proofs.Ytooaagmhgakhgaa
set_option linter.unusedSimpArgs false
open Go.RowKit
set_option maxRecDepth 10000
set_option maxHeartbeats 4000000
end Go.Proofs.Ytooaagmhgakhgaa
end

section
namespace Go.Proofs.Ytooaagmhgakhgaa
namespace UtfL
def u (n : Nat) : UInt8 := UInt8.ofNat n
def isCodeN (c : Nat) : Bool := decide (c ≤ 1114111 ∧ (c < 55296 ∨ 57343 < c))
def isCode (c : Int) : Bool := decide (0 ≤ c) && isCodeN c.toNat
def longN (c : Nat) : Nat := if c < 128 then 1 else if c < 2048 then 2 else if c < 65536 then 3 else 4
def putN (c : Nat) : List UInt8 :=
  if c < 128 then [u c] else if c < 2048 then [u (192 + c / 64), u (128 + c % 64)]
  else if c < 65536 then [u (224 + c / 4096), u (128 + c / 64 % 64), u (128 + c % 64)]
  else [u (240 + c / 262144), u (128 + c / 4096 % 64), u (128 + c / 64 % 64), u (128 + c % 64)]
def put (c : Int) : List UInt8 := if isCode c then putN c.toNat else []
def first (x : Nat) : Nat × Nat :=
  if x < 128 then (1, x) else if 192 ≤ x ∧ x < 224 then (2, x % 32) else if 224 ≤ x ∧ x < 240 then (3, x % 16) else if 240 ≤ x ∧ x < 248 then (4, x % 8) else (0, 0)
def cont : Nat → List UInt8 → Option Nat
  | c, [] => some c
  | c, x :: r => if x.toNat / 64 = 2 then cont (c * 64 + x.toNat % 64) r else none
def getL : List UInt8 → Option (Nat × Nat)
  | [] => none
  | x :: r =>
    if (first x.toNat).1 = 0 ∨ r.length + 1 < (first x.toNat).1 then none
    else match cont (first x.toNat).2 (r.take ((first x.toNat).1 - 1)) with
      | none => none
      | some c => if isCodeN c && longN c == (first x.toNat).1 then some (c, (first x.toNat).1) else none
def getAt (b : List UInt8) (at_ : Int) : Option (Nat × Nat) := if 0 ≤ at_ ∧ at_ < b.length then getL (b.drop at_.toNat) else none

theorem u_toNat {n : Nat} (h : n < 256) : (u n).toNat = n := by rw [u, UInt8.toNat_ofNat']; omega
theorem u_eq {n : Nat} {x : UInt8} (h : n = x.toNat) : u n = x := by
  apply UInt8.toNat_inj.1
  rw [h, u_toNat x.toNat_lt]
theorem putN_len (c : Nat) : (putN c).length = longN c := by unfold putN longN; (repeat' split) <;> rfl
theorem longN_pos (c : Nat) : 1 ≤ longN c ∧ longN c ≤ 4 := by unfold longN; (repeat' split) <;> omega

theorem put_of_get {l : List UInt8} {c n : Nat} (h : getL l = some (c, n)) : isCodeN c = true ∧ n = longN c ∧ ∃ r, l = putN c ++ r := by
  cases l with
  | nil => cases h
  | cons x r =>
    rw [getL] at h
    split at h
    · cases h
    · rename_i hn
      cases hco : cont (first x.toNat).2 (r.take ((first x.toNat).1 - 1)) with
      | none => rw [hco] at h; cases h
      | some c' =>
        rw [hco] at h
        dsimp only at h
        split at h
        · rename_i hok
          simp only [Option.some.injEq, Prod.mk.injEq] at h
          obtain ⟨rfl, rfl⟩ := h
          simp only [Bool.and_eq_true, beq_iff_eq] at hok
          obtain ⟨hcode, hlong⟩ := hok
          refine ⟨hcode, hlong.symm, ?_⟩
          have hx := x.toNat_lt
          have hF : (x.toNat < 128 ∧ first x.toNat = (1, x.toNat)) ∨ ((192 ≤ x.toNat ∧ x.toNat < 224) ∧ first x.toNat = (2, x.toNat % 32)) ∨ ((224 ≤ x.toNat ∧ x.toNat < 240) ∧ first x.toNat = (3, x.toNat % 16)) ∨
              ((240 ≤ x.toNat ∧ x.toNat < 248) ∧ first x.toNat = (4, x.toNat % 8)) ∨ first x.toNat = (0, 0) := by
            unfold first
            by_cases q1 : x.toNat < 128
            · exact .inl ⟨q1, by rw [if_pos q1]⟩
            · rw [if_neg q1]
              by_cases q2 : 192 ≤ x.toNat ∧ x.toNat < 224
              · exact .inr (.inl ⟨q2, by rw [if_pos q2]⟩)
              · rw [if_neg q2]
                by_cases q3 : 224 ≤ x.toNat ∧ x.toNat < 240
                · exact .inr (.inr (.inl ⟨q3, by rw [if_pos q3]⟩))
                · rw [if_neg q3]
                  by_cases q4 : 240 ≤ x.toNat ∧ x.toNat < 248
                  · exact .inr (.inr (.inr (.inl ⟨q4, by rw [if_pos q4]⟩)))
                  · exact .inr (.inr (.inr (.inr (by rw [if_neg q4]))))
          rcases hF with ⟨hr, hf⟩ | ⟨hr, hf⟩ | ⟨hr, hf⟩ | ⟨hr, hf⟩ | hf
          all_goals rw [hf] at hn hco hlong; dsimp only at hn hco hlong
          · simp [cont] at hco
            subst hco
            refine ⟨r, ?_⟩
            rw [putN, if_pos hr, u_eq rfl]; rfl
          · match r, hn with
            | y :: r', _ =>
              have hy := y.toNat_lt
              simp only [Nat.reduceSub, List.take_succ_cons, List.take_zero, cont] at hco
              split at hco
              · rename_i g1
                injection hco with hco
                have c1 : ¬ c' < 128 := fun q => by simp [longN, q] at hlong
                have c2 : c' < 2048 := by omega
                refine ⟨r', ?_⟩
                rw [putN, if_neg c1, if_pos c2, u_eq (x := x) (by omega), u_eq (x := y) (by omega)]; rfl
              · cases hco
            | [], hn => exact absurd (by simp) hn
          · match r, hn with
            | y :: z :: r', _ =>
              have hy := y.toNat_lt
              have hz := z.toNat_lt
              simp only [Nat.reduceSub, List.take_succ_cons, List.take_zero, cont] at hco
              split at hco
              · rename_i g1
                split at hco
                · rename_i g2
                  injection hco with hco
                  have c1 : ¬ c' < 128 := fun q => by simp [longN, q] at hlong
                  have c2 : ¬ c' < 2048 := fun q => by simp [longN, c1, q] at hlong
                  have c3 : c' < 65536 := by omega
                  refine ⟨r', ?_⟩
                  rw [putN, if_neg c1, if_neg c2, if_pos c3, u_eq (x := x) (by omega), u_eq (x := y) (by omega), u_eq (x := z) (by omega)]; rfl
                · cases hco
              · cases hco
            | [_], hn => exact absurd (by simp) hn
            | [], hn => exact absurd (by simp) hn
          · match r, hn with
            | y :: z :: t :: r', _ =>
              have hy := y.toNat_lt
              have hz := z.toNat_lt
              have ht := t.toNat_lt
              simp only [Nat.reduceSub, List.take_succ_cons, List.take_zero, cont] at hco
              split at hco
              · rename_i g1
                split at hco
                · rename_i g2
                  split at hco
                  · rename_i g3
                    injection hco with hco
                    have c1 : ¬ c' < 128 := fun q => by simp [longN, q] at hlong
                    have c2 : ¬ c' < 2048 := fun q => by simp [longN, c1, q] at hlong
                    have c3 : ¬ c' < 65536 := fun q => by simp [longN, c1, c2, q] at hlong
                    refine ⟨r', ?_⟩
                    rw [putN, if_neg c1, if_neg c2, if_neg c3, u_eq (x := x) (by omega), u_eq (x := y) (by omega), u_eq (x := z) (by omega), u_eq (x := t) (by omega)]; rfl
                  · cases hco
                · cases hco
              · cases hco
            | [_, _], hn => exact absurd (by simp) hn
            | [_], hn => exact absurd (by simp) hn
            | [], hn => exact absurd (by simp) hn
          · exact absurd (.inl rfl) hn
        · cases h
theorem get_len {l : List UInt8} {c n : Nat} (h : getL l = some (c, n)) : 1 ≤ n ∧ n ≤ 4 ∧ n ≤ l.length := by
  obtain ⟨_, rfl, r, rfl⟩ := put_of_get h
  have := longN_pos c
  rw [List.length_append, putN_len]
  omega
end UtfL
end Go.Proofs.Ytooaagmhgakhgaa
end

section
namespace Go.Proofs.Ytooaagmhgakhgaa
open Go.RowKit UtfL

set_option maxHeartbeats 400000 in
theorem code_any (c : Int) (w : World) :
    Calls Try.prog 129 #[.int .i64 c] w fun e w' => e = .returned (.bool (isCode c)) ∧ w = w' := by
  have H : c < 0 ∨ (0 ≤ c ∧ c < 55296) ∨ (55296 ≤ c ∧ c ≤ 57343) ∨ (57343 < c ∧ c ≤ 1114111) ∨ 1114111 < c := by omega
  have hcode : isCode c = decide ((0 ≤ c ∧ c < 55296) ∨ (57343 < c ∧ c ≤ 1114111)) := by
    unfold isCode isCodeN
    rw [← Bool.decide_and]
    congr 1
    apply propext
    omega
  have HC := Lib.hid hcode
  clear hcode
  rcases H with h | ⟨h1, h2⟩ | ⟨h1, h2⟩ | ⟨h1, h2⟩ | h
  all_goals
    go_enter Try.func129, Try.ntmps129
    go_wp2
    go_ret
    exact ⟨ret_bool (by rw [HC.out]; rw [Bool.eq_iff_iff]; simp; omega), rfl⟩
def longHd (c : Int) : Int := if c < 128 then 0 else if c < 2048 then 192 else if c < 65536 then 224 else 240
theorem long_any (c : Int) (w : World) :
    Calls Try.prog 128 #[.int .i64 c] w fun e w' => e = .returned (.tuple #[.int .i64 (longN c.toNat : Nat), .int .i64 (longHd c)]) ∧ w = w' := by
  have H : c < 128 ∨ (128 ≤ c ∧ c < 2048) ∨ (2048 ≤ c ∧ c < 65536) ∨ 65536 ≤ c := by omega
  rcases H with h | ⟨h1, h2⟩ | ⟨h1, h2⟩ | h
  · have HL := Lib.hid (show longN c.toNat = 1 by unfold longN; rw [if_pos (by omega)])
    have HD := Lib.hid (show longHd c = _ from by rw [longHd, if_pos h])
    rw [HL.out, HD.out]
    go_enter Try.func128, Try.ntmps128
    go_wp2
    go_ret2
    exact ⟨rfl, rfl⟩
  · have HL := Lib.hid (show longN c.toNat = 2 by unfold longN; rw [if_neg (by omega), if_pos (by omega)])
    have HD := Lib.hid (show longHd c = _ from by rw [longHd, if_neg (by omega), if_pos h2])
    rw [HL.out, HD.out]
    go_enter Try.func128, Try.ntmps128
    go_wp2
    go_ret2
    exact ⟨rfl, rfl⟩
  · have HL := Lib.hid (show longN c.toNat = 3 by unfold longN; rw [if_neg (by omega), if_neg (by omega), if_pos (by omega)])
    have HD := Lib.hid (show longHd c = _ from by rw [longHd, if_neg (by omega), if_neg (by omega), if_pos h2])
    rw [HL.out, HD.out]
    go_enter Try.func128, Try.ntmps128
    go_wp2
    go_ret2
    exact ⟨rfl, rfl⟩
  · have HL := Lib.hid (show longN c.toNat = 4 by unfold longN; rw [if_neg (by omega), if_neg (by omega), if_neg (by omega)])
    have HD := Lib.hid (show longHd c = _ from by rw [longHd, if_neg (by omega), if_neg (by omega), if_neg (by omega)])
    rw [HL.out, HD.out]
    go_enter Try.func128, Try.ntmps128
    go_wp2
    go_ret2
    exact ⟨rfl, rfl⟩
set_option maxRecDepth 100000 in
set_option maxHeartbeats 400000 in
theorem first_any (x : UInt8) (w : World) :
    Calls Try.prog 127 #[.int .u8 (x.toNat : Int)] w fun e w' => e = .returned (.tuple #[.int .i64 ((first x.toNat).1 : Nat), .int .i64 ((first x.toNat).2 : Nat)]) ∧ w = w' := by
  have hx := x.toNat_lt
  generalize x.toNat = x at *
  have H : x < 128 ∨ (128 ≤ x ∧ x < 192) ∨ (192 ≤ x ∧ x < 224) ∨ (224 ≤ x ∧ x < 240) ∨ (240 ≤ x ∧ x < 248) ∨ 248 ≤ x := by omega
  rcases H with h | ⟨h1, h2⟩ | ⟨h1, h2⟩ | ⟨h1, h2⟩ | ⟨h1, h2⟩ | h
  · have HF := Lib.hid (show first x = (1, x) by unfold first; rw [if_pos (by omega)])
    rw [HF.out]
    go_enter Try.func127, Try.ntmps127
    go_wp2
    go_ret2
    exact ⟨rfl, rfl⟩
  · have HF := Lib.hid (show first x = (0, 0) by unfold first; rw [if_neg (by omega), if_neg (by omega), if_neg (by omega), if_neg (by omega)])
    rw [HF.out]
    go_enter Try.func127, Try.ntmps127
    go_wp2
    go_ret2
    exact ⟨rfl, rfl⟩
  · have HF := Lib.hid (show first x = (2, x % 32) by unfold first; rw [if_neg (by omega), if_pos (by omega)])
    have hb := u8_and_nat x 31 hx (by decide)
    rw [nat_mask5] at hb
    rw [HF.out]
    go_enter Try.func127, Try.ntmps127
    go_wp2
    go_ret2
    exact ⟨rfl, rfl⟩
  · have HF := Lib.hid (show first x = (3, x % 16) by unfold first; rw [if_neg (by omega), if_neg (by omega), if_pos (by omega)])
    rw [HF.out]
    go_enter Try.func127, Try.ntmps127
    go_wp2
    go_ret2
    exact ⟨rfl, rfl⟩
  · have HF := Lib.hid (show first x = (4, x % 8) by unfold first; rw [if_neg (by omega), if_neg (by omega), if_neg (by omega), if_pos (by omega)])
    rw [HF.out]
    go_enter Try.func127, Try.ntmps127
    go_wp2
    go_ret2
    exact ⟨rfl, rfl⟩
  · have HF := Lib.hid (show first x = (0, 0) by unfold first; rw [if_neg (by omega), if_neg (by omega), if_neg (by omega), if_neg (by omega)])
    rw [HF.out]
    go_enter Try.func127, Try.ntmps127
    go_wp2
    go_ret2
    exact ⟨rfl, rfl⟩
end Go.Proofs.Ytooaagmhgakhgaa
end

section
namespace Go.Proofs.Ytooaagmhgakhgaa
open Go.RowKit UtfL

theorem andNot_bad : ∀ x : Nat, x < 256 → (x &&& 192 = 128 ↔ x / 64 = 2) := by
  have h : ∀ x : Fin 256, (x.1 &&& 192 = 128 ↔ x.1 / 64 = 2) := by decide +kernel
  intro x hx
  exact h ⟨x, hx⟩
def getRes (r : Option (Nat × Nat)) : Value := match r with
  | some (c, n) => .tuple #[.int .i64 (c : Int), .int .i64 (n : Int), .bool true]
  | none => .tuple #[.int .i64 0, .int .i64 0, .bool false]
theorem cont_snoc (x : UInt8) : ∀ (c : Nat) (r : List UInt8), cont c (r ++ [x]) = (cont c r).bind fun d => if x.toNat / 64 = 2 then some (d * 64 + x.toNat % 64) else none
  | c, [] => by simp [cont]
  | c, y :: r => by
    rw [List.cons_append, cont, cont]
    split
    · exact cont_snoc x _ r
    · rfl
theorem cont_bad (x : UInt8) (h : ¬ x.toNat / 64 = 2) : ∀ (c : Nat) (r s : List UInt8), cont c (r ++ x :: s) = none
  | c, [], s => by simp [cont, h]
  | c, y :: r, s => by
    rw [List.cons_append, cont]
    split
    · exact cont_bad x h _ r s
    · rfl
theorem first_cases (x : Nat) : first x = (0, 0) ∨ (first x = (1, x) ∧ x < 128) ∨ ∃ n c, first x = (n, c) ∧ 2 ≤ n ∧ n ≤ 4 ∧ c < 32 := by
  unfold first
  by_cases q1 : x < 128
  · exact .inr (.inl ⟨by rw [if_pos q1], q1⟩)
  · rw [if_neg q1]
    by_cases q2 : 192 ≤ x ∧ x < 224
    · exact .inr (.inr ⟨_, _, by rw [if_pos q2], by omega, by omega, by omega⟩)
    · rw [if_neg q2]
      by_cases q3 : 224 ≤ x ∧ x < 240
      · exact .inr (.inr ⟨_, _, by rw [if_pos q3], by omega, by omega, by omega⟩)
      · rw [if_neg q3]
        by_cases q4 : 240 ≤ x ∧ x < 248
        · exact .inr (.inr ⟨_, _, by rw [if_pos q4], by omega, by omega, by omega⟩)
        · exact .inl (by rw [if_neg q4])
set_option maxRecDepth 100000 in
set_option maxHeartbeats 1000000 in
theorem utfGet_any (v : Value) (b : List UInt8) (at_ : Int) (w : World) (hb : Sees bv w v b) :
    Calls Try.prog 126 #[v, .int .i64 at_] w fun e w' => e = .returned (getRes (getAt b at_)) ∧ w = w' := by
  obtain ⟨a, cap, rfl, h1, h2, h3, h4⟩ := hb
  unfold maxLen at h2
  by_cases hin : 0 ≤ at_ ∧ at_ < b.length
  · obtain ⟨g1, g2⟩ := hin
    obtain ⟨k, rfl⟩ := Int.eq_ofNat_of_zero_le g1
    have hk : k < b.length := by omega
    obtain ⟨⟨bb, off, s⟩, rfl⟩ : ∃ b, a = some b := by
      cases a with
      | none => have := h3 rfl; omega
      | some b => exact ⟨b, rfl⟩
    obtain ⟨e1, e2, e3⟩ := h4 _ rfl (by omega)
    dsimp only at e1 e2 e3
    subst e1
    clear h4 h3
    have hc0 := e3 k hk
    have hd : b.drop k = b[k] :: b.drop (k + 1) := (List.getElem_cons_drop hk).symm
    obtain ⟨R, hR⟩ : ∃ R, getAt b (k : Int) = R := ⟨_, rfl⟩
    rw [hR]
    rw [getAt, if_pos ⟨g1, g2⟩, Int.toNat_natCast, hd] at hR
    have HR := Lib.hid hR
    have HE := Lib.hid e3
    clear hd e3 hR
    generalize b[k] = x at *
    have hx := x.toNat_lt
    unfold bv at hc0
    rcases first_cases x.toNat with hf | ⟨hf, hx1⟩ | ⟨n, c0, hf, hn1, hn2, hc⟩
    · have hr0 : R = none := by rw [← HR.out, getL, hf]; rfl
      have HF := Lib.hid hf
      subst hr0
      clear hf HE
      go_enter Try.func126, Try.ntmps126
      go_wp2_with fail
      refine (first_any _ _).mono ?_
      rintro e w' ⟨rfl, rfl⟩
      rw [HF.out]
      go_wp2
      go_ret3
      exact ⟨rfl, rfl⟩
    · have hcN : isCodeN x.toNat = true := by simp [isCodeN]; omega
      have hr0 : R = some (x.toNat, 1) := by
        rw [← HR.out, getL, hf]
        have hl1 : longN x.toNat = 1 := by simp [longN, hx1]
        simp [cont, hcN, hl1]
      have HF := Lib.hid hf
      subst hr0
      have HC : Hid (isCode (x.toNat : Int) = true) := by show isCode (x.toNat : Int) = true; simp [isCode, hcN]
      have HL : Hid (longN (x.toNat : Int).toNat = 1) := by show longN (x.toNat : Int).toNat = 1; rw [Int.toNat_natCast, longN, if_pos hx1]
      clear hf HE hcN
      go_enter Try.func126, Try.ntmps126
      go_wp2_with fail
      refine (first_any _ _).mono ?_
      rintro e w' ⟨rfl, rfl⟩
      rw [HF.out]
      by_cases hcap : cap = k + 1
      all_goals
        go_wp2
        refine wp_loop_rounds 1 ?_
        rw [rounds_succ]
        go_wp2_with fail
        refine (long_any _ _).mono ?_
        rintro e w' ⟨rfl, rfl⟩
        rw [HL.out]
        go_wp2_with fail
        refine (code_any _ _).mono ?_
        rintro e w' ⟨rfl, rfl⟩
        rw [HC.out]
        go_wp2
        go_ret3
        exact ⟨rfl, rfl⟩
    · have HF := Lib.hid hf
      by_cases hfit : k + n ≤ b.length
      · have hcap : ¬ cap = k + 1 := by omega
        have hcap2 : k + 1 < cap := by omega
        obtain ⟨m, hm⟩ : ∃ m, n = m + 1 := ⟨n - 1, by omega⟩
        obtain ⟨rest, hrest⟩ : ∃ rest, rest = b.drop (k + 1) := ⟨_, rfl⟩
        rw [← hrest] at HR
        have hlr : m ≤ rest.length := by rw [hrest, List.length_drop]; omega
        have hcell : ∀ j (hj : j < rest.length), w.cell? ⟨bb, off + (k + 1) + j, none⟩ = some (bv rest[j]) := fun j hj => by
          subst hrest
          rw [List.length_drop] at hj
          have := HE.out (k + 1 + j) (by omega)
          rw [← Nat.add_assoc] at this
          rw [this, List.getElem_drop]
        have hRR : R = match cont c0 (rest.take m) with
            | none => none
            | some c => if isCodeN c && longN c == n then some (c, n) else none := by
          rw [← HR.out, getL, hf]
          rw [if_neg (by simp <;> omega), show n - 1 = m by omega]
          all_goals (dsimp only; cases cont c0 (rest.take m) <;> rfl)
        have HCE := Lib.hid hcell
        have HRR := Lib.hid hRR
        have HM := Lib.hid hm
        clear hcell hRR HE HR hf hrest hm
        have t1 : ((n : Int) == 0) = false := by rw [beq_eq_false_iff_ne]; omega
        have t2 : decide ((b.length : Int) - (k : Int) < (n : Int)) = false := by rw [decide_eq_false_iff_not]; omega
        go_enter Try.func126, Try.ntmps126
        go_wp2_with fail
        refine (first_any _ _).mono ?_
        rintro e w' ⟨rfl, rfl⟩
        rw [HF.out]
        go_wp2
        go_loop [8, 10, 47] (fun c _ i => ∃ j d : Nat, j ≤ m ∧ i = .int .i64 j ∧ c = .int .i64 d ∧ cont c0 (rest.take j) = some d ∧ d < 32 * 64 ^ j) (fun _ _ i => m - (intOf i).toNat)
        case atStart => exact ⟨0, c0, Nat.zero_le _, rfl, rfl, by simp [cont], by omega⟩
        case round =>
          obtain ⟨j, d, hj, rfl, rfl, hco, hd⟩ := hrel
          have HCO := Lib.hid hco
          have HD := Lib.hid hd
          have hd64 : d < 8388608 := by
            have hm := HM.out
            have : 64 ^ j ≤ 64 ^ 3 := Nat.pow_le_pow_right (by decide) (by omega)
            omega
          clear hco hd
          by_cases hlt : j < m
          · have hjr : j < rest.length := by omega
            have hc1 := HCE.out j hjr
            have hjc : j < k + n - (k + 1) := by have hm := HM.out; omega
            have hts := take_snoc rest j hjr
            have hdr : rest.take m = rest.take j ++ rest[j] :: (rest.drop (j + 1)).take (m - j - 1) := by
              have e1 : rest.take m = (rest.take j ++ rest.drop j).take m := by rw [List.take_append_drop]
              rw [e1, List.take_append, List.take_take, Nat.min_eq_right (by omega), List.length_take, Nat.min_eq_left (by omega), ← List.getElem_cons_drop hjr]
              congr 1
              rw [show m - j = (m - j - 1) + 1 by omega, List.take_succ_cons]
              rfl
            have HTS := Lib.hid hts
            have HDR := Lib.hid hdr
            clear hts hdr
            generalize rest[j] = y at *
            have hy := y.toNat_lt
            have hand : bits BinOp.andNot IntKind.u8 (y.toNat : Int) 63 = ((y.toNat &&& 192 : Nat) : Int) := u8_andNot_nat y.toNat 63 hy (by decide)
            have hiff := andNot_bad y.toNat hy
            generalize y.toNat &&& 192 = Y at *
            unfold bv at hc1
            by_cases hg : y.toNat / 64 = 2
            · have hY : (((Y : Nat) : Int) != 128) = false := by rw [bne_eq_false_iff_eq]; have := hiff.2 hg; omega
              have HN : Hid (cont c0 (rest.take (j + 1)) = some (d * 64 + y.toNat % 64)) := by
                show cont c0 (rest.take (j + 1)) = _
                rw [HTS.out, cont_snoc, HCO.out]
                simp [hg]
              have hor : Hid (bits BinOp.or IntKind.i64 ((d : Int) * 64) ((y.toNat : Int) % 64) = ((d * 64 + y.toNat % 64 : Nat) : Int)) := by
                have := i64_or_nat (d * 64) (y.toNat % 64) (by omega) (by omega)
                rw [nat_join 6 (d * 64) (y.toNat % 64) (by omega) (by omega)] at this
                exact this
              have HD2 : Hid (d * 64 + y.toNat % 64 < 32 * 64 ^ (j + 1)) := by
                show d * 64 + y.toNat % 64 < 32 * 64 ^ (j + 1)
                have := HD.out
                rw [Nat.pow_succ]
                omega
              clear hiff hg
              go_wp2
              go_round
              case rel => exact ⟨j + 1, d * 64 + y.toNat % 64, by omega, by go_num, by rw [← hor.out], HN.out, HD2.out⟩
              case measure => simp [intOf]; omega
            · have hY : (((Y : Nat) : Int) != 128) = true := by
                rw [bne_iff_ne]; intro e; exact hg (hiff.1 (by omega))
              have hr0 : R = none := by
                rw [HRR.out, HDR.out, cont_bad y hg]
              subst hr0
              clear hiff hg
              go_wp2
              go_ret3
              exact ⟨rfl, rfl⟩
          · have hjm : j = m := by omega
            have hje : ¬ j < k + n - (k + 1) := by have hm := HM.out; omega
            have hRd : R = if isCodeN d && longN d == n then some (d, n) else none := by
              rw [HRR.out, ← hjm, HCO.out]
            have hcd : isCode (d : Int) = isCodeN d := by simp [isCode]
            have HCD := Lib.hid hcd
            clear hcd hjm
            by_cases hok : isCodeN d = true
            · by_cases hlo : longN d = n
              · have hr0 : R = some (d, n) := by rw [hRd]; simp [hok, hlo]
                subst hr0
                have HOK := Lib.hid hok
                have t3 : (((longN d : Nat) : Int) != (n : Int)) = false := by rw [bne_eq_false_iff_eq, hlo]
                clear hRd hok hlo
                go_wp2_with fail
                refine (long_any _ _).mono ?_
                rintro e w' ⟨rfl, rfl⟩
                rw [Int.toNat_natCast]
                go_wp2_with fail
                refine (code_any _ _).mono ?_
                rintro e w' ⟨rfl, rfl⟩
                rw [HCD.out, HOK.out]
                go_wp2
                go_ret3
                exact ⟨rfl, rfl⟩
              · have hr0 : R = none := by rw [hRd]; simp [hlo]
                subst hr0
                have HOK := Lib.hid hok
                have t3 : (((longN d : Nat) : Int) != (n : Int)) = true := by rw [bne_iff_ne]; intro e; exact hlo (by omega)
                clear hRd hok hlo
                go_wp2_with fail
                refine (long_any _ _).mono ?_
                rintro e w' ⟨rfl, rfl⟩
                rw [Int.toNat_natCast]
                go_wp2_with fail
                refine (code_any _ _).mono ?_
                rintro e w' ⟨rfl, rfl⟩
                rw [HCD.out, HOK.out]
                go_wp2
                go_ret3
                exact ⟨rfl, rfl⟩
            · have hr0 : R = none := by rw [hRd]; simp [hok]
              subst hr0
              have HOK := Lib.hid (show isCodeN d = false by simpa using hok)
              clear hRd hok
              go_wp2_with fail
              refine (long_any _ _).mono ?_
              rintro e w' ⟨rfl, rfl⟩
              rw [Int.toNat_natCast]
              go_wp2_with fail
              refine (code_any _ _).mono ?_
              rintro e w' ⟨rfl, rfl⟩
              rw [HCD.out, HOK.out]
              go_wp2
              go_ret3
              exact ⟨rfl, rfl⟩
      · have hr0 : R = none := by
          rw [← HR.out, getL, hf]
          rw [if_pos (.inr (by simp; omega))]
        subst hr0
        have hfit' : b.length - k < n := by omega
        clear hf HE hfit
        go_enter Try.func126, Try.ntmps126
        go_wp2_with fail
        refine (first_any _ _).mono ?_
        rintro e w' ⟨rfl, rfl⟩
        rw [HF.out]
        go_wp2
        go_ret3
        exact ⟨rfl, rfl⟩
  · have HR : Hid (getAt b at_ = none) := by show getAt b at_ = none; rw [getAt, if_neg hin]
    rw [HR.out]
    by_cases q : at_ < 0
    · go_enter Try.func126, Try.ntmps126
      go_wp2
      go_ret3
      exact ⟨rfl, rfl⟩
    · have q2 : (b.length : Int) ≤ at_ := by omega
      clear hin
      go_enter Try.func126, Try.ntmps126
      go_wp2
      go_ret3
      exact ⟨rfl, rfl⟩
end Go.Proofs.Ytooaagmhgakhgaa
end

section
namespace Go.Proofs.Ytooaagmhgakhgaa
namespace UtfL
def scan (p : Nat) (l : List UInt8) : List (Nat × Nat) :=
  match _h : getL l with
  | none => []
  | some (c, n) => (p + n, c) :: scan (p + n) (l.drop n)
termination_by l.length
decreasing_by
  have := get_len _h
  rw [List.length_drop]; omega
theorem scan_none {p : Nat} {l : List UInt8} (h : getL l = none) : scan p l = [] := by
  rw [scan]; split
  · rfl
  · rename_i e; rw [h] at e; cases e
theorem scan_some {p : Nat} {l : List UInt8} {c n : Nat} (h : getL l = some (c, n)) : scan p l = (p + n, c) :: scan (p + n) (l.drop n) := by
  rw [scan]; split
  · rename_i e; rw [h] at e; cases e
  · rename_i e; rw [h] at e; cases e; rfl
def lastEnd (p : Nat) (l : List (Nat × Nat)) : Nat := l.foldl (fun _ x => x.1) p
theorem lastEnd_snoc (p : Nat) (l : List (Nat × Nat)) (x : Nat × Nat) : lastEnd p (l ++ [x]) = x.1 := by simp [lastEnd]
def codesOf (b : List UInt8) : List Nat := (scan 0 b).map (·.2)
def endOf (b : List UInt8) : Nat := lastEnd 0 (scan 0 b)
def At (b : List UInt8) (pre : List (Nat × Nat)) (p : Nat) : Prop := p ≤ b.length ∧ scan 0 b = pre ++ scan p (b.drop p) ∧ p = lastEnd 0 pre
theorem At.start (b : List UInt8) : At b [] 0 := ⟨Nat.zero_le _, by simp, rfl⟩
theorem getAt_eq {b : List UInt8} {p : Nat} (hp : p ≤ b.length) : getAt b (p : Int) = getL (b.drop p) := by
  rw [getAt]
  by_cases h : p < b.length
  · rw [if_pos ⟨by omega, by omega⟩]; rfl
  · rw [if_neg (by omega)]
    have : p = b.length := by omega
    rw [this, List.drop_length]; rfl
theorem At.next {b : List UInt8} {pre : List (Nat × Nat)} {p c n : Nat} (h : At b pre p) (hg : getAt b (p : Int) = some (c, n)) : At b (pre ++ [(p + n, c)]) (p + n) ∧ 1 ≤ n ∧ n ≤ 4 := by
  obtain ⟨h1, h2, h3⟩ := h
  rw [getAt_eq h1] at hg
  have hl := get_len hg
  rw [List.length_drop] at hl
  refine ⟨⟨by omega, ?_, (by rw [lastEnd_snoc])⟩, hl.1, hl.2.1⟩
  rw [h2, scan_some hg, List.drop_drop, List.append_assoc]; rfl
theorem At.done {b : List UInt8} {pre : List (Nat × Nat)} {p : Nat} (h : At b pre p) (hg : getAt b (p : Int) = none) : scan 0 b = pre := by
  obtain ⟨h1, h2, h3⟩ := h
  rw [getAt_eq h1] at hg
  rw [h2, scan_none hg, List.append_nil]
theorem At.full {b : List UInt8} {pre : List (Nat × Nat)} (h : At b pre b.length) : scan 0 b = pre := by
  refine h.done ?_
  rw [getAt, if_neg (by omega)]
theorem scan_len : ∀ (k p : Nat) (l : List UInt8), l.length ≤ k → (scan p l).length ≤ l.length ∧ p ≤ lastEnd p (scan p l) ∧ lastEnd p (scan p l) ≤ p + l.length
  | 0, p, l, h => by
    have : l = [] := List.eq_nil_of_length_eq_zero (by omega)
    subst this
    rw [scan_none rfl]; simp [lastEnd]
  | k + 1, p, l, h => by
    cases hg : getL l with
    | none => rw [scan_none hg]; simp [lastEnd]
    | some q =>
      obtain ⟨c, n⟩ := q
      have hl := get_len hg
      have := scan_len k (p + n) (l.drop n) (by rw [List.length_drop]; omega)
      rw [scan_some hg]
      rw [List.length_drop] at this
      simp only [List.length_cons]
      have e : lastEnd p ((p + n, c) :: scan (p + n) (l.drop n)) = lastEnd (p + n) (scan (p + n) (l.drop n)) := rfl
      rw [e]
      omega
end UtfL
end Go.Proofs.Ytooaagmhgakhgaa
end

section
namespace Go.Proofs.Ytooaagmhgakhgaa
open Go.RowKit UtfL Go.Shelf
attribute [local go_sem] Oper.semAt_some

theorem strSees {w : World} {g cap : Nat} {e : TypeId} {fr : Nat × Nat} {s : ByteArray} (hb : w.heap[g]? = some (.cells (bytesRow s cap) e fr)) (h1 : s.size ≤ cap) (h2 : cap ≤ maxLen) :
    Sees bv w (.slice (some ⟨g, 0, none⟩) s.size cap) s.data.toList := by
  have hl : s.data.toList.length = s.size := by simp
  have := Sees.lit (enc := bv) hb s.data.toList 0 cap (by omega) h2 (fun i hi => by
    rw [bytesRow, Nat.zero_add, Array.getElem?_append_left (by simpa using hi)]
    simp at hi
    simp [hi, bv])
  rwa [hl] at this

theorem all_any (s : ByteArray) (w : World) :
    Calls Try.prog 123 #[.string s] w fun e w' => e = .returned (.func (.func 125) #[] #[.pointer (some ⟨w.heap.size, 0, none⟩)]) ∧ w.alloc (.cells #[.string s] 9) = w' := by
  go_enter Try.func123, Try.ntmps123
  go_wp2
  go_ret
  exact ⟨rfl, rfl⟩

set_option maxHeartbeats 1000000 in
set_option maxRecDepth 100000 in
theorem all1_seq (n : Nat) (hn : 1 ≤ n) (s : ByteArray) (hs : s.size ≤ 1000000) (B : Nat) (w : World) (hB : B < w.heap.size) (hc : w.cell? ⟨B, 0, none⟩ = some (.string s)) :
    SeqC Fence.wide n Try.prog 125 #[.pointer (some ⟨B, 0, none⟩)] (fun x : Nat × Nat => #[Value.int .i64 (x.1 : Int), Value.int .i64 (x.2 : Int)]) (fun _ => False) (fun k => B = k)
      (fun pre => ∃ p, At s.data.toList pre p) (fun xs _ => xs = scan 0 s.data.toList) (fun _ _ => True) w := by
  intro l J Jx W hW hJ hJx hY h0
  have hcW : W.cell? ⟨B, 0, none⟩ = some (.string s) := (hW.cell hB (fun h => h)).trans hc
  have hsz := hW.size
  have hcv2 := fun w s => run_bytes_of_string (P := Try.prog) w 9 127 5 s Try.underlying9 Try.underlying127 Try.underlying5
  have hlen : s.data.toList.length = s.size := by simp
  refine callsIn_of_wp Try.func125 rfl trivial ?_ rfl
  simp only [Try.ntmps125, List.size_toArray, List.length_cons, List.length_nil, Nat.reduceAdd, Nat.reduceSub, Array.replicate_succ, Array.replicate_zero, List.push_toArray, List.append_toArray, List.nil_append, List.cons_append]
  gi_wp2
  have hcap1 := grownCap_ge W s.size 0 5
  have hcap2 := grownCap_le_maxLen W s.size 0 5 (by unfold maxLen; omega)
  generalize grownCap W s.size 0 5 = cap at *
  have hchg : Chg (fun _ => False) W (W.alloc (.cells (bytesRow s cap) 5 ((bytesRow s cap).size, (bytesRow s cap).size + 1))).drew := ((Chg.refl _ W).alloc _).drew
  have hnew : (W.alloc (.cells (bytesRow s cap) 5 ((bytesRow s cap).size, (bytesRow s cap).size + 1))).drew.heap[W.heap.size]? = some (.cells (bytesRow s cap) 5 ((bytesRow s cap).size, (bytesRow s cap).size + 1)) := World.alloc_heap_new W _
  have hJ0 := hJ.step _ _ _ _ h0 hchg
  have hsz1 : (W.alloc (.cells (bytesRow s cap) 5 ((bytesRow s cap).size, (bytesRow s cap).size + 1))).drew.heap.size = W.heap.size + 1 := by show (W.alloc _).heap.size = _; simp
  generalize (W.alloc (.cells (bytesRow s cap) 5 ((bytesRow s cap).size, (bytesRow s cap).size + 1))).drew = W1 at *
  generalize ((bytesRow s cap).size, (bytesRow s cap).size + 1) = fr at *
  have hPr : NewIn W W1 (fun k => B = k) W.heap.size := .inr ⟨Nat.le_refl _, by omega⟩
  generalize hPd : NewIn W W1 (fun k => B = k) = Pr1 at *
  have hPr0 : ∀ k, B = k → Pr1 k := fun k e => by rw [← hPd]; exact .inl e
  generalize hgl : s.data.toList = b at *
  have hgl' := Lib.hid hgl
  clear hgl hPd h0 hcW hW hchg
  gi_loopw [4] (fun c wr => ∃ (p : Nat) (pre : List (Nat × Nat)), c = .int .i64 p ∧ At b pre p ∧ J pre Pr1 wr ∧ wr.heap[W.heap.size]? = some (.cells (bytesRow s cap) 5 fr)) (fun c _ => b.length - (intOf c).toNat)
  case atStart => exact ⟨0, [], rfl, At.start b, hJ0, hnew⟩
  case round =>
    obtain ⟨p, pre, rfl, hat, hj, hblk⟩ := hrel
    have hp := hat.1
    have HJ := Lib.hid hj
    have HAT := Lib.hid hat
    have hsees : Sees bv wr (.slice (some ⟨W.heap.size, 0, none⟩) s.size cap) b := by rw [← hgl'.out]; exact strSees hblk hcap1 hcap2
    have HS := Lib.hid hsees
    clear hj hat hsees
    by_cases hlt : p < s.size
    · cases hg : getAt b (p : Int) with
      | none =>
        have HG := Lib.hid hg; clear hg
        gi_wp2_with fail
        refine wcall (utfGet_any _ b _ _ HS.out) ?_
        rintro e w' ⟨rfl, rfl⟩
        rw [HG.out]
        unfold getRes
        gi_wp2
        refine ⟨fun _ h => (by cases h), ?_⟩
        gi_wp2
        refine bodyPost_ret (results_none rfl _ _ _) rfl ?_
        exact ⟨⟨_, rfl⟩, .inl ⟨_, by rw [hgl'.out]; exact (HAT.out.done HG.out).symm, hJ.less _ _ _ _ HJ.out hPr0⟩⟩
      | some q =>
        obtain ⟨c, k⟩ := q
        obtain ⟨hat2, hk1, hk2⟩ := HAT.out.next hg
        have hp2 := hat2.1
        obtain ⟨fn, tmps, assign, body, hyy, hR⟩ := hY _ (p + k, c) _ _ HJ.out hPr0 ⟨p + k, hat2⟩
        dsimp only at hyy
        rw [Int.natCast_add] at hyy
        have HG := Lib.hid hg
        have HA := Lib.hid hat2
        clear hg hat2
        gi_wp2_with fail
        refine wcall (utfGet_any _ b _ _ HS.out) ?_
        rintro e w' ⟨rfl, rfl⟩
        rw [HG.out]
        unfold getRes
        gi_wp2
        refine hR.mono ?_
        rintro e W3 (⟨rfl, hJ3, hk3⟩ | ⟨rfl, hJx3, hk3⟩)
        · have hblk3 := (hk3.block W.heap.size (Array.getElem?_eq_some_iff.1 hblk).1 (fun h => h hPr)).trans hblk
          gi_wp2
          go_roundw
          case rel => exact ⟨p + k, _, by go_num, HA.out, hJ3, hblk3⟩
          case measure => simp [intOf]; omega
        · gi_wp2
          refine bodyPost_ret (results_none rfl _ _ _) rfl ?_
          exact ⟨⟨_, rfl⟩, .inr ⟨_, trivial, hJx.less _ _ _ _ hJx3 hPr0⟩⟩
    · gi_wp2
      go_end0
      have e : p = b.length := by omega
      subst e
      exact ⟨⟨_, rfl⟩, .inl ⟨_, by rw [hgl'.out]; exact HAT.out.full.symm, hJ.less _ _ _ _ HJ.out hPr0⟩⟩
end Go.Proofs.Ytooaagmhgakhgaa
end

section
namespace Go.Proofs.Ytooaagmhgakhgaa
open Go.RowKit UtfL Go.Shelf
attribute [local go_sem] Oper.semAt_some

theorem utfInfoInt : (Try.prog.info? 3).map (fun i => (i.zero, i.size, i.bytes)) = some (some (.int .i64 0), 1, 8) := by kernel_rfl
set_option maxRecDepth 100000 in
set_option maxHeartbeats 2000000 in
theorem codes_any (s : ByteArray) (hs : s.size ≤ 1000000) (w : World) :
    Calls Try.prog 120 #[.string s] w fun e w' => ∃ v, e = .returned (.tuple #[v, .int .i64 (endOf s.data.toList : Nat)]) ∧ w'.ownsRow w.heap.size 3 1 v (codesOf s.data.toList).length ((codesOf s.data.toList).map fun x : Nat => iv (x : Int)) ∧ Below w.heap.size w w' := by
  have hSL := scan_len s.data.toList.length 0 s.data.toList (Nat.le_refl _)
  have hlen : s.data.toList.length = s.size := by simp
  refine (callsIn_wide (n := 5)).1 ?_
  refine callsIn_of_wp_marks Try.func120 rfl trivial ?_ rfl
  simp only [Try.ntmps120, List.size_toArray, List.length_cons, List.length_nil, Nat.reduceAdd, Nat.reduceSub, Array.replicate_succ, Array.replicate_zero, List.push_toArray, List.append_toArray, List.nil_append, List.cons_append]
  gi_wp2_with fail
  refine wcall (all_any _ _) ?_
  rintro e w' ⟨rfl, rfl⟩
  gi_wp2_with fail
  obtain ⟨W0, hW0⟩ : ∃ W0, ((w.alloc (.cells #[.slice none 0 0] 36)).alloc (.cells #[.int .i64 0] 3)).alloc (.cells #[.string s] 9) = W0 := ⟨_, rfl⟩
  have hs0 : W0.heap.size = w.heap.size + 3 := by rw [← hW0]; simp
  have hc0 : W0.cell? ⟨w.heap.size + 2, 0, none⟩ = some (.string s) := by
    have := (Boxed.new ((w.alloc (.cells #[.slice none 0 0] 36)).alloc (.cells #[.int .i64 0] 3)) 9 (.string s)).cell
    rw [hW0] at this
    simpa using this
  have hb0 : Boxed W0 w.heap.size 36 (.slice none 0 0) := by rw [← hW0]; exact ((Boxed.new w _ _).alloc _).alloc _
  have hb1 : Boxed W0 (w.heap.size + 1) 3 (.int .i64 0) := by
    have := (Boxed.new (w.alloc (.cells #[.slice none 0 0] 36)) 3 (.int .i64 0)).alloc (.cells #[.string s] 9)
    rw [hW0] at this
    simpa using this
  have hB0 : Below w.heap.size w W0 := by rw [← hW0]; exact (((Below.refl _ w).alloc (Nat.le_refl _) _).alloc (by simp) _).alloc (by simp; omega) _
  rw [hW0]
  have HSL := Lib.hid hSL
  have HL := Lib.hid hlen
  clear hSL hlen
  refine wpIn_range1 rfl (by omega) (gf := 125) (lb := #[.pointer (some ⟨w.heap.size + 2, 0, none⟩)]) rfl trivial (enters_of Try.func125 (by kernel_rfl) rfl)
    (all1_seq 4 (by omega) s hs (w.heap.size + 2) W0 (by omega) hc0) (Chg.refl _ _) (fun _ h => h.elim) (fun k h => by omega) (fun _ => rfl)
    (fun pre Pr W => (Coll (w.heap.size + 3) w.heap.size 36 3 1 pre.length (pre.map fun x : Nat × Nat => iv (x.2 : Int)) (fun k => W0.heap.size = k ∨ W0.heap.size + 1 = k ∨ w.heap.size + 1 = k) Pr W ∧ Held (w.heap.size + 1) 3 (.int .i64 (lastEnd 0 pre : Nat)) (fun k => W0.heap.size = k ∨ W0.heap.size + 1 = k) Pr W) ∧ Below w.heap.size w W) (fun _ _ _ _ => False)
    (Bears.and (Bears.and (Coll.bears (fun k h => h.elim (fun h => h.elim) (fun h => h.imp id .inl))) (Held.bears (fun k h => h.elim (fun h => h.elim) id))) (Bears.below (Nat.le_refl _) (fun k hk h => by rcases h with h | h | h; exact h; all_goals omega))) (fun _ => Bears.false _)
    ⟨⟨⟨_, hb0, by omega, by omega, World.ownsRow_nil _ _ _ _, fun k e => (by cases e), by simp⟩, hb1, by omega, by omega⟩, hB0⟩
    (fun x => { tmps := #[.string s, undef, .slice none 0 0, .int .i64 0, .pointer (some ⟨w.heap.size, 0, none⟩), .pointer (some ⟨w.heap.size + 1, 0, none⟩), .int .i64 (x.1 : Int), .int .i64 (x.2 : Int), .string s, .func (.func 125) #[] #[.pointer (some ⟨w.heap.size + 2, 0, none⟩)], .int .i64 (x.1 : Int), .int .i64 (x.2 : Int), undef, undef, undef, undef, undef, undef, undef], defers := [] }) ?assign ?body ?done ?stop
  case assign =>
    intro l x W K hK
    gi_wp2
    exact hK
  case body =>
    rintro l pre ⟨p, x⟩ Pr W hsW hPb hP0 hPl - ⟨⟨⟨v, hv, hPB, hMB, hrow, hvb, hnil⟩, hv2, hP2, hM2⟩, hB⟩ ⟨q, hat⟩
    dsimp only
    have hle : lastEnd 0 (pre ++ [(p, x)]) = p := lastEnd_snoc _ _ _
    have hlen : pre.length + 1 ≤ 1000000 := by
      have h1 := congrArg List.length hat.2.1
      have h2 := HSL.out.1
      have h3 := HL.out
      simp only [List.length_append, List.length_cons, List.length_nil] at h1
      omega
    clear hat
    have hBs := hB.size
    have hc := hv.cell
    have hf := hv.frozen
    gi_wp2_with (gi_at_builtin; go_loud (refine wpListIn_app _ rfl _ _ 36 rfl (w.heap.size + 3) 3 (.int .i64 0) 1 8 Try.underlying36 utfInfoInt rfl (by decide) _ _ _ rfl (hrow.alloc _) _ 1 _ rfl (Src.new W _ 3 1 1 1 rfl) (by simp [Value.oneCell']) (by unfold maxLen; omega) (by omega) (by simp; omega) ?_; intro v' w1 hown' hc' hb' hn'; obtain ⟨h1, h2, h3⟩ := Coll.appended hv hPB hMB hrow hvb (by decide) (fun k hk => by omega) hPb hown' hc' hb' (by rw [hn']; omega); obtain ⟨g', cap', rfl⟩ := ownsRow_succ hown'; have hc1 := h1.cell; have hf1 := h1.frozen; have hn1 : ∀ k, v.ownBlock = some k → ¬ k = w.heap.size + 1 := (fun k e => by have := (hrow.lt k e).1; omega); have hq1 : Boxed w1 (w.heap.size + 1) 3 (.int .i64 (lastEnd 0 pre : Nat)) := Boxed.chg (hv2.alloc _) hc' (fun e => hn1 _ e rfl); have hq2 := hq1.other (show w.heap.size + 1 ≠ w.heap.size by omega) (.slice (some ⟨g', 0, none⟩) (pre.length + 1) cap'); have hc2 := hq2.cell; have hf2 := hq2.frozen))
    have hB1 : Below w.heap.size w ((w1.setCell ⟨w.heap.size, 0, none⟩ (.slice (some ⟨g', 0, none⟩) (pre.length + 1) cap')).setCell ⟨w.heap.size + 1, 0, none⟩ (.int .i64 (p : Int))) := by
      refine hB.trans (Chg.below (n := w.heap.size) (M := fun k => ¬ k < w.heap.size) ?_ hBs (fun k hk h => h hk))
      refine Chg.setCell ?_ (fun _ => by simp) _
      refine Chg.setCell ?_ (fun _ => by simp) _
      exact ((Chg.refl _ W).alloc _).trans (hc'.mono fun k _ e => by have := (hrow.lt k e).1; omega)
    have hset := (Chg.refl (fun k => w.heap.size + 1 = k) (w1.setCell ⟨w.heap.size, 0, none⟩ (.slice (some ⟨g', 0, none⟩) (pre.length + 1) cap'))).setCell (p := ⟨w.heap.size + 1, 0, none⟩) (fun _ => rfl) (.int .i64 (p : Int))
    refine ⟨h3.trans (hset.mono fun k _ e => by subst e; exact hP2), ⟨?_, (by rw [hle]; exact hq2.set _), hP2, (by dsimp only; omega)⟩, hB1⟩
    have h4 := (h2.step hset (fun k e => .inr (.inr e))).less (Pr' := Pr) (fun k hk => .inl hk)
    rw [List.length_append, List.map_append]
    rw [hs0] at h4
    exact h4
  case done =>
    rintro xs Wa W rfl - ⟨⟨⟨v, hv, -, -, hrow, -, -⟩, hv2, -, -⟩, hB⟩ hK
    have hc := hv.cell
    have hc2 := hv2.cell
    have HR := Lib.hid hrow; clear hrow hv hB0 hb0 hv2 hb1
    gi_wp2
    gi_region
    gi_wp2
    refine ⟨by simp, .inl ⟨_, _, rfl, run_takeDeferred (w := W.drew) hK, ?_⟩⟩
    refine ⟨_, results_tmp2 rfl _ _ _, v, rfl, ?_, ?_⟩
    · rw [codesOf, List.length_map, List.map_map]
      exact Joins.ownsRow_le (ownsRow_putObj HR.out.drew _ hK rfl) (by omega)
    · exact hB.trans ((((Chg.refl (fun k => ¬ k < w.heap.size) W).drew).putObj (fun _ => by omega) _).below hB.size (fun k hk h => h hk))
  case stop =>
    rintro c pre Wa W - - h
    exact h.elim
end Go.Proofs.Ytooaagmhgakhgaa
end

section
namespace Go.Proofs.Ytooaagmhgakhgaa
open Go.RowKit UtfL Go.Shelf

def countOf (b : List UInt8) : Int := if endOf b < b.length then -1 else (codesOf b).length
theorem owns_slice {w : World} {base : Nat} {e : TypeId} {size n : Nat} {v : Value} {xs : List Value} (h : w.ownsRow base e size v n xs) : ∃ a cap, v = .slice a n cap := by
  rcases h.2 with ⟨rfl, rfl⟩ | ⟨g, cap, cur, rfl, _⟩
  · exact ⟨_, _, rfl⟩
  · exact ⟨_, _, rfl⟩
theorem count_any (s : ByteArray) (hs : s.size ≤ 1000000) (w : World) :
    Calls Try.prog 114 #[.string s] w fun e w' => e = .returned (.int .i64 (countOf s.data.toList)) ∧ Below w.heap.size w w' := by
  have hlen : s.data.toList.length = s.size := by simp
  have hco : countOf s.data.toList = if endOf s.data.toList < s.size then -1 else ((codesOf s.data.toList).length : Int) := by rw [countOf, hlen]
  rw [hco]
  clear hco hlen
  by_cases h : endOf s.data.toList < s.size
  · rw [if_pos h]
    go_enter Try.func114, Try.ntmps114
    go_wp2_with fail
    refine (codes_any _ hs _).mono ?_
    rintro e w' ⟨v, rfl, hown, hB⟩
    obtain ⟨a, cap, rfl⟩ := owns_slice hown
    have HO := Lib.hid hown
    clear hown
    go_wp2
    go_ret
    exact ⟨rfl, hB⟩
  · rw [if_neg h]
    go_enter Try.func114, Try.ntmps114
    go_wp2_with fail
    refine (codes_any _ hs _).mono ?_
    rintro e w' ⟨v, rfl, hown, hB⟩
    obtain ⟨a, cap, rfl⟩ := owns_slice hown
    have HO := Lib.hid hown
    clear hown
    go_wp2
    go_ret
    exact ⟨rfl, hB⟩

theorem valid_any (s : ByteArray) (hs : s.size ≤ 1000000) (w : World) :
    Calls Try.prog 99 #[.string s] w fun e w' => e = .returned (.bool (decide (0 ≤ countOf s.data.toList))) ∧ Below w.heap.size w w' := by
  go_enter Try.func99, Try.ntmps99
  go_wp2_with fail
  refine (count_any _ hs _).mono ?_
  rintro e w' ⟨rfl, hB⟩
  go_wp2
  go_ret
  exact ⟨rfl, hB⟩

end Go.Proofs.Ytooaagmhgakhgaa
end

section
namespace Go.Proofs.Ytooaagmhgakhgaa
open Go.RowKit UtfL

end Go.Proofs.Ytooaagmhgakhgaa
end

section
namespace Go.Proofs.Ytooaagmhgakhgaa
namespace UtfL
def lead (x : Nat) : Nat := if 240 ≤ x then x - 240 else if 224 ≤ x then x - 224 else if 192 ≤ x then x - 192 else x
def acc : List UInt8 → Nat
  | [] => 0
  | x :: r => r.foldl (fun c y => c * 64 + y.toNat % 64) (lead x.toNat)
end UtfL
end Go.Proofs.Ytooaagmhgakhgaa
end

section
namespace Go.Proofs.Ytooaagmhgakhgaa
open Go.RowKit
theorem Sees.slice {α : Type} {enc : α → Value} {w : World} {bb off cap : Nat} {b : List α} (h : Sees enc w (.slice (some ⟨bb, off, none⟩) b.length cap) b) (i n : Nat) (hi : i + n ≤ b.length) :
    Sees enc w (.slice (some ⟨bb, off + i, none⟩) n (cap - i)) ((b.drop i).take n) := by
  obtain ⟨a, cap', he, h1, h2, h3, h4⟩ := h
  cases he
  have hl : ((b.drop i).take n).length = n := by rw [List.length_take, List.length_drop]; omega
  refine ⟨some ⟨bb, off + i, none⟩, cap - i, by rw [hl], by omega, by omega, fun e => (by cases e), fun x e hx => ?_⟩
  cases e
  rw [hl] at hx
  obtain ⟨e1, e2, e3⟩ := h4 _ rfl (by omega)
  refine ⟨rfl, e2, fun j hj => ?_⟩
  have := e3 (i + j) (by omega)
  dsimp only at this ⊢
  rw [Nat.add_assoc, this]
  congr 2
  rw [List.getElem_take, List.getElem_drop]
end Go.Proofs.Ytooaagmhgakhgaa
end

section
namespace Go.Proofs.Ytooaagmhgakhgaa
open Go.RowKit

end Go.Proofs.Ytooaagmhgakhgaa
end

section
namespace Go.Proofs.Ytooaagmhgakhgaa
open Go.RowKit UtfL Go.Shelf

end Go.Proofs.Ytooaagmhgakhgaa
end

section
namespace Go.Proofs.Ytooaagmhgakhgaa
set_option linter.unusedSimpArgs false
open Go.RowKit UtfL
set_option maxRecDepth 10000
set_option maxHeartbeats 4000000
def getD' (r : Option (Nat × Nat)) : D := match r with
  | some (c, n) => .tup [.i c, .i n, .b true]
  | none => .tup [.i 0, .i 0, .b false]
theorem utfValidF (s : ByteArray) (hs : s.size ≤ 1000000) (st : St) : TrF Try.prog 99 [.str s] st fun d st' => d = .b (decide (0 ≤ countOf s.data.toList)) ∧ st' = st :=
  trF_pure fun vs w hv => by
    obtain ⟨v, rfl, h1⟩ := args1 hv
    cases rep_s h1
    exact ⟨_, fun _ _ => .s _ rfl, valid_any s hs w⟩
def encN (n : Nat) : List D := [.i n]
end Go.Proofs.Ytooaagmhgakhgaa
end

section
namespace Go.Proofs.Ytooaagmhgakhgaa
set_option linter.unusedSimpArgs false
open Go.RowKit
set_option maxRecDepth 10000
set_option maxHeartbeats 4000000
namespace V
def validB (l : List UInt8) : Bool := decide (0 ≤ countOf l)
def sgl (k n : Int) (s : ByteArray) (len : Nat) : Bool :=
  if k = 0 then (n == 0) && decide (s.size = 0)
  else if k = 1 then ((n == 0) || (n == 1)) && decide (s.size = 0)
  else if k = 2 then decide (s.size = 0)
  else if k = 3 then (n == 0) && isName s.data.toList
  else if k = 4 then (n == 0) && (decide (s.size ≤ 200) && validB s.data.toList)
  else if k = 5 then (n == 0) && (decide (s.size = 0) && decide (len ≤ 20))
  else false
end V
open V in
theorem valSingleF (k n : Int) (s : ByteArray) (l : List V) (st : St) : TrF Try.prog 84 [.agg [.i k, .i n, .str s, .sl .shared (l.map V.cells)]] st fun x st' => x = .b (sgl k n s l.length) ∧ st' = st := by
  obtain ⟨nm, hnm⟩ : ∃ nm, isName s.data.toList = nm := ⟨_, rfl⟩
  obtain ⟨vd, hvd⟩ : ∃ vd, validB s.data.toList = vd := ⟨_, rfl⟩
  have hN := valIsNameF s
  have hV := fun h => utfValidF s h
  rw [validB] at hvd
  rw [hnm] at hN
  rw [hvd] at hV
  have hS : Hid (∀ b, sgl k n s l.length = b → sgl k n s l.length = b) := fun b h => h
  have hE : sgl k n s l.length = (if k = 0 then (n == 0) && decide (s.size = 0)
  else if k = 1 then ((n == 0) || (n == 1)) && decide (s.size = 0)
  else if k = 2 then decide (s.size = 0)
  else if k = 3 then (n == 0) && nm
  else if k = 4 then (n == 0) && (decide (s.size ≤ 200) && vd)
  else if k = 5 then (n == 0) && (decide (s.size = 0) && decide (l.length ≤ 20))
  else false) := by rw [← hnm, ← hvd]; rfl
  rw [hE]
  clear hE hS hnm hvd
  have hN := Lib.hid hN
  have hV := Lib.hid hV
  refine trF_enter (ts := [2]) Try.func84 rfl (by rw [Try.ntmps84]; exact Nat.le_of_ble_eq_true rfl) (fun tmps w => by simp [results, Try.results84, go_sem, resVal]) ?_
  simp only [Try.ntmps84]
  by_cases k0 : k = 0
  · subst k0
    repeat' (first | with_reducible refine Go1.go ?_ | ((with_reducible apply ev_go); (focus (try simp (disch := omega) only [push_cast, Nat.reduceEqDiff, reduceCtorEq, ↓reduceIte, Nat.reduceAdd, Nat.reduceMul, Nat.reduceSub, Nat.reduceLT, Nat.reduceLeDiff, Int.reduceToNat, Int.reduceLT, Int.reduceLE, Int.reduceAdd, Int.reduceSub, Int.reduceMul, Int.reduceBEq, Int.reduceBNe, encB, encI, V.cells_mk, V.cells_take, V.cells_len, isE_eq, *]); (try exact rfl); done)) | ((with_reducible refine w_last ?_ ?_ ?_); (focus kernel_rfl); (focus rfl)) | ((with_reducible apply w_stepG); (focus rfl)) | ((with_reducible apply lk_mem); (focus ((repeat (first | exact mm_h | apply mm_t)); done))) | with_reducible refine Go2.go ?_ | ((with_reducible apply sto_go); (focus (intro cs'; repeat (first | exact ra_h | apply ra_t)))) | ((with_reducible refine al_go ?_); intro b) | ((with_reducible refine And.intro ?_ ?_); (focus ((repeat (first | exact keep_none | exact keep_nil | exact keep_ro | refine keep_cons ?_)); done))) | ((with_reducible refine s_bi ?_ ?_); (focus rfl)) | with_reducible refine blk_ne rfl ?_ | ((with_reducible refine w_region ?_ ?_); (focus kernel_rfl)) | ((with_reducible refine w_draw [] ?_ ?_ ?_ ?_ ?_); (iterate 3 (focus kernel_rfl)); (focus exact keeps_nil)) | ((with_reducible first | refine gd_d1 ?_ ?_ | refine gd_d0 ?_ ?_); all_goals (intro hb; (first | with_reducible replace hb := nt_t hb | with_reducible replace hb := nt_f hb | skip); (first | replace hb := dc_t hb | replace hb := dc_f hb | have hb1 := eq_b hb | have hb1 := ne_b hb | have hb1 := bne_t hb | have hb1 := bne_f hb | skip); (try (exfalso; first | contradiction | omega)))))
    all_goals (refine ret_eq (by first | exact .inl rfl | exact .inr rfl) (by first | rfl | assumption) (by (repeat (first | exact List.Sublist.refl _ | apply List.Sublist.cons))) ?_; (try simp (disch := omega) only [push_cast, Nat.reduceEqDiff, reduceCtorEq, ↓reduceIte, Nat.reduceAdd, Nat.reduceMul, Nat.reduceSub, Nat.reduceLT, Nat.reduceLeDiff, Int.reduceToNat, Int.reduceLT, Int.reduceLE, Int.reduceAdd, Int.reduceSub, Int.reduceMul, Int.reduceBEq, Int.reduceBNe, encB, encI, V.cells_mk, V.cells_take, V.cells_len, isE_eq, *]); try (first | exact LE.refl _ | exact LE.sl _ _ | (refine LE.tup ?_; (repeat' (first | exact LEL.nil | refine LEL.cons ?_ ?_ | exact LE.refl _ | exact LE.sl _ _ | refine LE.agg ?_)); done) | (refine LE.agg ?_; (repeat' (first | exact LEL.nil | refine LEL.cons ?_ ?_ | exact LE.refl _ | exact LE.sl _ _)); done) | refine LE.of_eq ?_))
    all_goals simp_all
    all_goals (try (intros; first | omega | (exfalso; omega)))
  by_cases k1 : k = 1
  · subst k1
    repeat' (first | with_reducible refine Go1.go ?_ | ((with_reducible apply ev_go); (focus (try simp (disch := omega) only [push_cast, Nat.reduceEqDiff, reduceCtorEq, ↓reduceIte, Nat.reduceAdd, Nat.reduceMul, Nat.reduceSub, Nat.reduceLT, Nat.reduceLeDiff, Int.reduceToNat, Int.reduceLT, Int.reduceLE, Int.reduceAdd, Int.reduceSub, Int.reduceMul, Int.reduceBEq, Int.reduceBNe, encB, encI, V.cells_mk, V.cells_take, V.cells_len, isE_eq, *]); (try exact rfl); done)) | ((with_reducible refine w_last ?_ ?_ ?_); (focus kernel_rfl); (focus rfl)) | ((with_reducible apply w_stepG); (focus rfl)) | ((with_reducible apply lk_mem); (focus ((repeat (first | exact mm_h | apply mm_t)); done))) | with_reducible refine Go2.go ?_ | ((with_reducible apply sto_go); (focus (intro cs'; repeat (first | exact ra_h | apply ra_t)))) | ((with_reducible refine al_go ?_); intro b) | ((with_reducible refine And.intro ?_ ?_); (focus ((repeat (first | exact keep_none | exact keep_nil | exact keep_ro | refine keep_cons ?_)); done))) | ((with_reducible refine s_bi ?_ ?_); (focus rfl)) | with_reducible refine blk_ne rfl ?_ | ((with_reducible refine w_region ?_ ?_); (focus kernel_rfl)) | ((with_reducible refine w_draw [] ?_ ?_ ?_ ?_ ?_); (iterate 3 (focus kernel_rfl)); (focus exact keeps_nil)) | ((with_reducible first | refine gd_d1 ?_ ?_ | refine gd_d0 ?_ ?_); all_goals (intro hb; (first | with_reducible replace hb := nt_t hb | with_reducible replace hb := nt_f hb | skip); (first | replace hb := dc_t hb | replace hb := dc_f hb | have hb1 := eq_b hb | have hb1 := ne_b hb | have hb1 := bne_t hb | have hb1 := bne_f hb | skip); (try (exfalso; first | contradiction | omega)))))
    all_goals (refine ret_eq (by first | exact .inl rfl | exact .inr rfl) (by first | rfl | assumption) (by (repeat (first | exact List.Sublist.refl _ | apply List.Sublist.cons))) ?_; (try simp (disch := omega) only [push_cast, Nat.reduceEqDiff, reduceCtorEq, ↓reduceIte, Nat.reduceAdd, Nat.reduceMul, Nat.reduceSub, Nat.reduceLT, Nat.reduceLeDiff, Int.reduceToNat, Int.reduceLT, Int.reduceLE, Int.reduceAdd, Int.reduceSub, Int.reduceMul, Int.reduceBEq, Int.reduceBNe, encB, encI, V.cells_mk, V.cells_take, V.cells_len, isE_eq, *]); try (first | exact LE.refl _ | exact LE.sl _ _ | (refine LE.tup ?_; (repeat' (first | exact LEL.nil | refine LEL.cons ?_ ?_ | exact LE.refl _ | exact LE.sl _ _ | refine LE.agg ?_)); done) | (refine LE.agg ?_; (repeat' (first | exact LEL.nil | refine LEL.cons ?_ ?_ | exact LE.refl _ | exact LE.sl _ _)); done) | refine LE.of_eq ?_))
    all_goals simp_all
    all_goals (try (intros; first | omega | (exfalso; omega)))
  by_cases k2 : k = 2
  · subst k2
    repeat' (first | with_reducible refine Go1.go ?_ | ((with_reducible apply ev_go); (focus (try simp (disch := omega) only [push_cast, Nat.reduceEqDiff, reduceCtorEq, ↓reduceIte, Nat.reduceAdd, Nat.reduceMul, Nat.reduceSub, Nat.reduceLT, Nat.reduceLeDiff, Int.reduceToNat, Int.reduceLT, Int.reduceLE, Int.reduceAdd, Int.reduceSub, Int.reduceMul, Int.reduceBEq, Int.reduceBNe, encB, encI, V.cells_mk, V.cells_take, V.cells_len, isE_eq, *]); (try exact rfl); done)) | ((with_reducible refine w_last ?_ ?_ ?_); (focus kernel_rfl); (focus rfl)) | ((with_reducible apply w_stepG); (focus rfl)) | ((with_reducible apply lk_mem); (focus ((repeat (first | exact mm_h | apply mm_t)); done))) | with_reducible refine Go2.go ?_ | ((with_reducible apply sto_go); (focus (intro cs'; repeat (first | exact ra_h | apply ra_t)))) | ((with_reducible refine al_go ?_); intro b) | ((with_reducible refine And.intro ?_ ?_); (focus ((repeat (first | exact keep_none | exact keep_nil | exact keep_ro | refine keep_cons ?_)); done))) | ((with_reducible refine s_bi ?_ ?_); (focus rfl)) | with_reducible refine blk_ne rfl ?_ | ((with_reducible refine w_region ?_ ?_); (focus kernel_rfl)) | ((with_reducible refine w_draw [] ?_ ?_ ?_ ?_ ?_); (iterate 3 (focus kernel_rfl)); (focus exact keeps_nil)) | ((with_reducible first | refine gd_d1 ?_ ?_ | refine gd_d0 ?_ ?_); all_goals (intro hb; (first | with_reducible replace hb := nt_t hb | with_reducible replace hb := nt_f hb | skip); (first | replace hb := dc_t hb | replace hb := dc_f hb | have hb1 := eq_b hb | have hb1 := ne_b hb | have hb1 := bne_t hb | have hb1 := bne_f hb | skip); (try (exfalso; first | contradiction | omega)))))
    all_goals (refine ret_eq (by first | exact .inl rfl | exact .inr rfl) (by first | rfl | assumption) (by (repeat (first | exact List.Sublist.refl _ | apply List.Sublist.cons))) ?_; (try simp (disch := omega) only [push_cast, Nat.reduceEqDiff, reduceCtorEq, ↓reduceIte, Nat.reduceAdd, Nat.reduceMul, Nat.reduceSub, Nat.reduceLT, Nat.reduceLeDiff, Int.reduceToNat, Int.reduceLT, Int.reduceLE, Int.reduceAdd, Int.reduceSub, Int.reduceMul, Int.reduceBEq, Int.reduceBNe, encB, encI, V.cells_mk, V.cells_take, V.cells_len, isE_eq, *]); try (first | exact LE.refl _ | exact LE.sl _ _ | (refine LE.tup ?_; (repeat' (first | exact LEL.nil | refine LEL.cons ?_ ?_ | exact LE.refl _ | exact LE.sl _ _ | refine LE.agg ?_)); done) | (refine LE.agg ?_; (repeat' (first | exact LEL.nil | refine LEL.cons ?_ ?_ | exact LE.refl _ | exact LE.sl _ _)); done) | refine LE.of_eq ?_))
    all_goals simp_all
    all_goals (try (intros; first | omega | (exfalso; omega)))
  by_cases k3 : k = 3
  · subst k3
    repeat' (first | with_reducible refine Go1.go ?_ | ((with_reducible apply ev_go); (focus (try simp (disch := omega) only [push_cast, Nat.reduceEqDiff, reduceCtorEq, ↓reduceIte, Nat.reduceAdd, Nat.reduceMul, Nat.reduceSub, Nat.reduceLT, Nat.reduceLeDiff, Int.reduceToNat, Int.reduceLT, Int.reduceLE, Int.reduceAdd, Int.reduceSub, Int.reduceMul, Int.reduceBEq, Int.reduceBNe, encB, encI, V.cells_mk, V.cells_take, V.cells_len, isE_eq, *]); (try exact rfl); done)) | ((with_reducible refine w_last ?_ ?_ ?_); (focus kernel_rfl); (focus rfl)) | ((with_reducible apply w_stepG); (focus rfl)) | ((with_reducible apply lk_mem); (focus ((repeat (first | exact mm_h | apply mm_t)); done))) | with_reducible refine Go2.go ?_ | ((with_reducible apply sto_go); (focus (intro cs'; repeat (first | exact ra_h | apply ra_t)))) | ((with_reducible refine al_go ?_); intro b) | ((with_reducible refine And.intro ?_ ?_); (focus ((repeat (first | exact keep_none | exact keep_nil | exact keep_ro | refine keep_cons ?_)); done))) | ((with_reducible apply (ck_le Try.call86)); (focus exact LEL.refl _); (focus exact hN.out _)) | ((with_reducible refine s_bi ?_ ?_); (focus rfl)) | with_reducible refine blk_ne rfl ?_ | ((with_reducible refine w_region ?_ ?_); (focus kernel_rfl)) | ((with_reducible refine w_draw [] ?_ ?_ ?_ ?_ ?_); (iterate 3 (focus kernel_rfl)); (focus exact keeps_nil)) | ((with_reducible first | refine gd_d1 ?_ ?_ | refine gd_d0 ?_ ?_); all_goals (intro hb; (first | with_reducible replace hb := nt_t hb | with_reducible replace hb := nt_f hb | skip); (first | replace hb := dc_t hb | replace hb := dc_f hb | have hb1 := eq_b hb | have hb1 := ne_b hb | have hb1 := bne_t hb | have hb1 := bne_f hb | skip); (try (exfalso; first | contradiction | omega)))))
    all_goals (refine ret_eq (by first | exact .inl rfl | exact .inr rfl) (by first | rfl | assumption) (by (repeat (first | exact List.Sublist.refl _ | apply List.Sublist.cons))) ?_; (try simp (disch := omega) only [push_cast, Nat.reduceEqDiff, reduceCtorEq, ↓reduceIte, Nat.reduceAdd, Nat.reduceMul, Nat.reduceSub, Nat.reduceLT, Nat.reduceLeDiff, Int.reduceToNat, Int.reduceLT, Int.reduceLE, Int.reduceAdd, Int.reduceSub, Int.reduceMul, Int.reduceBEq, Int.reduceBNe, encB, encI, V.cells_mk, V.cells_take, V.cells_len, isE_eq, *]); try (first | exact LE.refl _ | exact LE.sl _ _ | (refine LE.tup ?_; (repeat' (first | exact LEL.nil | refine LEL.cons ?_ ?_ | exact LE.refl _ | exact LE.sl _ _ | refine LE.agg ?_)); done) | (refine LE.agg ?_; (repeat' (first | exact LEL.nil | refine LEL.cons ?_ ?_ | exact LE.refl _ | exact LE.sl _ _)); done) | refine LE.of_eq ?_))
    all_goals simp_all
    all_goals (try (intros; first | omega | (exfalso; omega)))
  by_cases k4 : k = 4
  · subst k4
    repeat' (first | with_reducible refine Go1.go ?_ | ((with_reducible apply ev_go); (focus (try simp (disch := omega) only [push_cast, Nat.reduceEqDiff, reduceCtorEq, ↓reduceIte, Nat.reduceAdd, Nat.reduceMul, Nat.reduceSub, Nat.reduceLT, Nat.reduceLeDiff, Int.reduceToNat, Int.reduceLT, Int.reduceLE, Int.reduceAdd, Int.reduceSub, Int.reduceMul, Int.reduceBEq, Int.reduceBNe, encB, encI, V.cells_mk, V.cells_take, V.cells_len, isE_eq, *]); (try exact rfl); done)) | ((with_reducible refine w_last ?_ ?_ ?_); (focus kernel_rfl); (focus rfl)) | ((with_reducible apply w_stepG); (focus rfl)) | ((with_reducible apply lk_mem); (focus ((repeat (first | exact mm_h | apply mm_t)); done))) | with_reducible refine Go2.go ?_ | ((with_reducible apply sto_go); (focus (intro cs'; repeat (first | exact ra_h | apply ra_t)))) | ((with_reducible refine al_go ?_); intro b) | ((with_reducible refine And.intro ?_ ?_); (focus ((repeat (first | exact keep_none | exact keep_nil | exact keep_ro | refine keep_cons ?_)); done))) | ((with_reducible apply (ck_le Try.call99)); (focus exact LEL.refl _); (focus exact hV.out (by omega) _)) | ((with_reducible refine s_bi ?_ ?_); (focus rfl)) | with_reducible refine blk_ne rfl ?_ | ((with_reducible refine w_region ?_ ?_); (focus kernel_rfl)) | ((with_reducible refine w_draw [] ?_ ?_ ?_ ?_ ?_); (iterate 3 (focus kernel_rfl)); (focus exact keeps_nil)) | ((with_reducible first | refine gd_d1 ?_ ?_ | refine gd_d0 ?_ ?_); all_goals (intro hb; (first | with_reducible replace hb := nt_t hb | with_reducible replace hb := nt_f hb | skip); (first | replace hb := dc_t hb | replace hb := dc_f hb | have hb1 := eq_b hb | have hb1 := ne_b hb | have hb1 := bne_t hb | have hb1 := bne_f hb | skip); (try (exfalso; first | contradiction | omega)))))
    all_goals (refine ret_eq (by first | exact .inl rfl | exact .inr rfl) (by first | rfl | assumption) (by (repeat (first | exact List.Sublist.refl _ | apply List.Sublist.cons))) ?_; (try simp (disch := omega) only [push_cast, Nat.reduceEqDiff, reduceCtorEq, ↓reduceIte, Nat.reduceAdd, Nat.reduceMul, Nat.reduceSub, Nat.reduceLT, Nat.reduceLeDiff, Int.reduceToNat, Int.reduceLT, Int.reduceLE, Int.reduceAdd, Int.reduceSub, Int.reduceMul, Int.reduceBEq, Int.reduceBNe, encB, encI, V.cells_mk, V.cells_take, V.cells_len, isE_eq, *]); try (first | exact LE.refl _ | exact LE.sl _ _ | (refine LE.tup ?_; (repeat' (first | exact LEL.nil | refine LEL.cons ?_ ?_ | exact LE.refl _ | exact LE.sl _ _ | refine LE.agg ?_)); done) | (refine LE.agg ?_; (repeat' (first | exact LEL.nil | refine LEL.cons ?_ ?_ | exact LE.refl _ | exact LE.sl _ _)); done) | refine LE.of_eq ?_))
    all_goals simp_all
    all_goals (try (intros; first | omega | (exfalso; omega)))
  by_cases k5 : k = 5
  · subst k5
    repeat' (first | with_reducible refine Go1.go ?_ | ((with_reducible apply ev_go); (focus (try simp (disch := omega) only [push_cast, Nat.reduceEqDiff, reduceCtorEq, ↓reduceIte, Nat.reduceAdd, Nat.reduceMul, Nat.reduceSub, Nat.reduceLT, Nat.reduceLeDiff, Int.reduceToNat, Int.reduceLT, Int.reduceLE, Int.reduceAdd, Int.reduceSub, Int.reduceMul, Int.reduceBEq, Int.reduceBNe, encB, encI, V.cells_mk, V.cells_take, V.cells_len, isE_eq, *]); (try exact rfl); done)) | ((with_reducible refine w_last ?_ ?_ ?_); (focus kernel_rfl); (focus rfl)) | ((with_reducible apply w_stepG); (focus rfl)) | ((with_reducible apply lk_mem); (focus ((repeat (first | exact mm_h | apply mm_t)); done))) | with_reducible refine Go2.go ?_ | ((with_reducible apply sto_go); (focus (intro cs'; repeat (first | exact ra_h | apply ra_t)))) | ((with_reducible refine al_go ?_); intro b) | ((with_reducible refine And.intro ?_ ?_); (focus ((repeat (first | exact keep_none | exact keep_nil | exact keep_ro | refine keep_cons ?_)); done))) | ((with_reducible refine s_bi ?_ ?_); (focus rfl)) | with_reducible refine blk_ne rfl ?_ | ((with_reducible refine w_region ?_ ?_); (focus kernel_rfl)) | ((with_reducible refine w_draw [] ?_ ?_ ?_ ?_ ?_); (iterate 3 (focus kernel_rfl)); (focus exact keeps_nil)) | ((with_reducible first | refine gd_d1 ?_ ?_ | refine gd_d0 ?_ ?_); all_goals (intro hb; (first | with_reducible replace hb := nt_t hb | with_reducible replace hb := nt_f hb | skip); (first | replace hb := dc_t hb | replace hb := dc_f hb | have hb1 := eq_b hb | have hb1 := ne_b hb | have hb1 := bne_t hb | have hb1 := bne_f hb | skip); (try (exfalso; first | contradiction | omega)))))
    all_goals (refine ret_eq (by first | exact .inl rfl | exact .inr rfl) (by first | rfl | assumption) (by (repeat (first | exact List.Sublist.refl _ | apply List.Sublist.cons))) ?_; (try simp (disch := omega) only [push_cast, Nat.reduceEqDiff, reduceCtorEq, ↓reduceIte, Nat.reduceAdd, Nat.reduceMul, Nat.reduceSub, Nat.reduceLT, Nat.reduceLeDiff, Int.reduceToNat, Int.reduceLT, Int.reduceLE, Int.reduceAdd, Int.reduceSub, Int.reduceMul, Int.reduceBEq, Int.reduceBNe, encB, encI, V.cells_mk, V.cells_take, V.cells_len, isE_eq, *]); try (first | exact LE.refl _ | exact LE.sl _ _ | (refine LE.tup ?_; (repeat' (first | exact LEL.nil | refine LEL.cons ?_ ?_ | exact LE.refl _ | exact LE.sl _ _ | refine LE.agg ?_)); done) | (refine LE.agg ?_; (repeat' (first | exact LEL.nil | refine LEL.cons ?_ ?_ | exact LE.refl _ | exact LE.sl _ _)); done) | refine LE.of_eq ?_))
    all_goals simp_all
    all_goals (try (intros; first | omega | (exfalso; omega)))
  have a0 : (k == 0) = false := by simpa using k0
  have a1 : (k == 1) = false := by simpa using k1
  have a2 : (k == 2) = false := by simpa using k2
  have a3 : (k == 3) = false := by simpa using k3
  have a4 : (k == 4) = false := by simpa using k4
  have a5 : (k == 5) = false := by simpa using k5
  clear hN hV
  repeat' (first | with_reducible refine Go1.go ?_ | ((with_reducible apply ev_go); (focus (try simp (disch := omega) only [push_cast, Nat.reduceEqDiff, reduceCtorEq, ↓reduceIte, Nat.reduceAdd, Nat.reduceMul, Nat.reduceSub, Nat.reduceLT, Nat.reduceLeDiff, Int.reduceToNat, Int.reduceLT, Int.reduceLE, Int.reduceAdd, Int.reduceSub, Int.reduceMul, Int.reduceBEq, Int.reduceBNe, encB, encI, V.cells_mk, V.cells_take, V.cells_len, isE_eq, *]); (try exact rfl); done)) | ((with_reducible refine w_last ?_ ?_ ?_); (focus kernel_rfl); (focus rfl)) | ((with_reducible apply w_stepG); (focus rfl)) | ((with_reducible apply lk_mem); (focus ((repeat (first | exact mm_h | apply mm_t)); done))) | with_reducible refine Go2.go ?_ | ((with_reducible apply sto_go); (focus (intro cs'; repeat (first | exact ra_h | apply ra_t)))) | ((with_reducible refine al_go ?_); intro b) | ((with_reducible refine And.intro ?_ ?_); (focus ((repeat (first | exact keep_none | exact keep_nil | exact keep_ro | refine keep_cons ?_)); done))) | ((with_reducible refine s_bi ?_ ?_); (focus rfl)) | with_reducible refine blk_ne rfl ?_ | ((with_reducible refine w_region ?_ ?_); (focus kernel_rfl)) | ((with_reducible refine w_draw [] ?_ ?_ ?_ ?_ ?_); (iterate 3 (focus kernel_rfl)); (focus exact keeps_nil)) | ((with_reducible first | refine gd_d1 ?_ ?_ | refine gd_d0 ?_ ?_); all_goals (intro hb; (first | with_reducible replace hb := nt_t hb | with_reducible replace hb := nt_f hb | skip); (first | replace hb := dc_t hb | replace hb := dc_f hb | have hb1 := eq_b hb | have hb1 := ne_b hb | have hb1 := bne_t hb | have hb1 := bne_f hb | skip); (try (exfalso; first | contradiction | omega)))))
  all_goals (refine ret_eq (by first | exact .inl rfl | exact .inr rfl) (by first | rfl | assumption) (by (repeat (first | exact List.Sublist.refl _ | apply List.Sublist.cons))) ?_; (try simp (disch := omega) only [push_cast, Nat.reduceEqDiff, reduceCtorEq, ↓reduceIte, Nat.reduceAdd, Nat.reduceMul, Nat.reduceSub, Nat.reduceLT, Nat.reduceLeDiff, Int.reduceToNat, Int.reduceLT, Int.reduceLE, Int.reduceAdd, Int.reduceSub, Int.reduceMul, Int.reduceBEq, Int.reduceBNe, encB, encI, V.cells_mk, V.cells_take, V.cells_len, isE_eq, *]); try (first | exact LE.refl _ | exact LE.sl _ _ | (refine LE.tup ?_; (repeat' (first | exact LEL.nil | refine LEL.cons ?_ ?_ | exact LE.refl _ | exact LE.sl _ _ | refine LE.agg ?_)); done) | (refine LE.agg ?_; (repeat' (first | exact LEL.nil | refine LEL.cons ?_ ?_ | exact LE.refl _ | exact LE.sl _ _)); done) | refine LE.of_eq ?_))
end Go.Proofs.Ytooaagmhgakhgaa
end

section
namespace Go.Proofs.Ytooaagmhgakhgaa
set_option linter.unusedSimpArgs false
open Go.RowKit
set_option maxRecDepth 10000
set_option maxHeartbeats 4000000
namespace V
mutual
def parts : V → Bool
  | .mk k n s l => sgl k n s l.length && (decide (k = 5) || decide (l.length = 0)) && partsL l
def partsL : List V → Bool
  | [] => true
  | x :: l => x.parts && partsL l
end
end V
open V in
theorem valPartsF : ∀ (N : Nat) (v : V), v.nodes ≤ N → ∀ st, TrF Try.prog 67 [.agg v.cells] st fun x st' => x = .b v.parts ∧ st' = st
  | 0, v, h => by have := v.nodes_pos; omega
  | N + 1, .mk k n s l, hN => by
    intro st
    have IH := Lib.hid fun x (hx : x ∈ l) => valPartsF N x (by have := nodes_lt (k := k) (n := n) (s := s) hx; omega)
    rw [V.cells_mk, show (V.mk k n s l).parts = (sgl k n s l.length && (decide (k = 5) || decide (l.length = 0)) && partsL l) from parts.eq_1 ..]
    clear hN
    have hS := Lib.hid (valSingleF k n s l)
    have h20 : sgl k n s l.length = true → k = 5 → l.length ≤ 20 := fun h hk => by
      subst hk
      simp [sgl] at h
      omega
    obtain ⟨B, hB⟩ : ∃ B, sgl k n s l.length = B := ⟨_, rfl⟩
    rw [hB] at hS h20 ⊢
    clear hB
    obtain ⟨L, hL⟩ : ∃ L, partsL l = L := ⟨_, rfl⟩
    have HL : Hid (partsL (l.drop 0) = L) := hL
    rw [hL]
    clear hL
    refine trF_enter (ts := [2]) Try.func67 rfl (by rw [Try.ntmps67]; exact Nat.le_of_ble_eq_true rfl) (fun tmps w => by simp [results, Try.results67, go_sem, resVal]) ?_
    simp only [Try.ntmps67]
    by_cases hb0 : B = false
    · subst hb0
      clear h20
      rw [Bool.false_and, Bool.false_and]
      repeat' (first | with_reducible refine Go1.go ?_ | ((with_reducible apply ev_go); (focus (try simp (disch := omega) only [push_cast, Nat.reduceEqDiff, reduceCtorEq, ↓reduceIte, Nat.reduceAdd, Nat.reduceMul, Nat.reduceSub, Nat.reduceLT, Nat.reduceLeDiff, Int.reduceToNat, Int.reduceLT, Int.reduceLE, Int.reduceAdd, Int.reduceSub, Int.reduceMul, Int.reduceBEq, Int.reduceBNe, encB, encI, V.cells_mk, V.cells_take, V.cells_len, isE_eq, *]); (try exact rfl); done)) | ((with_reducible refine w_last ?_ ?_ ?_); (focus kernel_rfl); (focus rfl)) | ((with_reducible apply w_stepG); (focus rfl)) | ((with_reducible apply lk_mem); (focus ((repeat (first | exact mm_h | apply mm_t)); done))) | with_reducible refine Go2.go ?_ | ((with_reducible apply sto_go); (focus (intro cs'; repeat (first | exact ra_h | apply ra_t)))) | ((with_reducible refine al_go ?_); intro b) | ((with_reducible refine And.intro ?_ ?_); (focus ((repeat (first | exact keep_none | exact keep_nil | exact keep_ro | refine keep_cons ?_)); done))) | ((with_reducible apply (ck_le Try.call84)); (focus exact LEL.refl _); (focus exact hS.out _)) | ((with_reducible refine s_bi ?_ ?_); (focus rfl)) | with_reducible refine blk_ne rfl ?_ | ((with_reducible refine w_region ?_ ?_); (focus kernel_rfl)) | ((with_reducible refine w_draw [] ?_ ?_ ?_ ?_ ?_); (iterate 3 (focus kernel_rfl)); (focus exact keeps_nil)) | ((with_reducible first | refine gd_d1 ?_ ?_ | refine gd_d0 ?_ ?_); all_goals (intro hb; (first | with_reducible replace hb := nt_t hb | with_reducible replace hb := nt_f hb | skip); (first | replace hb := dc_t hb | replace hb := dc_f hb | have hb1 := eq_b hb | have hb1 := ne_b hb | have hb1 := bne_t hb | have hb1 := bne_f hb | skip); (try (exfalso; first | contradiction | omega)))))
      all_goals (refine ret_eq (by first | exact .inl rfl | exact .inr rfl) (by first | rfl | assumption) (by (repeat (first | exact List.Sublist.refl _ | apply List.Sublist.cons))) ?_; (try simp (disch := omega) only [push_cast, Nat.reduceEqDiff, reduceCtorEq, ↓reduceIte, Nat.reduceAdd, Nat.reduceMul, Nat.reduceSub, Nat.reduceLT, Nat.reduceLeDiff, Int.reduceToNat, Int.reduceLT, Int.reduceLE, Int.reduceAdd, Int.reduceSub, Int.reduceMul, Int.reduceBEq, Int.reduceBNe, encB, encI, V.cells_mk, V.cells_take, V.cells_len, isE_eq, *]); try (first | exact LE.refl _ | exact LE.sl _ _ | (refine LE.tup ?_; (repeat' (first | exact LEL.nil | refine LEL.cons ?_ ?_ | exact LE.refl _ | exact LE.sl _ _ | refine LE.agg ?_)); done) | (refine LE.agg ?_; (repeat' (first | exact LEL.nil | refine LEL.cons ?_ ?_ | exact LE.refl _ | exact LE.sl _ _)); done) | refine LE.of_eq ?_))
    obtain rfl : B = true := by simpa using hb0
    clear hb0
    rw [Bool.true_and]
    have h20 := Lib.hid h20
    by_cases hk : k ≠ 5 ∧ 0 < l.length
    · rw [decide_eq_false hk.1, decide_eq_false (show ¬ l.length = 0 by omega), Bool.or_self, Bool.false_and]
      obtain ⟨hk, h0⟩ := hk
      have h0' : (0 : Int) < l.length := by omega
      have hk' : (k == 5) = false := by simpa using hk
      repeat' (first | with_reducible refine Go1.go ?_ | ((with_reducible apply ev_go); (focus (try simp (disch := omega) only [push_cast, Nat.reduceEqDiff, reduceCtorEq, ↓reduceIte, Nat.reduceAdd, Nat.reduceMul, Nat.reduceSub, Nat.reduceLT, Nat.reduceLeDiff, Int.reduceToNat, Int.reduceLT, Int.reduceLE, Int.reduceAdd, Int.reduceSub, Int.reduceMul, Int.reduceBEq, Int.reduceBNe, encB, encI, V.cells_mk, V.cells_take, V.cells_len, isE_eq, *]); (try exact rfl); done)) | ((with_reducible refine w_last ?_ ?_ ?_); (focus kernel_rfl); (focus rfl)) | ((with_reducible apply w_stepG); (focus rfl)) | ((with_reducible apply lk_mem); (focus ((repeat (first | exact mm_h | apply mm_t)); done))) | with_reducible refine Go2.go ?_ | ((with_reducible apply sto_go); (focus (intro cs'; repeat (first | exact ra_h | apply ra_t)))) | ((with_reducible refine al_go ?_); intro b) | ((with_reducible refine And.intro ?_ ?_); (focus ((repeat (first | exact keep_none | exact keep_nil | exact keep_ro | refine keep_cons ?_)); done))) | ((with_reducible apply (ck_le Try.call84)); (focus exact LEL.refl _); (focus exact hS.out _)) | ((with_reducible refine s_bi ?_ ?_); (focus rfl)) | with_reducible refine blk_ne rfl ?_ | ((with_reducible refine w_region ?_ ?_); (focus kernel_rfl)) | ((with_reducible refine w_draw [] ?_ ?_ ?_ ?_ ?_); (iterate 3 (focus kernel_rfl)); (focus exact keeps_nil)) | ((with_reducible first | refine gd_d1 ?_ ?_ | refine gd_d0 ?_ ?_); all_goals (intro hb; (first | with_reducible replace hb := nt_t hb | with_reducible replace hb := nt_f hb | skip); (first | replace hb := dc_t hb | replace hb := dc_f hb | have hb1 := eq_b hb | have hb1 := ne_b hb | have hb1 := bne_t hb | have hb1 := bne_f hb | skip); (try (exfalso; first | contradiction | omega)))))
      all_goals (refine ret_eq (by first | exact .inl rfl | exact .inr rfl) (by first | rfl | assumption) (by (repeat (first | exact List.Sublist.refl _ | apply List.Sublist.cons))) ?_; (try simp (disch := omega) only [push_cast, Nat.reduceEqDiff, reduceCtorEq, ↓reduceIte, Nat.reduceAdd, Nat.reduceMul, Nat.reduceSub, Nat.reduceLT, Nat.reduceLeDiff, Int.reduceToNat, Int.reduceLT, Int.reduceLE, Int.reduceAdd, Int.reduceSub, Int.reduceMul, Int.reduceBEq, Int.reduceBNe, encB, encI, V.cells_mk, V.cells_take, V.cells_len, isE_eq, *]); try (first | exact LE.refl _ | exact LE.sl _ _ | (refine LE.tup ?_; (repeat' (first | exact LEL.nil | refine LEL.cons ?_ ?_ | exact LE.refl _ | exact LE.sl _ _ | refine LE.agg ?_)); done) | (refine LE.agg ?_; (repeat' (first | exact LEL.nil | refine LEL.cons ?_ ?_ | exact LE.refl _ | exact LE.sl _ _)); done) | refine LE.of_eq ?_))
    rw [show (decide (k = 5) || decide (l.length = 0)) = true by rw [Bool.or_eq_true, decide_eq_true_eq, decide_eq_true_eq]; omega, Bool.true_and]
    have hk : k = 5 ∨ (l.length : Int) = 0 := by omega
    have hlen : l.length ≤ 20 := by
      rcases hk with h | h
      · exact h20.out rfl h
      · omega
    clear h20
    repeat' (first | with_reducible refine Go1.go ?_ | ((with_reducible apply ev_go); (focus (try simp (disch := omega) only [push_cast, Nat.reduceEqDiff, reduceCtorEq, ↓reduceIte, Nat.reduceAdd, Nat.reduceMul, Nat.reduceSub, Nat.reduceLT, Nat.reduceLeDiff, Int.reduceToNat, Int.reduceLT, Int.reduceLE, Int.reduceAdd, Int.reduceSub, Int.reduceMul, Int.reduceBEq, Int.reduceBNe, encB, encI, V.cells_mk, V.cells_take, V.cells_len, isE_eq, *]); (try exact rfl); done)) | ((with_reducible refine w_last ?_ ?_ ?_); (focus kernel_rfl); (focus rfl)) | ((with_reducible apply w_stepG); (focus rfl)) | ((with_reducible apply lk_mem); (focus ((repeat (first | exact mm_h | apply mm_t)); done))) | with_reducible refine Go2.go ?_ | ((with_reducible apply sto_go); (focus (intro cs'; repeat (first | exact ra_h | apply ra_t)))) | ((with_reducible refine al_go ?_); intro b) | ((with_reducible refine And.intro ?_ ?_); (focus ((repeat (first | exact keep_none | exact keep_nil | exact keep_ro | refine keep_cons ?_)); done))) | ((with_reducible apply (ck_le Try.call84)); (focus exact LEL.refl _); (focus exact hS.out _)) | ((with_reducible refine s_bi ?_ ?_); (focus rfl)) | with_reducible refine blk_ne rfl ?_ | ((with_reducible refine w_region ?_ ?_); (focus kernel_rfl)) | ((with_reducible refine w_draw [] ?_ ?_ ?_ ?_ ?_); (iterate 3 (focus kernel_rfl)); (focus exact keeps_nil)) | ((with_reducible first | refine gd_d1 ?_ ?_ | refine gd_d0 ?_ ?_); all_goals (intro hb; (first | with_reducible replace hb := nt_t hb | with_reducible replace hb := nt_f hb | skip); (first | replace hb := dc_t hb | replace hb := dc_f hb | have hb1 := eq_b hb | have hb1 := ne_b hb | have hb1 := bne_t hb | have hb1 := bne_f hb | skip); (try (exfalso; first | contradiction | omega)))))
    all_goals
      refine tr_loopd (ι := Nat) (fun i A st' => i ≤ l.length ∧ Hid (partsL (l.drop i) = L) ∧ A.df = [] ∧ A.e 20 = .sl .shared (l.map V.cells) ∧ A.e 21 = .i l.length ∧ A.e 22 = .i i ∧ st' = st) (fun i => l.length - i) 0 ⟨Nat.zero_le _, HL, ?_, ?_, ?_, ?_, rfl⟩ ?_
      iterate 4 (focus (first | rfl | assumption | omega | (simp (disch := omega) only [push_cast, Nat.reduceEqDiff, reduceCtorEq, ↓reduceIte, Nat.reduceAdd, Nat.reduceMul, Nat.reduceSub, Nat.reduceLT, Nat.reduceLeDiff, Int.reduceToNat, Int.reduceLT, Int.reduceLE, Int.reduceAdd, Int.reduceSub, Int.reduceMul, Int.reduceBEq, Int.reduceBNe, encB, encI, V.cells_mk, V.cells_take, V.cells_len, isE_eq, *]; try omega; done)))
      rintro i A st' ⟨hi, HT, hdf, h7', h8', h9', rfl⟩
      by_cases hlt : i < l.length
      · obtain ⟨x, hx⟩ : ∃ x, l[i]? = some x := ⟨_, List.getElem?_eq_getElem hlt⟩
        have ih := IH.out x (mem_of hx)
        have HE := HT.out
        rw [drop_cons hx, partsL] at HE
        clear HT HL hk
        cases x with
        | mk k1 n1 s1 l1 =>
          rw [V.cells_mk] at ih
          generalize (V.mk k1 n1 s1 l1).parts = pp at *
          have ih := Lib.hid ih
          cases pp
          · rw [Bool.false_and] at HE
            rw [← HE]
            clear HE
            repeat' (first | with_reducible refine Go1.go ?_ | ((with_reducible apply ev_go); (focus (try simp (disch := omega) only [push_cast, Nat.reduceEqDiff, reduceCtorEq, ↓reduceIte, Nat.reduceAdd, Nat.reduceMul, Nat.reduceSub, Nat.reduceLT, Nat.reduceLeDiff, Int.reduceToNat, Int.reduceLT, Int.reduceLE, Int.reduceAdd, Int.reduceSub, Int.reduceMul, Int.reduceBEq, Int.reduceBNe, encB, encI, V.cells_mk, V.cells_take, V.cells_len, isE_eq, *]); (try exact rfl); done)) | ((with_reducible refine w_last ?_ ?_ ?_); (focus kernel_rfl); (focus rfl)) | ((with_reducible apply w_stepG); (focus rfl)) | ((with_reducible apply lk_mem); (focus ((repeat (first | exact mm_h | apply mm_t)); done))) | with_reducible refine Go2.go ?_ | ((with_reducible apply sto_go); (focus (intro cs'; repeat (first | exact ra_h | apply ra_t)))) | ((with_reducible refine al_go ?_); intro b) | ((with_reducible refine And.intro ?_ ?_); (focus ((repeat (first | exact keep_none | exact keep_nil | exact keep_ro | refine keep_cons ?_)); done))) | ((with_reducible apply (ck_le Try.call67)); (focus exact LEL.refl _); (focus exact ih.out _)) | ((with_reducible refine s_bi ?_ ?_); (focus rfl)) | with_reducible refine blk_ne rfl ?_ | ((with_reducible refine w_region ?_ ?_); (focus kernel_rfl)) | ((with_reducible refine w_draw [] ?_ ?_ ?_ ?_ ?_); (iterate 3 (focus kernel_rfl)); (focus exact keeps_nil)) | ((with_reducible first | refine gd_d1 ?_ ?_ | refine gd_d0 ?_ ?_); all_goals (intro hb; (first | with_reducible replace hb := nt_t hb | with_reducible replace hb := nt_f hb | skip); (first | replace hb := dc_t hb | replace hb := dc_f hb | have hb1 := eq_b hb | have hb1 := ne_b hb | have hb1 := bne_t hb | have hb1 := bne_f hb | skip); (try (exfalso; first | contradiction | omega)))))
            all_goals (refine ret_eq (by first | exact .inl rfl | exact .inr rfl) (by first | rfl | assumption) (by (repeat (first | exact List.Sublist.refl _ | apply List.Sublist.cons))) ?_; (try simp (disch := omega) only [push_cast, Nat.reduceEqDiff, reduceCtorEq, ↓reduceIte, Nat.reduceAdd, Nat.reduceMul, Nat.reduceSub, Nat.reduceLT, Nat.reduceLeDiff, Int.reduceToNat, Int.reduceLT, Int.reduceLE, Int.reduceAdd, Int.reduceSub, Int.reduceMul, Int.reduceBEq, Int.reduceBNe, encB, encI, V.cells_mk, V.cells_take, V.cells_len, isE_eq, *]); try (first | exact LE.refl _ | exact LE.sl _ _ | (refine LE.tup ?_; (repeat' (first | exact LEL.nil | refine LEL.cons ?_ ?_ | exact LE.refl _ | exact LE.sl _ _ | refine LE.agg ?_)); done) | (refine LE.agg ?_; (repeat' (first | exact LEL.nil | refine LEL.cons ?_ ?_ | exact LE.refl _ | exact LE.sl _ _)); done) | refine LE.of_eq ?_))
          · rw [Bool.true_and] at HE
            have HE := Lib.hid HE
            repeat' (first | with_reducible refine Go1.go ?_ | ((with_reducible apply ev_go); (focus (try simp (disch := omega) only [push_cast, Nat.reduceEqDiff, reduceCtorEq, ↓reduceIte, Nat.reduceAdd, Nat.reduceMul, Nat.reduceSub, Nat.reduceLT, Nat.reduceLeDiff, Int.reduceToNat, Int.reduceLT, Int.reduceLE, Int.reduceAdd, Int.reduceSub, Int.reduceMul, Int.reduceBEq, Int.reduceBNe, encB, encI, V.cells_mk, V.cells_take, V.cells_len, isE_eq, *]); (try exact rfl); done)) | ((with_reducible refine w_last ?_ ?_ ?_); (focus kernel_rfl); (focus rfl)) | ((with_reducible apply w_stepG); (focus rfl)) | ((with_reducible apply lk_mem); (focus ((repeat (first | exact mm_h | apply mm_t)); done))) | with_reducible refine Go2.go ?_ | ((with_reducible apply sto_go); (focus (intro cs'; repeat (first | exact ra_h | apply ra_t)))) | ((with_reducible refine al_go ?_); intro b) | ((with_reducible refine And.intro ?_ ?_); (focus ((repeat (first | exact keep_none | exact keep_nil | exact keep_ro | refine keep_cons ?_)); done))) | ((with_reducible apply (ck_le Try.call67)); (focus exact LEL.refl _); (focus exact ih.out _)) | ((with_reducible refine s_bi ?_ ?_); (focus rfl)) | with_reducible refine blk_ne rfl ?_ | ((with_reducible refine w_region ?_ ?_); (focus kernel_rfl)) | ((with_reducible refine w_draw [] ?_ ?_ ?_ ?_ ?_); (iterate 3 (focus kernel_rfl)); (focus exact keeps_nil)) | ((with_reducible first | refine gd_d1 ?_ ?_ | refine gd_d0 ?_ ?_); all_goals (intro hb; (first | with_reducible replace hb := nt_t hb | with_reducible replace hb := nt_f hb | skip); (first | replace hb := dc_t hb | replace hb := dc_f hb | have hb1 := eq_b hb | have hb1 := ne_b hb | have hb1 := bne_t hb | have hb1 := bne_f hb | skip); (try (exfalso; first | contradiction | omega)))))
            refine ⟨i + 1, _, List.sublist_cons_self _ _, ⟨hlt, HE, ?_, ?_, ?_, ?_, rfl⟩, ?_⟩
            all_goals (first | rfl | assumption | omega | (simp (disch := omega) only [push_cast, Nat.reduceEqDiff, reduceCtorEq, ↓reduceIte, Nat.reduceAdd, Nat.reduceMul, Nat.reduceSub, Nat.reduceLT, Nat.reduceLeDiff, Int.reduceToNat, Int.reduceLT, Int.reduceLE, Int.reduceAdd, Int.reduceSub, Int.reduceMul, Int.reduceBEq, Int.reduceBNe, encB, encI, V.cells_mk, V.cells_take, V.cells_len, isE_eq, *]; try omega; done))
      · have HE := HT.out
        rw [List.drop_eq_nil_of_le (by omega), partsL] at HE
        rw [← HE]
        clear HE HT HL hk
        repeat' (first | with_reducible refine Go1.go ?_ | ((with_reducible apply ev_go); (focus (try simp (disch := omega) only [push_cast, Nat.reduceEqDiff, reduceCtorEq, ↓reduceIte, Nat.reduceAdd, Nat.reduceMul, Nat.reduceSub, Nat.reduceLT, Nat.reduceLeDiff, Int.reduceToNat, Int.reduceLT, Int.reduceLE, Int.reduceAdd, Int.reduceSub, Int.reduceMul, Int.reduceBEq, Int.reduceBNe, encB, encI, V.cells_mk, V.cells_take, V.cells_len, isE_eq, *]); (try exact rfl); done)) | ((with_reducible refine w_last ?_ ?_ ?_); (focus kernel_rfl); (focus rfl)) | ((with_reducible apply w_stepG); (focus rfl)) | ((with_reducible apply lk_mem); (focus ((repeat (first | exact mm_h | apply mm_t)); done))) | with_reducible refine Go2.go ?_ | ((with_reducible apply sto_go); (focus (intro cs'; repeat (first | exact ra_h | apply ra_t)))) | ((with_reducible refine al_go ?_); intro b) | ((with_reducible refine And.intro ?_ ?_); (focus ((repeat (first | exact keep_none | exact keep_nil | exact keep_ro | refine keep_cons ?_)); done))) | ((with_reducible refine s_bi ?_ ?_); (focus rfl)) | with_reducible refine blk_ne rfl ?_ | ((with_reducible refine w_region ?_ ?_); (focus kernel_rfl)) | ((with_reducible refine w_draw [] ?_ ?_ ?_ ?_ ?_); (iterate 3 (focus kernel_rfl)); (focus exact keeps_nil)) | ((with_reducible first | refine gd_d1 ?_ ?_ | refine gd_d0 ?_ ?_); all_goals (intro hb; (first | with_reducible replace hb := nt_t hb | with_reducible replace hb := nt_f hb | skip); (first | replace hb := dc_t hb | replace hb := dc_f hb | have hb1 := eq_b hb | have hb1 := ne_b hb | have hb1 := bne_t hb | have hb1 := bne_f hb | skip); (try (exfalso; first | contradiction | omega)))))
        all_goals (refine ret_eq (by first | exact .inl rfl | exact .inr rfl) (by first | rfl | assumption) (by (repeat (first | exact List.Sublist.refl _ | apply List.Sublist.cons))) ?_; (try simp (disch := omega) only [push_cast, Nat.reduceEqDiff, reduceCtorEq, ↓reduceIte, Nat.reduceAdd, Nat.reduceMul, Nat.reduceSub, Nat.reduceLT, Nat.reduceLeDiff, Int.reduceToNat, Int.reduceLT, Int.reduceLE, Int.reduceAdd, Int.reduceSub, Int.reduceMul, Int.reduceBEq, Int.reduceBNe, encB, encI, V.cells_mk, V.cells_take, V.cells_len, isE_eq, *]); try (first | exact LE.refl _ | exact LE.sl _ _ | (refine LE.tup ?_; (repeat' (first | exact LEL.nil | refine LEL.cons ?_ ?_ | exact LE.refl _ | exact LE.sl _ _ | refine LE.agg ?_)); done) | (refine LE.agg ?_; (repeat' (first | exact LEL.nil | refine LEL.cons ?_ ?_ | exact LE.refl _ | exact LE.sl _ _)); done) | refine LE.of_eq ?_))
end Go.Proofs.Ytooaagmhgakhgaa
end

section
namespace Go.Proofs.Ytooaagmhgakhgaa
set_option linter.unusedSimpArgs false
open Go.RowKit
set_option maxRecDepth 10000
set_option maxHeartbeats 4000000
namespace V
def c1 (k : Int) (sz len : Nat) : Prop := k < 0 ∨ 5 < k ∨ (k ≠ 5 ∧ 0 < len) ∨ (k ≠ 3 ∧ k ≠ 4 ∧ sz ≠ 0)
instance (k : Int) (sz len : Nat) : Decidable (c1 k sz len) := by unfold c1; infer_instance
def c2 (k n : Int) : Prop := k ≠ 2 ∧ n ≠ 0 ∧ ¬ (k = 1 ∧ n = 1)
instance (k n : Int) : Decidable (c2 k n) := by unfold c2; infer_instance
def c3 (k : Int) (sz len a b : Nat) : Prop := (k = 3 ∧ a ≠ 1) ∨ (k = 4 ∧ (200 < sz ∨ b ≠ 1)) ∨ 20 < len
instance (k : Int) (sz len a b : Nat) : Decidable (c3 k sz len a b) := by unfold c3; infer_instance
end V
end Go.Proofs.Ytooaagmhgakhgaa
end

section
namespace Go.Proofs.Ytooaagmhgakhgaa
set_option linter.unusedSimpArgs false
open Go.RowKit
set_option maxRecDepth 10000
set_option maxHeartbeats 4000000
namespace V
def great (v : V) : Bool := decide (v.cnt 1000 10 < 0) || decide (10 < (v.deep : Int))
def right (v : V) : Bool := v.parts && (decide (v.deep ≤ 4) && decide (v.nodes ≤ 100))
theorem not_great {v : V} (h : v.great = false) : v.nodes ≤ 1000 ∧ v.deep ≤ 10 := by
  unfold great at h
  rw [Bool.or_eq_false_iff, decide_eq_false_iff_not, decide_eq_false_iff_not] at h
  have := cnt_eq v 1000 10 (by omega)
  exact ⟨by omega, by omega⟩
theorem right_iff {v : V} : v.right = true ↔ v.parts = true ∧ v.deep ≤ 4 ∧ v.nodes ≤ 100 := by
  unfold right; simp
end V
open V in
theorem refGreatF (v : V) (hok : v.Ok) (st : St) : TrF Try.prog 12 [.agg v.cells] st fun x st' => x = .b v.great ∧ st' = st := by
  have hC := Lib.hid (refCountF v.nodes v (Nat.le_refl _) hok 1000 10 (by omega) (by omega) (by omega) (by omega))
  have hB : v.cnt 1000 10 < 0 ∨ v.nodes ≤ 1000 := by
    rcases Int.lt_or_le (v.cnt 1000 10) 0 with h | h
    · exact .inl h
    · have := cnt_eq v 1000 10 h; omega
  have hD := Lib.hid fun h => refDeepF v.nodes v (Nat.le_refl _) h
  unfold great
  generalize v.cnt 1000 10 = c at *
  cases v with
  | mk k n s l =>
  rw [V.cells_mk] at *
  generalize (V.mk k n s l).deep = d at *
  generalize (V.mk k n s l).nodes = nn at *
  refine trF_enter (ts := [2]) Try.func12 rfl (by rw [Try.ntmps12]; exact Nat.le_of_ble_eq_true rfl) (fun tmps w => by simp [results, Try.results12, go_sem, resVal]) ?_
  simp only [Try.ntmps12]
  repeat' (first | with_reducible refine Go1.go ?_ | ((with_reducible apply ev_go); (focus (try simp (disch := omega) only [push_cast, Nat.reduceEqDiff, reduceCtorEq, ↓reduceIte, Nat.reduceAdd, Nat.reduceMul, Nat.reduceSub, Nat.reduceLT, Nat.reduceLeDiff, Int.reduceToNat, Int.reduceLT, Int.reduceLE, Int.reduceAdd, Int.reduceSub, Int.reduceMul, Int.reduceBEq, Int.reduceBNe, encB, encI, V.cells_mk, V.cells_take, V.cells_len, isE_eq, *]); (try exact rfl); done)) | ((with_reducible refine w_last ?_ ?_ ?_); (focus kernel_rfl); (focus rfl)) | ((with_reducible apply w_stepG); (focus rfl)) | ((with_reducible apply lk_mem); (focus ((repeat (first | exact mm_h | apply mm_t)); done))) | with_reducible refine Go2.go ?_ | ((with_reducible apply sto_go); (focus (intro cs'; repeat (first | exact ra_h | apply ra_t)))) | ((with_reducible refine al_go ?_); intro b) | ((with_reducible refine And.intro ?_ ?_); (focus ((repeat (first | exact keep_none | exact keep_nil | exact keep_ro | refine keep_cons ?_)); done))) | ((with_reducible apply (ck_le Try.call40)); (focus exact LEL.refl _); (focus exact hC.out _)) | ((with_reducible apply (ck_le Try.call41)); (focus exact LEL.refl _); (focus exact hD.out (by omega) _)) | ((with_reducible refine s_bi ?_ ?_); (focus rfl)) | with_reducible refine blk_ne rfl ?_ | ((with_reducible refine w_region ?_ ?_); (focus kernel_rfl)) | ((with_reducible refine w_draw [] ?_ ?_ ?_ ?_ ?_); (iterate 3 (focus kernel_rfl)); (focus exact keeps_nil)) | ((with_reducible first | refine gd_d1 ?_ ?_ | refine gd_d0 ?_ ?_); all_goals (intro hb; (first | with_reducible replace hb := nt_t hb | with_reducible replace hb := nt_f hb | skip); (first | replace hb := dc_t hb | replace hb := dc_f hb | have hb1 := eq_b hb | have hb1 := ne_b hb | have hb1 := bne_t hb | have hb1 := bne_f hb | skip); (try (exfalso; first | contradiction | omega)))))
  all_goals (refine ret_eq (by first | exact .inl rfl | exact .inr rfl) (by first | rfl | assumption) (by (repeat (first | exact List.Sublist.refl _ | apply List.Sublist.cons))) ?_; (try simp (disch := omega) only [push_cast, Nat.reduceEqDiff, reduceCtorEq, ↓reduceIte, Nat.reduceAdd, Nat.reduceMul, Nat.reduceSub, Nat.reduceLT, Nat.reduceLeDiff, Int.reduceToNat, Int.reduceLT, Int.reduceLE, Int.reduceAdd, Int.reduceSub, Int.reduceMul, Int.reduceBEq, Int.reduceBNe, encB, encI, V.cells_mk, V.cells_take, V.cells_len, isE_eq, *]); try (first | exact LE.refl _ | exact LE.sl _ _ | (refine LE.tup ?_; (repeat' (first | exact LEL.nil | refine LEL.cons ?_ ?_ | exact LE.refl _ | exact LE.sl _ _ | refine LE.agg ?_)); done) | (refine LE.agg ?_; (repeat' (first | exact LEL.nil | refine LEL.cons ?_ ?_ | exact LE.refl _ | exact LE.sl _ _)); done) | refine LE.of_eq ?_))
  all_goals (first | rfl | (refine congrArg D.b ?_; rw [Bool.eq_iff_iff]; simp only [Bool.true_and, Bool.false_and, Bool.and_true, Bool.and_false, Bool.or_false, Bool.or_true, Bool.true_or, Bool.false_or, true_and, and_true, Bool.not_eq_true', Bool.not_eq_false', decide_eq_true_eq, decide_eq_false_iff_not, beq_iff_eq, beq_eq_false_iff_ne, bne_iff_ne, ne_eq, reduceCtorEq, iff_true, true_iff, iff_false, false_iff, Bool.and_eq_true, Bool.or_eq_true, Bool.false_eq_true, Bool.true_eq_false]; first | done | omega))
open V in
theorem valRightF (v : V) (hB : v.nodes ≤ 4611686018427387904) (st : St) : TrF Try.prog 42 [.agg v.cells] st fun x st' => x = .b v.right ∧ st' = st := by
  have hD := Lib.hid (valDeepF v.nodes v (Nat.le_refl _) hB)
  have hN := Lib.hid (valNodesF v.nodes v (Nat.le_refl _) hB)
  have hP := Lib.hid (valPartsF v.nodes v (Nat.le_refl _))
  unfold right
  cases v with
  | mk k n s l =>
  rw [V.cells_mk] at *
  generalize (V.mk k n s l).deep = d at *
  generalize (V.mk k n s l).nodes = nn at *
  generalize (V.mk k n s l).parts = p at *
  refine trF_enter (ts := [2]) Try.func42 rfl (by rw [Try.ntmps42]; exact Nat.le_of_ble_eq_true rfl) (fun tmps w => by simp [results, Try.results42, go_sem, resVal]) ?_
  simp only [Try.ntmps42]
  repeat' (first | with_reducible refine Go1.go ?_ | ((with_reducible apply ev_go); (focus (try simp (disch := omega) only [push_cast, Nat.reduceEqDiff, reduceCtorEq, ↓reduceIte, Nat.reduceAdd, Nat.reduceMul, Nat.reduceSub, Nat.reduceLT, Nat.reduceLeDiff, Int.reduceToNat, Int.reduceLT, Int.reduceLE, Int.reduceAdd, Int.reduceSub, Int.reduceMul, Int.reduceBEq, Int.reduceBNe, encB, encI, V.cells_mk, V.cells_take, V.cells_len, isE_eq, *]); (try exact rfl); done)) | ((with_reducible refine w_last ?_ ?_ ?_); (focus kernel_rfl); (focus rfl)) | ((with_reducible apply w_stepG); (focus rfl)) | ((with_reducible apply lk_mem); (focus ((repeat (first | exact mm_h | apply mm_t)); done))) | with_reducible refine Go2.go ?_ | ((with_reducible apply sto_go); (focus (intro cs'; repeat (first | exact ra_h | apply ra_t)))) | ((with_reducible refine al_go ?_); intro b) | ((with_reducible refine And.intro ?_ ?_); (focus ((repeat (first | exact keep_none | exact keep_nil | exact keep_ro | refine keep_cons ?_)); done))) | ((with_reducible apply (ck_le Try.call65)); (focus exact LEL.refl _); (focus exact hD.out _)) | ((with_reducible apply (ck_le Try.call66)); (focus exact LEL.refl _); (focus exact hN.out _)) | ((with_reducible apply (ck_le Try.call67)); (focus exact LEL.refl _); (focus exact hP.out _)) | ((with_reducible refine s_bi ?_ ?_); (focus rfl)) | with_reducible refine blk_ne rfl ?_ | ((with_reducible refine w_region ?_ ?_); (focus kernel_rfl)) | ((with_reducible refine w_draw [] ?_ ?_ ?_ ?_ ?_); (iterate 3 (focus kernel_rfl)); (focus exact keeps_nil)) | ((with_reducible first | refine gd_d1 ?_ ?_ | refine gd_d0 ?_ ?_); all_goals (intro hb; (first | with_reducible replace hb := nt_t hb | with_reducible replace hb := nt_f hb | skip); (first | replace hb := dc_t hb | replace hb := dc_f hb | have hb1 := eq_b hb | have hb1 := ne_b hb | have hb1 := bne_t hb | have hb1 := bne_f hb | skip); (try (exfalso; first | contradiction | omega)))))
  all_goals (refine ret_eq (by first | exact .inl rfl | exact .inr rfl) (by first | rfl | assumption) (by (repeat (first | exact List.Sublist.refl _ | apply List.Sublist.cons))) ?_; (try simp (disch := omega) only [push_cast, Nat.reduceEqDiff, reduceCtorEq, ↓reduceIte, Nat.reduceAdd, Nat.reduceMul, Nat.reduceSub, Nat.reduceLT, Nat.reduceLeDiff, Int.reduceToNat, Int.reduceLT, Int.reduceLE, Int.reduceAdd, Int.reduceSub, Int.reduceMul, Int.reduceBEq, Int.reduceBNe, encB, encI, V.cells_mk, V.cells_take, V.cells_len, isE_eq, *]); try (first | exact LE.refl _ | exact LE.sl _ _ | (refine LE.tup ?_; (repeat' (first | exact LEL.nil | refine LEL.cons ?_ ?_ | exact LE.refl _ | exact LE.sl _ _ | refine LE.agg ?_)); done) | (refine LE.agg ?_; (repeat' (first | exact LEL.nil | refine LEL.cons ?_ ?_ | exact LE.refl _ | exact LE.sl _ _)); done) | refine LE.of_eq ?_))
  all_goals (cases p <;> (first | rfl | (refine congrArg D.b ?_; rw [Bool.eq_iff_iff]; simp only [Bool.true_and, Bool.false_and, Bool.and_true, Bool.and_false, Bool.or_false, Bool.or_true, Bool.true_or, Bool.false_or, true_and, and_true, Bool.not_eq_true', Bool.not_eq_false', decide_eq_true_eq, decide_eq_false_iff_not, beq_iff_eq, beq_eq_false_iff_ne, bne_iff_ne, ne_eq, reduceCtorEq, iff_true, true_iff, iff_false, false_iff, Bool.and_eq_true, Bool.or_eq_true, Bool.false_eq_true, Bool.true_eq_false]; first | done | omega)))
end Go.Proofs.Ytooaagmhgakhgaa
end
