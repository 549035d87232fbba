/- What all walks of this seat share: lists in memory, bytes, bits. No statement is proved here. -/
import Derived.WalkKit
import Derived.WalkSpells
import Derived.WalkLawsBesides
import Derived.OwnWalkIn
import Derived.Lib.Hide
import Derived.Laws.BitsAllLaws
import Derived.Maps.AppendAt
namespace Go.Proofs.Ythlidbddeclnaaa
open Go.RowKit

/-! ### bits of int and of bytes -/
theorem ofInt_i64 (a : Nat) (ha : a < 18446744073709551616) : (BitVec.ofInt 64 (a : Int)).toNat = a := by
  rw [BitVec.ofInt_natCast, BitVec.toNat_ofNat]; exact Nat.mod_eq_of_lt (by omega)
theorem i64_xor_nat (a b : Nat) (ha : a < 4611686018427387904) (hb : b < 4611686018427387904) : bits .xor .i64 (a : Int) (b : Int) = ((a ^^^ b : Nat) : Int) := by
  have hx : a ^^^ b < 2 ^ 62 := Nat.xor_lt_two_pow (by omega) (by omega)
  show IntKind.i64.wrap ((BitVec.ofInt 64 (a : Int) ^^^ BitVec.ofInt 64 (b : Int)).toNat : Int) = _
  rw [BitVec.toNat_xor, ofInt_i64 a (by omega), ofInt_i64 b (by omega)]
  exact IntWalk.i64_in _ (by omega)
theorem i64_or_nat (a b : Nat) (ha : a < 4611686018427387904) (hb : b < 4611686018427387904) : bits .or .i64 (a : Int) (b : Int) = ((a ||| b : Nat) : Int) := by
  have hx : a ||| b < 2 ^ 62 := Nat.or_lt_two_pow (by omega) (by omega)
  show IntKind.i64.wrap ((BitVec.ofInt 64 (a : Int) ||| BitVec.ofInt 64 (b : Int)).toNat : Int) = _
  rw [BitVec.toNat_or, ofInt_i64 a (by omega), ofInt_i64 b (by omega)]
  exact IntWalk.i64_in _ (by omega)
theorem i64_and_nat (a b : Nat) (ha : a < 4611686018427387904) (hb : b < 4611686018427387904) : bits .and .i64 (a : Int) (b : Int) = ((a &&& b : Nat) : Int) := by
  have hx : a &&& b < 2 ^ 62 := Nat.and_lt_two_pow _ (by omega)
  show IntKind.i64.wrap ((BitVec.ofInt 64 (a : Int) &&& BitVec.ofInt 64 (b : Int)).toNat : Int) = _
  rw [BitVec.toNat_and, ofInt_i64 a (by omega), ofInt_i64 b (by omega)]
  exact IntWalk.i64_in _ (by omega)

theorem u32_not (a : Nat) (h : a < 4294967296) : bits .xor .u32 IntKind.u32.max (a : Int) = ((4294967295 - a : Nat) : Int) := by
  have e : IntKind.u32.max = ((4294967295 : Nat) : Int) := by decide
  rw [e, u32_xor_nat _ _ (by decide) h]
  have e2 : (BitVec.allOnes 32 ^^^ BitVec.ofNat 32 a).toNat = 4294967295 ^^^ a := by
    rw [BitVec.toNat_xor, BitVec.toNat_ofNat, Nat.mod_eq_of_lt (by omega)]; rfl
  have e3 : (~~~ BitVec.ofNat 32 a).toNat = 4294967295 - a := by
    rw [BitVec.toNat_not, BitVec.toNat_ofNat, Nat.mod_eq_of_lt (by omega)]
  rw [← e2, BitVec.allOnes_xor, e3]

/-! ### small words -/
theorem ret_int {k : IntKind} {a b : Int} (h : a = b) : Ending.returned (.int k a) = .returned (.int k b) := by rw [h]
theorem ret_bool {a b : Bool} (h : a = b) : Ending.returned (.bool a) = .returned (.bool b) := by rw [h]
theorem take_snoc {α : Type} (l : List α) (k : Nat) (h : k < l.length) : l.take (k + 1) = l.take k ++ [l[k]] := by
  rw [List.take_succ_eq_append_getElem h]
def bv (b : UInt8) : Value := .int .u8 (b.toNat : Int)
def iv (n : Int) : Value := .int .i64 n

/-! ### a slice that reads as a list, of elements of one cell -/
def Sees {α : Type} (enc : α → Value) (w : World) (v : Value) (l : List α) : Prop :=
  ∃ (a : Option Addr) (cap : Nat), v = .slice a l.length cap ∧ l.length ≤ cap ∧ cap ≤ maxLen ∧ (a = none → cap = 0) ∧
    ∀ b, a = some b → 0 < l.length → b.spot = none ∧ b.block < w.heap.size ∧ ∀ (i : Nat) (h : i < l.length), w.cell? ⟨b.block, b.off + i, none⟩ = some (enc l[i])
section
variable {α : Type} {enc : α → Value} {w w' : World} {v : Value} {l : List α}
theorem Sees.below (h : Sees enc w v l) {B : Nat} (hb : Below B w w') (hB : w.heap.size ≤ B) : Sees enc w' v l := by
  obtain ⟨a, cap, rfl, h1, h2, h3, h4⟩ := h
  refine ⟨a, cap, rfl, h1, h2, h3, fun b e hl => ?_⟩
  obtain ⟨e1, e2, e3⟩ := h4 b e hl
  exact ⟨e1, by have := hb.size; omega, fun i hi => (hb.cell (p := ⟨b.block, b.off + i, none⟩) (by show b.block < B; omega)).trans (e3 i hi)⟩
theorem Sees.drew (h : Sees enc w v l) (n : Nat) : Sees enc (w.drewN n) v l := h
theorem Sees.nil (w : World) : Sees enc w (.slice none 0 0) ([] : List α) := ⟨none, 0, rfl, Nat.le_refl _, Nat.zero_le _, fun _ => rfl, fun b e _ => (by cases e)⟩
/-- A literal's block, read from a place on. -/
theorem Sees.lit {g : Nat} {cs : Array Value} {t : TypeId} {fr : Nat × Nat} (hb : w.heap[g]? = some (.cells cs t fr)) (l : List α) (off cap : Nat) (h1 : l.length ≤ cap) (h2 : cap ≤ maxLen) (h : ∀ i, (hi : i < l.length) → cs[off + i]? = some (enc l[i])) :
    Sees enc w (.slice (some ⟨g, off, none⟩) l.length cap) l := by
  refine ⟨_, cap, rfl, h1, h2, fun e => (by cases e), fun b e _ => ?_⟩
  cases e
  exact ⟨rfl, (Array.getElem?_eq_some_iff.1 hb).1, fun i hi => (cell_of_row w g (off + i) cs t fr hb).trans (h i hi)⟩
/-- What a call owns is seen. -/
theorem Sees.of_owns {B : Nat} {E : TypeId} {n : Nat} {xs : List Value} (h : w.ownsRow B E 1 v n xs) (hx : xs = l.map enc) (hn : n = l.length) : Sees enc w v l := by
  subst hx hn
  rcases h.2 with ⟨rfl, h0⟩ | ⟨g, cap, cur, rfl, hb, hg, hn, hc, hs, ht⟩
  · have : l = [] := List.eq_nil_of_length_eq_zero h0
    subst this; exact Sees.nil w
  · refine ⟨some ⟨g, 0, none⟩, cap, rfl, hn, hc, fun e => (by cases e), fun b e _ => ?_⟩
    cases e
    refine ⟨rfl, (Array.getElem?_eq_some_iff.1 hg).1, fun i hi => ?_⟩
    have := h.cells (g := g) rfl i (enc l[i]) (by simp [hi])
    have hadd : (⟨g, 0, none⟩ : Addr).add i = ⟨g, i, none⟩ := by unfold Addr.add; split <;> simp_all
    rw [hadd] at this
    simpa using this
end
end Go.Proofs.Ythlidbddeclnaaa
