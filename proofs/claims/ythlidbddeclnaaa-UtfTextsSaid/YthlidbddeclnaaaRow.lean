/- From a row's arguments to what the walks take. -/
import Derived.Test.YthlidbddeclnaaaBase
import Derived.RowKit3
namespace Go.Proofs.Ythlidbddeclnaaa
open Go.RowKit

/-- What the frame of a row's proof is told of a slice of integers that came in (as the kit's shell says it). -/
def IsRow (k : IntKind) (w : World) (a : Option Addr) (len cap : Nat) (zs : List Int) : Prop :=
  (a = none ∧ len = 0 ∧ cap = 0 ∧ zs = []) ∨
  ∃ x, a = some x ∧ len ≤ cap ∧ cap ≤ maxLen ∧ zs.length = cap ∧ (∀ i, i < zs.length → w.cell? (x.add i) = some (.int k (zs.getD i 0))) ∧ ∀ n ∈ zs, (Lit.int k n).wf = true

theorem u8_bounds {n : Int} (h : (Lit.int .u8 n).wf = true) : 0 ≤ n ∧ n ≤ 255 := by
  simpa [Lit.wf, IntKind.min, IntKind.max, IntKind.signed, IntKind.bits] using h
theorem u8_of_wf {n : Int} (h : (Lit.int .u8 n).wf = true) : ∃ b : UInt8, n = (b.toNat : Int) := by
  obtain ⟨h0, h1⟩ := u8_bounds h
  refine ⟨UInt8.ofNat n.toNat, ?_⟩
  rw [UInt8.toNat_ofNat', Nat.mod_eq_of_lt (by omega)]
  omega
theorem cell_spot {w : World} {a : Addr} {v : Value} (h : w.cell? a = some v) : a.spot = none := by
  unfold World.cell? at h
  split at h
  · split at h
    · cases h
    · rename_i hs; simpa using hs
  · cases h
theorem row_sees {α : Type} {enc : α → Value} {k : IntKind} {w : World} {a : Option Addr} {len cap : Nat} {zs : List Int} (f : Int → α) (hf : ∀ n, (Lit.int k n).wf = true → enc (f n) = .int k n)
    (h : IsRow k w a len cap zs) : Sees enc w (.slice a len cap) ((zs.take len).map f) := by
  rcases h with ⟨rfl, rfl, rfl, rfl⟩ | ⟨x, rfl, hl, hc, hz, hcell, hwf⟩
  · exact Sees.nil w
  · have hlen : ((zs.take len).map f).length = len := by simp; omega
    refine ⟨some x, cap, by rw [hlen], by omega, hc, fun e => (by cases e), fun b e hb => ?_⟩
    cases e
    have h0 := hcell 0 (by omega)
    have hx0 : x.add 0 = x := by simp [Addr.add]
    rw [hx0] at h0
    have hsp := cell_spot h0
    refine ⟨hsp, World.block_lt_of_cell? w x h0, fun i hi => ?_⟩
    have hi' : i < zs.length := by omega
    have := hcell i hi'
    obtain ⟨bl, off, sp⟩ := x
    dsimp only at hsp
    subst hsp
    have hadd : (⟨bl, off, none⟩ : Addr).add i = ⟨bl, off + i, none⟩ := by unfold Addr.add; split <;> simp_all
    rw [hadd] at this
    rw [this, List.getElem_map, List.getElem_take, hf _ (hwf _ (List.getElem_mem hi'))]
    simp [hi']
theorem row_bytes {k : IntKind} (hk : k = .u8) {w : World} {a : Option Addr} {len cap : Nat} {zs : List Int} (h : IsRow k w a len cap zs) : ∃ l : List UInt8, Sees bv w (.slice a len cap) l := by
  subst hk
  refine ⟨_, row_sees (fun n => UInt8.ofNat n.toNat) (fun n hn => ?_) h⟩
  obtain ⟨h0, h1⟩ := u8_bounds hn
  rw [bv, UInt8.toNat_ofNat', Nat.mod_eq_of_lt (by omega)]
  congr 1
  omega
theorem row_ints {k : IntKind} (hk : k = .i64) {w : World} {a : Option Addr} {len cap : Nat} {zs : List Int} (h : IsRow k w a len cap zs) : ∃ l : List Int, Sees iv w (.slice a len cap) l := by
  subst hk
  exact ⟨_, row_sees id (fun n _ => rfl) h⟩
theorem grown_of_below {w w' : World} (h : Below w.heap.size w w') : Below w.heap.size w w' := h
end Go.Proofs.Ythlidbddeclnaaa
