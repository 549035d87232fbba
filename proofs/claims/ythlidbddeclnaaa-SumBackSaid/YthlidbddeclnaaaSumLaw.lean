/- The plain law of layer 4 (check sums): no program in sight. -/
import Derived.Test.YthlidbddeclnaaaBase
namespace Go.Proofs.Ythlidbddeclnaaa
open Go.RowKit
namespace SumL
def isU32 (n : Int) : Bool := decide (0 ≤ n ∧ n ≤ 4294967295)
def step1 (p i : Nat) : Nat := if i % 2 = 1 then (i / 2) ^^^ p else i / 2
def row (p : Nat) : Nat → Nat → Nat
  | 0, i => i
  | k + 1, i => step1 p (row p k i)
def tabN (p : Nat) : List Nat := (List.range 256).map (row p 8)
def tab (p : Int) : List Int := if isU32 p then (tabN p.toNat).map Int.ofNat else []
def isTab (t : List Int) : Bool := t.length == 256 && t.all isU32
def crcStep (t : List Int) (r : Nat) (c : UInt8) : Nat := (t[(r % 256) ^^^ c.toNat]?.getD 0).toNat ^^^ (r / 256)
def crc (t : List Int) (r : Nat) (b : List UInt8) : Nat := b.foldl (crcStep t) r
def more (t : List Int) (s : Int) (b : List UInt8) : Int := if isTab t && isU32 s then 4294967295 - (crc t (4294967295 - s.toNat) b : Int) else -1
def put (n : Int) : List UInt8 := [UInt8.ofNat ((n / 16777216) % 256).toNat, UInt8.ofNat ((n / 65536) % 256).toNat, UInt8.ofNat ((n / 256) % 256).toNat, UInt8.ofNat (n % 256).toNat]
def get : List UInt8 → Int
  | [a, b, c, d] => (((a.toNat * 256 + b.toNat) * 256 + c.toNat) * 256 + d.toNat : Nat)
  | _ => -1
def bitStep (r : Nat) (c : UInt8) : Nat := row 3988292384 8 ((r ^^^ c.toNat) % 256) ^^^ (r / 256)
def bitSum (b : List UInt8) : Int := 4294967295 - (b.foldl bitStep 4294967295 : Nat)
theorem step1_lt {p i : Nat} (hp : p < 4294967296) (hi : i < 4294967296) : step1 p i < 4294967296 := by
  unfold step1; split
  · exact Nat.xor_lt_two_pow (n := 32) (by omega) (by omega)
  · omega
theorem row_lt {p : Nat} (hp : p < 4294967296) {i : Nat} (hi : i < 4294967296) : ∀ k, row p k i < 4294967296
  | 0 => hi
  | k + 1 => step1_lt hp (row_lt hp hi k)
theorem crcStep_lt {t : List Int} (ht : isTab t = true) {r : Nat} (hr : r < 4294967296) (c : UInt8) : crcStep t r c < 4294967296 := by
  unfold crcStep
  have hx : (t[(r % 256) ^^^ c.toNat]?.getD 0).toNat < 4294967296 := by
    simp only [isTab, Bool.and_eq_true, List.all_eq_true, beq_iff_eq, isU32, decide_eq_true_eq] at ht
    by_cases h : (r % 256) ^^^ c.toNat < t.length
    · rw [List.getElem?_eq_getElem h, Option.getD_some]
      have := ht.2 _ (List.getElem_mem h)
      omega
    · rw [List.getElem?_eq_none (by omega)]; decide
  exact Nat.xor_lt_two_pow (n := 32) (by omega) (by omega)
theorem crc_lt {t : List Int} (ht : isTab t = true) : ∀ (b : List UInt8) {r : Nat}, r < 4294967296 → crc t r b < 4294967296
  | [], _, h => h
  | c :: b, _, h => crc_lt ht b (crcStep_lt ht h c)
theorem crc_snoc (t : List Int) (r : Nat) (b : List UInt8) (c : UInt8) : crc t r (b ++ [c]) = crcStep t (crc t r b) c := by simp [crc]
theorem crc_append (t : List Int) (r : Nat) (a b : List UInt8) : crc t r (a ++ b) = crc t (crc t r a) b := by simp [crc]
theorem bitStep_lt {r : Nat} (hr : r < 4294967296) (c : UInt8) : bitStep r c < 4294967296 := by
  unfold bitStep
  have := row_lt (p := 3988292384) (by decide) (i := (r ^^^ c.toNat) % 256) (by omega) 8
  exact Nat.xor_lt_two_pow (n := 32) (by omega) (by omega)
theorem bitFold_lt : ∀ (b : List UInt8) {r : Nat}, r < 4294967296 → b.foldl bitStep r < 4294967296
  | [], _, h => h
  | c :: b, _, h => bitFold_lt b (bitStep_lt h c)
theorem idx_lt (r : Nat) (c : UInt8) : (r % 256) ^^^ c.toNat < 256 := Nat.xor_lt_two_pow (n := 8) (by omega) c.toNat_lt
end SumL
end Go.Proofs.Ythlidbddeclnaaa
