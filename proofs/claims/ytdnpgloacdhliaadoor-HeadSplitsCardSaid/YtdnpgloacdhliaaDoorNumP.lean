/- Package num: what its functions compute, in plain Lean: digits by eights, bytes of two's complement. -/
import Derived.WalkKit
namespace Go.Proofs.YtdnpgloacdhliaaDoor

/-- The k last digits by eights, the greatest first. -/
def octD : Nat → Nat → List UInt8
  | 0, _ => []
  | k + 1, n => octD k (n / 8) ++ [UInt8.ofNat (48 + n % 8)]

theorem octD_length : ∀ (k n : Nat), (octD k n).length = k
  | 0, _ => rfl
  | k + 1, n => by simp [octD, octD_length k]

theorem octD_cons : ∀ (k n : Nat), octD (k + 1) n = UInt8.ofNat (48 + n / 8 ^ k % 8) :: octD k n
  | 0, n => by simp [octD]
  | k + 1, n => by
    rw [octD, octD_cons k (n / 8)]
    simp only [octD, List.cons_append]
    rw [Nat.div_div_eq_div_mul, Nat.pow_succ, Nat.mul_comm (8 ^ k) 8]

theorem octD_step (k j : Nat) (n : Nat) :
    (List.replicate (j + 1) (0 : UInt8) ++ octD k n ++ [0]).set j (UInt8.ofNat (48 + n / 8 ^ k % 8)) = List.replicate j 0 ++ octD (k + 1) n ++ [0] := by
  rw [octD_cons, List.replicate_succ']
  simp

theorem octD_step2 (k j : Nat) (n : Nat) :
    (List.replicate (j + 1) (0 : UInt8) ++ octD k n).set j (UInt8.ofNat (48 + n / 8 ^ k % 8)) = List.replicate j 0 ++ octD (k + 1) n := by
  rw [octD_cons, List.replicate_succ']
  simp

/-- The k last bytes of two's complement, the greatest first. -/
def bytD : Nat → Int → List UInt8
  | 0, _ => []
  | k + 1, n => bytD k (n / 256) ++ [UInt8.ofNat (n % 256).toNat]

theorem bytD_length : ∀ (k : Nat) (n : Int), (bytD k n).length = k
  | 0, _ => rfl
  | k + 1, n => by simp [bytD, bytD_length k]

/-- A number shifted by m bytes. -/
def shB : Nat → Int → Int
  | 0, n => n
  | m + 1, n => shB m n / 256
theorem shB_comm : ∀ (m : Nat) (n : Int), shB m (n / 256) = shB m n / 256
  | 0, _ => rfl
  | m + 1, n => by simp only [shB]; rw [shB_comm m n]
theorem bytD_cons : ∀ (k : Nat) (n : Int), bytD (k + 1) n = UInt8.ofNat (shB k n % 256).toNat :: bytD k n
  | 0, n => by simp [bytD, shB]
  | k + 1, n => by
    rw [bytD, bytD_cons k (n / 256)]
    simp only [bytD, List.cons_append, shB]
    rw [shB_comm]
theorem bytD_rev (k : Nat) (n : Int) : (bytD (k + 1) n).reverse = (bytD k n).reverse ++ [UInt8.ofNat (shB k n % 256).toNat] := by
  rw [bytD_cons, List.reverse_cons]
theorem shB_neg : ∀ (m : Nat) (n : Int), (shB m n < 0 ↔ n < 0)
  | 0, _ => Iff.rfl
  | m + 1, n => by
    have := shB_neg m n
    simp only [shB]
    omega
theorem shB_range : ∀ (m : Nat) (n : Int), -9223372036854775808 ≤ n → n ≤ 9223372036854775807 → -9223372036854775808 ≤ shB m n ∧ shB m n ≤ 9223372036854775807
  | 0, _, h, h' => ⟨h, h'⟩
  | m + 1, n, h, h' => by
    have := shB_range m n h h'
    simp only [shB]
    omega

end Go.Proofs.YtdnpgloacdhliaaDoor
