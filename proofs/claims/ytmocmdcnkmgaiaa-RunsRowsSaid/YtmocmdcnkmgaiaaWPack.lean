/- Bytes of bits: plain laws; the reference's pixels, bytes, numbers. No condition but what each says. -/
import Derived.Test.YtmocmdcnkmgaiaaWNext
import Derived.Test.YtmocmdcnkmgaiaaLToggles
import Derived.Test.YtmocmdcnkmgaiaaWRunsRef
set_option linter.unusedSimpArgs false
set_option linter.unusedVariables false
namespace Go.Proofs.Ytmocmdcnkmgaiaa
open Go.Eng Go.RowKit
def b2 (b : Bool) : Nat := if b then 1 else 0
def by8 (b0 b1 b2' b3 b4 b5 b6 b7 : Bool) : Nat := 128 * b2 b0 + 64 * b2 b1 + 32 * b2 b2' + 16 * b2 b3 + 8 * b2 b4 + 4 * b2 b5 + 2 * b2 b6 + b2 b7
def byteB (f : Nat → Bool) (i : Nat) : Nat := by8 (f (8 * i)) (f (8 * i + 1)) (f (8 * i + 2)) (f (8 * i + 3)) (f (8 * i + 4)) (f (8 * i + 5)) (f (8 * i + 6)) (f (8 * i + 7))
def packK (f : Nat → Bool) : Nat → List Int
  | 0 => []
  | n + 1 => packK f n ++ [(byteB f n : Int)]
theorem packK_len (f : Nat → Bool) : ∀ n, (packK f n).length = n
  | 0 => rfl
  | n + 1 => by rw [packK, List.length_append, packK_len f n]; rfl
theorem packK_get (f : Nat → Bool) : ∀ n i, i < n → (packK f n).getD i 0 = byteB f i
  | 0, i, h => by omega
  | n + 1, i, h => by
    rw [packK, getD_app, packK_len]
    split
    · rename_i h2; exact packK_get f n i h2
    · rw [if_pos (by omega), show i = n by omega]
theorem by8_lt (b0 b1 b2' b3 b4 b5 b6 b7 : Bool) : by8 b0 b1 b2' b3 b4 b5 b6 b7 < 256 := by
  have h : ∀ b, b2 b ≤ 1 := fun b => by cases b <;> decide
  unfold by8
  have := h b0; have := h b1; have := h b2'; have := h b3; have := h b4; have := h b5; have := h b6; have := h b7
  omega
theorem packK_bytes (f : Nat → Bool) : ∀ n, Bytes (packK f n)
  | 0 => Bytes.nil
  | n + 1 => by rw [packK]; exact (packK_bytes f n).app (Bytes.one (by have := by8_lt (f (8 * n)) (f (8 * n + 1)) (f (8 * n + 2)) (f (8 * n + 3)) (f (8 * n + 4)) (f (8 * n + 5)) (f (8 * n + 6)) (f (8 * n + 7)); unfold byteB; omega))
theorem packK_congr {f g : Nat → Bool} : ∀ n, (∀ x, x < 8 * n → f x = g x) → packK f n = packK g n
  | 0, _ => rfl
  | n + 1, h => by
    rw [packK, packK, packK_congr n fun x hx => h x (by omega)]
    unfold byteB
    rw [h (8 * n) (by omega), h (8 * n + 1) (by omega), h (8 * n + 2) (by omega), h (8 * n + 3) (by omega), h (8 * n + 4) (by omega), h (8 * n + 5) (by omega), h (8 * n + 6) (by omega), h (8 * n + 7) (by omega)]
theorem or8 : ∀ b0 b1 b2' b3 b4 b5 b6 b7 : Bool,
    by8 b0 b1 b2' b3 b4 b5 b6 b7 ||| 128 = by8 true b1 b2' b3 b4 b5 b6 b7 ∧ by8 b0 b1 b2' b3 b4 b5 b6 b7 ||| 64 = by8 b0 true b2' b3 b4 b5 b6 b7 ∧ by8 b0 b1 b2' b3 b4 b5 b6 b7 ||| 32 = by8 b0 b1 true b3 b4 b5 b6 b7 ∧
    by8 b0 b1 b2' b3 b4 b5 b6 b7 ||| 16 = by8 b0 b1 b2' true b4 b5 b6 b7 ∧ by8 b0 b1 b2' b3 b4 b5 b6 b7 ||| 8 = by8 b0 b1 b2' b3 true b5 b6 b7 ∧ by8 b0 b1 b2' b3 b4 b5 b6 b7 ||| 4 = by8 b0 b1 b2' b3 b4 true b6 b7 ∧
    by8 b0 b1 b2' b3 b4 b5 b6 b7 ||| 2 = by8 b0 b1 b2' b3 b4 b5 true b7 ∧ by8 b0 b1 b2' b3 b4 b5 b6 b7 ||| 1 = by8 b0 b1 b2' b3 b4 b5 b6 true := by decide +kernel
def put1 (f : Nat → Bool) (x : Nat) : Nat → Bool := fun y => if y = x then true else f y
theorem pack_orj (f : Nat → Bool) (i j : Nat) (hj : j < 8) : bits .or .u8 (byteB f i : Int) (128 / 2 ^ j) = (byteB (put1 f (8 * i + j)) i : Int) := by
  have hlt : byteB f i < 256 := by8_lt ..
  obtain ⟨h0, h1, h2, h3, h4, h5, h6, h7⟩ := or8 (f (8 * i)) (f (8 * i + 1)) (f (8 * i + 2)) (f (8 * i + 3)) (f (8 * i + 4)) (f (8 * i + 5)) (f (8 * i + 6)) (f (8 * i + 7))
  have key : ∀ m : Nat, m < 256 → bits .or .u8 (byteB f i : Int) (m : Int) = ((byteB f i ||| m : Nat) : Int) := fun m hm => u8_or_nat _ _ hlt hm
  obtain rfl | rfl | rfl | rfl | rfl | rfl | rfl | rfl : j = 0 ∨ j = 1 ∨ j = 2 ∨ j = 3 ∨ j = 4 ∨ j = 5 ∨ j = 6 ∨ j = 7 := by omega
  · refine (key 128 (by omega)).trans ?_
    unfold byteB put1; rw [h0]; simp
  · refine (key 64 (by omega)).trans ?_
    unfold byteB put1; rw [h1]; simp
  · refine (key 32 (by omega)).trans ?_
    unfold byteB put1; rw [h2]; simp
  · refine (key 16 (by omega)).trans ?_
    unfold byteB put1; rw [h3]; simp
  · refine (key 8 (by omega)).trans ?_
    unfold byteB put1; rw [h4]; simp
  · refine (key 4 (by omega)).trans ?_
    unfold byteB put1; rw [h5]; simp
  · refine (key 2 (by omega)).trans ?_
    unfold byteB put1; rw [h6]; simp
  · refine (key 1 (by omega)).trans ?_
    unfold byteB put1; rw [h7]; simp
theorem pack_or (f : Nat → Bool) (x : Nat) : bits .or .u8 (byteB f (x / 8) : Int) (128 / 2 ^ (x % 8)) = (byteB (put1 f x) (x / 8) : Int) := by
  rw [pack_orj f (x / 8) (x % 8) (by omega), show 8 * (x / 8) + x % 8 = x by omega]
theorem byte_ne (f : Nat → Bool) (x i : Nat) (h : i ≠ x / 8) : byteB (put1 f x) i = byteB f i := by
  have e : ∀ j, j < 8 → put1 f x (8 * i + j) = f (8 * i + j) := fun j hj => by rw [put1, if_neg (by omega)]
  unfold byteB
  rw [e 1 (by omega), e 2 (by omega), e 3 (by omega), e 4 (by omega), e 5 (by omega), e 6 (by omega), e 7 (by omega), show put1 f x (8 * i) = f (8 * i) from e 0 (by omega)]
theorem pack_set (f : Nat → Bool) (n x : Nat) (h : x / 8 < n) : (packK f n).set (x / 8) (bits .or .u8 ((packK f n).getD (x / 8) 0) (128 / 2 ^ (x % 8))) = packK (put1 f x) n := by
  refine ext_getD (by rw [List.length_set, packK_len, packK_len]) fun j hj => ?_
  rw [List.length_set, packK_len] at hj
  rw [packK_get _ _ _ hj, packK_get _ _ _ h, pack_or]
  simp only [List.getD, List.getElem?_set, packK_len]
  by_cases hjx : x / 8 = j
  · subst hjx; rw [if_pos rfl, if_pos h]; rfl
  · rw [if_neg hjx, byte_ne _ _ _ (fun e => hjx e.symm)]
    have := packK_get f n j hj
    simpa only [List.getD] using this
theorem pack_zero : ∀ n, List.replicate n (0 : Int) = packK (fun _ => false) n
  | 0 => rfl
  | n + 1 => by rw [List.replicate_succ', pack_zero n]; rfl
end Go.Proofs.Ytmocmdcnkmgaiaa
