/- Numbers in decimal digits, in plain words. No condition but what each says. -/
import Derived.Test.YtfighiceodplnaaDoorEngU
import Derived.Lib.ItoaNum
set_option linter.unusedSimpArgs false
set_option linter.unusedVariables false
namespace Go.Proofs.YtfighiceodplnaaDoor
open Go.Eng Go.RowKit
/-- a number's digits -/
def dec (n : Nat) : List Int := (Lib.decDigits n).map fun b => (b.toNat : Int)
theorem dec_one {n : Nat} (h : n < 10) : dec n = [48 + (n : Int)] := by
  unfold dec
  rw [Lib.decDigits, dif_pos h]
  simp only [List.map_cons, List.map_nil, UInt8.toNat_ofNat']
  congr 1
  omega
theorem dec_more {n : Nat} (h : ¬ n < 10) : dec n = dec (n / 10) ++ [48 + ((n % 10 : Nat) : Int)] := by
  unfold dec
  rw [Lib.decDigits, dif_neg h]
  simp only [List.map_append, List.map_cons, List.map_nil, UInt8.toNat_ofNat']
  congr 2
  omega
theorem dec_ind {p : Nat → Prop} (h1 : ∀ n, n < 10 → p n) (h2 : ∀ n, ¬ n < 10 → p (n / 10) → p n) (n : Nat) : p n := by
  induction n using Nat.strongRecOn with
  | _ n ih =>
    by_cases h : n < 10
    · exact h1 n h
    · exact h2 n h (ih _ (by omega))
def isD (l : List Int) : Prop := ∀ z ∈ l, 48 ≤ z ∧ z ≤ 57
instance (l : List Int) : Decidable (isD l) := by unfold isD; infer_instance
theorem isD.bytes {l : List Int} (h : isD l) : Bytes l := fun z hz => by have := h z hz; omega
theorem dec_isD (n : Nat) : isD (dec n) := by
  refine dec_ind (p := fun n => isD (dec n)) (fun n h => ?_) (fun n h ih => ?_) n
  · rw [dec_one h]
    intro z hz
    rw [List.mem_singleton.1 hz]
    omega
  · rw [dec_more h]
    intro z hz
    rcases List.mem_append.1 hz with hz | hz
    · exact ih z hz
    · rw [List.mem_singleton.1 hz]
      omega
theorem dec_bytes (n : Nat) : Bytes (dec n) := (dec_isD n).bytes
/-- what digits are worth behind others -/
def vf (a : Nat) : List Int → Nat
  | [] => a
  | z :: l => vf (10 * a + (z - 48).toNat) l
theorem vf_app : ∀ (l m : List Int) (a : Nat), vf a (l ++ m) = vf (vf a l) m
  | [], m, a => rfl
  | z :: l, m, a => by rw [List.cons_append, vf, vf_app l m, vf]
theorem dec_vf (n : Nat) : vf 0 (dec n) = n := by
  refine dec_ind (p := fun n => vf 0 (dec n) = n) (fun n h => ?_) (fun n h ih => ?_) n
  · rw [dec_one h, vf, vf]
    omega
  · rw [dec_more h, vf_app, ih, vf, vf]
    omega
theorem dec_ne (n : Nat) : dec n ≠ [] := by
  by_cases h : n < 10
  · rw [dec_one h]; simp
  · rw [dec_more h]; simp
theorem dec_len : ∀ (k n : Nat), n < 10 ^ (k + 1) → (dec n).length ≤ k + 1
  | 0, n, h => by rw [dec_one (by simpa using h)]; simp
  | k + 1, n, h => by
    by_cases hn : n < 10
    · rw [dec_one hn]; simp
    · rw [dec_more hn, List.length_append, List.length_singleton]
      have := dec_len k (n / 10) (by rw [Nat.pow_succ] at h; omega)
      omega
def ub (l : List Int) : List UInt8 := l.map fun z => UInt8.ofNat z.toNat
theorem str_ub (l : List Int) : (strOfNums l).data.toList = ub l := by simp [strOfNums, ub]
theorem ub_dec (n : Nat) : ub (dec n) = Lib.decDigits n := by
  unfold ub dec
  rw [List.map_map]
  conv => rhs; rw [← List.map_id (Lib.decDigits n)]
  refine List.map_congr_left fun b _ => ?_
  simp
theorem str_dec (n : Nat) : (⟨(Lib.decDigits n).toArray⟩ : ByteArray) = strOfNums (dec n) := by
  rw [← ub_dec]
  unfold ub strOfNums
  simp
theorem u8_of {z : Int} (h : 0 ≤ z ∧ z < 256) : ((UInt8.ofNat z.toNat).toNat : Int) = z := by
  rw [UInt8.toNat_ofNat']
  omega
end Go.Proofs.YtfighiceodplnaaDoor
