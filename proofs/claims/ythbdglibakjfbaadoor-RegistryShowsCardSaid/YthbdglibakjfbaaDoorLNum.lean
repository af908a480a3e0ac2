/- Numbers in decimal digits, the first place of a byte, and the fraction of a text, in plain words. No condition but what each says. -/
import Derived.Test.YthbdglibakjfbaaDoorEngU
import Derived.Lib.ItoaNum
import Derived.Lib.ParseIntB
import Derived.Lib.Bytealg
set_option linter.unusedSimpArgs false
set_option linter.unusedVariables false
set_option linter.unusedSectionVars false
namespace Go.Proofs.YthbdglibakjfbaaDoor
open Go.Eng Go.RowKit
variable [Inhabited Lo]
/-- a number's digits -/
def dec (n : Nat) : List Int := (Lib.decDigits n).map fun b => (b.toNat : Int)
theorem dec_one {n : Nat} (h : n < 10) : dec n = [48 + (n : Int)] := by
  unfold dec
  rw [Lib.decDigits, dif_pos h]
  simp only [List.map_cons, List.map_nil, UInt8.toNat_ofNat']
  congr 1
  omega
theorem dec_more {n : Nat} (h : ¬ n < 10) : dec n = dec (n / 10) ++ [48 + ((n % 10 : Nat) : Int)] := by
  unfold dec
  rw [Lib.decDigits, dif_neg h]
  simp only [List.map_append, List.map_cons, List.map_nil, UInt8.toNat_ofNat']
  congr 2
  omega
theorem dec_ind {p : Nat → Prop} (h1 : ∀ n, n < 10 → p n) (h2 : ∀ n, ¬ n < 10 → p (n / 10) → p n) (n : Nat) : p n := by
  induction n using Nat.strongRecOn with
  | _ n ih =>
    by_cases h : n < 10
    · exact h1 n h
    · exact h2 n h (ih _ (by omega))
def isD (l : List Int) : Prop := ∀ z ∈ l, 48 ≤ z ∧ z ≤ 57
instance (l : List Int) : Decidable (isD l) := by unfold isD; infer_instance
theorem isD.bytes {l : List Int} (h : isD l) : Bytes l := fun z hz => by have := h z hz; omega
theorem dec_isD (n : Nat) : isD (dec n) := by
  refine dec_ind (p := fun n => isD (dec n)) (fun n h => ?_) (fun n h ih => ?_) n
  · rw [dec_one h]
    intro z hz
    rw [List.mem_singleton.1 hz]
    omega
  · rw [dec_more h]
    intro z hz
    rcases List.mem_append.1 hz with hz | hz
    · exact ih z hz
    · rw [List.mem_singleton.1 hz]
      omega
theorem dec_bytes (n : Nat) : Bytes (dec n) := (dec_isD n).bytes
/-- what digits are worth behind others -/
def vf (a : Nat) : List Int → Nat
  | [] => a
  | z :: l => vf (10 * a + (z - 48).toNat) l
theorem vf_app : ∀ (l m : List Int) (a : Nat), vf a (l ++ m) = vf (vf a l) m
  | [], m, a => rfl
  | z :: l, m, a => by rw [List.cons_append, vf, vf_app l m, vf]
theorem dec_vf (n : Nat) : vf 0 (dec n) = n := by
  refine dec_ind (p := fun n => vf 0 (dec n) = n) (fun n h => ?_) (fun n h ih => ?_) n
  · rw [dec_one h, vf, vf]
    omega
  · rw [dec_more h, vf_app, ih, vf, vf]
    omega
theorem dec_ne (n : Nat) : dec n ≠ [] := by
  by_cases h : n < 10
  · rw [dec_one h]; simp
  · rw [dec_more h]; simp
theorem dec_len : ∀ (k n : Nat), n < 10 ^ (k + 1) → (dec n).length ≤ k + 1
  | 0, n, h => by rw [dec_one (by simpa using h)]; simp
  | k + 1, n, h => by
    by_cases hn : n < 10
    · rw [dec_one hn]; simp
    · rw [dec_more hn, List.length_append, List.length_singleton]
      have := dec_len k (n / 10) (by rw [Nat.pow_succ] at h; omega)
      omega
def ub (l : List Int) : List UInt8 := l.map fun z => UInt8.ofNat z.toNat
theorem str_ub (l : List Int) : (strOfNums l).data.toList = ub l := by simp [strOfNums, ub]
theorem ub_dec (n : Nat) : ub (dec n) = Lib.decDigits n := by
  unfold ub dec
  rw [List.map_map]
  conv => rhs; rw [← List.map_id (Lib.decDigits n)]
  refine List.map_congr_left fun b _ => ?_
  simp
theorem str_dec (n : Nat) : (⟨(Lib.decDigits n).toArray⟩ : ByteArray) = strOfNums (dec n) := by
  rw [← ub_dec]
  unfold ub strOfNums
  simp
/-- the number of a text, if it is one of four bytes, as numbers are written -/
def numS (l : List Int) : Option Nat := if l.length ≤ 10 ∧ vf 0 l ≤ 4294967295 ∧ dec (vf 0 l) = l then some (vf 0 l) else none
theorem numS_dec {n : Nat} (h : n ≤ 4294967295) : numS (dec n) = some n := by
  unfold numS
  rw [dec_vf, if_pos ⟨dec_len 9 n (by omega), h, rfl⟩]
theorem numS_some {l : List Int} {n : Nat} (h : numS l = some n) : l = dec n ∧ n ≤ 4294967295 := by
  unfold numS at h
  split at h
  · rename_i c
    injection h with h
    subst h
    exact ⟨c.2.2.symm, c.2.1⟩
  · cases h
theorem u8_of {z : Int} (h : 0 ≤ z ∧ z < 256) : ((UInt8.ofNat z.toNat).toNat : Int) = z := by
  rw [UInt8.toNat_ofNat']
  omega
theorem parse_ok : ∀ (l : List Int) (a u : Nat), Bytes l → Lib.parseUintM 4294967295 a (ub l) = .ok u → a ≤ 4294967295 → u = vf a l ∧ u ≤ 4294967295
  | [], a, u, _, h, ha => by
    simp only [ub, List.map_nil, Lib.parseUintM, Lib.NumEnd.ok.injEq] at h
    subst h
    exact ⟨rfl, ha⟩
  | z :: l, a, u, hb, h, ha => by
    have hz := hb z (by simp)
    have e := u8_of hz
    simp only [ub, List.map_cons, Lib.parseUintM] at h
    obtain ⟨c, hc⟩ : ∃ c, c = (UInt8.ofNat z.toNat).toNat := ⟨_, rfl⟩
    rw [← hc] at h e
    split at h
    · rename_i h1
      split at h
      · cases h
      · split at h
        · cases h
        · rename_i h3
          rw [vf, show 10 * a + (z - 48).toNat = a * 10 + (c - 48) by omega]
          exact parse_ok l _ u (fun y hy => hb y (by simp [hy])) h (by omega)
    · cases h
theorem vf_ge : ∀ (l : List Int) (a : Nat), a ≤ vf a l
  | [], a => Nat.le_refl _
  | z :: l, a => by
    rw [vf]
    have := vf_ge l (10 * a + (z - 48).toNat)
    omega
theorem parse_of : ∀ (l : List Int) (a : Nat), isD l → vf a l ≤ 4294967295 → Lib.parseUintM 4294967295 a (ub l) = .ok (vf a l)
  | [], a, _, h => rfl
  | z :: l, a, hd, h => by
    have hz := hd z (by simp)
    have e := u8_of (z := z) (by omega)
    have hg := vf_ge l (10 * a + (z - 48).toNat)
    simp only [ub, List.map_cons, Lib.parseUintM]
    obtain ⟨c, hc⟩ : ∃ c, c = (UInt8.ofNat z.toNat).toNat := ⟨_, rfl⟩
    rw [← hc] at e ⊢
    rw [vf] at h ⊢
    rw [if_pos (by omega), if_neg (by omega), if_neg (by omega), show a * 10 + (c - 48) = 10 * a + (z - 48).toNat by omega]
    exact parse_of l _ (fun y hy => hd y (by simp [hy])) h
theorem num_ok {l : List Int} (hb : Bytes l) {u : Nat} (h : Lib.parseUintB 32 (ub l) = .ok u) : numS l = (if dec u = l then some u else none) ∧ u ≤ 4294967295 := by
  unfold Lib.parseUintB at h
  split at h
  · cases h
  · obtain ⟨h1, h2⟩ := parse_ok l 0 u hb h (by omega)
    refine ⟨?_, h2⟩
    unfold numS
    rw [← h1]
    by_cases c : dec u = l
    · rw [if_pos c, if_pos ⟨by rw [← c]; exact dec_len 9 u (by omega), h2, c⟩]
    · rw [if_neg c, if_neg (fun k => c k.2.2)]
theorem num_some {l : List Int} {u : Nat} (h : numS l = some u) : Lib.parseUintB 32 (ub l) = .ok u := by
  obtain ⟨rfl, h2⟩ := numS_some h
  unfold Lib.parseUintB
  rw [if_neg (by rw [ub_dec]; have := dec_ne u; unfold dec at this; intro c; rw [c] at this; exact this rfl)]
  have := parse_of (dec u) 0 (dec_isD u) (by rw [dec_vf]; exact h2)
  rw [dec_vf] at this
  exact this
theorem num_not {l : List Int} (h : ∀ u, Lib.parseUintB 32 (ub l) ≠ .ok u) : numS l = none := by
  cases e : numS l with
  | none => rfl
  | some u => exact absurd (num_some e) (h u)
/-- the first place of a byte; the length: none -/
def pos : List Int → Int → Nat
  | [], _ => 0
  | b :: l, c => if b = c then 0 else pos l c + 1
def fnd (l : List Int) (c : Int) : Int := if pos l c < l.length then (pos l c : Int) else -1
theorem pos_le : ∀ (l : List Int) (c : Int), pos l c ≤ l.length
  | [], c => Nat.le_refl _
  | b :: l, c => by
    rw [pos]
    split
    · exact Nat.zero_le _
    · have := pos_le l c
      simp only [List.length_cons]; omega
theorem idx_fnd : ∀ (l : List Int) (c : Int), Bytes l → 0 ≤ c ∧ c < 256 → Lib.indexByte (ub l) (UInt8.ofNat c.toNat) = fnd l c
  | [], c, _, _ => rfl
  | b :: l, c, hb, hc => by
    have ih := idx_fnd l c (fun y hy => hb y (by simp [hy])) hc
    have e1 := u8_of (hb b (by simp))
    have e2 := u8_of hc
    have hp := pos_le l c
    have key : ((UInt8.ofNat b.toNat == UInt8.ofNat c.toNat) = true) ↔ b = c := by
      rw [beq_iff_eq]
      constructor
      · intro h
        rw [← e1, ← e2, h]
      · rintro rfl; rfl
    have eL : Lib.indexByte (ub (b :: l)) (UInt8.ofNat c.toNat) = if UInt8.ofNat b.toNat == UInt8.ofNat c.toNat then 0 else if Lib.indexByte (ub l) (UInt8.ofNat c.toNat) == -1 then -1 else Lib.indexByte (ub l) (UInt8.ofNat c.toNat) + 1 := rfl
    rw [eL, ih]
    unfold fnd
    rw [List.length_cons]
    by_cases h : b = c
    · rw [if_pos (key.2 h)]
      have e0 : pos (b :: l) c = 0 := by rw [pos, if_pos h]
      rw [e0, if_pos (by omega)]; rfl
    · rw [if_neg (fun k => h (key.1 k))]
      have e0 : pos (b :: l) c = pos l c + 1 := by rw [pos, if_neg h]
      rw [e0]
      by_cases h2 : pos l c < l.length
      · rw [if_pos h2, if_neg (by rw [beq_iff_eq]; omega), if_pos (by omega)]
        omega
      · rw [if_neg h2, if_pos (by decide), if_neg (by omega)]
theorem pos_at : ∀ (l : List Int) (c : Int) (k : Nat), k < l.length → (∀ j, j < k → ¬ l.getD j 0 = c) → l.getD k 0 = c → pos l c = k
  | [], c, k, h, _, _ => by simp at h
  | b :: l, c, 0, _, _, h => by
    rw [pos, if_pos (by simpa using h)]
  | b :: l, c, k + 1, h, hj, hk => by
    have h0 := hj 0 (by omega)
    rw [pos, if_neg (by simpa using h0), pos_at l c k (by simpa using h) (fun j hjk => by simpa using hj (j + 1) (by omega)) (by simpa using hk)]
theorem pos_none : ∀ (l : List Int) (c : Int), (∀ j, j < l.length → ¬ l.getD j 0 = c) → pos l c = l.length
  | [], c, _ => rfl
  | b :: l, c, h => by
    have h0 := h 0 (by simp)
    rw [pos, if_neg (by simpa using h0), pos_none l c (fun j hj => by simpa using h (j + 1) (by simpa using hj)), List.length_cons]
theorem pos_app : ∀ (l m : List Int) (c : Int), (∀ z ∈ l, ¬ z = c) → pos (l ++ c :: m) c = l.length
  | [], m, c, _ => by rw [List.nil_append, pos, if_pos rfl]; rfl
  | b :: l, m, c, h => by
    rw [List.cons_append, pos, if_neg (h b (by simp)), pos_app l m c (fun z hz => h z (by simp [hz])), List.length_cons]
/-- tens are struck off above and below the line while what is above is too great -/
def shr : Nat → Nat → Nat → Nat × Nat
  | 0, n, d => (n, d)
  | f + 1, n, d => if 4294967295 < n ∧ n % 10 = 0 ∧ d % 10 = 0 then shr f (n / 10) (d / 10) else (n, d)
theorem shr_t {f n d : Nat} (hf : n < 10 ^ f) (h : 4294967295 < n ∧ n % 10 = 0 ∧ d % 10 = 0) : ∃ g, f = g + 1 ∧ shr f n d = shr g (n / 10) (d / 10) ∧ n / 10 < 10 ^ g := by
  cases f with
  | zero => simp at hf; omega
  | succ g => exact ⟨g, rfl, by rw [shr, if_pos h], by rw [Nat.pow_succ] at hf; omega⟩
theorem shr_f {f n d : Nat} (h : ¬ (4294967295 < n ∧ n % 10 = 0 ∧ d % 10 = 0)) : shr f n d = (n, d) := by
  cases f with
  | zero => rfl
  | succ g => rw [shr, if_neg h]
/-- the fraction of whole digits and digits behind the point -/
def fracS (n : Nat) (part : List Int) : Nat × Nat × Nat :=
  let r := shr 64 (vf n part) (10 ^ part.length)
  if 4294967295 < r.1 then (0, 0, 7) else (r.1, r.2, 0)
/-- the fraction of a text, and its error -/
def parS (l : List Int) : Nat × Nat × Nat :=
  if pos l 47 < l.length then
    match numS (l.take (pos l 47)), numS (l.drop (pos l 47 + 1)) with
    | some n, some d => (n, d, 0)
    | _, _ => (0, 0, 3)
  else match numS (l.take (pos l 46)) with
    | none => (0, 0, 3)
    | some n => if 9 < (l.drop (pos l 46 + 1)).length ∨ (pos l 46 < l.length ∧ l.drop (pos l 46 + 1) = []) ∨ ¬ isD (l.drop (pos l 46 + 1)) then (0, 0, 3) else fracS n (l.drop (pos l 46 + 1))
theorem vf_lt : ∀ (l : List Int) (a m : Nat), isD l → a < m → vf a l < m * 10 ^ l.length
  | [], a, m, _, h => by simpa [vf] using h
  | z :: l, a, m, hd, h => by
    have hz := hd z (by simp)
    rw [vf, List.length_cons, Nat.pow_succ, Nat.mul_comm (10 ^ l.length) 10, ← Nat.mul_assoc]
    exact vf_lt l _ _ (fun y hy => hd y (by simp [hy])) (by omega)
theorem parS_text {n d : Nat} (hn : n ≤ 4294967295) (hd : d ≤ 4294967295) : parS (dec n ++ [47] ++ dec d) = (n, d, 0) := by
  have hp : pos (dec n ++ [47] ++ dec d) 47 = (dec n).length := by
    rw [List.append_assoc, List.singleton_append]
    exact pos_app _ _ _ fun z hz => by have := dec_isD n z hz; omega
  unfold parS
  rw [hp, if_pos (by simp only [List.length_append, List.length_singleton]; omega)]
  rw [List.append_assoc, List.take_left, show (dec n).length + 1 = (dec n).length + [(47 : Int)].length from rfl, ← List.append_assoc, ← List.length_append, List.drop_left, numS_dec hn, numS_dec hd]
end Go.Proofs.YthbdglibakjfbaaDoor
