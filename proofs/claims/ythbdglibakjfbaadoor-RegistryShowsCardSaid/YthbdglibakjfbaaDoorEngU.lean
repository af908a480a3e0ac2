/- Strings as lists of numbers, and small plain laws of lists, for walks by rewriting. No condition but what each says. -/
import Derived.Test.YthbdglibakjfbaaDoorEngS
import Derived.Laws.BytesArg
import Derived.Laws.Strings2
import Derived.Laws.Concat
import Derived.Laws.IdiomStrings
set_option linter.unusedSectionVars false
namespace Go.Eng
open Go.RowKit
variable [Inhabited Lo]
theorem str_size {l : List Int} : (strOfNums l).size = l.length := strOfNums_size l
theorem str_extract {l : List Int} {a b : Nat} : (strOfNums l).extract a b = strOfNums ((l.drop a).take (b - a)) := by
  unfold strOfNums
  rw [ByteArray.extract_mk, List.map_take, List.map_drop]
theorem str_append {a b : List Int} : strOfNums a ++ strOfNums b = strOfNums (a ++ b) := by
  unfold strOfNums
  rw [ByteArray.mk_append_mk, List.map_append]
def Bytes (l : List Int) : Prop := ∀ z ∈ l, 0 ≤ z ∧ z < 256
theorem Bytes.get {l : List Int} (h : Bytes l) (i : Nat) : 0 ≤ l.getD i 0 ∧ l.getD i 0 < 256 := by
  by_cases hi : i < l.length
  · simp only [List.getD, List.getElem?_eq_getElem hi, Option.getD_some]
    exact h _ (List.getElem_mem _)
  · simp [List.getD, List.getElem?_eq_none (Nat.le_of_not_lt hi)]
theorem Bytes.take {l : List Int} (h : Bytes l) (i : Nat) : Bytes (l.take i) := fun z hz => h z (List.mem_of_mem_take hz)
theorem Bytes.drop {l : List Int} (h : Bytes l) (i : Nat) : Bytes (l.drop i) := fun z hz => h z (List.mem_of_mem_drop hz)
theorem Bytes.app {l l' : List Int} (h : Bytes l) (k : Bytes l') : Bytes (l ++ l') := fun z hz => (List.mem_append.1 hz).elim (h z) (k z)
theorem Bytes.nil : Bytes [] := fun z hz => by cases hz
theorem Bytes.one {x : Int} (h : 0 ≤ x ∧ x < 256) : Bytes [x] := fun z hz => by rw [List.mem_singleton.1 hz]; exact h
theorem str_get {l : List Int} (hb : Bytes l) {i : Nat} (hi : i < l.length) : (((strOfNums l).data.toList.getD i 0).toNat : Int) = l.getD i 0 := by
  have h := hb (l[i]) (List.getElem_mem _)
  have e : (strOfNums l).data.toList = l.map fun z => UInt8.ofNat z.toNat := by simp [strOfNums]
  rw [e]
  simp only [List.getD, List.getElem?_map, List.getElem?_eq_getElem hi, Option.map_some, Option.getD_some]
  rw [UInt8.toNat_ofNat']
  omega
theorem str_inj {a b : List Int} (ha : Bytes a) (hb : Bytes b) (h : strOfNums a = strOfNums b) : a = b := by
  have hl : a.length = b.length := by rw [← strOfNums_size a, ← strOfNums_size b, h]
  refine List.ext_getElem hl fun i h1 h2 => ?_
  have e1 := str_get ha h1
  have e2 := str_get hb h2
  simp only [List.getD, List.getElem?_eq_getElem h1, List.getElem?_eq_getElem h2, Option.getD_some] at e1 e2
  rw [← e1, ← e2]
  simp only [h]
theorem str_beq {a b : List Int} (ha : Bytes a) (hb : Bytes b) : ((strOfNums a).toList == (strOfNums b).toList) = decide (a = b) := by
  by_cases h : a = b
  · simp [h]
  · have : (strOfNums a).toList ≠ (strOfNums b).toList := by
      intro hh
      rw [ByteArray.toList_eq, ByteArray.toList_eq] at hh
      exact h (str_inj ha hb (ByteArray.ext (Array.toList_inj.1 hh)))
    simp [h, this]
/-- every string is that of its bytes' numbers -/
def nums (s : ByteArray) : List Int := s.data.toList.map fun b => (b.toNat : Int)
theorem nums_bytes (s : ByteArray) : Bytes (nums s) := by
  intro z hz
  simp only [nums, List.mem_map] at hz
  obtain ⟨b, _, rfl⟩ := hz
  have := b.toNat_lt
  omega
theorem nums_str (s : ByteArray) : s = strOfNums (nums s) := by
  apply ByteArray.ext
  apply Array.toList_inj.1
  simp only [strOfNums, nums, List.map_map]
  conv => lhs; rw [← List.map_id s.data.toList]
  refine List.map_congr_left fun b _ => ?_
  simp
theorem nums_length (s : ByteArray) : (nums s).length = s.size := by simp [nums]
theorem drop_at {l : List Int} {k : Nat} (hk : k < l.length) : l.drop k = l.getD k 0 :: l.drop (k + 1) := by
  rw [List.drop_eq_getElem_cons hk]
  simp only [List.getD, List.getElem?_eq_getElem hk, Option.getD_some]
theorem take_all {α : Type} {l : List α} {n : Nat} (h : l.length ≤ n) : l.take n = l := List.take_of_length_le h
theorem take_at {l : List Int} {k : Nat} (hk : k < l.length) : l.take (k + 1) = l.take k ++ [l.getD k 0] := by
  rw [List.take_add_one]
  simp only [List.getD, List.getElem?_eq_getElem hk, Option.getD_some, Option.toList_some]
theorem getD_app {l : List Int} {x : Int} {i : Nat} : (l ++ [x]).getD i 0 = if i < l.length then l.getD i 0 else if i = l.length then x else 0 := by
  simp only [List.getD]
  split
  · rename_i h; rw [List.getElem?_append_left h]
  · rename_i h
    split
    · rename_i h2; subst h2; simp
    · rw [List.getElem?_eq_none (by simp; omega)]; rfl
/-- what comes back: a nil slice is one of no elements -/
theorem post_nil {es : Nat} {xs ys : List D} {b : Seal fun ds => leD ds (.lst es [] :: ys)} (h : leD xs ys) : postX (fun ds => leD ds (.lst es [] :: ys)) (.c (.slice none 0 0) :: xs) b := .cons (.nil es) h
theorem post_le {ds out : List D} {b : Seal fun ds => leD ds out} (h : leD ds out) : postX (fun ds => leD ds out) ds b := h
section
variable {P : Program} {s : St} {Q : Exit → St → Prop}
/-- a loop in which a nil slice in a slot is appended to: it gets a name -/
theorem loop_nil {x : ACode} {b : Seal (P, x, Q, s)} (t n es : Nat) (I : St → Prop) (μ : St → Nat) (h1 : s.tm t = .d (.c (.slice none 0 0))) (he : 0 < es) (h0 : I ((s.renew n (.row es [])).put (some t) (.sl n es 0 0))) (h : ∀ s, I s → awp P x (thenQ (roundW I μ s) Q) s) (hn : n < 2000000 := by decide) : loopX P x Q s b :=
  loop_ad [(none, t, n, es)] I μ ⟨h1, he, hn, h0⟩ h
end
theorem ibeq_t {x y : Int} (h : x = y) : (x == y) = true := by rw [h]; exact beq_self_eq_true _
theorem ibeq_f {x y : Int} (h : ¬ x = y) : (x == y) = false := beq_false_of_ne h
theorem ibne_t {x y : Int} (h : ¬ x = y) : (x != y) = true := by rw [bne, ibeq_f h]; rfl
theorem ibne_f {x y : Int} (h : x = y) : (x != y) = false := by rw [bne, ibeq_t h]; rfl
theorem ext_getD {a b : List Int} (hl : a.length = b.length) (h : ∀ j, j < a.length → a.getD j 0 = b.getD j 0) : a = b := by
  refine List.ext_getElem hl fun i h1 h2 => ?_
  have := h i h1
  simpa only [List.getD, List.getElem?_eq_getElem h1, List.getElem?_eq_getElem h2, Option.getD_some] using this
theorem and1 (q : Int) (h0 : 0 ≤ q) (h1 : q < 256) : bits .and .u8 q 1 = q % 2 := by
  rw [u8_and q 1 h0 h1 (by decide) (by decide), show (1 : Int).toNat = 2 ^ 1 - 1 from rfl, Nat.and_two_pow_sub_one_eq_mod]
  omega
theorem bD_str {l : List Int} (h : Bytes l) : bD (strOfNums l) = li .u8 l := by
  unfold bD li
  rw [strOfNums_data, List.map_map]
  refine List.map_congr_left fun z hz => ?_
  have := h z hz
  simp only [Function.comp]
  congr 2
  simp
  omega
end Go.Eng
