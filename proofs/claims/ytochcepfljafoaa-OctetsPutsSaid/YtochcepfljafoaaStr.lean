/- Words on strings as lists of bytes' numbers: parts, sums, single bytes, what a slice of bytes converts to. No condition. -/
import Derived.Test.YtochcepfljafoaaOwn
import Derived.Laws.BytesArg
import Derived.Laws.Strings2
import Derived.Laws.Concat
import Derived.Laws.IdiomStrings
namespace Go.Shp
open Go.RowKit
theorem str_extract (l : List Int) (a b : Nat) : (strOfNums l).extract a b = strOfNums ((l.drop a).take (b - a)) := by
  unfold strOfNums
  rw [ByteArray.extract_mk, List.map_take, List.map_drop]
theorem str_append (a b : List Int) : strOfNums a ++ strOfNums b = strOfNums (a ++ b) := by
  unfold strOfNums
  rw [ByteArray.mk_append_mk, List.map_append]
theorem str_one (l : List Int) (k : Nat) (hk : k < l.length) : (strOfNums l).extract k (k + 1) = strOfNums [l.getD k 0] := by
  rw [str_extract, Nat.add_sub_cancel_left]
  congr 1
  rw [List.drop_eq_getElem_cons hk]
  simp only [List.take_succ_cons, List.take_zero, List.getD, List.getElem?_eq_getElem hk, Option.getD_some]
theorem str_nil : strOfNums [] = ByteArray.empty := rfl
theorem str_empty : ({ data := #[] } : ByteArray) = strOfNums [] := rfl
def Bytes (l : List Int) : Prop := ∀ z ∈ l, 0 ≤ z ∧ z < 256
theorem Bytes.get {l : List Int} (h : Bytes l) (i : Nat) : 0 ≤ l.getD i 0 ∧ l.getD i 0 < 256 := by
  by_cases hi : i < l.length
  · simp only [List.getD, List.getElem?_eq_getElem hi, Option.getD_some]
    exact h _ (List.getElem_mem _)
  · simp [List.getD, List.getElem?_eq_none (Nat.le_of_not_lt hi)]
theorem Bytes.take {l : List Int} (h : Bytes l) (i : Nat) : Bytes (l.take i) := fun z hz => h z (List.mem_of_mem_take hz)
theorem Bytes.drop {l : List Int} (h : Bytes l) (i : Nat) : Bytes (l.drop i) := fun z hz => h z (List.mem_of_mem_drop hz)
theorem Bytes.rev {l : List Int} (h : Bytes l) : Bytes l.reverse := fun z hz => h z (by simpa using hz)
theorem str_at (l : List Int) (i : Nat) (hi : i < (strOfNums l).size) (hb : Bytes l) : (((strOfNums l)[i]'hi).toNat : Int) = l.getD i 0 := by
  have hi' : i < l.length := by rwa [strOfNums_size] at hi
  have h := hb (l[i]) (List.getElem_mem _)
  have e : (strOfNums l)[i]'hi = UInt8.ofNat (l[i]).toNat := by
    show (strOfNums l).data[i] = _
    simp [strOfNums]
  rw [e]
  simp only [List.getD, List.getElem?_eq_getElem hi', Option.getD_some]
  rw [UInt8.toNat_ofNat']
  omega
theorem str_inj {a b : List Int} (ha : Bytes a) (hb : Bytes b) (h : strOfNums a = strOfNums b) : a = b := by
  have hl : a.length = b.length := by rw [← strOfNums_size a, ← strOfNums_size b, h]
  refine List.ext_getElem hl fun i h1 h2 => ?_
  have e1 := str_at a i (by rwa [strOfNums_size]) ha
  have e2 := str_at b i (by rwa [strOfNums_size]) hb
  simp only [List.getD, List.getElem?_eq_getElem h1, List.getElem?_eq_getElem h2, Option.getD_some] at e1 e2
  rw [← e1, ← e2]
  simp only [h]
theorem str_beq (a b : List Int) (ha : Bytes a) (hb : Bytes b) : ((strOfNums a).toList == (strOfNums b).toList) = decide (a = b) := by
  by_cases h : a = b
  · simp [h]
  · have : (strOfNums a).toList ≠ (strOfNums b).toList := by
      intro hh
      rw [ByteArray.toList_eq, ByteArray.toList_eq] at hh
      exact h (str_inj ha hb (ByteArray.ext (Array.toList_inj.1 hh)))
    simp [h, this]
theorem SlI.bytes {w : World} {zs : List Int} {a : Option Addr} {cap b : Nat} (h : SlI w .u8 b zs a cap) : Bytes zs := by
  intro z hz
  have := h.ok z hz
  simp [Lit.wf, IntKind.min, IntKind.max, IntKind.signed, IntKind.bits] at this
  omega
theorem OwI.bytes {w : World} {zs : List Int} {base : Nat} {e : TypeId} {v : Value} (h : OwI w base e .u8 zs v) : Bytes zs := by
  intro z hz
  have := h.ok z hz
  simp [Lit.wf, IntKind.min, IntKind.max, IntKind.signed, IntKind.bits] at this
  omega
/-- 'string(b)' -/
theorem SlI.conv {P : Program} {w : World} {zs : List Int} {a : Option Addr} {cap b : Nat} (h : SlI w .u8 b zs a cap) (src dst e : TypeId)
    (hs : P.underlying src = some (.slice e)) (he : P.underlying e = some (.int .u8)) (hd : P.underlying dst = some .string) :
    (convert src dst (.slice a zs.length cap)).run P w = .ok (.string (strOfNums zs)) w := by
  by_cases hn : zs.length = 0
  · obtain rfl : zs = [] := List.eq_nil_of_length_eq_zero hn
    cases a with
    | none => rw [run_convert_bytes_nil w src e hs he _ _ dst hd]; rfl
    | some a =>
      rw [run_convert_bytes_string w src dst e _ _ cap hs he hd]
      rw [run_bytesToString w a _ cap [] (by simp [loadCells, loadCellsFrom])]
      rfl
  · obtain ⟨b1, o1, rfl, _, c1⟩ := h.cells hn
    exact run_convert_bytes_arg w src e hs he b1 o1 _ cap zs rfl c1 dst hd
end Go.Shp
