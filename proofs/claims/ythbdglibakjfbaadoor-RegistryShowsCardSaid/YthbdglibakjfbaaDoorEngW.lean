/- Lists as tables of a function, and small plain laws about them. No condition but what each says. -/
import Derived.Test.YthbdglibakjfbaaDoorEngU
set_option linter.unusedSectionVars false
namespace Go.Eng
open Go.RowKit
variable [Inhabited Lo]
/-- the list of f 0, .., f (n - 1) -/
def tab (f : Nat → Int) : Nat → List Int
  | 0 => []
  | n + 1 => tab f n ++ [f n]
theorem tab_len (f : Nat → Int) : ∀ n, (tab f n).length = n
  | 0 => rfl
  | n + 1 => by rw [tab, List.length_append, tab_len f n]; rfl
theorem tab_get (f : Nat → Int) : ∀ {n i : Nat}, i < n → (tab f n).getD i 0 = f i
  | 0, i, h => by omega
  | n + 1, i, h => by
    rw [tab, getD_app, tab_len]
    split
    · rename_i h2; exact tab_get f h2
    · rw [if_pos (by omega), show i = n by omega]
theorem tab_congr {f g : Nat → Int} : ∀ n, (∀ i, i < n → f i = g i) → tab f n = tab g n
  | 0, _ => rfl
  | n + 1, h => by rw [tab, tab, tab_congr n fun i hi => h i (by omega), h n (by omega)]
theorem list_tab {l : List Int} {f : Nat → Int} {n : Nat} (hl : l.length = n) (h : ∀ i, i < n → l.getD i 0 = f i) : l = tab f n :=
  ext_getD (by rw [tab_len, hl]) fun j hj => by rw [tab_get f (by omega), h j (by omega)]
theorem tab_self (l : List Int) : tab (fun i => l.getD i 0) l.length = l := (list_tab rfl fun _ _ => rfl).symm
theorem tab_inj {f g : Nat → Int} {n : Nat} (h : tab f n = tab g n) : ∀ i, i < n → f i = g i := fun i hi => by rw [← tab_get f hi, h, tab_get g hi]
theorem getD_set (l : List Int) (i j : Nat) (v : Int) : (l.set i v).getD j 0 = if j = i ∧ i < l.length then v else l.getD j 0 := by
  simp only [List.getD, List.getElem?_set]
  by_cases h : i = j
  · subst h
    by_cases h2 : i < l.length
    · rw [if_pos rfl, if_pos h2, if_pos ⟨rfl, h2⟩]; rfl
    · rw [if_pos rfl, if_neg h2, if_neg (fun h => h2 h.2), List.getElem?_eq_none (by omega)]
  · rw [if_neg h, if_neg (fun k => h k.1.symm)]
theorem tab_set (f : Nat → Int) {n i : Nat} (hi : i < n) (v : Int) : (tab f n).set i v = tab (fun j => if j = i then v else f j) n := by
  refine list_tab (by rw [List.length_set, tab_len]) fun j hj => ?_
  rw [getD_set, tab_len, tab_get f hj]
  by_cases h : j = i
  · rw [if_pos ⟨h, hi⟩, if_pos h]
  · rw [if_neg (fun k => h k.1), if_neg h]
theorem getD_map_bound {l : List Int} {a b : Int} (h : ∀ z ∈ l, a ≤ z ∧ z ≤ b) {i : Nat} (hi : i < l.length) : a ≤ l.getD i 0 ∧ l.getD i 0 ≤ b := by
  simp only [List.getD, List.getElem?_eq_getElem hi, Option.getD_some]
  exact h _ (List.getElem_mem _)
theorem tab_mem {f : Nat → Int} : ∀ {n : Nat} {z : Int}, z ∈ tab f n → ∃ i, i < n ∧ z = f i
  | 0, z, h => by cases h
  | n + 1, z, h => by
    rw [tab] at h
    rcases List.mem_append.1 h with h | h
    · obtain ⟨i, hi, e⟩ := tab_mem h; exact ⟨i, by omega, e⟩
    · exact ⟨n, by omega, List.mem_singleton.1 h⟩
theorem tab_bytes {f : Nat → Int} {n : Nat} (h : ∀ i, i < n → 0 ≤ f i ∧ f i < 256) : Bytes (tab f n) := fun z hz => by
  obtain ⟨i, hi, rfl⟩ := tab_mem hz
  exact h i hi
theorem rep_tab (n : Nat) (x : Int) : List.replicate n x = tab (fun _ => x) n := list_tab (List.length_replicate ..) fun i hi => by
  simp only [List.getD, List.getElem?_replicate, if_pos hi, Option.getD_some]
theorem getD_append (a b : List Int) (i : Nat) : (a ++ b).getD i 0 = if i < a.length then a.getD i 0 else b.getD (i - a.length) 0 := by
  simp only [List.getD]
  split
  · rename_i h; rw [List.getElem?_append_left h]
  · rename_i h; rw [List.getElem?_append_right (by omega)]
theorem getD_take (l : List Int) (k i : Nat) : (l.take k).getD i 0 = if i < k then l.getD i 0 else 0 := by
  simp only [List.getD, List.getElem?_take]
  split <;> rfl
theorem getD_drop (l : List Int) (k i : Nat) : (l.drop k).getD i 0 = l.getD (k + i) 0 := by
  simp only [List.getD, List.getElem?_drop]
theorem tab_take (f : Nat → Int) {n k : Nat} (h : k ≤ n) : (tab f n).take k = tab f k :=
  list_tab (by rw [List.length_take, tab_len]; omega) fun i hi => by rw [getD_take, if_pos hi, tab_get f (by omega)]
theorem tab_drop (f : Nat → Int) (n k : Nat) : (tab f n).drop k = tab (fun i => f (k + i)) (n - k) :=
  list_tab (by rw [List.length_drop, tab_len]) fun i hi => by rw [getD_drop, tab_get f (by omega)]
theorem tab_app (f g : Nat → Int) (n m : Nat) : tab f n ++ tab g m = tab (fun i => if i < n then f i else g (i - n)) (n + m) :=
  list_tab (by rw [List.length_append, tab_len, tab_len]) fun i hi => by
    rw [getD_append, tab_len]
    split
    · rename_i h; rw [tab_get f h]
    · rw [tab_get g (by omega)]
theorem tab_snoc (f : Nat → Int) {n : Nat} {v : Int} (h : v = f n) : tab f n ++ [v] = tab f (n + 1) := by rw [h, tab]
theorem tab_eq_iff {f g : Nat → Int} {n : Nat} : tab f n = tab g n ↔ ∀ i, i < n → f i = g i := ⟨tab_inj, tab_congr n⟩
theorem loop_nilB {P : Program} {s : St} {Q : Exit → St → Prop} {x : ACode} {b : Seal (P, x, Q, s)} (m i n es : Nat) (cs : List AV) (I : St → Prop) (μ : St → Nat) (hm : s.hp m = some (.box cs)) (hi : cs[i]? = some (.d (.c (.slice none 0 0)))) (hne : m ≠ n) (he : 0 < es)
    (h0 : I ((s.renew n (.row es [])).turn m (.box ((AV.killL (some n) cs).set i (.sl n es 0 0))))) (h : ∀ s, I s → awp P x (thenQ (roundW I μ s) Q) s) (hn : n < 2000000 := by decide) : loopX P x Q s b :=
  loop_ad [(some m, i, n, es)] I μ ⟨hne, he, hn, cs, hm, hi, h0⟩ h
def In (m : Int) (l : List Int) : Prop := ∀ z ∈ l, 0 ≤ z ∧ z < m
theorem In.get {m : Int} {l : List Int} (h : In m l) (hm : 0 < m) (i : Nat) : 0 ≤ l.getD i 0 ∧ l.getD i 0 < m := by
  by_cases hi : i < l.length
  · simp only [List.getD, List.getElem?_eq_getElem hi, Option.getD_some]
    exact h _ (List.getElem_mem _)
  · simpa [List.getD, List.getElem?_eq_none (Nat.le_of_not_lt hi)] using hm
theorem In.nil (m : Int) : In m [] := fun z hz => by cases hz
theorem In.app {m : Int} {l l' : List Int} (h : In m l) (k : In m l') : In m (l ++ l') := fun z hz => (List.mem_append.1 hz).elim (h z) (k z)
theorem In.one {m x : Int} (h : 0 ≤ x ∧ x < m) : In m [x] := fun z hz => by rw [List.mem_singleton.1 hz]; exact h
theorem In.take {m : Int} {l : List Int} (h : In m l) (i : Nat) : In m (l.take i) := fun z hz => h z (List.mem_of_mem_take hz)
theorem In.drop {m : Int} {l : List Int} (h : In m l) (i : Nat) : In m (l.drop i) := fun z hz => h z (List.mem_of_mem_drop hz)
theorem In.tab {m : Int} {f : Nat → Int} {n : Nat} (h : ∀ i, i < n → 0 ≤ f i ∧ f i < m) : In m (tab f n) := fun z hz => by
  obtain ⟨i, hi, rfl⟩ := tab_mem hz
  exact h i hi
theorem In.mono {a b : Int} {l : List Int} (h : In a l) (hab : a ≤ b) : In b l := fun z hz => by have := h z hz; omega
theorem In.bytes {l : List Int} (h : In 256 l) : Bytes l := h
end Go.Eng
