/- Directories that hang together: what is to come out, and that it ends. No condition but what each says. -/
import Derived.Test.YtpjnpmdmcllilaaWRDir
set_option linter.unusedSimpArgs false
set_option linter.unusedVariables false
set_option maxRecDepth 8000
set_option maxHeartbeats 4000000
namespace Go.Proofs.Ytpjnpmdmcllilaa
open Go.Eng Go.RowKit
/-- the place of the first directory that stands at a, counted from i; -1: none -/
def ixD (a : Int) : List Dr → Int → Int
  | [], _ => -1
  | d :: l, i => if d.1 = a then i else ixD a l (i + 1)
theorem ixD_no {a : Int} : ∀ (l : List Dr) (i : Int), (∀ d ∈ l, d.1 ≠ a) → ixD a l i = -1
  | [], _, _ => rfl
  | d :: l, i, h => by
    unfold ixD
    rw [if_neg (h d (by simp))]
    exact ixD_no l _ fun x hx => h x (by simp [hx])
theorem ixD_ge {a : Int} : ∀ (l : List Dr) (i : Int), (∃ d ∈ l, d.1 = a) → i ≤ ixD a l i
  | [], _, h => by obtain ⟨d, h, _⟩ := h; cases h
  | d :: l, i, h => by
    unfold ixD
    split
    · exact Int.le_refl _
    · rename_i hd
      obtain ⟨x, hx, hxa⟩ := h
      rcases List.mem_cons.1 hx with rfl | hx
      · exact absurd hxa hd
      · have := ixD_ge l (i + 1) ⟨x, hx, hxa⟩
        omega
theorem pig : ∀ (n : Nat) (l : List Nat), l.Nodup → (∀ x ∈ l, x < n) → l.length ≤ n
  | 0, l, _, h => by
    cases l with
    | nil => simp
    | cons x l => exact absurd (h x (by simp)) (by omega)
  | n + 1, l, hn, h => by
    have h1 := pig n (l.erase n) (hn.erase n) fun x hx => by
      have h1 := hn.mem_erase_iff.1 hx
      have := h x h1.2
      omega
    have h2 := @List.length_erase _ _ _ n l
    split at h2 <;> omega
/-- all directories from a place on, behind those of out; so many steps at most -/
def chn (b : List Int) (big large : Bool) (most : Int) : Nat → Nat → List Dr → List Dr × Int
  | 0, _, _ => ([], 0)
  | k + 1, at_, out =>
    if at_ = 0 then (out, 0)
    else if 0 ≤ ixD at_ out 0 then ([], 13)
    else if most ≤ (out.length : Int) then ([], 8)
    else if (dirS b big large at_).2 ≠ 0 then ([], (dirS b big large at_).2)
    else chn b big large most k (dirS b big large at_).1.2.1.toNat (out ++ [(dirS b big large at_).1])
/-- what holds of the directories that were read -/
structure Ok (b : List Int) (out : List Dr) : Prop where
  nd : (out.map fun d => d.1.toNat).Nodup
  lt : ∀ d ∈ out, 0 ≤ d.1 ∧ d.1.toNat < b.length
theorem Ok.nil {b : List Int} : Ok b [] := ⟨List.nodup_nil, fun _ h => by cases h⟩
theorem Ok.len {b : List Int} {out : List Dr} (h : Ok b out) : out.length ≤ b.length := by
  have := pig b.length _ h.nd (fun x hx => by
    obtain ⟨d, hd, rfl⟩ := List.mem_map.1 hx
    exact (h.lt d hd).2)
  simpa using this
theorem Ok.snoc {b : List Int} {out : List Dr} (h : Ok b out) {d : Dr} {a : Nat} (hd : d.1 = a) (hl : a < b.length) (hn : ¬ 0 ≤ ixD a out 0) : Ok b (out ++ [d]) := by
  refine ⟨?_, fun x hx => ?_⟩
  · rw [List.map_append, List.nodup_append]
    refine ⟨h.nd, by simp, fun x hx y hy => ?_⟩
    obtain ⟨e, he, rfl⟩ := List.mem_map.1 hx
    simp only [List.map_cons, List.map_nil, List.mem_cons, List.not_mem_nil, or_false] at hy
    subst hy
    intro heq
    refine hn (ixD_ge out 0 ⟨e, he, ?_⟩)
    have := (h.lt e he).1
    omega
  · rcases List.mem_append.1 hx with hx | hx
    · exact h.lt x hx
    · simp only [List.mem_cons, List.not_mem_nil, or_false] at hx
      subst hx
      rw [hd]
      omega
theorem dirS_ok {b : List Int} {big large : Bool} {a : Nat} (hB : Bytes b) (h : (dirS b big large a).2 = 0) : (dirS b big large a).1.1 = a ∧ a < b.length ∧ 0 ≤ (dirS b big large a).1.2.1 ∧ (dirS b big large a).1.2.1 < 18446744073709551616 := by
  have hc : 0 < ct large := by cases large <;> decide
  unfold dirS at h ⊢
  by_cases h1 : b.length < a + ct large
  · rw [if_pos h1] at h; exact absurd h (by decide)
  rw [if_neg h1] at h ⊢
  by_cases h2 : gk b a (ct large) big > 64
  · rw [if_pos h2] at h; exact absurd h (by decide)
  rw [if_neg h2] at h ⊢
  by_cases h3 : (rdS b big large (gk b a (ct large) big).toNat (a + ct large) (-1) []).2 ≠ 0
  · rw [if_pos h3] at h; exact absurd h h3
  rw [if_neg h3] at h ⊢
  by_cases h4 : b.length < a + ct large + (gk b a (ct large) big).toNat * en large + wd large
  · rw [if_pos h4] at h; exact absurd h (by decide)
  rw [if_neg h4] at h ⊢
  have := gk_b hB (a + ct large + (gk b a (ct large) big).toNat * en large) (wd large) big (by cases large <;> decide)
  exact ⟨rfl, by omega, this.1, this.2⟩
end Go.Proofs.Ytpjnpmdmcllilaa
