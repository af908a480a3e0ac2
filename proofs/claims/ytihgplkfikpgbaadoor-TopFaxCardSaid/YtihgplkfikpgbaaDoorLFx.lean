/- Rows told by the row above: the bits, and what the next places of change are. No condition but what each says. A book of words as a list of places: laying, reading. No condition. -/
import Init
set_option linter.unusedSimpArgs false
set_option linter.unusedVariables false
namespace Go.Proofs.YtihgplkfikpgbaaDoor
/-- from n on come these bits -/
def At (f : Nat → Int) (n : Nat) (L : List Int) : Prop := ∀ i, i < L.length → f (n + i) = L.getD i 0
theorem At.nil (f : Nat → Int) (n : Nat) : At f n [] := fun i h => absurd h (Nat.not_lt_zero _)
theorem At.app {f : Nat → Int} {n : Nat} {A B : List Int} (h : At f n (A ++ B)) : At f n A ∧ At f (n + A.length) B := by
  constructor
  · intro i hi
    rw [h i (by rw [List.length_append]; omega)]
    simp only [List.getD, List.getElem?_append_left hi]
  · intro i hi
    have := h (A.length + i) (by rw [List.length_append]; omega)
    rw [Nat.add_assoc, this]
    simp only [List.getD, List.getElem?_append_right (Nat.le_add_right _ _), Nat.add_sub_cancel_left]
theorem At.cons {f : Nat → Int} {n : Nat} {x : Int} {B : List Int} (h : At f n (x :: B)) : f n = x ∧ At f (n + 1) B := by
  have h1 := h 0 (by simp)
  have h2 := At.app (A := [x]) (B := B) h
  exact ⟨by simpa using h1, h2.2⟩
theorem At.get {f : Nat → Int} {n : Nat} {L : List Int} (h : At f n L) {i : Nat} (hi : i < L.length) : f (n + i) = L.getD i 0 := h i hi
/-- the stream of a list -/
def stream (L : List Int) (i : Nat) : Int := L.getD i 0
theorem stream_at (L : List Int) : At (stream L) 0 L := fun i _ => by rw [Nat.zero_add]; rfl
def Bits (L : List Int) : Prop := ∀ x ∈ L, x = 0 ∨ x = 1
theorem stream_bit {L : List Int} (h : Bits L) (i : Nat) : stream L i = 0 ∨ stream L i = 1 := by
  unfold stream
  by_cases c : i < L.length
  · simp only [List.getD, List.getElem?_eq_getElem c, Option.getD_some]
    exact h _ (List.getElem_mem _)
  · simp [List.getD, List.getElem?_eq_none (Nat.le_of_not_lt c)]
theorem Bits.nil : Bits [] := fun x h => by cases h
theorem Bits.app {A B : List Int} (h : Bits A) (k : Bits B) : Bits (A ++ B) := fun x hx => (List.mem_append.1 hx).elim (h x) (k x)
theorem Bits.rep (k : Nat) : Bits (List.replicate k 0) := fun x hx => .inl (List.eq_of_mem_replicate hx)
/-- each place is behind the one before and inside the width -/
def rightW (w : Int) : List Int → Int → Bool
  | [], _ => true
  | x :: l, was => decide (was < x ∧ x < w) && rightW w l x
theorem rw_cons {w x y : Int} {l : List Int} (h : rightW w (x :: l) y = true) : y < x ∧ x < w ∧ rightW w l x = true := by
  rw [rightW, Bool.and_eq_true, decide_eq_true_eq] at h
  exact ⟨h.1.1, h.1.2, h.2⟩
theorem rw_get {w : Int} : ∀ {l : List Int} {y : Int}, rightW w l y = true → ∀ {i : Nat}, i < l.length → y < l.getD i 0 ∧ l.getD i 0 < w
  | [], y, _, i, hi => absurd hi (Nat.not_lt_zero _)
  | x :: l, y, h, 0, _ => ⟨(rw_cons h).1, (rw_cons h).2.1⟩
  | x :: l, y, h, i + 1, hi => by
    have h1 := rw_cons h
    have h2 := rw_get h1.2.2 (i := i) (by simpa using hi)
    rw [List.getD_cons_succ]
    omega
theorem rw_mono {w : Int} : ∀ {l : List Int} {y : Int}, rightW w l y = true → ∀ {i j : Nat}, i < j → j < l.length → l.getD i 0 < l.getD j 0
  | [], y, _, i, j, _, hj => absurd hj (Nat.not_lt_zero _)
  | x :: l, y, h, 0, j + 1, _, hj => by
    have h1 := rw_cons h
    have h2 := rw_get h1.2.2 (i := j) (by simpa using hj)
    rw [List.getD_cons_succ, List.getD_cons_zero]
    omega
  | x :: l, y, h, i + 1, j + 1, hij, hj => by
    rw [List.getD_cons_succ, List.getD_cons_succ]
    exact rw_mono (rw_cons h).2.2 (by omega) (by simpa using hj)
/-- the next place at which a row changes to a colour, and the one behind it -/
def nxt (w fr : Int) (bl : Bool) : List Int → Nat → Int × Int
  | [], _ => (w, w)
  | x :: r, i => if fr < x ∧ decide (i % 2 = 0) = bl then (x, r.headD w) else nxt w fr bl r (i + 1)
def gw (l : List Int) (w : Int) (i : Nat) : Int := if i < l.length then l.getD i 0 else w
theorem gw_cons (x : Int) (l : List Int) (w : Int) (i : Nat) : gw (x :: l) w (i + 1) = gw l w i := by
  unfold gw
  rw [List.length_cons, List.getD_cons_succ]
  by_cases h : i < l.length
  · rw [if_pos h, if_pos (by omega)]
  · rw [if_neg h, if_neg (by omega)]
theorem gw_head (l : List Int) (w : Int) : l.headD w = gw l w 0 := by
  cases l <;> rfl
theorem nxt_at {w fr : Int} {bl : Bool} : ∀ {l : List Int} {i j : Nat}, j ≤ l.length → (∀ k, k < j → l.getD k 0 ≤ fr) → (j < l.length → fr < l.getD j 0) → decide ((i + j) % 2 = 0) = bl → nxt w fr bl l i = (gw l w j, gw l w (j + 1))
  | [], i, j, hj, _, _, _ => by
    obtain rfl : j = 0 := by simpa using hj
    rfl
  | x :: l, i, 0, _, _, h2, h3 => by
    rw [nxt, if_pos ⟨by simpa using h2 (by simp), by simpa using h3⟩, gw_head, gw_cons]
    rfl
  | x :: l, i, j + 1, hj, h1, h2, h3 => by
    have h0 := h1 0 (by omega)
    rw [List.getD_cons_zero] at h0
    rw [nxt, if_neg (fun c => by omega), gw_cons, gw_cons]
    refine nxt_at (by simpa using hj) (fun k hk => ?_) (fun h => ?_) (by rw [← h3]; congr 2; omega)
    · have := h1 (k + 1) (by omega)
      rwa [List.getD_cons_succ] at this
    · have := h2 (by simpa using h)
      rwa [List.getD_cons_succ] at this
theorem nxt_b {w fr : Int} {bl : Bool} (hf : fr < w) : ∀ {l : List Int} {y : Int} {i : Nat}, rightW w l y = true → fr < (nxt w fr bl l i).1 ∧ (nxt w fr bl l i).1 ≤ (nxt w fr bl l i).2 ∧ (nxt w fr bl l i).2 ≤ w ∧ ((nxt w fr bl l i).1 < (nxt w fr bl l i).2 ∨ (nxt w fr bl l i).1 = w)
  | [], y, i, _ => by
    show fr < w ∧ w ≤ w ∧ w ≤ w ∧ (w < w ∨ w = w)
    omega
  | x :: l, y, i, h => by
    have h1 := rw_cons h
    rw [nxt]
    split
    · rename_i c
      cases l with
      | nil =>
        show fr < x ∧ x ≤ w ∧ w ≤ w ∧ (x < w ∨ x = w)
        omega
      | cons z r =>
        have h2 := rw_cons h1.2.2
        show fr < x ∧ x ≤ z ∧ z ≤ w ∧ (x < z ∨ x = w)
        omega
    · exact nxt_b hf h1.2.2
/-- the bits of the rest of a row: so many rounds at most, up to a place, so many changes behind it -/
def ag (mW : Int → List Int) (lB : Bool → Int → List Int) (row above : List Int) (w : Int) : Nat → Int → Nat → List Int
  | 0, _, _ => []
  | k + 1, at_, j => if w ≤ at_ then [] else
    let a1 := gw row w j
    let a2 := gw row w (j + 1)
    let b := nxt w at_ (decide (j % 2 = 0)) above 0
    if b.2 < a1 then mW 5 ++ ag mW lB row above w k b.2 j
    else if -3 ≤ a1 - b.1 ∧ a1 - b.1 ≤ 3 then mW (a1 - b.1) ++ ag mW lB row above w k a1 (j + 1)
    else mW 4 ++ (lB (decide (j % 2 = 1)) (a1 - max at_ 0) ++ (lB (decide (j % 2 = 0)) (a2 - a1) ++ ag mW lB row above w k a2 (j + 2)))
/-- up to a place, so many changes behind it -/
def Stt (row : List Int) (w at_ : Int) (j : Nat) : Prop := -1 ≤ at_ ∧ at_ ≤ w ∧ (∀ k, k < j → k < row.length → row.getD k 0 ≤ at_) ∧ (at_ < w → j ≤ row.length ∧ (j < row.length → at_ < row.getD j 0)) ∧ (at_ = w → row.length ≤ j)
section
variable {row : List Int} {w at_ : Int} {j : Nat}
theorem gw_le (h : rightW w row (-1) = true) (i : Nat) : gw row w i ≤ w := by
  unfold gw
  split
  · rename_i c; have := rw_get h c; omega
  · exact Int.le_refl _
theorem gw_ge (h : rightW w row (-1) = true) (hw : 0 ≤ w) (i : Nat) : 0 ≤ gw row w i := by
  unfold gw
  split
  · rename_i c; have := rw_get h c; omega
  · exact hw
theorem gw_lt (h : rightW w row (-1) = true) (i : Nat) : gw row w i < gw row w (i + 1) ∨ gw row w i = w ∧ gw row w (i + 1) = w := by
  unfold gw
  by_cases c : i + 1 < row.length
  · rw [if_pos c, if_pos (by omega)]
    exact .inl (rw_mono h (by omega) c)
  · rw [if_neg c]
    by_cases c2 : i < row.length
    · rw [if_pos c2]
      exact .inl (rw_get h c2).2
    · rw [if_neg c2]
      exact .inr ⟨rfl, rfl⟩
theorem gw_eq (h : rightW w row (-1) = true) {i : Nat} (hi : gw row w i = w) : row.length ≤ i := by
  unfold gw at hi
  refine Decidable.byContradiction fun c => ?_
  rw [if_pos (by omega)] at hi
  have := rw_get h (i := i) (by omega)
  omega
theorem gw_ne {i : Nat} (hi : gw row w i < w) : i < row.length ∧ gw row w i = row.getD i 0 := by
  unfold gw at hi ⊢
  split
  · rename_i c; exact ⟨c, rfl⟩
  · rename_i c; rw [if_neg c] at hi; omega
theorem stt_0 (h : rightW w row (-1) = true) (hw : 1 ≤ w) : Stt row w (-1) 0 :=
  ⟨by omega, by omega, fun k hk => absurd hk (Nat.not_lt_zero _), fun _ => ⟨Nat.zero_le _, fun hl => (rw_get h hl).1⟩, fun e => by omega⟩
theorem stt_nxt (hs : Stt row w at_ j) (hlt : at_ < w) : nxt w at_ (decide (j % 2 = 0)) row 0 = (gw row w j, gw row w (j + 1)) := by
  obtain ⟨h1, h2, h3, h4, h5⟩ := hs
  obtain ⟨h6, h7⟩ := h4 hlt
  exact nxt_at h6 (fun k hk => h3 k hk (by omega)) h7 (by rw [Nat.zero_add])
theorem stt_gw (hs : Stt row w at_ j) (hlt : at_ < w) : at_ < gw row w j := by
  obtain ⟨h1, h2, h3, h4, h5⟩ := hs
  obtain ⟨h6, h7⟩ := h4 hlt
  unfold gw
  split
  · rename_i c; exact h7 c
  · exact hlt
theorem stt_pass (h : rightW w row (-1) = true) (hs : Stt row w at_ j) (hlt : at_ < w) {x : Int} (hx : at_ < x) (hx2 : x < gw row w j) : Stt row w x j := by
  have hle := gw_le h j
  obtain ⟨h1, h2, h3, h4, h5⟩ := hs
  obtain ⟨h6, h7⟩ := h4 hlt
  refine ⟨by omega, by omega, fun k hk hl => ?_, fun _ => ⟨h6, fun hl => ?_⟩, fun e => by omega⟩
  · have := h3 k hk hl
    omega
  · unfold gw at hx2
    rwa [if_pos hl] at hx2
theorem stt_one (h : rightW w row (-1) = true) (hs : Stt row w at_ j) (hlt : at_ < w) : Stt row w (gw row w j) (j + 1) := by
  have hle := gw_le h j
  have hgt := stt_gw hs hlt
  obtain ⟨h1, h2, h3, h4, h5⟩ := hs
  obtain ⟨h6, h7⟩ := h4 hlt
  refine ⟨by omega, hle, fun k hk hl => ?_, fun c => ?_, fun e => ?_⟩
  · by_cases e : k = j
    · subst e
      unfold gw
      rw [if_pos hl]
      exact Int.le_refl _
    · have := h3 k (by omega) hl
      omega
  · obtain ⟨c1, c2⟩ := gw_ne c
    refine ⟨c1, fun hl => ?_⟩
    rw [c2]
    exact rw_mono h (by omega) hl
  · have := gw_eq h e
    omega
theorem stt_two (h : rightW w row (-1) = true) (hs : Stt row w at_ j) (hlt : at_ < w) : Stt row w (gw row w (j + 1)) (j + 2) := by
  by_cases c : gw row w j < w
  · exact stt_one h (stt_one h hs hlt) c
  · have hle := gw_le h j
    have e : gw row w j = w := by omega
    have e2 : gw row w (j + 1) = w := by
      rcases gw_lt h j with h1 | h1
      · have := gw_le h (j + 1); omega
      · exact h1.2
    obtain ⟨h1, h2, h3, h4, h5⟩ := hs
    rw [e2]
    have hlen := gw_eq h e
    refine ⟨by omega, Int.le_refl _, fun k hk hl => ?_, fun c => by omega, fun _ => by omega⟩
    have := rw_get h hl
    omega
theorem stt_end (hs : Stt row w at_ j) (h : at_ = w) : row.take j = row := List.take_of_length_le (hs.2.2.2.2 h)
/-- a change more is put behind -/
theorem stt_take (hs : Stt row w at_ j) (hlt : at_ < w) (hg : gw row w j < w) : (row.take j).length = j ∧ (0 < j → (row.take j).getD (j - 1) 0 < gw row w j) ∧ row.take j ++ [gw row w j] = row.take (j + 1) := by
  obtain ⟨c1, c2⟩ := gw_ne hg
  have hgt := stt_gw hs hlt
  have hl : (row.take j).length = j := by rw [List.length_take]; omega
  refine ⟨hl, fun h0 => ?_, ?_⟩
  · have := hs.2.2.1 (j - 1) (by omega) (by omega)
    have e : (row.take j).getD (j - 1) 0 = row.getD (j - 1) 0 := by
      simp only [List.getD, List.getElem?_take, if_pos (show j - 1 < j by omega)]
    omega
  · rw [List.take_add_one, c2]
    simp only [List.getD, List.getElem?_eq_getElem c1, Option.getD_some, Option.toList_some]
variable {mW : Int → List Int} {lB : Bool → Int → List Int} {above : List Int}
theorem ag_done (k : Nat) (h : w ≤ at_) : ag mW lB row above w k at_ j = [] := by
  cases k with
  | zero => rfl
  | succ k => rw [ag, if_pos h]
theorem ag_bits (hm : ∀ d, Bits (mW d)) (hl : ∀ b n, Bits (lB b n)) : ∀ (k : Nat) (at_ : Int) (j : Nat), Bits (ag mW lB row above w k at_ j)
  | 0, _, _ => Bits.nil
  | k + 1, at_, j => by
    rw [ag]
    split
    · exact Bits.nil
    · dsimp only
      split
      · exact (hm _).app (ag_bits hm hl k _ _)
      · split
        · exact (hm _).app (ag_bits hm hl k _ _)
        · exact (hm _).app ((hl _ _).app ((hl _ _).app (ag_bits hm hl k _ _)))
theorem ag_len (hm : ∀ d, (mW d).length ≤ 8) (hl : ∀ b n, (lB b n).length ≤ 26) : ∀ (k : Nat) (at_ : Int) (j : Nat), (ag mW lB row above w k at_ j).length ≤ k * 60
  | 0, _, _ => Nat.le_refl _
  | k + 1, at_, j => by
    rw [ag]
    split
    · exact Nat.zero_le _
    · dsimp only
      split
      · have := ag_len hm hl k (nxt w at_ (decide (j % 2 = 0)) above 0).2 j
        have := hm 5
        rw [List.length_append]; omega
      · split
        · have := ag_len hm hl k (gw row w j) (j + 1)
          have := hm (gw row w j - (nxt w at_ (decide (j % 2 = 0)) above 0).1)
          rw [List.length_append]; omega
        · have := ag_len hm hl k (gw row w (j + 1)) (j + 2)
          have := hm 4
          have := hl (decide (j % 2 = 1)) (gw row w j - max at_ 0)
          have := hl (decide (j % 2 = 0)) (gw row w (j + 1) - gw row w j)
          rw [List.length_append, List.length_append, List.length_append]; omega
end
end Go.Proofs.YtihgplkfikpgbaaDoor
namespace Go.Proofs.YtihgplkfikpgbaaDoor
/-- a place: where 0 and 1 lead, what a word means that ends there -/
abbrev Nd := Int × Int × Int
def nd0 : Nd := (0, 0, -1)
def nxN (x : Nd) (c : Int) : Int := if c = 0 then x.1 else x.2.1
def stN (x : Nd) (c v : Int) : Nd := if c = 0 then (v, x.2.1, x.2.2) else (x.1, v, x.2.2)
def layS (mean : Int) : List Int → List Nd → Nat → Option (List Nd)
  | [], nd, at_ => if 0 ≤ (nd.getD at_ nd0).2.2 ∨ (nd.getD at_ nd0).1 ≠ 0 ∨ (nd.getD at_ nd0).2.1 ≠ 0 then none else some (nd.set at_ ((nd.getD at_ nd0).1, (nd.getD at_ nd0).2.1, mean))
  | c :: r, nd, at_ => if 0 ≤ (nd.getD at_ nd0).2.2 then none else if nxN (nd.getD at_ nd0) c = 0 then layS mean r ((nd ++ [nd0]).set at_ (stN (nd.getD at_ nd0) c nd.length)) nd.length
    else if 0 < nxN (nd.getD at_ nd0) c ∧ nxN (nd.getD at_ nd0) c < nd.length then layS mean r nd (nxN (nd.getD at_ nd0) c).toNat else none
def bookO : List (List Int) → Nat → List Nd → Option (List Nd)
  | [], _, nd => some nd
  | w :: r, i, nd => (layS i w nd 0).bind (bookO r (i + 1))
theorem layS_len {mean : Int} : ∀ {L : List Int} {nd out : List Nd} {at_ : Nat}, layS mean L nd at_ = some out → nd.length ≤ out.length ∧ out.length ≤ nd.length + L.length
  | [], nd, out, at_, h => by
    rw [layS] at h
    split at h
    · cases h
    · cases h; simp
  | c :: r, nd, out, at_, h => by
    rw [layS] at h
    split at h
    · cases h
    split at h
    · have := layS_len h
      rw [List.length_set, List.length_append, List.length_singleton] at this
      rw [List.length_cons]; omega
    · split at h
      · have := layS_len h
        rw [List.length_cons]; omega
      · cases h
/-- a word is read as what it means -/
def rdK (nd : List Nd) (i : Int) : List Int → Nat → Bool
  | [], _ => false
  | c :: r, at_ => decide (at_ < nd.length ∧ 0 < nxN (nd.getD at_ nd0) c ∧ nxN (nd.getD at_ nd0) c < nd.length) && (if r = [] then decide ((nd.getD (nxN (nd.getD at_ nd0) c).toNat nd0).2.2 = i) else decide ((nd.getD (nxN (nd.getD at_ nd0) c).toNat nd0).2.2 < 0) && rdK nd i r (nxN (nd.getD at_ nd0) c).toNat)
/-- all words are read as what they mean -/
def allRd (nd : List Nd) : List (List Int) → Nat → Bool
  | [], _ => true
  | w :: r, i => rdK nd i w 0 && allRd nd r (i + 1)
theorem allRd_get {nd : List Nd} : ∀ {l : List (List Int)} {i j : Nat}, allRd nd l i = true → j < l.length → rdK nd (i + j : Nat) (l.getD j []) 0 = true
  | [], i, j, _, h => absurd h (Nat.not_lt_zero _)
  | w :: r, i, 0, h, _ => by
    rw [allRd, Bool.and_eq_true] at h
    exact h.1
  | w :: r, i, j + 1, h, hj => by
    rw [allRd, Bool.and_eq_true] at h
    have := allRd_get h.2 (j := j) (by simpa using hj)
    rw [List.getD_cons_succ]
    rwa [show i + (j + 1) = i + 1 + j by omega]
end Go.Proofs.YtihgplkfikpgbaaDoor
