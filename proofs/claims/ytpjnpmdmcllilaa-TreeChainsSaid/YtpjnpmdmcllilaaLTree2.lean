/- What holds of the directories that were seen. No condition but what each says. -/
import Derived.Test.YtpjnpmdmcllilaaLTree
set_option linter.unusedSimpArgs false
set_option linter.unusedVariables false
set_option maxRecDepth 8000
set_option maxHeartbeats 4000000
namespace Go.Proofs.Ytpjnpmdmcllilaa
open Go.Eng Go.RowKit
def U64 (l : List Int) : Prop := ∀ x ∈ l, 0 ≤ x ∧ x < 18446744073709551616
theorem vals_u64 {t : List Int} (hB : Bytes t) (k : Int) (big : Bool) (n : Nat) (hk : knownP k) : U64 (valsF k t big n) := fun x hx => by
  unfold valsF at hx
  split at hx
  · obtain ⟨i, _, rfl⟩ := tab_mem hx
    have h1 := gv_in4 hB (i * 8) big
    have h2 := gv_in4 hB (i * 8 + 4) big
    unfold elf
    omega
  · obtain ⟨i, _, rfl⟩ := tab_mem hx
    exact gv_in hB _ big (by have := sz_pos hk; omega)
theorem ent_u64 {b w : List Int} {big large : Bool} {f : Fld} (hB : Bytes b) (hw : Bytes w) (h : entS b w big large = (some f, 0)) : U64 f.2.2 ∧ f.1 = gk w 0 2 big := by
  unfold entS at h
  split at h
  · cases h
  · rename_i hk
    have hk : knownP (gk w 2 2 big) := Decidable.of_not_not fun c => hk (.inl c)
    split at h
    · cases h
    · split at h
      · split at h
        · cases h
        · injection h with h _
          injection h with h
          subst h
          exact ⟨vals_u64 ((hB.drop _).take _) _ _ _ hk, rfl⟩
      · injection h with h _
        injection h with h
        subst h
        exact ⟨vals_u64 (hw.drop _) _ _ _ hk, rfl⟩
/-- tags that grow, up to w -/
def UpTo (w : Int) : List Fld → Prop
  | [] => True
  | f :: l => f.1 ≤ w ∧ (∀ g ∈ l, f.1 < g.1) ∧ UpTo w l
theorem UpTo.mono {w w' : Int} (h : w ≤ w') : ∀ {l : List Fld}, UpTo w l → UpTo w' l
  | [], _ => trivial
  | f :: l, ⟨a, b, c⟩ => ⟨by omega, b, UpTo.mono h c⟩
theorem UpTo.all {w : Int} : ∀ {l : List Fld}, UpTo w l → ∀ f ∈ l, f.1 ≤ w
  | [], _, _, h => by cases h
  | f :: l, ⟨a, b, c⟩, g, h => by
    rcases List.mem_cons.1 h with rfl | h
    · exact a
    · exact c.all g h
theorem UpTo.snoc {w : Int} {f : Fld} (hf : w < f.1) : ∀ {l : List Fld}, UpTo w l → UpTo f.1 (l ++ [f])
  | [], _ => ⟨Int.le_refl _, (by intro g hg; cases hg), trivial⟩
  | g :: l, ⟨a, b, c⟩ => ⟨by omega, fun x hx => by
      rcases List.mem_append.1 hx with h | h
      · exact b x h
      · simp only [List.mem_cons, List.not_mem_nil, or_false] at h
        subst h; omega, UpTo.snoc hf c⟩
theorem rd_ok {b : List Int} {big large : Bool} (hB : Bytes b) : ∀ (k p : Nat) (was : Int) (acc : List Fld), (∀ f ∈ acc, U64 f.2.2) → UpTo was acc → (rdS b big large k p was acc).2 = 0 → (∀ f ∈ (rdS b big large k p was acc).1, U64 f.2.2) ∧ ∃ w, UpTo w (rdS b big large k p was acc).1
  | 0, p, was, acc, h, hu, _ => ⟨h, was, hu⟩
  | k + 1, p, was, acc, h, hu, h0 => by
    rw [rdS] at h0 ⊢
    split
    · rename_i c; rw [if_pos c] at h0; exact absurd h0 (by decide)
    · rename_i c
      rw [if_neg c] at h0
      split
      · rename_i d; rw [if_pos d] at h0; exact absurd h0 (by decide)
      · rename_i d
        rw [if_neg d] at h0
        split
        · rename_i e; rw [if_pos e] at h0; exact absurd h0 e
        · rename_i he
          rw [if_neg he] at h0
          obtain ⟨E, hE⟩ : ∃ E, E = entS b ((b.drop p).take (en large)) big large := ⟨_, rfl⟩
          rw [← hE] at he h0 ⊢
          obtain ⟨o, e⟩ := E
          have he : e = 0 := Decidable.of_not_not he
          subst he
          cases o with
          | none => exact rd_ok hB k _ _ _ (by simpa using h) (by simpa using hu.mono (by omega)) h0
          | some f =>
            obtain ⟨q1, q2⟩ := ent_u64 hB ((hB.drop p).take _) hE.symm
            refine rd_ok hB k _ _ _ (fun x hx => ?_) ?_ h0
            · rcases List.mem_append.1 hx with hx | hx
              · exact h x hx
              · obtain rfl : x = f := by simpa using hx
                exact q1
            · rw [← q2]
              exact hu.snoc (by rw [q2]; omega)
theorem dir_ok {b : List Int} {big large : Bool} {a : Nat} (hB : Bytes b) (h : (dirS b big large a).2 = 0) : (∀ f ∈ (dirS b big large a).1.2.2, U64 f.2.2) ∧ ∃ w, UpTo w (dirS b big large a).1.2.2 := by
  unfold dirS at h ⊢
  split
  · rename_i c; rw [if_pos c] at h; exact absurd h (by decide)
  · rename_i c
    rw [if_neg c] at h
    split
    · rename_i d; rw [if_pos d] at h; exact absurd h (by decide)
    · rename_i d
      rw [if_neg d] at h
      split
      · rename_i e; rw [if_pos e] at h; exact absurd h e
      · rename_i e
        rw [if_neg e] at h
        split
        · rename_i g; rw [if_pos g] at h; exact absurd h (by decide)
        · exact rd_ok hB _ _ _ _ (fun _ h => by cases h) trivial (Decidable.of_not_not e)
theorem vals_in {l : List Fld} (h : ∀ f ∈ l, U64 f.2.2) : U64 (valsB l) := by
  induction l with
  | nil => intro x hx; cases hx
  | cons f l ih =>
    intro x hx
    rw [valsB] at hx
    rcases List.mem_append.1 hx with q | q
    · split at q
      · exact h f (by simp) x q
      · cases q
    · exact ih (fun g hg => h g (by simp [hg])) x q
def itx (l : List It) (k : Nat) : It := l.getD k (0, 0, 0, 0, [])
theorem itx_app {l r : List It} {k : Nat} (h : k < l.length) : itx (l ++ r) k = itx l k := by
  simp only [itx, List.getD, List.getElem?_append_left h]
theorem itx_last (l : List It) (x : It) : itx (l ++ [x]) l.length = x := by simp [itx, List.getD]
theorem itx_mem {l : List It} {k : Nat} (h : k < l.length) : itx l k ∈ l := by
  simp only [itx, List.getD, List.getElem?_eq_getElem h, Option.getD_some]
  exact List.getElem_mem h
/-- does it hang where it may? -/
def Hng (out : List It) (d u : Int) : Prop := (d = 0 ∧ u = -1) ∨ ∃ v : Nat, u = v ∧ v < out.length ∧ d = (itx out v).1 + 1
theorem Hng.app {out r : List It} {d u : Int} (h : Hng out d u) : Hng (out ++ r) d u := by
  rcases h with h | ⟨v, h1, h2, h3⟩
  · exact .inl h
  · exact .inr ⟨v, h1, by rw [List.length_append]; omega, by rw [itx_app h2]; exact h3⟩
structure Inv (b : List Int) (s : Stt) : Prop where
  at_ : s.2.map (fun it => it.2.2.1) = s.1.map fun a => ((a : Nat) : Int)
  nd : s.1.Nodup
  lt : ∀ a ∈ s.1, a < b.length
  hg : ∀ k, k < s.2.length → Hng (s.2.take k) (itx s.2 k).1 (itx s.2 k).2.1
  sm : ∀ it ∈ s.2, Sml it.2.2
theorem Inv.nil (b : List Int) : Inv b ([], []) := ⟨rfl, List.nodup_nil, (by intro a h; cases h), fun _ h => absurd h (Nat.not_lt_zero _), (by intro a h; cases h)⟩
theorem Inv.len {b : List Int} {s : Stt} (h : Inv b s) : s.1.length = s.2.length ∧ s.2.length ≤ b.length := by
  have h1 := congrArg List.length h.at_
  rw [List.length_map, List.length_map] at h1
  have := pig b.length s.1 h.nd h.lt
  omega
theorem Inv.dep {b : List Int} {s : Stt} (h : Inv b s) : ∀ k, k < s.2.length → 0 ≤ (itx s.2 k).1 ∧ (itx s.2 k).1 ≤ k := by
  intro k
  induction k using Nat.strongRecOn with
  | ind k ih =>
    intro hk
    rcases h.hg k hk with ⟨h1, _⟩ | ⟨v, h1, h2, h3⟩
    · omega
    · rw [List.length_take] at h2
      have h4 := ih v (by omega) (by omega)
      have : itx (s.2.take k) v = itx s.2 v := by
        simp only [itx, List.getD, List.getElem?_take_of_lt (show v < k by omega)]
      rw [this] at h3
      omega
theorem Inv.snoc {b : List Int} {s : Stt} (h : Inv b s) {a : Nat} {d u : Int} {dr : Dr} (ha : dr.1 = a) (hl : a < b.length) (hn : a ∉ s.1) (hd : Hng s.2 d u) (hs : Sml dr) : Inv b (s.1 ++ [a], s.2 ++ [(d, u, dr)]) := by
  refine ⟨?_, ?_, ?_, ?_, ?_⟩
  · simp only [List.map_append, List.map_cons, List.map_nil, h.at_, ha]
  · dsimp only
    rw [List.nodup_append]
    exact ⟨h.nd, by simp, fun x hx y hy e => hn (by simp only [List.mem_cons, List.not_mem_nil, or_false] at hy; rw [← hy, ← e]; exact hx)⟩
  · intro x hx
    rcases List.mem_append.1 hx with q | q
    · exact h.lt x q
    · simp only [List.mem_cons, List.not_mem_nil, or_false] at q
      subst q; exact hl
  · intro k hk
    dsimp only at hk ⊢
    rw [List.length_append, List.length_cons, List.length_nil] at hk
    by_cases e : k < s.2.length
    · rw [itx_app e, List.take_append_of_le_length (by omega)]
      exact h.hg k e
    · obtain rfl : k = s.2.length := by omega
      rw [itx_last, List.take_left' rfl]
      exact hd
  · intro x hx
    rcases List.mem_append.1 hx with q | q
    · exact h.sm x q
    · simp only [List.mem_cons, List.not_mem_nil, or_false] at q
      subst q; exact hs
theorem Inv.has {b : List Int} {s : Stt} (h : Inv b s) (a : Nat) : a ∈ s.1 ↔ ∃ it ∈ s.2, it.2.2.1 = a := by
  constructor
  · intro ha
    have : ((a : Nat) : Int) ∈ s.2.map (fun it => it.2.2.1) := by rw [h.at_]; exact List.mem_map.2 ⟨a, ha, rfl⟩
    obtain ⟨it, h1, h2⟩ := List.mem_map.1 this
    exact ⟨it, h1, h2⟩
  · rintro ⟨it, h1, h2⟩
    have : ((a : Nat) : Int) ∈ s.1.map fun a => ((a : Nat) : Int) := by rw [← h.at_]; exact List.mem_map.2 ⟨it, h1, h2⟩
    obtain ⟨x, h3, h4⟩ := List.mem_map.1 this
    obtain rfl : x = a := by omega
    exact h3
def Tok (s : Stt) (t : Tk) : Prop := t.1 < 18446744073709551616 ∧ Hng s.2 t.2.1 t.2.2
theorem tks_ok {s : Stt} {it : It} {vs : List Int} {d : Int} (hv : U64 vs) (hd : d = it.1 + 1) : ∀ t ∈ tks d s.2.length vs, Tok (s.1, s.2 ++ [it]) t := fun t ht => by
  obtain ⟨v, h1, rfl⟩ := List.mem_map.1 ht
  have := hv v h1
  exact ⟨by dsimp only; omega, .inr ⟨s.2.length, rfl, by rw [List.length_append]; exact Nat.lt_succ_self _, by rw [itx_last]; exact hd⟩⟩
theorem Tok.app {s : Stt} {t : Tk} (h : Tok s t) (sn : List Nat) (r : List It) : Tok (sn, s.2 ++ r) t := ⟨h.1, h.2.app⟩
theorem W_inv {b : List Int} {big large : Bool} {most deep : Int} (hB : Bytes b) : ∀ (ts : List Tk) (s : Stt), Inv b s → (∀ t ∈ ts, Tok s t) → (W b big large most deep ts s).2 = 0 → Inv b (W b big large most deep ts s).1 ∧ ∃ r, (W b big large most deep ts s).1.2 = s.2 ++ r := by
  intro ts s
  induction ts, s using W.induct b big large most deep with
  | case1 s => intro h1 h2 h3; rw [W_nil]; exact ⟨h1, [], (List.append_nil _).symm⟩
  | case2 t ts s h ih =>
    intro h1 h2 h3
    rw [W_eq, if_pos h] at h3 ⊢
    exact ih h1 (fun x hx => h2 x (by simp [hx])) h3
  | case3 t ts s p1 p2 => intro h1 h2 h3; rw [W_eq, if_neg p1, if_pos p2] at h3; exact absurd (show (13 : Int) = 0 from h3) (by decide)
  | case4 t ts s p1 p2 p3 => intro h1 h2 h3; rw [W_eq, if_neg p1, if_neg p2, if_pos p3] at h3; exact absurd (show (8 : Int) = 0 from h3) (by decide)
  | case5 t ts s p1 p2 p3 p4 => intro h1 h2 h3; rw [W_eq, if_neg p1, if_neg p2, if_neg p3, if_pos p4] at h3; exact absurd h3 p4
  | case6 t ts s p1 p2 p3 p4 p5 => intro h1 h2 h3; rw [W_eq, if_neg p1, if_neg p2, if_neg p3, if_neg p4, if_pos p5] at h3; exact absurd (show (3 : Int) = 0 from h3) (by decide)
  | case7 t ts s p1 p2 p3 p4 p5 p6 => intro h1 h2 h3; rw [W_eq, if_neg p1, if_neg p2, if_neg p3, if_neg p4, if_neg p5, if_pos p6] at h3; exact absurd (show (99 : Int) = 0 from h3) (by decide)
  | case8 t ts s p1 p2 p3 p4 p5 p6 ih =>
    intro h1 h2 h3
    rw [W_eq, if_neg p1, if_neg p2, if_neg p3, if_neg p4, if_neg p5, if_neg p6] at h3 ⊢
    obtain ⟨d1, d2, d3, d4⟩ := dirS_ok hB (Decidable.of_not_not p4)
    obtain ⟨u1, -⟩ := dir_ok hB (Decidable.of_not_not p4)
    have ht := h2 t (by simp)
    obtain ⟨q1, r, q2⟩ := ih (h1.snoc d1 d2 p2 ht.2 (dir_small _ _ _ _)) (fun x hx => by
      rcases List.mem_append.1 hx with q | q
      · exact tks_ok (vals_in u1) rfl x q
      · rcases List.mem_cons.1 q with rfl | q
        · exact ⟨by dsimp only; omega, ht.2.app⟩
        · exact (h2 x (by simp [q])).app _ _) h3
    exact ⟨q1, _, by rw [q2, List.append_assoc]⟩
end Go.Proofs.Ytpjnpmdmcllilaa
