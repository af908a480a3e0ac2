/- Where none hangs below another one, the directories are those of the chain. No condition but what each says. -/
import Derived.Test.YtpjnpmdmcllilaaLLive
set_option linter.unusedSimpArgs false
set_option linter.unusedVariables false
set_option maxRecDepth 8000
set_option maxHeartbeats 4000000
namespace Go.Proofs.Ytpjnpmdmcllilaa
open Go.Eng Go.RowKit
def snO (out : List Dr) : List Nat := out.map fun d => d.1.toNat
def itO (out : List Dr) : List It := out.map fun d => (0, -1, d)
theorem itO_len (out : List Dr) : (itO out).length = out.length := List.length_map ..
theorem bad_none : ∀ {l : List Fld}, (∀ f ∈ l, f.1 ≠ 330) → bad l = false ∧ valsB l = []
  | [], _ => ⟨rfl, rfl⟩
  | f :: l, h => by
    obtain ⟨h1, h2⟩ := bad_none (l := l) fun g hg => h g (by simp [hg])
    have h3 := h f (by simp)
    rw [bad, valsB, h1, h2, if_neg h3, decide_eq_false (fun c => h3 c.1)]
    exact ⟨rfl, rfl⟩
def No330 (d : Dr) : Prop := ∀ f ∈ d.2.2, f.1 ≠ 330
theorem chn_W {b : List Int} {big large : Bool} {most : Int} (hB : Bytes b) : ∀ (k a : Nat) (out : List Dr), Ok b out → b.length + 2 ≤ k + out.length → (chn b big large most k a out).2 = 0 →
    ∃ r, (chn b big large most k a out).1 = out ++ r ∧ ((∀ d ∈ r, No330 d) → W b big large most 0 [(a, 0, -1)] (snO out, itO out) = ((snO (out ++ r), itO (out ++ r)), 0))
  | 0, a, out, h1, h2, _ => by have := h1.len; omega
  | k + 1, a, out, h1, h2, h3 => by
    rw [chn] at h3 ⊢
    by_cases ha : a = 0
    · rw [if_pos ha]
      refine ⟨[], (List.append_nil _).symm, fun _ => ?_⟩
      rw [ha, List.append_nil]
      exact W_one _ _ _
    rw [if_neg ha] at h3 ⊢
    by_cases hx : 0 ≤ ixD a out 0
    · rw [if_pos hx] at h3; exact absurd h3 (by decide)
    rw [if_neg hx] at h3 ⊢
    by_cases hm : most ≤ (out.length : Int)
    · rw [if_pos hm] at h3; exact absurd h3 (by decide)
    rw [if_neg hm] at h3 ⊢
    by_cases he : (dirS b big large a).2 ≠ 0
    · rw [if_pos he] at h3; exact absurd h3 he
    rw [if_neg he] at h3 ⊢
    obtain ⟨d1, d2, d3, d4⟩ := dirS_ok hB (Decidable.of_not_not he)
    have hok := h1.snoc d1 d2 hx
    have hl := hok.len
    rw [List.length_append, List.length_cons, List.length_nil] at hl
    obtain ⟨r, r1, r2⟩ := chn_W hB k _ _ hok (by rw [List.length_append, List.length_cons, List.length_nil]; omega) h3
    refine ⟨(dirS b big large a).1 :: r, by rw [r1]; simp, fun hno => ?_⟩
    have r3 := r2 fun d hd => hno d (by simp [hd])
    obtain ⟨n1, n2⟩ := bad_none (hno (dirS b big large a).1 (by simp))
    rw [W_eq, if_neg ha, if_neg, if_neg (by rw [itO_len]; exact fun c => c.elim hm (fun q => absurd q (Int.lt_irrefl _))), if_neg he, n1, if_neg (by decide), if_neg (by rw [itO_len]; omega), n2]
    · have e1 : snO out ++ [a] = snO (out ++ [(dirS b big large a).1]) := by simp only [snO, List.map_append, List.map_cons, List.map_nil, d1, Int.toNat_natCast]
      have e2 : itO out ++ [((0 : Int), (-1 : Int), (dirS b big large a).1)] = itO (out ++ [(dirS b big large a).1]) := by simp only [itO, List.map_append, List.map_cons, List.map_nil]
      dsimp only
      rw [e1, e2]
      show W b big large most 0 [((dirS b big large a).1.2.1.toNat, 0, -1)] _ = _
      rw [r3, List.append_assoc]
      rfl
    · intro hin
      obtain ⟨d, q1, q2⟩ := List.mem_map.1 hin
      have := (h1.lt d q1).1
      exact hx (ixD_ge out 0 ⟨d, q1, by omega⟩)
theorem W_most {b : List Int} {big large : Bool} {most deep : Int} : ∀ (ts : List Tk) (s : Stt), (s.2.length : Int) ≤ most ∨ s.2.length = 0 → (W b big large most deep ts s).2 = 0 → ((W b big large most deep ts s).1.2.length : Int) ≤ most ∨ (W b big large most deep ts s).1.2.length = 0 := by
  intro ts s
  induction ts, s using W.induct b big large most deep with
  | case1 s => intro h1 h2; rw [W_nil]; exact h1
  | case2 t ts s h ih =>
    intro h1 h2
    rw [W_eq, if_pos h] at h2 ⊢
    exact ih h1 h2
  | case3 t ts s p1 p2 => intro h1 h3; rw [W_eq, if_neg p1, if_pos p2] at h3; exact absurd (show (13 : Int) = 0 from h3) (by decide)
  | case4 t ts s p1 p2 p3 => intro h1 h3; rw [W_eq, if_neg p1, if_neg p2, if_pos p3] at h3; exact absurd (show (8 : Int) = 0 from h3) (by decide)
  | case5 t ts s p1 p2 p3 p4 => intro h1 h3; rw [W_eq, if_neg p1, if_neg p2, if_neg p3, if_pos p4] at h3; exact absurd h3 p4
  | case6 t ts s p1 p2 p3 p4 p5 => intro h1 h3; rw [W_eq, if_neg p1, if_neg p2, if_neg p3, if_neg p4, if_pos p5] at h3; exact absurd (show (3 : Int) = 0 from h3) (by decide)
  | case7 t ts s p1 p2 p3 p4 p5 p6 => intro h1 h3; rw [W_eq, if_neg p1, if_neg p2, if_neg p3, if_neg p4, if_neg p5, if_pos p6] at h3; exact absurd (show (99 : Int) = 0 from h3) (by decide)
  | case8 t ts s p1 p2 p3 p4 p5 p6 ih =>
    intro h1 h3
    rw [W_eq, if_neg p1, if_neg p2, if_neg p3, if_neg p4, if_neg p5, if_neg p6] at h3 ⊢
    have h4 : ¬ most ≤ (s.2.length : Int) := fun c => p3 (.inl c)
    exact ih (.inl (by rw [List.length_append, List.length_cons, List.length_nil]; omega)) h3
theorem walk_most (b : List Int) (big large : Bool) (first : Nat) (most deep : Int) : ((walkS b big large first most deep).1.length : Int) ≤ most ∨ (walkS b big large first most deep).1.length = 0 := by
  unfold walkS
  by_cases h : (W b big large most deep [(first, 0, -1)] ([], [])).2 = 0
  · rw [if_pos h]
    exact W_most _ _ (.inr rfl) h
  · rw [if_neg h]
    exact .inr rfl
end Go.Proofs.Ytpjnpmdmcllilaa
