/- IfdReads: the law's function gives true of all data. No condition but that whole numbers are of their kinds. -/
import Derived.Test.YtpjnpmdmcllilaaWChain
set_option linter.unusedSimpArgs false
set_option linter.unusedVariables false
set_option maxRecDepth 8000
set_option maxHeartbeats 4000000
namespace Go.Proofs.Ytpjnpmdmcllilaa
open Go.Eng Go.RowKit
theorem ent_small {b w : List Int} {big large : Bool} {f : Fld} (h : entS b w big large = (some f, 0)) : f.2.2.length ≤ 65536 := by
  unfold entS at h
  split at h
  · cases h
  · split at h
    · cases h
    · rename_i hc
      split at h
      · split at h
        · cases h
        · injection h with h _
          injection h with h
          subst h
          simp only [valsF_len]
          omega
      · injection h with h _
        injection h with h
        subst h
        simp only [valsF_len]
        omega
theorem rd_small {b : List Int} {big large : Bool} : ∀ (k p : Nat) (was : Int) (acc : List Fld), (∀ f ∈ acc, f.2.2.length ≤ 65536) → (rdS b big large k p was acc).1.length ≤ acc.length + k ∧ ∀ f ∈ (rdS b big large k p was acc).1, f.2.2.length ≤ 65536
  | 0, p, was, acc, h => ⟨by simp [rdS], by simpa [rdS] using h⟩
  | k + 1, p, was, acc, h => by
    rw [rdS]
    split
    · exact ⟨Nat.zero_le _, fun _ h => by cases h⟩
    · split
      · exact ⟨Nat.zero_le _, fun _ h => by cases h⟩
      · split
        · exact ⟨Nat.zero_le _, fun _ h => by cases h⟩
        · rename_i he
          obtain ⟨E, hE⟩ : ∃ E, E = entS b ((b.drop p).take (en large)) big large := ⟨_, rfl⟩
          rw [← hE] at he ⊢
          obtain ⟨o, e⟩ := E
          have he : e = 0 := Decidable.of_not_not he
          subst he
          cases o with
          | none =>
            have := rd_small (b := b) (big := big) (large := large) k (p + en large) (gk ((b.drop p).take (en large)) 0 2 big) (acc ++ []) (by simpa using h)
            simp only [Option.toList] at this ⊢
            refine ⟨?_, this.2⟩
            have := this.1
            simp only [List.length_append, List.length_nil] at this
            omega
          | some f =>
            have := rd_small (b := b) (big := big) (large := large) k (p + en large) (gk ((b.drop p).take (en large)) 0 2 big) (acc ++ [f]) (fun x hx => by
              rcases List.mem_append.1 hx with hx | hx
              · exact h x hx
              · obtain rfl : x = f := by simpa using hx
                exact ent_small hE.symm)
            simp only [Option.toList] at this ⊢
            refine ⟨?_, this.2⟩
            have := this.1
            simp only [List.length_append, List.length_cons, List.length_nil] at this
            omega
def Sml (d : Dr) : Prop := d.2.2.length ≤ 1000000 ∧ ∀ f ∈ d.2.2, f.2.2.length ≤ 1000000
theorem dir_small (b : List Int) (big large : Bool) (a : Nat) : Sml (dirS b big large a).1 := by
  have hz : Sml ((0, 0, []) : Dr) := ⟨Nat.zero_le _, fun _ h => by cases h⟩
  unfold dirS
  split
  · exact hz
  · split
    · exact hz
    · rename_i hg
      split
      · exact hz
      · split
        · exact hz
        · have := rd_small (b := b) (big := big) (large := large) (gk b a (ct large) big).toNat (a + ct large) (-1) [] (fun _ h => by cases h)
          refine ⟨?_, fun f hf => Nat.le_trans (this.2 f hf) (by decide)⟩
          have := this.1
          simp only [List.length_nil] at this ⊢
          omega
theorem chn_small (b : List Int) (big large : Bool) (most : Int) : ∀ (k a : Nat) (out : List Dr), (∀ d ∈ out, Sml d) → (chn b big large most k a out).1.length ≤ out.length + k ∧ ∀ d ∈ (chn b big large most k a out).1, Sml d
  | 0, a, out, h => ⟨Nat.zero_le _, fun _ h => by cases h⟩
  | k + 1, a, out, h => by
    rw [chn]
    split
    · exact ⟨Nat.le_add_right _ _, h⟩
    · split
      · exact ⟨Nat.zero_le _, fun _ h => by cases h⟩
      · split
        · exact ⟨Nat.zero_le _, fun _ h => by cases h⟩
        · split
          · exact ⟨Nat.zero_le _, fun _ h => by cases h⟩
          · have := chn_small b big large most k (dirS b big large a).1.2.1.toNat (out ++ [(dirS b big large a).1]) (fun x hx => by
              rcases List.mem_append.1 hx with hx | hx
              · exact h x hx
              · obtain rfl : x = (dirS b big large a).1 := by simpa using hx
                exact dir_small b big large a)
            rw [snoc_len] at this
            exact ⟨by omega, this.2⟩
end Go.Proofs.Ytpjnpmdmcllilaa
