/- The bytes of any values, of any type; what is written is read; values in either order: the laws' walks. No further condition. -/
import Derived.Test.YtkdkhngdilhneaaWFRW
set_option linter.unusedSimpArgs false
set_option linter.unusedVariables false
set_option maxRecDepth 8000
set_option maxHeartbeats 8000000
namespace Go.Proofs.Ytkdkhngdilhneaa
open Go.Eng Go.RowKit
theorem cat_block {f : Nat → List Int} {z : Nat} (h : ∀ j, (f j).length = z) : ∀ {n i : Nat}, i < n → ((cat f n).drop (i * z)).take z = f i
  | n + 1, i, hi => by
    have hl := cat_len h n
    rw [cat]
    by_cases c : i < n
    · have hm : i * z + z ≤ n * z := by
        have := Nat.mul_le_mul_right z (show i + 1 ≤ n by omega)
        rwa [Nat.succ_mul] at this
      rw [List.drop_append_of_le_length (by omega), List.take_append_of_le_length (by rw [List.length_drop]; omega)]
      exact cat_block h c
    · obtain rfl : i = n := by omega
      rw [List.drop_append, List.drop_of_length_le (by omega), hl, Nat.sub_self, List.nil_append, List.drop_zero, List.take_of_length_le (by rw [h]; exact Nat.le_refl _)]
theorem cat_bytes {f : Nat → List Int} (h : ∀ j, Bytes (f j)) : ∀ n, Bytes (cat f n)
  | 0 => fun z hz => by cases hz
  | n + 1 => fun z hz => by
    rw [cat] at hz
    rcases List.mem_append.1 hz with h1 | h1
    · exact cat_bytes h n z h1
    · exact h n z h1
theorem bl1_bytes (z : Nat) (l : List Int) (big : Bool) (j : Nat) : Bytes (bl1 z l big j) := putL_bytes _ _ _
theorem blf_bytes (l : List Int) (big : Bool) (j : Nat) : Bytes (blf l big j) := fun x hx => by
  rw [blf] at hx
  rcases List.mem_append.1 hx with h1 | h1
  · exact putL_bytes _ _ _ x h1
  · exact putL_bytes _ _ _ x h1
theorem tab_back {l : List Int} {g : Nat → Int} (h : ∀ i, i < l.length → g i = l.getD i 0) : tab g l.length = l :=
  (list_tab rfl fun j hj => (h j hj).symm).symm
theorem back_1 {z : Nat} {l : List Int} (big : Bool) (hU : U64 l) (hf : fitsP z l) : tab (el1 z (cat (bl1 z l big) l.length) big) l.length = l :=
  tab_back fun i hi => by
    rw [el1, cat_block (bl1_len z l big) hi, bl1, gv_put_all big (hf i hi)]
    exact (vN_eq hU hi).1.symm
theorem back_f {l : List Int} (big : Bool) (hU : U64 l) : tab (elf (cat (blf l big) l.length) big) l.length = l :=
  tab_back fun i hi => by
    have hb := cat_block (blf_len l big) hi
    obtain ⟨X, hX⟩ : ∃ X, X = (cat (blf l big) l.length).drop (i * 8) := ⟨_, rfl⟩
    have h2 : (cat (blf l big) l.length).drop (i * 8 + 4) = X.drop 4 := by rw [hX, List.drop_drop]
    have e1 : X.take 4 = putL (vN l i / 4294967296) 4 big := by
      have := congrArg (List.take 4) hb
      rw [← hX, List.take_take, show min 4 8 = 4 from rfl, blf, List.take_append_of_le_length (by rw [putL_len]; exact Nat.le_refl _), List.take_of_length_le (l := putL _ _ _) (by rw [putL_len]; exact Nat.le_refl _)] at this
      exact this
    have e2 : (X.drop 4).take 4 = putL (vN l i % 4294967296) 4 big := by
      have := congrArg (List.drop 4) hb
      rw [← hX, List.drop_take, show 8 - 4 = 4 from rfl, blf, List.drop_append, List.drop_of_length_le (l := putL _ _ _) (by rw [putL_len]; exact Nat.le_refl _), putL_len, Nat.sub_self, List.nil_append, List.drop_zero] at this
      exact this
    have hv := vN_eq hU hi
    rw [elf, ← hX, h2, e1, e2, gv_put_all big (by omega), gv_put_all big (by omega), hv.1]
    omega
def eW (k : Int) (l : List Int) (e : Int) : Prop := (¬ knownP k → e = 9) ∧ (knownP k → (frP k → e = 0) ∧ (¬ frP k → (fitsP (szI k).toNat l → e = 0) ∧ (¬ fitsP (szI k).toNat l → e = 7)))
theorem eW_one {k : Int} {l : List Int} {e e' : Int} (h : eW k l e) (h' : eW k l e') : e = e' := by
  by_cases hk : knownP k
  · by_cases hf : frP k
    · rw [(h.2 hk).1 hf, (h'.2 hk).1 hf]
    · by_cases ht : fitsP (szI k).toNat l
      · rw [((h.2 hk).2 hf).1 ht, ((h'.2 hk).2 hf).1 ht]
      · rw [((h.2 hk).2 hf).2 ht, ((h'.2 hk).2 hf).2 ht]
  · rw [h.1 hk, h'.1 hk]
structure Wr (k : Int) (l : List Int) (big : Bool) (b : List Int) (e : Int) (rl : List Int) (e2 : Int) : Prop where
  len : b.length ≤ 2000
  err : eW k l e
  wr : Giv Try.prog 32 [.lst 1 (li .u64 l), .c (.int .i64 k), .c (.bool big)] (retV [.lst 1 (li .u8 b), .c (.int .i64 e)])
  rwr : Giv Try.prog 35 [.lst 1 (li .u64 l), .c (.int .i64 k), .c (.bool big)] (retV [.c (.string (strOfNums b)), .c (.int .i64 e)])
  rd : Giv Try.prog 54 [.lst 1 (li .u8 b), .c (.int .i64 k), .c (.int .i64 l.length), .c (.bool big)] (retV [.lst 1 (li .u64 rl), .c (.int .i64 e2)])
  ok : e = 0 → rl = l ∧ e2 = 0 ∧ (b.length : Int) = szI k * l.length
  no : ¬ e = 0 → b = []
theorem mul8 {n z : Nat} (h : n ≤ 200) (hz : z ≤ 8) : n * z ≤ 1600 := Nat.le_trans (Nat.mul_le_mul h hz) (by decide)
theorem read_gen (kind : Int) (z : Nat) (hz : sizedP z) (hs : Giv Try.prog 37 [.c (.int .i64 kind)] (retV [.c (.int .i64 z), .c (.int .i64 0)])) (hp : Giv Try.prog 51 [.c (.int .i64 kind)] (retV [.c (.int .i64 1), .c (.int .i64 z)])) (b : List Int) (n : Nat) (big : Bool) (hn : n ≤ 65536) (hl : b.length ≤ 1000000) (hB : Bytes b) (h : n * z ≤ b.length) :
    Giv Try.prog 54 [.lst 1 (li .u8 b), .c (.int .i64 kind), .c (.int .i64 n), .c (.bool big)] (retV [.lst 1 (li .u64 (tab (el1 z b big) n)), .c (.int .i64 0)]) := by
  have hz' : z = 1 ∨ z = 2 ∨ z = 4 ∨ z = 8 := by unfold sizedP at hz; omega
  rcases hz' with rfl | rfl | rfl | rfl
  · exact read_1 kind hs hp b n big hn hl hB h
  · exact read_2 kind hs hp b n big hn hl hB h
  · exact read_4 kind hs hp b n big hn hl hB h
  · exact read_8 kind hs hp b n big hn hl hB h
theorem write_any (k : Int) (l : List Int) (big : Bool) (hl : l.length ≤ 200) (hU : U64 l) : ∃ b e rl e2, Wr k l big b e rl e2 := by
  obtain ⟨r0, e0, -, hr0, -⟩ := both_any k l.length [] big (by decide) (fun z hz => by cases hz)
  by_cases h : knownP k
  · have hst := size_t h
    have hrs := rsize_giv k
    have hfr := frac_giv k
    by_cases hf : frP k
    · have hz : szI k = 8 := by rcases hf with rfl | rfl <;> decide
      have hcl := cat_len (blf_len l big) l.length
      have hm := mul8 hl (Nat.le_refl 8)
      rw [hz] at hst hrs
      rw [decide_eq_true hf] at hfr
      have hrd := read_f k hst (parts_2 hf) (cat (blf l big) l.length) l.length big (by omega) (by omega) (cat_bytes (blf_bytes l big) _) (by omega)
      rw [back_f big hU] at hrd
      exact ⟨cat (blf l big) l.length, 0, l, 0, by omega, ⟨fun g => absurd h g, fun _ => ⟨fun _ => rfl, fun g => absurd hf g⟩⟩, write_f k hst (parts_2 hf) l big (by omega) hU, rwrite_f k hrs hfr l big (by omega) hU, hrd, fun _ => ⟨rfl, rfl, by rw [hcl, hz]; omega⟩, fun g => absurd rfl g⟩
    · obtain ⟨z, hz⟩ : ∃ z : Nat, z = (szI k).toNat := ⟨_, rfl⟩
      have hpos := sz_pos h
      have hzi : szI k = (z : Int) := by omega
      have hzs : sizedP z := by unfold sizedP; omega
      have hz8 : z ≤ 8 := by omega
      have hp := parts_1 h hf
      have hcl := cat_len (bl1_len z l big) l.length
      have hm := mul8 hl hz8
      rw [hzi] at hst hrs hp
      rw [decide_eq_false hf] at hfr
      by_cases ht : fitsP z l
      · have hrd := read_gen k z hzs hst hp (cat (bl1 z l big) l.length) l.length big (by omega) (by omega) (cat_bytes (bl1_bytes z l big) _) (by omega)
        rw [back_1 big hU ht] at hrd
        exact ⟨cat (bl1 z l big) l.length, 0, l, 0, by omega, ⟨fun g => absurd h g, fun _ => ⟨fun g => absurd g hf, fun _ => ⟨fun _ => rfl, fun g => absurd (hz ▸ ht) g⟩⟩⟩, write_1 k z hzs hst hp l big (by omega) hU _ (fun _ => rfl) (fun g => absurd ht g), rwrite_1 k z hzs hrs hfr l big (by omega) hU _ (fun _ => rfl) (fun g => absurd ht g), hrd, fun _ => ⟨rfl, rfl, by rw [hcl, hzi, Int.natCast_mul, Int.mul_comm]⟩, fun g => absurd rfl g⟩
      · exact ⟨[], 7, r0, e0, by decide, ⟨fun g => absurd h g, fun _ => ⟨fun g => absurd g hf, fun _ => ⟨fun g => absurd (hz.symm ▸ g) ht, fun _ => rfl⟩⟩⟩, write_1 k z hzs hst hp l big (by omega) hU _ (fun g => absurd g ht) (fun _ => rfl), rwrite_1 k z hzs hrs hfr l big (by omega) hU _ (fun g => absurd g ht) (fun _ => rfl), hr0, fun g => absurd g (by decide), fun _ => rfl⟩
  · exact ⟨[], 9, r0, e0, by decide, ⟨fun _ => rfl, fun g => absurd g h⟩, write_e9 h l big, rwrite_e9 h l big, hr0, fun g => absurd g (by decide), fun _ => rfl⟩
end Go.Proofs.Ytkdkhngdilhneaa
