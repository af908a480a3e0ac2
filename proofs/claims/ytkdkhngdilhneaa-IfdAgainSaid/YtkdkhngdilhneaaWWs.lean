/- What a directory is written as; may fields be a directory's. No condition but what each says. -/
import Derived.Test.YtkdkhngdilhneaaWChn
set_option linter.unusedSimpArgs false
set_option linter.unusedVariables false
set_option maxRecDepth 8000
set_option maxHeartbeats 4000000
namespace Go.Proofs.Ytkdkhngdilhneaa
open Go.Eng Go.RowKit
def fl (l : List Fld) (j : Nat) : Fld := l.getD j (0, 0, [])
theorem fl_drop {l : List Fld} {k : Nat} (h : k < l.length) : l.drop k = fl l k :: l.drop (k + 1) := by
  rw [List.drop_eq_getElem_cons h]
  simp only [fl, List.getD, List.getElem?_eq_getElem h, Option.getD_some]
theorem fl_get {l : List Fld} {j : Nat} (h : j < l.length) : (l.map fldD).getD j default = fldD (fl l j) := by
  simp only [List.getD, List.getElem?_map, List.getElem?_eq_getElem h, Option.map_some, Option.getD_some, fl]
theorem fl_mem {l : List Fld} {j : Nat} (h : j < l.length) : fl l j ∈ l := by
  simp only [fl, List.getD, List.getElem?_eq_getElem h, Option.getD_some]
  exact List.getElem_mem h
theorem fls_len (l : List Fld) : (l.map fldD).length = l.length := List.length_map ..
/-- a field that came in -/
structure FOk (f : Fld) : Prop where
  t : 0 ≤ f.1 ∧ f.1 < 65536
  k : -9223372036854775808 ≤ f.2.1 ∧ f.2.1 < 9223372036854775808
  v : U64 f.2.2
  n : f.2.2.length ≤ 100000
instance (z : Nat) (l : List Int) : Decidable (fitsP z l) := by unfold fitsP; infer_instance
/-- a field's values, as bytes; the error -/
def wkS (k : Int) (l : List Int) (big : Bool) : List Int × Int :=
  if ¬ knownP k then ([], 9)
  else if frP k then (cat (blf l big) l.length, 0)
  else if fitsP (szI k).toNat l then (cat (bl1 (szI k).toNat l big) l.length, 0)
  else ([], 7)
theorem wkS_giv (k : Int) (l : List Int) (big : Bool) (hl : l.length ≤ 65536) (hU : U64 l) :
    Giv Try.prog 32 [.lst 1 (li .u64 l), .c (.int .i64 k), .c (.bool big)] (retV [.lst 1 (li .u8 (wkS k l big).1), .c (.int .i64 (wkS k l big).2)]) ∧
    Giv Try.prog 35 [.lst 1 (li .u64 l), .c (.int .i64 k), .c (.bool big)] (retV [.c (.string (strOfNums (wkS k l big).1)), .c (.int .i64 (wkS k l big).2)]) := by
  unfold wkS
  by_cases h : knownP k
  · rw [if_neg (fun q => q h)]
    have hst := size_t h
    have hsr := rsize_giv k
    have hfr := frac_giv k
    by_cases hf : frP k
    · rw [if_pos hf]
      have hz : szI k = 8 := by rcases hf with rfl | rfl <;> decide
      rw [hz] at hst hsr
      rw [show decide (frP k) = true from decide_eq_true hf] at hfr
      exact ⟨write_f k hst (parts_2 hf) l big hl hU, rwrite_f k hsr hfr l big hl hU⟩
    · rw [if_neg hf]
      rw [show decide (frP k) = false from decide_eq_false hf] at hfr
      have hp := parts_1 h hf
      obtain ⟨z, hz, hzs⟩ : ∃ z : Nat, szI k = z ∧ sizedP z := by
        rcases sz_pos h with e | e | e | e
        · exact ⟨1, e, .inl rfl⟩
        · exact ⟨2, e, .inr (.inl rfl)⟩
        · exact ⟨4, e, .inr (.inr (.inl rfl))⟩
        · exact ⟨8, e, .inr (.inr (.inr rfl))⟩
      rw [hz] at hst hp hsr
      rw [hz, Int.toNat_natCast]
      by_cases hq : fitsP z l
      · rw [if_pos hq]
        exact ⟨write_1 k z hzs hst hp l big hl hU _ (fun _ => rfl) (fun g => absurd hq g), rwrite_1 k z hzs hsr hfr l big hl hU _ (fun _ => rfl) (fun g => absurd hq g)⟩
      · rw [if_neg hq]
        exact ⟨write_1 k z hzs hst hp l big hl hU _ (fun g => absurd g hq) (fun _ => rfl), rwrite_1 k z hzs hsr hfr l big hl hU _ (fun g => absurd g hq) (fun _ => rfl)⟩
  · rw [if_pos h]
    exact ⟨write_e9 h l big, rwrite_e9 h l big⟩
theorem wkS_len (k : Int) (l : List Int) (big : Bool) : (wkS k l big).1.length ≤ l.length * 8 := by
  unfold wkS
  split
  · exact Nat.zero_le _
  · rename_i h
    have h := Decidable.of_not_not h
    split
    · rw [cat_len (blf_len l big)]; exact Nat.le_refl _
    · split
      · rw [cat_len (bl1_len _ l big)]
        refine Nat.mul_le_mul_left _ ?_
        rcases sz_pos h with e | e | e | e <;> rw [e] <;> decide
      · exact Nat.zero_le _
theorem wkS_bytes (k : Int) (l : List Int) (big : Bool) : Bytes (wkS k l big).1 := by
  unfold wkS
  split
  · exact Bytes.nil
  · split
    · exact cat_bytes (blf_bytes l big) _
    · split
      · exact cat_bytes (bl1_bytes _ l big) _
      · exact Bytes.nil
/-- may the field be a directory's? -/
def fokP (large : Bool) (f : Fld) : Prop := knownP f.2.1 ∧ (16 ≤ f.2.1 → large = true) ∧ f.2.2.length ≤ 65536
instance (large : Bool) (f : Fld) : Decidable (fokP large f) := by unfold fokP; infer_instance
/-- may the first k fields be a directory's? -/
def rtP (l : List Fld) (large : Bool) (k : Nat) : Prop := ∀ i, i < k → fokP large (fl l i) ∧ (0 < i → (fl l (i - 1)).1 < (fl l i).1)
instance (l : List Fld) (large : Bool) (k : Nat) : Decidable (rtP l large k) := by unfold rtP; infer_instance
def rtS (l : List Fld) (large : Bool) : Bool := decide (l.length ≤ 64 ∧ rtP l large l.length)
/-- n bytes 0 -/
def zs (n : Nat) : List Int := List.replicate n 0
/-- a number of so many bytes; nothing, if it is too great -/
def ptS (v n : Nat) (big : Bool) : List Int := if v < 256 ^ n then putL v n big else []
theorem ptS_giv (v n : Nat) (big : Bool) (hn : sizedP n) (hv : v < 18446744073709551616) :
    Giv Try.prog 28 [.c (.int .u64 v), .c (.int .i64 n), .c (.bool big)] (retV [.lst 1 (li .u8 (ptS v n big)), .c (.int .i64 (if v < 256 ^ n then 0 else 7))]) ∧
    Giv Try.prog 29 [.c (.int .u64 v), .c (.int .i64 n), .c (.bool big)] (retV [.c (.string (strOfNums (ptS v n big))), .c (.int .i64 (if v < 256 ^ n then 0 else 7))]) := by
  unfold ptS
  by_cases h : v < 256 ^ n
  · rw [if_pos h, if_pos h]
    exact ⟨put_t v n big hn h hv, rput_ok big hn hv h⟩
  · rw [if_neg h, if_neg h]
    exact ⟨put_e v n big hn h hv, rput_no big hn hv h⟩
theorem ptS_len (v n : Nat) (big : Bool) : (ptS v n big).length ≤ n := by
  unfold ptS
  split
  · rw [putL_len]; exact Nat.le_refl _
  · exact Nat.zero_le _
theorem ptS_bytes (v n : Nat) (big : Bool) : Bytes (ptS v n big) := by
  unfold ptS
  split
  · exact putL_bytes _ _ _
  · exact Bytes.nil
/-- what an entry begins with -/
def ehd (f : Fld) (big large : Bool) : List Int := putL f.1.toNat 2 big ++ putL f.2.1.toNat 2 big ++ putL f.2.2.length (wd large) big
/-- entries, and what stands behind them: so far out, behind, 'was a number too great?' -/
def wrS (big large : Bool) (at_ base : Nat) : List Fld → List Int → List Int → Bool → (List Int × List Int × Bool) × Int
  | [], out, behind, bad => ((out, behind, bad), 0)
  | f :: l, out, behind, bad =>
    if (wkS f.2.1 f.2.2 big).2 ≠ 0 then (([], [], false), (wkS f.2.1 f.2.2 big).2)
    else if (wkS f.2.1 f.2.2 big).1.length ≤ wd large then wrS big large at_ base l (out ++ (ehd f big large ++ (wkS f.2.1 f.2.2 big).1 ++ zs (wd large - (wkS f.2.1 f.2.2 big).1.length))) behind bad
    else if 18446744073709551616 ≤ at_ + (base + behind.length) then (([], [], false), 11)
    else wrS big large at_ base l (out ++ (ehd f big large ++ ptS (at_ + (base + behind.length)) (wd large) big)) (behind ++ (wkS f.2.1 f.2.2 big).1 ++ zs ((wkS f.2.1 f.2.2 big).1.length % 2)) (bad || decide (¬ at_ + (base + behind.length) < 256 ^ wd large))
/-- a directory -/
def wdS (l : List Fld) (big large : Bool) (at_ next : Nat) : List Int × Int :=
  if rtS l large = false then ([], 1)
  else if (wrS big large at_ (ct large + en large * l.length + wd large) l (putL l.length (ct large) big) [] false).2 ≠ 0 then ([], (wrS big large at_ (ct large + en large * l.length + wd large) l (putL l.length (ct large) big) [] false).2)
  else if (wrS big large at_ (ct large + en large * l.length + wd large) l (putL l.length (ct large) big) [] false).1.2.2 = true ∨ ¬ next < 256 ^ wd large then ([], 11)
  else ((wrS big large at_ (ct large + en large * l.length + wd large) l (putL l.length (ct large) big) [] false).1.1 ++ putL next (wd large) big ++ (wrS big large at_ (ct large + en large * l.length + wd large) l (putL l.length (ct large) big) [] false).1.2.1, 0)
end Go.Proofs.Ytkdkhngdilhneaa
