/- What is written of a directory is read, wherever it stands; a chain of directories, and a ring. No condition but what each says. -/
import Derived.Test.YtkdkhngdilhneaaLFew
set_option linter.unusedSimpArgs false
set_option linter.unusedVariables false
set_option maxRecDepth 8000
set_option maxHeartbeats 4000000
namespace Go.Proofs.Ytkdkhngdilhneaa
open Go.Eng Go.RowKit
theorem cut_app {w r : List Int} {i z : Nat} (h : i + z ≤ w.length) : ((w ++ r).drop i).take z = (w.drop i).take z := by
  rw [List.drop_append_of_le_length (by omega), List.take_append_of_le_length (by rw [List.length_drop]; omega)]
theorem mul_in {i n z : Nat} (h : i < n) : i * z + z ≤ z * n := by
  have : (i + 1) * z ≤ n * z := Nat.mul_le_mul_right _ h
  rw [Nat.succ_mul, Nat.mul_comm n z] at this
  exact this
theorem vals_pre {k : Int} {w r : List Int} {n : Nat} (big : Bool) (h : w.length = (szI k).toNat * n) : valsF k (w ++ r) big n = valsF k w big n := by
  unfold valsF
  by_cases c : frP k
  · rw [if_pos c, if_pos c]
    have hz : (szI k).toNat = 8 := by rcases c with rfl | rfl <;> decide
    rw [hz] at h
    refine tab_congr _ fun i hi => ?_
    have := mul_in (z := 8) hi
    rw [elf, elf, cut_app (by omega), cut_app (by omega)]
  · rw [if_neg c, if_neg c]
    refine tab_congr _ fun i hi => ?_
    have := mul_in (z := (szI k).toNat) hi
    rw [el1, el1, cut_app (by omega)]
theorem vals_back {k : Int} {l : List Int} {big : Bool} (h : (wkS k l big).2 = 0) (hU : U64 l) : valsF k (wkS k l big).1 big l.length = l := by
  unfold wkS at h ⊢
  unfold valsF
  by_cases c : knownP k
  rotate_left
  · rw [if_pos c] at h; exact absurd h (by decide)
  rw [if_neg (show ¬ ¬ knownP k from fun q => q c)] at h ⊢
  by_cases d : frP k
  · rw [if_pos d, if_pos d]
    exact back_f big hU
  · rw [if_neg d] at h ⊢
    rw [if_neg d]
    by_cases e : fitsP (szI k).toNat l
    · rw [if_pos e]
      exact back_1 big hU e
    · rw [if_neg e] at h; exact absurd h (by decide)
/-- what an entry begins with is read -/
theorem ehd_gk {f : Fld} {big large : Bool} (ht : 0 ≤ f.1 ∧ f.1 < 65536) (hk : knownP f.2.1) (hn : f.2.2.length ≤ 65536) (r : List Int) :
    gk (ehd f big large ++ r) 0 2 big = f.1 ∧ gk (ehd f big large ++ r) 2 2 big = f.2.1 ∧ gk (ehd f big large ++ r) 4 (wd large) big = (f.2.2.length : Int) := by
  have hk2 : 0 ≤ f.2.1 ∧ f.2.1 < 65536 := by unfold knownP at hk; omega
  have hw : f.2.2.length < 256 ^ wd large := fits_w (by omega) large
  unfold ehd
  refine ⟨?_, ?_, ?_⟩
  · have := gk_put [] (putL f.2.1.toNat 2 big ++ putL f.2.2.length (wd large) big ++ r) (p := 0) (n := 2) (v := f.1.toNat) big rfl (fits_2 (by omega))
    rw [List.nil_append] at this
    simp only [List.append_assoc] at this ⊢
    rw [this]
    omega
  · have := gk_put (putL f.1.toNat 2 big) (putL f.2.2.length (wd large) big ++ r) (p := 2) (n := 2) (v := f.2.1.toNat) big (putL_len _ _ _) (fits_2 (by omega))
    simp only [List.append_assoc] at this ⊢
    rw [this]
    omega
  · have := gk_put (putL f.1.toNat 2 big ++ putL f.2.1.toNat 2 big) r (p := 4) (n := wd large) (v := f.2.2.length) big (by rw [List.length_append, putL_len, putL_len]) hw
    simp only [List.append_assoc] at this ⊢
    exact this
/-- a field whose values stand in the entry -/
theorem ent_in {f : Fld} {b : List Int} {big large : Bool} (ht : 0 ≤ f.1 ∧ f.1 < 65536) (ho : fokP large f) (hU : U64 f.2.2) (he : (wkS f.2.1 f.2.2 big).2 = 0) (hw : (wkS f.2.1 f.2.2 big).1.length ≤ wd large) (r : List Int) :
    entS b (ehd f big large ++ ((wkS f.2.1 f.2.2 big).1 ++ r)) big large = (some f, 0) := by
  obtain ⟨o1, o2, o3⟩ := ho
  obtain ⟨g0, g2, g4⟩ := ehd_gk (big := big) (large := large) ht o1 o3 ((wkS f.2.1 f.2.2 big).1 ++ r)
  have hl := wkS_ok he
  have hel : (ehd f big large).length = 4 + wd large := by
    have := ehd_len f big large
    cases large <;> simp only [en, wd, if_true, if_false, Bool.false_eq_true] at this ⊢ <;> omega
  have hz := sz_pos o1
  have hzl : szI f.2.1 * (f.2.2.length : Int) = ((wkS f.2.1 f.2.2 big).1.length : Int) := by
    rw [hl, Int.natCast_mul, Int.toNat_of_nonneg (by omega)]
  unfold entS
  rw [g0, g2, g4, if_neg, if_neg (by omega), if_neg (by rw [hzl]; omega), Int.toNat_natCast, List.drop_left' hel, vals_pre big hl, vals_back he hU]
  rintro (q | ⟨q1, q2⟩)
  · exact q o1
  · rw [o2 q1] at q2; exact absurd q2 (by decide)
/-- a field whose values stand elsewhere -/
theorem ent_far {f : Fld} {b : List Int} {big large : Bool} {v : Nat} (ht : 0 ≤ f.1 ∧ f.1 < 65536) (ho : fokP large f) (hU : U64 f.2.2) (he : (wkS f.2.1 f.2.2 big).2 = 0) (hw : ¬ (wkS f.2.1 f.2.2 big).1.length ≤ wd large) (hv : v < 256 ^ wd large)
    (hb : (b.drop v).take (wkS f.2.1 f.2.2 big).1.length = (wkS f.2.1 f.2.2 big).1) (hb2 : v + (wkS f.2.1 f.2.2 big).1.length ≤ b.length) :
    entS b (ehd f big large ++ putL v (wd large) big) big large = (some f, 0) := by
  obtain ⟨o1, o2, o3⟩ := ho
  obtain ⟨g0, g2, g4⟩ := ehd_gk (big := big) (large := large) ht o1 o3 (putL v (wd large) big)
  have hl := wkS_ok he
  have hel : (ehd f big large).length = 4 + wd large := by
    have := ehd_len f big large
    cases large <;> simp only [en, wd, if_true, if_false, Bool.false_eq_true] at this ⊢ <;> omega
  have g5 := gk_put (ehd f big large) [] (p := 4 + wd large) (n := wd large) (v := v) big hel hv
  rw [List.append_nil] at g5
  have hz := sz_pos o1
  have hzl : szI f.2.1 * (f.2.2.length : Int) = ((wkS f.2.1 f.2.2 big).1.length : Int) := by
    rw [hl, Int.natCast_mul, Int.toNat_of_nonneg (by omega)]
  unfold entS
  rw [g0, g2, g4, g5, hzl, if_neg, if_neg (by omega), if_pos (by omega), if_neg (by omega), Int.toNat_natCast, Int.toNat_natCast, Int.toNat_natCast, hb, vals_back he hU]
  rintro (q | ⟨q1, q2⟩)
  · exact q o1
  · rw [o2 q1] at q2; exact absurd q2 (by decide)
/-- tags that grow -/
def Ups : Int → List Fld → Prop
  | _, [] => True
  | t, f :: l => t < f.1 ∧ Ups f.1 l
theorem en_pos (large : Bool) : 0 < en large := by cases large <;> decide
theorem rd_wr (big large : Bool) (at_ base : Nat) : ∀ (l : List Fld) (out behind : List Int) (bad : Bool), (wrS big large at_ base l out behind bad).2 = 0 → (wrS big large at_ base l out behind bad).1.2.2 = false →
    (∀ f ∈ l, (0 ≤ f.1 ∧ f.1 < 65536) ∧ fokP large f ∧ U64 f.2.2) →
    ∃ E T, (wrS big large at_ base l out behind bad).1.1 = out ++ E ∧ E.length = en large * l.length ∧ (wrS big large at_ base l out behind bad).1.2.1 = behind ++ T ∧
      ∀ (b : List Int) (p : Nat) (was : Int) (acc : List Fld), Ups was l → (b.drop p).take E.length = E → (b.drop (at_ + base)).take (wrS big large at_ base l out behind bad).1.2.1.length = (wrS big large at_ base l out behind bad).1.2.1 →
        rdS b big large l.length p was acc = (acc ++ l, 0)
  | [], out, behind, bad, _, _, _ => ⟨[], [], by simp [wrS], by simp, by simp [wrS], fun b p was acc _ _ _ => by simp [rdS]⟩
  | f :: l, out, behind, bad, h1, h2, hf => by
    obtain ⟨ht, ho, hU⟩ := hf f (by simp)
    have hf' : ∀ g ∈ l, (0 ≤ g.1 ∧ g.1 < 65536) ∧ fokP large g ∧ U64 g.2.2 := fun g hg => hf g (by simp [hg])
    have hel := ehd_len f big large
    have hen := en_pos large
    rw [wrS] at h1 h2 ⊢
    by_cases he : (wkS f.2.1 f.2.2 big).2 = 0
    rotate_left
    · rw [if_pos he] at h1; exact absurd h1 he
    rw [if_neg (fun c => c he)] at h1 h2 ⊢
    have step : ∀ (e : List Int) (E' : List Int) (b : List Int) (p : Nat) (was : Int) (acc : List Fld), e.length = en large → entS b e big large = (some f, 0) → gk e 0 2 big = f.1 → Ups was (f :: l) → (b.drop p).take (e ++ E').length = e ++ E' → (∀ q acc', (b.drop q).take E'.length = E' → rdS b big large l.length q f.1 acc' = (acc' ++ l, 0)) →
        rdS b big large (f :: l).length p was acc = (acc ++ f :: l, 0) := by
      intro e E' b p was acc hl1 hent hg hups hcut hrec
      have hlen : (e ++ E').length ≤ b.length - p := by
        have := congrArg List.length hcut
        rw [List.length_take, List.length_drop] at this
        omega
      rw [List.length_append, hl1] at hlen
      have c1 : (b.drop p).take (en large) = e := by
        have := congrArg (List.take e.length) hcut
        rw [List.take_take, List.take_left' rfl, List.length_append, Nat.min_eq_left (by omega), hl1] at this
        exact this
      have c2 : (b.drop (p + en large)).take E'.length = E' := by
        have := congrArg (List.drop e.length) hcut
        rw [List.drop_take, List.drop_left' rfl, List.drop_drop, List.length_append, Nat.add_sub_cancel_left, hl1] at this
        exact this
      rw [List.length_cons, rdS, c1, if_neg (by omega), if_neg (by rw [hg]; have := hups.1; omega), hent, if_neg (fun c => c rfl), hg, hrec _ _ c2]
      simp
    by_cases hw : (wkS f.2.1 f.2.2 big).1.length ≤ wd large
    · rw [if_pos hw] at h1 h2 ⊢
      obtain ⟨E, T, q1, q2, q3, q4⟩ := rd_wr big large at_ base l _ _ _ h1 h2 hf'
      obtain ⟨e, hee⟩ : ∃ e, e = ehd f big large ++ (wkS f.2.1 f.2.2 big).1 ++ zs (wd large - (wkS f.2.1 f.2.2 big).1.length) := ⟨_, rfl⟩
      have hel2 : e.length = en large := by rw [hee, List.length_append, List.length_append, zs, List.length_replicate]; omega
      refine ⟨e ++ E, T, ?_, ?_, q3, fun b p was acc hu hc hb => ?_⟩
      · rw [q1, ← hee]; simp
      · rw [List.length_append, hel2, q2, List.length_cons, Nat.mul_succ]; omega
      · refine step e E b p was acc hel2 ?_ ?_ hu hc fun q acc' hq => q4 b q f.1 acc' hu.2 hq hb
        · rw [hee, List.append_assoc]
          exact ent_in ht ho hU he hw _
        · rw [hee, List.append_assoc]
          exact (ehd_gk ht ho.1 ho.2.2 _).1
    · rw [if_neg hw] at h1 h2 ⊢
      by_cases hov : 18446744073709551616 ≤ at_ + (base + behind.length)
      · rw [if_pos hov] at h1; exact absurd h1 (by decide)
      rw [if_neg hov] at h1 h2 ⊢
      have hbad := (wr_len big large at_ base l _ _ _ h1 h2).1
      rw [Bool.or_eq_false_iff] at hbad
      have hfit := Decidable.of_not_not (of_decide_eq_false hbad.2)
      obtain ⟨E, T, q1, q2, q3, q4⟩ := rd_wr big large at_ base l _ _ _ h1 h2 hf'
      obtain ⟨e, hee⟩ : ∃ e, e = ehd f big large ++ ptS (at_ + (base + behind.length)) (wd large) big := ⟨_, rfl⟩
      have hpt : ptS (at_ + (base + behind.length)) (wd large) big = putL (at_ + (base + behind.length)) (wd large) big := by rw [ptS, if_pos hfit]
      have hel2 : e.length = en large := by rw [hee, List.length_append, hpt, putL_len]; omega
      refine ⟨e ++ E, (wkS f.2.1 f.2.2 big).1 ++ zs ((wkS f.2.1 f.2.2 big).1.length % 2) ++ T, ?_, ?_, ?_, fun b p was acc hu hc hb => ?_⟩
      · rw [q1, ← hee]; simp
      · rw [List.length_append, hel2, q2, List.length_cons, Nat.mul_succ]; omega
      · rw [q3]; simp
      · refine step e E b p was acc hel2 ?_ ?_ hu hc fun q acc' hq => q4 b q f.1 acc' hu.2 hq hb
        · rw [hee, hpt]
          have hbl := congrArg List.length hb
          rw [List.length_take, List.length_drop] at hbl
          have h3 := congrArg List.length q3
          simp only [List.length_append] at h3
          have hcut := congrArg (fun x => (x.drop behind.length).take (wkS f.2.1 f.2.2 big).1.length) hb
          rw [List.drop_take, List.take_take, Nat.min_eq_left (by omega), List.drop_drop, q3] at hcut
          rw [show behind ++ (wkS f.2.1 f.2.2 big).1 ++ zs ((wkS f.2.1 f.2.2 big).1.length % 2) ++ T = behind ++ ((wkS f.2.1 f.2.2 big).1 ++ (zs ((wkS f.2.1 f.2.2 big).1.length % 2) ++ T)) by simp, List.drop_left' rfl, List.take_left' rfl, Nat.add_assoc] at hcut
          exact ent_far ht ho hU he hw hfit hcut (by omega)
        · rw [hee]
          exact (ehd_gk ht ho.1 ho.2.2 _).1
end Go.Proofs.Ytkdkhngdilhneaa
