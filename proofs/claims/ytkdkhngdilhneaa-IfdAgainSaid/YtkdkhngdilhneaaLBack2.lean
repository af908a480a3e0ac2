/- A directory that is written is read; a chain of them, and a ring. No condition but what each says. -/
import Derived.Test.YtkdkhngdilhneaaLBack
set_option linter.unusedSimpArgs false
set_option linter.unusedVariables false
set_option maxRecDepth 8000
set_option maxHeartbeats 4000000
namespace Go.Proofs.Ytkdkhngdilhneaa
open Go.Eng Go.RowKit
/-- a field that came in, of few values -/
def FG (f : Fld) : Prop := (0 ≤ f.1 ∧ f.1 < 65536) ∧ U64 f.2.2
theorem ups_of : ∀ (l : List Fld) (t : Int), (0 < l.length → t < (fl l 0).1) → (∀ i, i + 1 < l.length → (fl l i).1 < (fl l (i + 1)).1) → Ups t l
  | [], _, _, _ => trivial
  | f :: l, t, h, h2 => ⟨h (by simp), ups_of l f.1 (fun hl => by
      have := h2 0 (by simpa using hl)
      exact this) (fun i hi => by
      have := h2 (i + 1) (by simpa using hi)
      exact this)⟩
theorem rt_ups {l : List Fld} {large : Bool} (h : rtS l large = true) (hf : ∀ f ∈ l, FG f) : Ups (-1) l := by
  obtain ⟨h1, h2⟩ := of_decide_eq_true h
  refine ups_of l _ (fun hl => ?_) (fun i hi => ?_)
  · have := (hf _ (fl_mem hl)).1
    omega
  · have := (h2 (i + 1) hi).2 (by omega)
    exact this
theorem rt_fok {l : List Fld} {large : Bool} (h : rtS l large = true) : ∀ f ∈ l, fokP large f := fun f hf => by
  obtain ⟨h1, h2⟩ := of_decide_eq_true h
  obtain ⟨i, hi, rfl⟩ := List.getElem_of_mem hf
  have := (h2 i hi).1
  simpa only [fl, List.getD, List.getElem?_eq_getElem hi, Option.getD_some] using this
theorem dir_back {l : List Fld} {big large : Bool} {at_ next : Nat} {A B : List Int} (hr : rtS l large = true) (hf : ∀ f ∈ l, FG f) (h0 : (wdS l big large at_ next).2 = 0) (ha : A.length = at_) :
    dirS (A ++ ((wdS l big large at_ next).1 ++ B)) big large at_ = (((at_ : Int), (next : Int), l), 0) := by
  have h64 := (of_decide_eq_true hr).1
  rw [wdS] at h0 ⊢
  rw [if_neg (by rw [hr]; decide)] at h0 ⊢
  obtain ⟨S, hS⟩ : ∃ S, S = wrS big large at_ (ct large + en large * l.length + wd large) l (putL l.length (ct large) big) [] false := ⟨_, rfl⟩
  have key := rd_wr big large at_ (ct large + en large * l.length + wd large) l (putL l.length (ct large) big) [] false
  rw [← hS] at h0 key ⊢
  by_cases h1 : S.2 = 0
  rotate_left
  · rw [if_pos h1] at h0; exact absurd h0 h1
  rw [if_neg (fun c => c h1)] at h0 ⊢
  by_cases h2 : S.1.2.2 = true ∨ ¬ next < 256 ^ wd large
  · rw [if_pos h2] at h0; exact absurd h0 (by decide)
  rw [if_neg h2]
  have hnx : next < 256 ^ wd large := Decidable.of_not_not fun c => h2 (.inr c)
  obtain ⟨E, T, q1, q2, q3, q4⟩ := key h1 (by cases h3 : S.1.2.2 with | false => rfl | true => exact absurd (.inl h3) h2) (fun f hm => ⟨(hf f hm).1, rt_fok hr f hm, (hf f hm).2⟩)
  rw [List.nil_append] at q3
  rw [q3] at q4 ⊢
  rw [q1]
  have hcl := putL_len l.length (ct large) big
  have hnl := putL_len next (wd large) big
  obtain ⟨b, hb⟩ : ∃ b, b = A ++ (putL l.length (ct large) big ++ E ++ putL next (wd large) big ++ T ++ B) := ⟨_, rfl⟩
  rw [← hb]
  have hbl : b.length = at_ + (ct large + en large * l.length + wd large + T.length + B.length) := by
    rw [hb]
    simp only [List.length_append, hcl, hnl, q2, ha]
  have g1 : gk b at_ (ct large) big = l.length := by
    have := gk_put A (E ++ (putL next (wd large) big ++ (T ++ B))) (p := at_) (n := ct large) (v := l.length) big ha (fits_c (by omega) large)
    rw [← this, hb]
    simp
  have g2 : gk b (at_ + ct large + l.length * en large) (wd large) big = next := by
    have := gk_put (A ++ (putL l.length (ct large) big ++ E)) (T ++ B) (p := at_ + ct large + l.length * en large) (n := wd large) (v := next) big (by simp only [List.length_append, hcl, q2, ha]; rw [Nat.mul_comm]; omega) hnx
    rw [← this, hb]
    simp
  have g3 : (b.drop (at_ + ct large)).take E.length = E := by
    have := cut_mid (A ++ putL l.length (ct large) big) E (putL next (wd large) big ++ (T ++ B)) (p := at_ + ct large) (n := E.length) (by rw [List.length_append, hcl, ha]) rfl
    rw [← this, hb]
    simp
  have g4 : (b.drop (at_ + (ct large + en large * l.length + wd large))).take T.length = T := by
    have := cut_mid (A ++ (putL l.length (ct large) big ++ (E ++ putL next (wd large) big))) T B (p := at_ + (ct large + en large * l.length + wd large)) (n := T.length) (by simp only [List.length_append, hcl, hnl, q2, ha]; omega) rfl
    rw [← this, hb]
    simp
  have g5 := q4 b (at_ + ct large) (-1) [] (rt_ups hr hf) g3 g4
  rw [List.nil_append] at g5
  have hmc : l.length * en large = en large * l.length := Nat.mul_comm _ _
  unfold dirS
  rw [if_neg (by omega), g1, if_neg (by omega), Int.toNat_natCast, g5, if_neg (fun c => c rfl), if_neg (by omega), g2]
theorem wk_err {k : Int} {l : List Int} {big : Bool} (h : knownP k) : (wkS k l big).2 = 0 ∨ (wkS k l big).2 = 7 := by
  unfold wkS
  rw [if_neg (fun q => q h)]
  split
  · exact .inl rfl
  · split
    · exact .inl rfl
    · exact .inr rfl
theorem wr_err (big large : Bool) (at_ base : Nat) : ∀ (l : List Fld) (out behind : List Int), at_ + base + behind.length + szT large l < 65536 * 65536 → (∀ f ∈ l, fokP large f) →
    ((wrS big large at_ base l out behind false).2 = 0 ∧ (wrS big large at_ base l out behind false).1.2.2 = false) ∨ (wrS big large at_ base l out behind false).2 = 7
  | [], out, behind, _, _ => .inl ⟨rfl, rfl⟩
  | f :: l, out, behind, hs, hf => by
    obtain ⟨o1, o2, o3⟩ := hf f (by simp)
    have hf' : ∀ g ∈ l, fokP large g := fun g hg => hf g (by simp [hg])
    rw [szT] at hs
    rw [wrS]
    by_cases he : (wkS f.2.1 f.2.2 big).2 = 0
    rotate_left
    · rw [if_pos he]
      exact .inr ((wk_err o1).resolve_left he)
    have hwl := wkS_ok he
    rw [if_neg (fun c => c he)]
    by_cases hw : (wkS f.2.1 f.2.2 big).1.length ≤ wd large
    · rw [if_pos hw]
      exact wr_err big large at_ base l _ _ (by omega) hf'
    · rw [if_neg hw]
      rw [szF, if_pos (by rw [← hwl]; omega), ← hwl] at hs
      have hfit : at_ + (base + behind.length) < 256 ^ wd large := fits_w (by omega) large
      rw [if_neg (by omega), show (false || decide (¬ at_ + (base + behind.length) < 256 ^ wd large)) = false by rw [decide_eq_false (fun c => c hfit)]; rfl]
      exact wr_err big large at_ base l _ _ (by rw [List.length_append, List.length_append, zs, List.length_replicate]; omega) hf'
theorem wd_err {l : List Fld} {big large : Bool} {at_ next : Nat} (hr : rtS l large = true) (hs : at_ + szS l large < 65536 * 65536) (hn : next < 65536 * 65536) : (wdS l big large at_ next).2 = 0 ∨ (wdS l big large at_ next).2 = 7 := by
  have := wr_err big large at_ (ct large + en large * l.length + wd large) l (putL l.length (ct large) big) [] (by rw [szS] at hs; rw [List.length_nil]; omega) (rt_fok hr)
  rw [wdS, if_neg (by rw [hr]; decide)]
  rcases this with ⟨h1, h2⟩ | h
  · rw [if_neg (fun c => c h1), if_neg (by rw [h2]; exact fun c => c.elim (fun q => by cases q) fun q => q (fits_w hn large))]
    exact .inl rfl
  · rw [if_pos (by rw [h]; decide)]
    exact .inr h
theorem ehd_bytes (f : Fld) (big large : Bool) : Bytes (ehd f big large) := by
  unfold ehd
  exact ((putL_bytes _ _ _).app (putL_bytes _ _ _)).app (putL_bytes _ _ _)
theorem zs_bytes (n : Nat) : Bytes (zs n) := fun z hz => by
  have := List.eq_of_mem_replicate hz
  omega
theorem wr_bytes (big large : Bool) (at_ base : Nat) : ∀ (l : List Fld) (out behind : List Int) (bad : Bool), Bytes out → Bytes behind → Bytes (wrS big large at_ base l out behind bad).1.1 ∧ Bytes (wrS big large at_ base l out behind bad).1.2.1
  | [], out, behind, bad, h1, h2 => ⟨h1, h2⟩
  | f :: l, out, behind, bad, h1, h2 => by
    rw [wrS]
    split
    · exact ⟨Bytes.nil, Bytes.nil⟩
    · split
      · exact wr_bytes big large at_ base l _ _ _ (h1.app (((ehd_bytes f big large).app (wkS_bytes _ _ _)).app (zs_bytes _))) h2
      · split
        · exact ⟨Bytes.nil, Bytes.nil⟩
        · exact wr_bytes big large at_ base l _ _ _ (h1.app ((ehd_bytes f big large).app (ptS_bytes _ _ _))) ((h2.app (wkS_bytes _ _ _)).app (zs_bytes _))
theorem wd_bytes (l : List Fld) (big large : Bool) (at_ next : Nat) : Bytes (wdS l big large at_ next).1 := by
  have := wr_bytes big large at_ (ct large + en large * l.length + wd large) l (putL l.length (ct large) big) [] false (putL_bytes _ _ _) Bytes.nil
  rw [wdS]
  split
  · exact Bytes.nil
  · split
    · exact Bytes.nil
    · split
      · exact Bytes.nil
      · exact (this.1.app (putL_bytes _ _ _)).app this.2
theorem szT_few (large : Bool) : ∀ (l : List Fld), (∀ f ∈ l, fokP large f) → szT large l ≤ 8 * vsum l + l.length
  | [], _ => by simp [szT, vsum]
  | f :: l, h => by
    have ih := szT_few large l fun g hg => h g (by simp [hg])
    have hz := sz_pos (h f (by simp)).1
    have h3 : (szI f.2.1).toNat * f.2.2.length ≤ 8 * f.2.2.length := Nat.mul_le_mul_right _ (by omega)
    rw [szT, vsum, List.length_cons, szF]
    split <;> omega
theorem szS_few {l : List Fld} {large : Bool} (hr : rtS l large = true) (hv : vsum l ≤ 300) : szS l large ≤ 4000 := by
  have h1 := szT_few large l (rt_fok hr)
  have h2 := (of_decide_eq_true hr).1
  have h3 : en large * l.length ≤ 20 * 64 := Nat.mul_le_mul (by cases large <;> decide) h2
  have h4 : ct large ≤ 8 := by cases large <;> decide
  have h5 : wd large ≤ 8 := by cases large <;> decide
  rw [szS]
  omega
/-- directories one behind the other, two bytes between them -/
def lay (big large : Bool) (last : Nat) : Nat → List (List Fld) → List Int
  | _, [] => []
  | at_, d :: l => (wdS d big large at_ (if l = [] then last else at_ + szS d large + 2)).1 ++ ([7, 7] ++ lay big large last (at_ + szS d large + 2) l)
def drs (large : Bool) (last : Nat) : Nat → List (List Fld) → List Dr
  | _, [] => []
  | at_, d :: l => ((at_ : Int), ((if l = [] then last else at_ + szS d large + 2 : Nat) : Int), d) :: drs large last (at_ + szS d large + 2) l
/-- all of them can be written -/
def LayOk (big large : Bool) (last : Nat) : Nat → List (List Fld) → Prop
  | _, [] => True
  | at_, d :: l => (wdS d big large at_ (if l = [] then last else at_ + szS d large + 2)).2 = 0 ∧ LayOk big large last (at_ + szS d large + 2) l
def DG (large : Bool) (d : List Fld) : Prop := rtS d large = true ∧ ∀ f ∈ d, FG f
theorem lay_len {big large : Bool} {last : Nat} : ∀ (at_ : Nat) (l : List (List Fld)), LayOk big large last at_ l → (∀ d ∈ l, DG large d) → (lay big large last at_ l).length = ((l.map fun d => szS d large + 2).sum)
  | _, [], _, _ => rfl
  | at_, d :: l, h, hg => by
    rw [lay, List.length_append, List.length_append, wd_len h.1 (hg d (by simp)).1, lay_len _ l h.2 fun x hx => hg x (by simp [hx]), List.map_cons, List.sum_cons]
    simp only [List.length_cons, List.length_nil]
    omega
theorem lay_bytes (big large : Bool) (last : Nat) : ∀ (at_ : Nat) (l : List (List Fld)), Bytes (lay big large last at_ l)
  | _, [] => Bytes.nil
  | at_, d :: l => (wd_bytes _ _ _ _ _).app (Bytes.app (fun z hz => by simp at hz; omega) (lay_bytes big large last _ l))
theorem drs_f (large : Bool) (last : Nat) : ∀ (at_ : Nat) (l : List (List Fld)), (drs large last at_ l).map (·.2.2) = l
  | _, [] => rfl
  | at_, d :: l => by rw [drs, List.map_cons, drs_f large last _ l]
theorem drs_length (large : Bool) (last : Nat) (at_ : Nat) (l : List (List Fld)) : (drs large last at_ l).length = l.length := by
  have := congrArg List.length (drs_f large last at_ l)
  rwa [List.length_map] at this
theorem ix_less {a : Int} {out : List Dr} (h : ∀ d ∈ out, d.1 < a) : ¬ 0 ≤ ixD a out 0 := by
  rw [ixD_no out 0 fun d hd => by have := h d hd; omega]
  decide
theorem snoc_less {a : Nat} {out : List Dr} (h : ∀ d ∈ out, d.1 < (a : Int)) {d : Dr} (hd : d.1 = a) {a2 : Nat} (h2 : a < a2) : ∀ x ∈ out ++ [d], x.1 < (a2 : Int) := fun x hx => by
  rcases List.mem_append.1 hx with q | q
  · have := h x q; omega
  · simp only [List.mem_cons, List.not_mem_nil, or_false] at q
    subst q
    omega
theorem chn_lay {big large : Bool} {last : Nat} {most : Int} : ∀ (l : List (List Fld)) (A : List Int) (at_ : Nat) (out : List Dr) (k : Nat), A.length = at_ → 0 < at_ → l ≠ [] → LayOk big large last at_ l → (∀ d ∈ l, DG large d) → (∀ d ∈ out, d.1 < (at_ : Int)) → ((out.length + l.length : Nat) : Int) ≤ most →
    chn (A ++ lay big large last at_ l) big large most (l.length + k) at_ out = chn (A ++ lay big large last at_ l) big large most k last (out ++ drs large last at_ l)
  | [], _, _, _, _, _, _, h, _, _, _, _ => absurd rfl h
  | d :: l, A, at_, out, k, ha, h0, _, hL, hg, hout, hm => by
    obtain ⟨d1, d2⟩ := hg d (by simp)
    rw [List.length_cons] at hm
    have hb : dirS (A ++ lay big large last at_ (d :: l)) big large at_ = (((at_ : Int), ((if l = [] then last else at_ + szS d large + 2 : Nat) : Int), d), 0) := dir_back d1 d2 hL.1 ha
    rw [show (d :: l).length + k = (l.length + k) + 1 by rw [List.length_cons]; omega, chn, if_neg (by omega), if_neg (ix_less hout), if_neg (by omega), hb, if_neg (fun c => c rfl), Int.toNat_natCast]
    by_cases hl : l = []
    · subst hl
      rw [if_pos rfl, List.length_nil, Nat.zero_add]
      rfl
    · rw [if_neg hl]
      have e : A ++ lay big large last at_ (d :: l) = (A ++ ((wdS d big large at_ (at_ + szS d large + 2)).1 ++ [7, 7])) ++ lay big large last (at_ + szS d large + 2) l := by
        rw [lay, if_neg hl]
        simp
      have hw := hL.1
      rw [if_neg hl] at hw
      have ih := chn_lay (most := most) l (A ++ ((wdS d big large at_ (at_ + szS d large + 2)).1 ++ [7, 7])) (at_ + szS d large + 2) (out ++ [((at_ : Int), ((at_ + szS d large + 2 : Nat) : Int), d)]) k (by
        rw [List.length_append, List.length_append, wd_len hw d1, ha]; simp; omega) (by omega) hl hL.2 (fun x hx => hg x (by simp [hx])) (snoc_less hout rfl (by omega)) (by rw [List.length_append]; simp; omega)
      rw [e, ih, drs, if_neg hl]
      simp
theorem chn_few {big large : Bool} {last : Nat} : ∀ (l : List (List Fld)) (A : List Int) (at_ : Nat) (out : List Dr) (k : Nat), A.length = at_ → 0 < at_ → l ≠ [] → LayOk big large last at_ l → (∀ d ∈ l, DG large d) → (∀ d ∈ out, d.1 < (at_ : Int)) →
    chn (A ++ lay big large last at_ l) big large (((out.length + l.length : Nat) : Int) - 1) (l.length + k) at_ out = ([], 8)
  | [], _, _, _, _, _, _, h, _, _, _ => absurd rfl h
  | d :: l, A, at_, out, k, ha, h0, _, hL, hg, hout => by
    obtain ⟨d1, d2⟩ := hg d (by simp)
    have hb : dirS (A ++ lay big large last at_ (d :: l)) big large at_ = (((at_ : Int), ((if l = [] then last else at_ + szS d large + 2 : Nat) : Int), d), 0) := dir_back d1 d2 hL.1 ha
    rw [show (d :: l).length + k = (l.length + k) + 1 by rw [List.length_cons]; omega, chn, if_neg (by omega), if_neg (ix_less hout)]
    by_cases hl : l = []
    · subst hl
      rw [if_pos (by simp)]
    · have hll : 0 < l.length := List.length_pos_iff.2 hl
      rw [if_neg (by rw [List.length_cons]; omega), hb, if_neg (fun c => c rfl), Int.toNat_natCast, if_neg hl]
      have e : A ++ lay big large last at_ (d :: l) = (A ++ ((wdS d big large at_ (at_ + szS d large + 2)).1 ++ [7, 7])) ++ lay big large last (at_ + szS d large + 2) l := by
        rw [lay, if_neg hl]
        simp
      have hw := hL.1
      rw [if_neg hl] at hw
      have ih := chn_few l (A ++ ((wdS d big large at_ (at_ + szS d large + 2)).1 ++ [7, 7])) (at_ + szS d large + 2) (out ++ [((at_ : Int), ((at_ + szS d large + 2 : Nat) : Int), d)]) k (by
        rw [List.length_append, List.length_append, wd_len hw d1, ha]; simp; omega) (by omega) hl hL.2 (fun x hx => hg x (by simp [hx])) (snoc_less hout rfl (by omega))
      have em : (((out ++ [((at_ : Int), ((at_ + szS d large + 2 : Nat) : Int), d)]).length + l.length : Nat) : Int) - 1 = ((out.length + (d :: l).length : Nat) : Int) - 1 := by
        rw [List.length_append, List.length_cons, List.length_cons, List.length_nil]; omega
      rw [em, ← e] at ih
      exact ih
end Go.Proofs.Ytkdkhngdilhneaa
