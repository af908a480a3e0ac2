/- All directories of a file, by the reference: with a list of what is still to come. No condition but what each says. -/
import Derived.Test.YtpjnpmdmcllilaaWTop
set_option linter.unusedSimpArgs false
set_option linter.unusedVariables false
set_option maxRecDepth 8000
set_option maxHeartbeats 16000000
namespace Go.Proofs.Ytpjnpmdmcllilaa
open Go.Eng Go.RowKit
def tkD (t : Tk) : D := .agg [.c (.int .u64 t.1), .c (.int .i64 t.2.1), .c (.int .i64 t.2.2)]
def tkN : AV → Nat
  | .sl _ _ _ n => n
  | .d (.lst _ l) => l.length
  | _ => 0
theorem tkN_sl (a b c n : Nat) : tkN (.sl a b c n) = n := rfl
theorem tkN_d (es : Nat) (l : List D) : tkN (.d (.lst es l)) = l.length := rfl
theorem vals_app : ∀ (A B : List Fld), valsB (A ++ B) = valsB A ++ valsB B
  | [], B => rfl
  | f :: A, B => by rw [List.cons_append, valsB, valsB, vals_app A B, List.append_assoc]
theorem bad_app : ∀ (A B : List Fld), bad (A ++ B) = (bad A || bad B)
  | [], B => rfl
  | f :: A, B => by rw [List.cons_append, bad, bad, bad_app A B, Bool.or_assoc]
theorem vals_len {w : Int} : ∀ {l : List Fld}, UpTo w l → (∀ f ∈ l, f.2.2.length ≤ 1000000) → (valsB l).length ≤ 1000000
  | [], _, _ => Nat.zero_le _
  | f :: l, hu, h => by
    have ih := vals_len hu.tail fun g hg => h g (by simp [hg])
    rw [valsB]
    by_cases c : f.1 = 330
    · obtain ⟨_, h2⟩ := none_330 (l := l) fun g hg => by have := hu.2.1 g hg; omega
      rw [if_pos c, h2, List.append_nil]
      exact h f (by simp)
    · rw [if_neg c]
      exact ih
theorem tks_app (d : Int) (u : Nat) (a c : List Int) : tks d u (a ++ c) = tks d u a ++ tks d u c := by simp [tks]
theorem it_get {l : List It} {k : Nat} (h : k < l.length) : (l.map itD).getD k default = itD (itx l k) := by
  simp only [List.getD, List.getElem?_map, List.getElem?_eq_getElem h, Option.map_some, Option.getD_some, itx]
theorem rwalk_giv (b : List Int) (big large : Bool) (first : Nat) (most deep : Int) (hl : b.length ≤ 90000) (hB : Bytes b) (hf : first < 18446744073709551616) (hmo : -9223372036854775808 ≤ most ∧ most ≤ 9223372036854775807) :
    Giv Try.prog 7 [.c (.string (strOfNums b)), hD big large first, .c (.int .i64 most), .c (.int .i64 deep)] (retV [.lst 5 ((walkS b big large first most deep).1.map itD), .c (.int .i64 (walkS b big large first most deep).2)]) := by
  obtain ⟨Q, hQ⟩ : ∃ Q, Q = walkS b big large first most deep := ⟨_, rfl⟩
  rw [← hQ]
  unfold walkS at hQ
  obtain ⟨R, hR⟩ : ∃ R, R = W b big large most deep [(first, 0, -1)] ([], []) := ⟨_, rfl⟩
  rw [← hR] at hQ
  have hbad : ∀ (q : Stt) (e : Int), R = (q, e) → e ≠ 0 → Q = ([], e) := fun q e h he => by
    rw [h] at hQ
    rw [hQ, if_neg he]
  refine Giv.of mixed c7 (Nat.le_of_ble_eq_true rfl) ?_
  simp -dsimp -implicitDefEqProofs (disch := first | omega | (simp only [List.length_append, List.length_cons, List.length_nil, List.length_take, List.length_drop]; omega)) only [a7, hD, ↓aPre, aPost, oneW, allOne, retV, retVA, simprocAttr]
  refine loop_nil 11 100 5 (fun st => ∃ (ts : List Tk) (s : Stt), Inv b s ∧ (∀ t ∈ ts, Tok s t) ∧ R = W b big large most deep ts s ∧ ts.length ≤ s.2.length * 1000001 + 1 ∧ (st.tm 10 = .d (.lst 3 (ts.map tkD)) ∨ (∃ nm off RT, (nm = 101 ∨ nm = 102) ∧ st.tm 10 = .sl nm 3 off ts.length ∧ st.hp nm = some (.row 3 RT) ∧ RT.length = off + ts.length ∧ RT.drop off = ts.map tkD)) ∧ st.tm 0 = .d (.c (.string (strOfNums b))) ∧ st.tm 5 = .ptr 5 0 ∧ st.hp 5 = some (.box [.d (.c (.bool big)), .d (.c (.bool large)), .d (.c (.int .u64 first))]) ∧ st.tm 2 = .d (.c (.int .i64 most)) ∧ st.tm 3 = .d (.c (.int .i64 deep)) ∧ st.tm 11 = .sl 100 5 0 s.2.length ∧ st.hp 100 = some (.row 5 (s.2.map itD))) (fun st => (b.length - rowN (st.hp 100)) * 2000000 + tkN (st.tm 10)) ?_ (by decide) ?_ ?_
  · simp -dsimp -implicitDefEqProofs (disch := first | omega | (simp only [List.length_append, List.length_cons, List.length_nil, List.length_take, List.length_drop]; omega)) only [↓aPre, aPost, oneW, allOne, retV, retVA, simprocAttr]
  · refine ⟨[(first, 0, -1)], ([], []), Inv.nil b, (fun t ht => by simp only [List.mem_cons, List.not_mem_nil, or_false] at ht; subst ht; exact ⟨hf, .inl ⟨rfl, rfl⟩⟩), hR, by simp, ?_⟩
    simp -dsimp -implicitDefEqProofs (disch := first | omega | (simp only [List.length_append, List.length_cons, List.length_nil, List.length_take, List.length_drop]; omega)) only [↓aPre, aPost, oneW, allOne, retV, retVA, simprocAttr]
    first | rfl | exact .inl rfl | exact ⟨.inl rfl, rfl⟩
  clear hR
  rintro st ⟨ts, s, hI, hT, hR, htl, h10, hs⟩
  have hlen := its_len s.2
  have hil := hI.len
  have hdw : ∀ k, k < s.2.length → _ := hI.dep
  rcases h10 with h10 | ⟨nm, off, RT, rfl | rfl, h10, h11, hRl, hRd⟩
  ·
    cases ts with
    | nil =>
      rw [W_nil] at hR
      rw [hR, if_pos rfl] at hQ
      simp -dsimp -implicitDefEqProofs (disch := first | omega | (simp only [List.length_append, List.length_cons, List.length_nil, List.length_take, List.length_drop]; omega)) only [hs, h10, ↓aPre, aPost, oneW, allOne, retV, retVA, simprocAttr]
      refine post_eq ?_
      subst hQ
      first | rfl | rw [List.take_of_length_le (by rw [hlen]; exact Nat.le_refl _)]
    | cons t ts =>
      have hmt : ((t :: ts).map tkD).length = ts.length + 1 := by simp
      have hg : ((t :: ts).map tkD).getD 0 default = .agg [.c (.int .u64 t.1), .c (.int .i64 t.2.1), .c (.int .i64 t.2.2)] := rfl
      have hdr : ((t :: ts).map tkD).drop 1 = ts.map tkD := rfl
      have hdrl : (ts.map tkD).length = ts.length := List.length_map ..
      have htk : ((ts.map tkD)).take ts.length = ts.map tkD := List.take_of_length_le (by rw [hdrl]; exact Nat.le_refl _)
      obtain ⟨RT, hRT⟩ : ∃ RT, RT = (t :: ts).map tkD := ⟨_, rfl⟩
      rw [← hRT] at h10 hmt hg hdr
      have hTt := hT t (by simp)
      rw [W_eq] at hR
      by_cases ha : t.1 = 0
      · rw [if_pos ha] at hR
        have haI : ((t.1 : Nat) : Int) = 0 := by omega
        simp -dsimp -implicitDefEqProofs (disch := first | omega | (simp only [List.length_append, List.length_cons, List.length_nil, List.length_take, List.length_drop]; omega)) only [hs, h10, hmt, hg, hdr, hdrl, htk, haI, ibeq_t, ↓aPre, aPost, oneW, allOne, retV, retVA, simprocAttr]
        refine round_of ⟨ts, s, hI, fun x hx => hT x (by simp [hx]), hR, by simp only [List.length_cons] at htl; omega, .inl ?_, ?_⟩ ?_
        · simp -dsimp -implicitDefEqProofs (disch := first | omega | (simp only [List.length_append, List.length_cons, List.length_nil, List.length_take, List.length_drop]; omega)) only [hs, h10, hmt, hg, hdr, hdrl, htk, ↓aPre, aPost, oneW, allOne, retV, retVA, simprocAttr]
        · simp -dsimp -implicitDefEqProofs (disch := first | omega | (simp only [List.length_append, List.length_cons, List.length_nil, List.length_take, List.length_drop]; omega)) only [hs, h10, hmt, hg, hdr, hdrl, htk, ↓aPre, aPost, oneW, allOne, retV, retVA, simprocAttr]
        · simp -dsimp -implicitDefEqProofs (disch := first | omega | (simp only [List.length_append, List.length_cons, List.length_nil, List.length_take, List.length_drop]; omega)) only [hs, h10, hmt, hg, hdr, hdrl, htk, rowN, tkN_d, List.length_map, ↓aPre, aPost, oneW, allOne, retV, retVA, simprocAttr]
          omega
      rw [if_neg ha] at hR
      have haI : ¬ ((t.1 : Nat) : Int) = 0 := by omega
      simp -dsimp -implicitDefEqProofs (disch := first | omega | (simp only [List.length_append, List.length_cons, List.length_nil, List.length_take, List.length_drop]; omega)) only [hs, h10, hmt, hg, hdr, hdrl, htk, haI, ↓aPre, aPost, oneW, allOne, retV, retVA, simprocAttr]
      have hs0 := hs
      refine loop_of (fun st => ∃ k : Nat, k ≤ s.2.length ∧ (∀ i, i < k → (itx s.2 i).2.2.1 ≠ t.1) ∧ st.tm 13 = .d (.c (.int .i64 k)) ∧ st.tm 10 = .d (.lst 3 (ts.map tkD)) ∧ st.tm 12 = .ptr 12 0 ∧ st.hp 12 = some (.box [.d (.c (.int .u64 t.1)), .d (.c (.int .i64 t.2.1)), .d (.c (.int .i64 t.2.2))]) ∧ st.tm 0 = .d (.c (.string (strOfNums b))) ∧ st.tm 5 = .ptr 5 0 ∧ st.hp 5 = some (.box [.d (.c (.bool big)), .d (.c (.bool large)), .d (.c (.int .u64 first))]) ∧ st.tm 2 = .d (.c (.int .i64 most)) ∧ st.tm 3 = .d (.c (.int .i64 deep)) ∧ st.tm 11 = .sl 100 5 0 s.2.length ∧ st.hp 100 = some (.row 5 (s.2.map itD))) (fun st => s.2.length - (avN (st.tm 13)).toNat) ?_ ?_
      · refine ⟨0, Nat.zero_le _, fun i hi => absurd hi (Nat.not_lt_zero _), ?_⟩
        simp -dsimp -implicitDefEqProofs (disch := first | omega | (simp only [List.length_append, List.length_cons, List.length_nil, List.length_take, List.length_drop]; omega)) only [hs, h10, hmt, hg, hdr, hdrl, htk, ↓aPre, aPost, oneW, allOne, retV, retVA, simprocAttr]
      clear hs
      rintro st2 ⟨k, hk, hno, hs⟩
      by_cases hlt : k < s.2.length
      · have hgi := it_get hlt
        have hmi := itx_mem hlt
        obtain ⟨x, hx⟩ : ∃ x, x = itx s.2 k := ⟨_, rfl⟩
        rw [← hx] at hgi hmi
        rw [itD] at hgi
        by_cases heq : x.2.2.1 = t.1
        · rw [if_pos ((hI.has t.1).2 ⟨x, hmi, heq⟩)] at hR
          have hq := hbad _ _ hR (by decide)
          simp -dsimp -implicitDefEqProofs (disch := first | omega | (simp only [List.length_append, List.length_cons, List.length_nil, List.length_take, List.length_drop]; omega)) only [hs, hlen, hgi, heq, ibeq_t, ↓aPre, aPost, oneW, allOne, retV, retVA, simprocAttr]
          exact post_le (by rw [hq]; repeat (first | exact leD.nil | exact leE.refl _ | exact leE.nil _ | refine leD.cons ?_ ?_ | refine leE.agg ?_))
        · simp -dsimp -implicitDefEqProofs (disch := first | omega | (simp only [List.length_append, List.length_cons, List.length_nil, List.length_take, List.length_drop]; omega)) only [hs, hlen, hgi, heq, ↓aPre, aPost, oneW, allOne, retV, retVA, simprocAttr]
          refine round_of ⟨k + 1, by omega, fun i hi => ?_, ?_⟩ ?_
          · by_cases e : i = k
            · rw [e, ← hx]; exact heq
            · exact hno i (by omega)
          · simp -dsimp -implicitDefEqProofs (disch := first | omega | (simp only [List.length_append, List.length_cons, List.length_nil, List.length_take, List.length_drop]; omega)) only [hs, ↓aPre, aPost, oneW, allOne, retV, retVA, simprocAttr]
          · simp -dsimp -implicitDefEqProofs (disch := first | omega | (simp only [List.length_append, List.length_cons, List.length_nil, List.length_take, List.length_drop]; omega)) only [hs, ↓aPre, aPost, oneW, allOne, retV, retVA, simprocAttr]
            omega
      have hin : t.1 ∉ s.1 := fun c => by
        obtain ⟨x, h1, h2⟩ := (hI.has t.1).1 c
        obtain ⟨i, hi, rfl⟩ := List.getElem_of_mem h1
        refine hno i (by omega) ?_
        simpa only [itx, List.getD, List.getElem?_eq_getElem hi, Option.getD_some] using h2
      rw [if_neg hin] at hR
      by_cases hm : most ≤ (s.2.length : Int)
      · rw [if_pos (.inl hm)] at hR
        have hq := hbad _ _ hR (by decide)
        simp -dsimp -implicitDefEqProofs (disch := first | omega | (simp only [List.length_append, List.length_cons, List.length_nil, List.length_take, List.length_drop]; omega)) only [hs, ↓aPre, aPost, oneW, allOne, retV, retVA, simprocAttr]
        exact post_le (by rw [hq]; repeat (first | exact leD.nil | exact leE.refl _ | exact leE.nil _ | refine leD.cons ?_ ?_ | refine leE.agg ?_))
      by_cases hdp : deep < t.2.1
      · rw [if_pos (.inr hdp)] at hR
        have hq := hbad _ _ hR (by decide)
        simp -dsimp -implicitDefEqProofs (disch := first | omega | (simp only [List.length_append, List.length_cons, List.length_nil, List.length_take, List.length_drop]; omega)) only [hs, ↓aPre, aPost, oneW, allOne, retV, retVA, simprocAttr]
        exact post_le (by rw [hq]; repeat (first | exact leD.nil | exact leE.refl _ | exact leE.nil _ | refine leD.cons ?_ ?_ | refine leE.agg ?_))
      rw [if_neg (fun c => c.elim hm hdp)] at hR
      have hrd := rread_giv b big large first t.1 (by omega) hB hTt.1
      obtain ⟨dr, hdr2⟩ : ∃ dr, dr = dirS b big large t.1 := ⟨_, rfl⟩
      have hok := dirS_ok (b := b) (big := big) (large := large) (a := t.1) hB
      have hok2 := dir_ok (b := b) (big := big) (large := large) (a := t.1) hB
      have hsml := dir_small b big large t.1
      rw [← hdr2] at hR hrd hok hok2 hsml
      obtain ⟨⟨at_, nx, fs⟩, er⟩ := dr
      dsimp only at hR hok hok2 hsml
      rw [dirE, dirD, hD] at hrd
      dsimp only at hrd
      by_cases he : er = 0
      rotate_left
      · rw [if_pos he] at hR
        have hq := hbad _ _ hR he
        simp -dsimp -implicitDefEqProofs (disch := first | omega | (simp only [List.length_append, List.length_cons, List.length_nil, List.length_take, List.length_drop]; omega)) only [hs, ↓aPre, aPost, oneW, allOne, retV, retVA, simprocAttr]
        refine call_giv hrd ?_
        simp -dsimp -implicitDefEqProofs (disch := first | omega | (simp only [List.length_append, List.length_cons, List.length_nil, List.length_take, List.length_drop]; omega)) only [hs, he, ↓aPre, aPost, oneW, allOne, retV, retVA, simprocAttr]
        exact post_le (by rw [hq]; repeat (first | exact leD.nil | exact leE.refl _ | exact leE.nil _ | refine leD.cons ?_ ?_ | refine leE.agg ?_))
      rw [if_neg (fun c => c he)] at hR
      obtain ⟨k1, k2, k3, k4⟩ := hok he
      obtain ⟨m1, w0, m2⟩ := hok2 he
      obtain ⟨nx, rfl⟩ := Int.eq_ofNat_of_zero_le k3
      obtain ⟨a, d, u⟩ := t
      dsimp only at hR hTt hin k1 k2 ha haI hm hdp hrd hs hno
      have hI1 : Inv b (s.1 ++ [a], s.2 ++ [(d, u, ((at_ : Int), (nx : Int), fs))]) := hI.snoc (dr := ((at_ : Int), (nx : Int), fs)) k1 k2 hin hTt.2 hsml
      have hd : 0 ≤ d ∧ d ≤ s.2.length := by
        rcases hTt.2 with h | ⟨v, h1, h2, h3⟩
        · have := h.1; dsimp only at this; omega
        · have := hI.dep v h2
          dsimp only at h3
          omega
      have hl1 := hI1.len.2
      dsimp only at hl1
      rw [List.length_append, List.length_cons, List.length_nil] at hl1
      have hsn := its_snoc s.2 d u ((at_ : Int), (nx : Int), fs)
      dsimp only at hsn
      obtain ⟨s1, hs1⟩ : ∃ s1 : Stt, s1 = (s.1 ++ [a], s.2 ++ [(d, u, ((at_ : Int), (nx : Int), fs))]) := ⟨_, rfl⟩
      have hs12 : s1.2 = s.2 ++ [(d, u, ((at_ : Int), (nx : Int), fs))] := by rw [hs1]
      have hl2 : s1.2.length = s.2.length + 1 := by rw [hs12]; simp
      have hlen1 := its_len s1.2
      rw [hl2] at hlen1
      rw [← hs12] at hsn
      rw [← hs1] at hR hI1
      rw [if_neg (show ¬ b.length ≤ s.2.length by omega)] at hR
      have hfl : (fs.map fldD).length = fs.length := List.length_map ..
      have hfs := hsml.1
      dsimp only at hfs
      have hvl0 := vals_len m2 (fun f hf => hsml.2 f hf)
      obtain ⟨own, hown⟩ : ∃ own, own = s.2.length := ⟨_, rfl⟩
      have i0 : ((s.2.length : Int) + 1 - 1) = (own : Int) := by omega
      rw [← hown] at hR
      simp -dsimp -implicitDefEqProofs (disch := first | omega | (simp only [List.length_append, List.length_cons, List.length_nil, List.length_take, List.length_drop]; omega)) only [hs, ↓aPre, aPost, oneW, allOne, retV, retVA, simprocAttr]
      refine call_giv hrd ?_
      simp -dsimp -implicitDefEqProofs (disch := first | omega | (simp only [List.length_append, List.length_cons, List.length_nil, List.length_take, List.length_drop]; omega)) only [hs, he, hlen, hsn, ↓aPre, aPost, oneW, allOne, retV, retVA, simprocAttr]
      refine loop_nil 16 101 3 (fun st => ∃ (F1 F2 : List Fld) (L : List D), fs = F1 ++ F2 ∧ bad F1 = false ∧ L = (tks (d + 1) own (valsB F1)).map tkD ∧ st.tm 17 = .d (.c (.int .i64 F1.length)) ∧ st.tm 16 = .sl 101 3 0 L.length ∧ st.hp 101 = some (.row 3 L) ∧ st.tm 14 = .ptr 14 0 ∧ st.hp 14 = some (.box [.d (.c (.int .u64 at_)), .d (.c (.int .u64 nx)), .d (.lst 3 (fs.map fldD))]) ∧ st.tm 10 = .d (.lst 3 (ts.map tkD)) ∧ st.tm 12 = .ptr 12 0 ∧ st.hp 12 = some (.box [.d (.c (.int .u64 a)), .d (.c (.int .i64 d)), .d (.c (.int .i64 u))]) ∧ st.tm 0 = .d (.c (.string (strOfNums b))) ∧ st.tm 5 = .ptr 5 0 ∧ st.hp 5 = some (.box [.d (.c (.bool big)), .d (.c (.bool large)), .d (.c (.int .u64 first))]) ∧ st.tm 2 = .d (.c (.int .i64 most)) ∧ st.tm 3 = .d (.c (.int .i64 deep)) ∧ st.tm 11 = .sl 100 5 0 s1.2.length ∧ st.hp 100 = some (.row 5 (s1.2.map itD))) (fun st => fs.length - (avN (st.tm 17)).toNat) ?_ (by decide) ?_ ?_
      · simp -dsimp -implicitDefEqProofs (disch := first | omega | (simp only [List.length_append, List.length_cons, List.length_nil, List.length_take, List.length_drop]; omega)) only [↓aPre, aPost, oneW, allOne, retV, retVA, simprocAttr]
      · refine ⟨[], fs, [], rfl, rfl, rfl, ?_⟩
        simp -dsimp -implicitDefEqProofs (disch := first | omega | (simp only [List.length_append, List.length_cons, List.length_nil, List.length_take, List.length_drop]; omega)) only [hs, hl2, List.length_nil, Int.natCast_zero, ↓aPre, aPost, oneW, allOne, retV, retVA, simprocAttr]
      clear hs
      rintro st3 ⟨F1, F2, L, hF, hb1, hL, hs⟩
      have hfl2 : fs.length = F1.length + F2.length := by rw [hF, List.length_append]
      cases F2 with
      | nil =>
        rw [List.append_nil] at hF
        subst hF
        rw [hb1, if_neg (by decide)] at hR
        have hLl : L.length = (valsB fs).length := by rw [hL, List.length_map, tks, List.length_map]
        obtain ⟨ts2, hts2⟩ : ∃ ts2, ts2 = tks (d + 1) own (valsB fs) ++ (nx, d, u) :: ts := ⟨_, rfl⟩
        have hts2l : ts2.length = L.length + 1 + ts.length := by rw [hts2, List.length_append, List.length_cons, hLl, tks, List.length_map]; omega
        have hrow : L ++ [D.agg [.c (.int .u64 nx), .c (.int .i64 d), .c (.int .i64 u)]] ++ ts.map tkD = ts2.map tkD := by rw [hts2, hL]; simp [tkD]
        have hts2m : (ts2.map tkD).length = ts2.length := List.length_map ..
        rw [Int.toNat_natCast, ← hts2] at hR
        simp only [List.length_cons] at htl
        have hmul : s1.2.length * 1000001 = s.2.length * 1000001 + 1000001 := by rw [hl2, Nat.succ_mul]
        have hmul2 : s.2.length * 1000001 ≤ 90000 * 1000001 := Nat.mul_le_mul_right _ (by omega)
        have hLs : (L ++ [D.agg [.c (.int .u64 nx), .c (.int .i64 d), .c (.int .i64 u)]]).length = L.length + 1 := by simp
        simp -dsimp -implicitDefEqProofs (disch := first | omega | (simp only [List.length_append, List.length_cons, List.length_nil, List.length_take, List.length_drop]; omega)) only [hs, hmt, hg, hdr, hdrl, htk, hLs, hrow, ↓aPre, aPost, oneW, allOne, retV, retVA, simprocAttr]
        refine round_of ⟨ts2, s1, hI1, ?_, hR, by omega, .inr ⟨101, 0, ts2.map tkD, .inl rfl, ?_, ?_, by rw [hts2m, Nat.zero_add], List.drop_zero⟩, ?_⟩ ?_
        · intro x hx
          rw [hts2] at hx
          have h5 : ∀ t ∈ tks (d + 1) own (valsB fs), Tok s1 t := by
            rw [hown, hs1]
            exact tks_ok (it := (d, u, ((at_ : Int), (nx : Int), fs))) (vals_in m1) rfl
          rcases List.mem_append.1 hx with q | q
          · exact h5 x q
          · rcases List.mem_cons.1 q with rfl | q
            · exact ⟨by dsimp only; omega, by rw [hs12]; exact hTt.2.app⟩
            · have := (hT x (by simp [q])).app s1.1 [(d, u, ((at_ : Int), (nx : Int), fs))]
              rw [← hs12] at this
              exact this
        · simp -dsimp -implicitDefEqProofs (disch := first | omega | (simp only [List.length_append, List.length_cons, List.length_nil, List.length_take, List.length_drop]; omega)) only [hs, hts2l, ↓aPre, aPost, oneW, allOne, retV, retVA, simprocAttr]
        · simp -dsimp -implicitDefEqProofs (disch := first | omega | (simp only [List.length_append, List.length_cons, List.length_nil, List.length_take, List.length_drop]; omega)) only [hs, ↓aPre, aPost, oneW, allOne, retV, retVA, simprocAttr]
        · simp -dsimp -implicitDefEqProofs (disch := first | omega | (simp only [List.length_append, List.length_cons, List.length_nil, List.length_take, List.length_drop]; omega)) only [hs, ↓aPre, aPost, oneW, allOne, retV, retVA, simprocAttr]
        · simp -dsimp -implicitDefEqProofs (disch := first | omega | (simp only [List.length_append, List.length_cons, List.length_nil, List.length_take, List.length_drop]; omega)) only [hs, hs0, h10, hmt, hg, hdr, hdrl, htk, rowN, tkN_sl, tkN_d, List.length_map, hl2, ↓aPre, aPost, oneW, allOne, retV, retVA, simprocAttr]
          omega
      | cons f F2 =>
        rw [List.length_cons] at hfl2
        have gf := fl_mid hF
        obtain ⟨i, hi⟩ : ∃ i, i = F1.length := ⟨_, rfl⟩
        rw [← hi] at hs gf hfl2
        have j1 : (i : Int) + 1 = ((F1 ++ [f]).length : Int) := by rw [List.length_append, List.length_cons, List.length_nil]; omega
        obtain ⟨i2, hi2⟩ : ∃ i2, i2 = (F1 ++ [f]).length := ⟨_, rfl⟩
        rw [← hi2] at j1
        by_cases h330 : f.1 = 330
        rotate_left
        · have hb2 : bad (F1 ++ [f]) = false := by rw [bad_app, hb1, bad, decide_eq_false (fun c => h330 c.1)]; rfl
          have hv2 : valsB (F1 ++ [f]) = valsB F1 := by rw [vals_app, valsB, if_neg h330]; simp [valsB]
          simp -dsimp -implicitDefEqProofs (disch := first | omega | (simp only [List.length_append, List.length_cons, List.length_nil, List.length_take, List.length_drop]; omega)) only [hs, hfl, gf, h330, j1, ↓aPre, aPost, oneW, allOne, retV, retVA, simprocAttr]
          refine round_of ⟨F1 ++ [f], F2, L, by rw [hF]; simp, hb2, by rw [hv2]; exact hL, ?_⟩ ?_
          · rw [← hi2]
            simp -dsimp -implicitDefEqProofs (disch := first | omega | (simp only [List.length_append, List.length_cons, List.length_nil, List.length_take, List.length_drop]; omega)) only [hs, ↓aPre, aPost, oneW, allOne, retV, retVA, simprocAttr]
          · simp -dsimp -implicitDefEqProofs (disch := first | omega | (simp only [List.length_append, List.length_cons, List.length_nil, List.length_take, List.length_drop]; omega)) only [hs, ↓aPre, aPost, oneW, allOne, retV, retVA, simprocAttr]
            omega
        by_cases hpt : ptrP f.2.1
        rotate_left
        · have hbd : bad fs = true := by rw [hF, bad_app, bad, decide_eq_true ⟨h330, hpt⟩, Bool.true_or, Bool.or_true]
          rw [if_pos hbd] at hR
          have hq := hbad _ _ hR (by decide)
          have p1 : ¬ f.2.1 = 4 := fun c => hpt (.inl c)
          have p2 : ¬ f.2.1 = 13 := fun c => hpt (.inr (.inl c))
          have p3 : ¬ f.2.1 = 16 := fun c => hpt (.inr (.inr (.inl c)))
          have p4 : ¬ f.2.1 = 18 := fun c => hpt (.inr (.inr (.inr c)))
          simp -dsimp -implicitDefEqProofs (disch := first | omega | (simp only [List.length_append, List.length_cons, List.length_nil, List.length_take, List.length_drop]; omega)) only [hs, hfl, gf, h330, p1, p2, p3, p4, ↓aPre, aPost, oneW, allOne, retV, retVA, simprocAttr]
          exact post_le (by rw [hq]; repeat (first | exact leD.nil | exact leE.refl _ | exact leE.nil _ | refine leD.cons ?_ ?_ | refine leE.agg ?_))
        have hb2 : bad (F1 ++ [f]) = false := by rw [bad_app, hb1, bad, decide_eq_false (fun c => c.2 hpt)]; rfl
        have hv2 : valsB (F1 ++ [f]) = valsB F1 ++ f.2.2 := by rw [vals_app, valsB, if_pos h330]; simp [valsB]
        have hvl := li_length (k := .u64) (l := f.2.2)
        have hU := m1 f (by rw [hF]; simp)
        have hvb := hsml.2 f (by rw [hF]; simp)
        have hLb : L.length + f.2.2.length ≤ 1000000 := by
          have h1 : L.length = (valsB F1).length := by rw [hL, List.length_map, tks, List.length_map]
          have h2 : (valsB fs).length = (valsB F1).length + f.2.2.length + (valsB F2).length := by
            rw [hF, vals_app, valsB, if_pos h330, List.length_append, List.length_append]; omega
          omega
        have hs00 := hs
        by_cases p4 : f.2.1 = 4
        · simp -dsimp -implicitDefEqProofs (disch := first | omega | (simp only [List.length_append, List.length_cons, List.length_nil, List.length_take, List.length_drop]; omega)) only [hs, hfl, gf, h330, p4, ↓aPre, aPost, oneW, allOne, retV, retVA, simprocAttr]
          refine loop_of (fun st => ∃ (V1 V2 : List Int) (L2 : List D), f.2.2 = V1 ++ V2 ∧ L2 = L ++ (tks (d + 1) own V1).map tkD ∧ st.tm 19 = .d (.c (.int .i64 V1.length)) ∧ st.tm 18 = .ptr 18 0 ∧ st.hp 18 = some (.box [.d (.c (.int .u16 f.1)), .d (.c (.int .i64 f.2.1)), .d (.lst 1 (li .u64 f.2.2))]) ∧ st.tm 17 = .d (.c (.int .i64 i)) ∧ st.tm 16 = .sl 101 3 0 L2.length ∧ st.hp 101 = some (.row 3 L2) ∧ st.tm 14 = .ptr 14 0 ∧ st.hp 14 = some (.box [.d (.c (.int .u64 at_)), .d (.c (.int .u64 nx)), .d (.lst 3 (fs.map fldD))]) ∧ st.tm 10 = .d (.lst 3 (ts.map tkD)) ∧ st.tm 12 = .ptr 12 0 ∧ st.hp 12 = some (.box [.d (.c (.int .u64 a)), .d (.c (.int .i64 d)), .d (.c (.int .i64 u))]) ∧ st.tm 0 = .d (.c (.string (strOfNums b))) ∧ st.tm 5 = .ptr 5 0 ∧ st.hp 5 = some (.box [.d (.c (.bool big)), .d (.c (.bool large)), .d (.c (.int .u64 first))]) ∧ st.tm 2 = .d (.c (.int .i64 most)) ∧ st.tm 3 = .d (.c (.int .i64 deep)) ∧ st.tm 11 = .sl 100 5 0 s1.2.length ∧ st.hp 100 = some (.row 5 (s1.2.map itD))) (fun st => f.2.2.length - (avN (st.tm 19)).toNat) ?_ ?_
          · refine ⟨[], f.2.2, L, rfl, by simp [tks], ?_⟩
            simp -dsimp -implicitDefEqProofs (disch := first | omega | (simp only [List.length_append, List.length_cons, List.length_nil, List.length_take, List.length_drop]; omega)) only [hs, h330, p4, List.length_nil, Int.natCast_zero, ↓aPre, aPost, oneW, allOne, retV, retVA, simprocAttr]
          clear hs
          rintro st4 ⟨V1, V2, L2, hV, hL2, hs⟩
          have hvl2 : f.2.2.length = V1.length + V2.length := by rw [hV, List.length_append]
          cases V2 with
          | nil =>
            rw [List.append_nil] at hV
            rw [List.length_nil, Nat.add_zero] at hvl2
            rw [← hvl2] at hs
            simp -dsimp -implicitDefEqProofs (disch := first | omega | (simp only [List.length_append, List.length_cons, List.length_nil, List.length_take, List.length_drop]; omega)) only [hs, hvl, j1, ↓aPre, aPost, oneW, allOne, retV, retVA, simprocAttr]
            refine round_of ⟨F1 ++ [f], F2, L2, by rw [hF]; simp, hb2, by rw [hL2, hL, hv2, tks_app, List.map_append, hV], ?_⟩ ?_
            · rw [← hi2]
              simp -dsimp -implicitDefEqProofs (disch := first | omega | (simp only [List.length_append, List.length_cons, List.length_nil, List.length_take, List.length_drop]; omega)) only [hs, ↓aPre, aPost, oneW, allOne, retV, retVA, simprocAttr]
            · simp -dsimp -implicitDefEqProofs (disch := first | omega | (simp only [List.length_append, List.length_cons, List.length_nil, List.length_take, List.length_drop]; omega)) only [hs, hs00, ↓aPre, aPost, oneW, allOne, retV, retVA, simprocAttr]
              omega
          | cons v V2 =>
            rw [List.length_cons] at hvl2
            have hv := hU v (by rw [hV]; simp)
            obtain ⟨v, rfl⟩ := Int.eq_ofNat_of_zero_le hv.1
            have gv : f.2.2.getD V1.length 0 = (v : Int) := by rw [hV]; simp [List.getD]
            have hL2l : L2.length = L.length + V1.length := by rw [hL2, List.length_append, List.length_map, tks, List.length_map]
            have hap : L2 ++ [D.agg [.c (.int .u64 v), .c (.int .i64 (d + 1)), .c (.int .i64 own)]] = L ++ (tks (d + 1) own (V1 ++ [(v : Int)])).map tkD := by rw [hL2, tks_app, List.map_append, ← List.append_assoc]; rfl
            obtain ⟨j, hj⟩ : ∃ j, j = V1.length := ⟨_, rfl⟩
            rw [← hj] at hs gv hvl2 hL2l
            have j2 : (j : Int) + 1 = ((V1 ++ [(v : Int)]).length : Int) := by rw [List.length_append, List.length_cons, List.length_nil]; omega
            obtain ⟨j3, hj3⟩ : ∃ j3, j3 = (V1 ++ [(v : Int)]).length := ⟨_, rfl⟩
            have hj4 : j3 = j + 1 := by rw [hj3, List.length_append, hj]; rfl
            rw [← hj3] at j2
            have hLa : (L2 ++ [D.agg [.c (.int .u64 v), .c (.int .i64 (d + 1)), .c (.int .i64 own)]]).length = L2.length + 1 := by simp
            simp -dsimp -implicitDefEqProofs (disch := first | omega | (simp only [List.length_append, List.length_cons, List.length_nil, List.length_take, List.length_drop]; omega)) only [hs, hvl, gv, j2, hlen1, hl2, i0, ↓aPre, aPost, oneW, allOne, retV, retVA, simprocAttr]
            refine round_of ⟨V1 ++ [(v : Int)], V2, L2 ++ [D.agg [.c (.int .u64 v), .c (.int .i64 (d + 1)), .c (.int .i64 own)]], by rw [hV]; simp, hap, ?_⟩ ?_
            · rw [← hj3, hLa]
              simp -dsimp -implicitDefEqProofs (disch := first | omega | (simp only [List.length_append, List.length_cons, List.length_nil, List.length_take, List.length_drop]; omega)) only [hs, h330, p4, ↓aPre, aPost, oneW, allOne, retV, retVA, simprocAttr]
            · simp -dsimp -implicitDefEqProofs (disch := first | omega | (simp only [List.length_append, List.length_cons, List.length_nil, List.length_take, List.length_drop]; omega)) only [hs, ↓aPre, aPost, oneW, allOne, retV, retVA, simprocAttr]
              omega
        by_cases p13 : f.2.1 = 13
        · simp -dsimp -implicitDefEqProofs (disch := first | omega | (simp only [List.length_append, List.length_cons, List.length_nil, List.length_take, List.length_drop]; omega)) only [hs, hfl, gf, h330, p13, ↓aPre, aPost, oneW, allOne, retV, retVA, simprocAttr]
          refine loop_of (fun st => ∃ (V1 V2 : List Int) (L2 : List D), f.2.2 = V1 ++ V2 ∧ L2 = L ++ (tks (d + 1) own V1).map tkD ∧ st.tm 19 = .d (.c (.int .i64 V1.length)) ∧ st.tm 18 = .ptr 18 0 ∧ st.hp 18 = some (.box [.d (.c (.int .u16 f.1)), .d (.c (.int .i64 f.2.1)), .d (.lst 1 (li .u64 f.2.2))]) ∧ st.tm 17 = .d (.c (.int .i64 i)) ∧ st.tm 16 = .sl 101 3 0 L2.length ∧ st.hp 101 = some (.row 3 L2) ∧ st.tm 14 = .ptr 14 0 ∧ st.hp 14 = some (.box [.d (.c (.int .u64 at_)), .d (.c (.int .u64 nx)), .d (.lst 3 (fs.map fldD))]) ∧ st.tm 10 = .d (.lst 3 (ts.map tkD)) ∧ st.tm 12 = .ptr 12 0 ∧ st.hp 12 = some (.box [.d (.c (.int .u64 a)), .d (.c (.int .i64 d)), .d (.c (.int .i64 u))]) ∧ st.tm 0 = .d (.c (.string (strOfNums b))) ∧ st.tm 5 = .ptr 5 0 ∧ st.hp 5 = some (.box [.d (.c (.bool big)), .d (.c (.bool large)), .d (.c (.int .u64 first))]) ∧ st.tm 2 = .d (.c (.int .i64 most)) ∧ st.tm 3 = .d (.c (.int .i64 deep)) ∧ st.tm 11 = .sl 100 5 0 s1.2.length ∧ st.hp 100 = some (.row 5 (s1.2.map itD))) (fun st => f.2.2.length - (avN (st.tm 19)).toNat) ?_ ?_
          · refine ⟨[], f.2.2, L, rfl, by simp [tks], ?_⟩
            simp -dsimp -implicitDefEqProofs (disch := first | omega | (simp only [List.length_append, List.length_cons, List.length_nil, List.length_take, List.length_drop]; omega)) only [hs, h330, p13, List.length_nil, Int.natCast_zero, ↓aPre, aPost, oneW, allOne, retV, retVA, simprocAttr]
          clear hs
          rintro st4 ⟨V1, V2, L2, hV, hL2, hs⟩
          have hvl2 : f.2.2.length = V1.length + V2.length := by rw [hV, List.length_append]
          cases V2 with
          | nil =>
            rw [List.append_nil] at hV
            rw [List.length_nil, Nat.add_zero] at hvl2
            rw [← hvl2] at hs
            simp -dsimp -implicitDefEqProofs (disch := first | omega | (simp only [List.length_append, List.length_cons, List.length_nil, List.length_take, List.length_drop]; omega)) only [hs, hvl, j1, ↓aPre, aPost, oneW, allOne, retV, retVA, simprocAttr]
            refine round_of ⟨F1 ++ [f], F2, L2, by rw [hF]; simp, hb2, by rw [hL2, hL, hv2, tks_app, List.map_append, hV], ?_⟩ ?_
            · rw [← hi2]
              simp -dsimp -implicitDefEqProofs (disch := first | omega | (simp only [List.length_append, List.length_cons, List.length_nil, List.length_take, List.length_drop]; omega)) only [hs, ↓aPre, aPost, oneW, allOne, retV, retVA, simprocAttr]
            · simp -dsimp -implicitDefEqProofs (disch := first | omega | (simp only [List.length_append, List.length_cons, List.length_nil, List.length_take, List.length_drop]; omega)) only [hs, hs00, ↓aPre, aPost, oneW, allOne, retV, retVA, simprocAttr]
              omega
          | cons v V2 =>
            rw [List.length_cons] at hvl2
            have hv := hU v (by rw [hV]; simp)
            obtain ⟨v, rfl⟩ := Int.eq_ofNat_of_zero_le hv.1
            have gv : f.2.2.getD V1.length 0 = (v : Int) := by rw [hV]; simp [List.getD]
            have hL2l : L2.length = L.length + V1.length := by rw [hL2, List.length_append, List.length_map, tks, List.length_map]
            have hap : L2 ++ [D.agg [.c (.int .u64 v), .c (.int .i64 (d + 1)), .c (.int .i64 own)]] = L ++ (tks (d + 1) own (V1 ++ [(v : Int)])).map tkD := by rw [hL2, tks_app, List.map_append, ← List.append_assoc]; rfl
            obtain ⟨j, hj⟩ : ∃ j, j = V1.length := ⟨_, rfl⟩
            rw [← hj] at hs gv hvl2 hL2l
            have j2 : (j : Int) + 1 = ((V1 ++ [(v : Int)]).length : Int) := by rw [List.length_append, List.length_cons, List.length_nil]; omega
            obtain ⟨j3, hj3⟩ : ∃ j3, j3 = (V1 ++ [(v : Int)]).length := ⟨_, rfl⟩
            have hj4 : j3 = j + 1 := by rw [hj3, List.length_append, hj]; rfl
            rw [← hj3] at j2
            have hLa : (L2 ++ [D.agg [.c (.int .u64 v), .c (.int .i64 (d + 1)), .c (.int .i64 own)]]).length = L2.length + 1 := by simp
            simp -dsimp -implicitDefEqProofs (disch := first | omega | (simp only [List.length_append, List.length_cons, List.length_nil, List.length_take, List.length_drop]; omega)) only [hs, hvl, gv, j2, hlen1, hl2, i0, ↓aPre, aPost, oneW, allOne, retV, retVA, simprocAttr]
            refine round_of ⟨V1 ++ [(v : Int)], V2, L2 ++ [D.agg [.c (.int .u64 v), .c (.int .i64 (d + 1)), .c (.int .i64 own)]], by rw [hV]; simp, hap, ?_⟩ ?_
            · rw [← hj3, hLa]
              simp -dsimp -implicitDefEqProofs (disch := first | omega | (simp only [List.length_append, List.length_cons, List.length_nil, List.length_take, List.length_drop]; omega)) only [hs, h330, p13, ↓aPre, aPost, oneW, allOne, retV, retVA, simprocAttr]
            · simp -dsimp -implicitDefEqProofs (disch := first | omega | (simp only [List.length_append, List.length_cons, List.length_nil, List.length_take, List.length_drop]; omega)) only [hs, ↓aPre, aPost, oneW, allOne, retV, retVA, simprocAttr]
              omega
        by_cases p16 : f.2.1 = 16
        · simp -dsimp -implicitDefEqProofs (disch := first | omega | (simp only [List.length_append, List.length_cons, List.length_nil, List.length_take, List.length_drop]; omega)) only [hs, hfl, gf, h330, p16, ↓aPre, aPost, oneW, allOne, retV, retVA, simprocAttr]
          refine loop_of (fun st => ∃ (V1 V2 : List Int) (L2 : List D), f.2.2 = V1 ++ V2 ∧ L2 = L ++ (tks (d + 1) own V1).map tkD ∧ st.tm 19 = .d (.c (.int .i64 V1.length)) ∧ st.tm 18 = .ptr 18 0 ∧ st.hp 18 = some (.box [.d (.c (.int .u16 f.1)), .d (.c (.int .i64 f.2.1)), .d (.lst 1 (li .u64 f.2.2))]) ∧ st.tm 17 = .d (.c (.int .i64 i)) ∧ st.tm 16 = .sl 101 3 0 L2.length ∧ st.hp 101 = some (.row 3 L2) ∧ st.tm 14 = .ptr 14 0 ∧ st.hp 14 = some (.box [.d (.c (.int .u64 at_)), .d (.c (.int .u64 nx)), .d (.lst 3 (fs.map fldD))]) ∧ st.tm 10 = .d (.lst 3 (ts.map tkD)) ∧ st.tm 12 = .ptr 12 0 ∧ st.hp 12 = some (.box [.d (.c (.int .u64 a)), .d (.c (.int .i64 d)), .d (.c (.int .i64 u))]) ∧ st.tm 0 = .d (.c (.string (strOfNums b))) ∧ st.tm 5 = .ptr 5 0 ∧ st.hp 5 = some (.box [.d (.c (.bool big)), .d (.c (.bool large)), .d (.c (.int .u64 first))]) ∧ st.tm 2 = .d (.c (.int .i64 most)) ∧ st.tm 3 = .d (.c (.int .i64 deep)) ∧ st.tm 11 = .sl 100 5 0 s1.2.length ∧ st.hp 100 = some (.row 5 (s1.2.map itD))) (fun st => f.2.2.length - (avN (st.tm 19)).toNat) ?_ ?_
          · refine ⟨[], f.2.2, L, rfl, by simp [tks], ?_⟩
            simp -dsimp -implicitDefEqProofs (disch := first | omega | (simp only [List.length_append, List.length_cons, List.length_nil, List.length_take, List.length_drop]; omega)) only [hs, h330, p16, List.length_nil, Int.natCast_zero, ↓aPre, aPost, oneW, allOne, retV, retVA, simprocAttr]
          clear hs
          rintro st4 ⟨V1, V2, L2, hV, hL2, hs⟩
          have hvl2 : f.2.2.length = V1.length + V2.length := by rw [hV, List.length_append]
          cases V2 with
          | nil =>
            rw [List.append_nil] at hV
            rw [List.length_nil, Nat.add_zero] at hvl2
            rw [← hvl2] at hs
            simp -dsimp -implicitDefEqProofs (disch := first | omega | (simp only [List.length_append, List.length_cons, List.length_nil, List.length_take, List.length_drop]; omega)) only [hs, hvl, j1, ↓aPre, aPost, oneW, allOne, retV, retVA, simprocAttr]
            refine round_of ⟨F1 ++ [f], F2, L2, by rw [hF]; simp, hb2, by rw [hL2, hL, hv2, tks_app, List.map_append, hV], ?_⟩ ?_
            · rw [← hi2]
              simp -dsimp -implicitDefEqProofs (disch := first | omega | (simp only [List.length_append, List.length_cons, List.length_nil, List.length_take, List.length_drop]; omega)) only [hs, ↓aPre, aPost, oneW, allOne, retV, retVA, simprocAttr]
            · simp -dsimp -implicitDefEqProofs (disch := first | omega | (simp only [List.length_append, List.length_cons, List.length_nil, List.length_take, List.length_drop]; omega)) only [hs, hs00, ↓aPre, aPost, oneW, allOne, retV, retVA, simprocAttr]
              omega
          | cons v V2 =>
            rw [List.length_cons] at hvl2
            have hv := hU v (by rw [hV]; simp)
            obtain ⟨v, rfl⟩ := Int.eq_ofNat_of_zero_le hv.1
            have gv : f.2.2.getD V1.length 0 = (v : Int) := by rw [hV]; simp [List.getD]
            have hL2l : L2.length = L.length + V1.length := by rw [hL2, List.length_append, List.length_map, tks, List.length_map]
            have hap : L2 ++ [D.agg [.c (.int .u64 v), .c (.int .i64 (d + 1)), .c (.int .i64 own)]] = L ++ (tks (d + 1) own (V1 ++ [(v : Int)])).map tkD := by rw [hL2, tks_app, List.map_append, ← List.append_assoc]; rfl
            obtain ⟨j, hj⟩ : ∃ j, j = V1.length := ⟨_, rfl⟩
            rw [← hj] at hs gv hvl2 hL2l
            have j2 : (j : Int) + 1 = ((V1 ++ [(v : Int)]).length : Int) := by rw [List.length_append, List.length_cons, List.length_nil]; omega
            obtain ⟨j3, hj3⟩ : ∃ j3, j3 = (V1 ++ [(v : Int)]).length := ⟨_, rfl⟩
            have hj4 : j3 = j + 1 := by rw [hj3, List.length_append, hj]; rfl
            rw [← hj3] at j2
            have hLa : (L2 ++ [D.agg [.c (.int .u64 v), .c (.int .i64 (d + 1)), .c (.int .i64 own)]]).length = L2.length + 1 := by simp
            simp -dsimp -implicitDefEqProofs (disch := first | omega | (simp only [List.length_append, List.length_cons, List.length_nil, List.length_take, List.length_drop]; omega)) only [hs, hvl, gv, j2, hlen1, hl2, i0, ↓aPre, aPost, oneW, allOne, retV, retVA, simprocAttr]
            refine round_of ⟨V1 ++ [(v : Int)], V2, L2 ++ [D.agg [.c (.int .u64 v), .c (.int .i64 (d + 1)), .c (.int .i64 own)]], by rw [hV]; simp, hap, ?_⟩ ?_
            · rw [← hj3, hLa]
              simp -dsimp -implicitDefEqProofs (disch := first | omega | (simp only [List.length_append, List.length_cons, List.length_nil, List.length_take, List.length_drop]; omega)) only [hs, h330, p16, ↓aPre, aPost, oneW, allOne, retV, retVA, simprocAttr]
            · simp -dsimp -implicitDefEqProofs (disch := first | omega | (simp only [List.length_append, List.length_cons, List.length_nil, List.length_take, List.length_drop]; omega)) only [hs, ↓aPre, aPost, oneW, allOne, retV, retVA, simprocAttr]
              omega
        by_cases p18 : f.2.1 = 18
        · simp -dsimp -implicitDefEqProofs (disch := first | omega | (simp only [List.length_append, List.length_cons, List.length_nil, List.length_take, List.length_drop]; omega)) only [hs, hfl, gf, h330, p18, ↓aPre, aPost, oneW, allOne, retV, retVA, simprocAttr]
          refine loop_of (fun st => ∃ (V1 V2 : List Int) (L2 : List D), f.2.2 = V1 ++ V2 ∧ L2 = L ++ (tks (d + 1) own V1).map tkD ∧ st.tm 19 = .d (.c (.int .i64 V1.length)) ∧ st.tm 18 = .ptr 18 0 ∧ st.hp 18 = some (.box [.d (.c (.int .u16 f.1)), .d (.c (.int .i64 f.2.1)), .d (.lst 1 (li .u64 f.2.2))]) ∧ st.tm 17 = .d (.c (.int .i64 i)) ∧ st.tm 16 = .sl 101 3 0 L2.length ∧ st.hp 101 = some (.row 3 L2) ∧ st.tm 14 = .ptr 14 0 ∧ st.hp 14 = some (.box [.d (.c (.int .u64 at_)), .d (.c (.int .u64 nx)), .d (.lst 3 (fs.map fldD))]) ∧ st.tm 10 = .d (.lst 3 (ts.map tkD)) ∧ st.tm 12 = .ptr 12 0 ∧ st.hp 12 = some (.box [.d (.c (.int .u64 a)), .d (.c (.int .i64 d)), .d (.c (.int .i64 u))]) ∧ st.tm 0 = .d (.c (.string (strOfNums b))) ∧ st.tm 5 = .ptr 5 0 ∧ st.hp 5 = some (.box [.d (.c (.bool big)), .d (.c (.bool large)), .d (.c (.int .u64 first))]) ∧ st.tm 2 = .d (.c (.int .i64 most)) ∧ st.tm 3 = .d (.c (.int .i64 deep)) ∧ st.tm 11 = .sl 100 5 0 s1.2.length ∧ st.hp 100 = some (.row 5 (s1.2.map itD))) (fun st => f.2.2.length - (avN (st.tm 19)).toNat) ?_ ?_
          · refine ⟨[], f.2.2, L, rfl, by simp [tks], ?_⟩
            simp -dsimp -implicitDefEqProofs (disch := first | omega | (simp only [List.length_append, List.length_cons, List.length_nil, List.length_take, List.length_drop]; omega)) only [hs, h330, p18, List.length_nil, Int.natCast_zero, ↓aPre, aPost, oneW, allOne, retV, retVA, simprocAttr]
          clear hs
          rintro st4 ⟨V1, V2, L2, hV, hL2, hs⟩
          have hvl2 : f.2.2.length = V1.length + V2.length := by rw [hV, List.length_append]
          cases V2 with
          | nil =>
            rw [List.append_nil] at hV
            rw [List.length_nil, Nat.add_zero] at hvl2
            rw [← hvl2] at hs
            simp -dsimp -implicitDefEqProofs (disch := first | omega | (simp only [List.length_append, List.length_cons, List.length_nil, List.length_take, List.length_drop]; omega)) only [hs, hvl, j1, ↓aPre, aPost, oneW, allOne, retV, retVA, simprocAttr]
            refine round_of ⟨F1 ++ [f], F2, L2, by rw [hF]; simp, hb2, by rw [hL2, hL, hv2, tks_app, List.map_append, hV], ?_⟩ ?_
            · rw [← hi2]
              simp -dsimp -implicitDefEqProofs (disch := first | omega | (simp only [List.length_append, List.length_cons, List.length_nil, List.length_take, List.length_drop]; omega)) only [hs, ↓aPre, aPost, oneW, allOne, retV, retVA, simprocAttr]
            · simp -dsimp -implicitDefEqProofs (disch := first | omega | (simp only [List.length_append, List.length_cons, List.length_nil, List.length_take, List.length_drop]; omega)) only [hs, hs00, ↓aPre, aPost, oneW, allOne, retV, retVA, simprocAttr]
              omega
          | cons v V2 =>
            rw [List.length_cons] at hvl2
            have hv := hU v (by rw [hV]; simp)
            obtain ⟨v, rfl⟩ := Int.eq_ofNat_of_zero_le hv.1
            have gv : f.2.2.getD V1.length 0 = (v : Int) := by rw [hV]; simp [List.getD]
            have hL2l : L2.length = L.length + V1.length := by rw [hL2, List.length_append, List.length_map, tks, List.length_map]
            have hap : L2 ++ [D.agg [.c (.int .u64 v), .c (.int .i64 (d + 1)), .c (.int .i64 own)]] = L ++ (tks (d + 1) own (V1 ++ [(v : Int)])).map tkD := by rw [hL2, tks_app, List.map_append, ← List.append_assoc]; rfl
            obtain ⟨j, hj⟩ : ∃ j, j = V1.length := ⟨_, rfl⟩
            rw [← hj] at hs gv hvl2 hL2l
            have j2 : (j : Int) + 1 = ((V1 ++ [(v : Int)]).length : Int) := by rw [List.length_append, List.length_cons, List.length_nil]; omega
            obtain ⟨j3, hj3⟩ : ∃ j3, j3 = (V1 ++ [(v : Int)]).length := ⟨_, rfl⟩
            have hj4 : j3 = j + 1 := by rw [hj3, List.length_append, hj]; rfl
            rw [← hj3] at j2
            have hLa : (L2 ++ [D.agg [.c (.int .u64 v), .c (.int .i64 (d + 1)), .c (.int .i64 own)]]).length = L2.length + 1 := by simp
            simp -dsimp -implicitDefEqProofs (disch := first | omega | (simp only [List.length_append, List.length_cons, List.length_nil, List.length_take, List.length_drop]; omega)) only [hs, hvl, gv, j2, hlen1, hl2, i0, ↓aPre, aPost, oneW, allOne, retV, retVA, simprocAttr]
            refine round_of ⟨V1 ++ [(v : Int)], V2, L2 ++ [D.agg [.c (.int .u64 v), .c (.int .i64 (d + 1)), .c (.int .i64 own)]], by rw [hV]; simp, hap, ?_⟩ ?_
            · rw [← hj3, hLa]
              simp -dsimp -implicitDefEqProofs (disch := first | omega | (simp only [List.length_append, List.length_cons, List.length_nil, List.length_take, List.length_drop]; omega)) only [hs, h330, p18, ↓aPre, aPost, oneW, allOne, retV, retVA, simprocAttr]
            · simp -dsimp -implicitDefEqProofs (disch := first | omega | (simp only [List.length_append, List.length_cons, List.length_nil, List.length_take, List.length_drop]; omega)) only [hs, ↓aPre, aPost, oneW, allOne, retV, retVA, simprocAttr]
              omega
        · exact absurd hpt (fun c => c.elim p4 fun c => c.elim p13 fun c => c.elim p16 p18)
  ·
    cases ts with
    | nil =>
      rw [W_nil] at hR
      rw [hR, if_pos rfl] at hQ
      simp -dsimp -implicitDefEqProofs (disch := first | omega | (simp only [List.length_append, List.length_cons, List.length_nil, List.length_take, List.length_drop]; omega)) only [hs, h10, h11, ↓aPre, aPost, oneW, allOne, retV, retVA, simprocAttr]
      refine post_eq ?_
      subst hQ
      first | rfl | rw [List.take_of_length_le (by rw [hlen]; exact Nat.le_refl _)]
    | cons t ts =>
      rw [List.length_cons] at hRl h10
      have hoff : off < RT.length := by omega
      have hn1 : ((ts.length : Int) + 1).toNat - 1 = ts.length := by omega
      have hg : RT.getD off default = .agg [.c (.int .u64 t.1), .c (.int .i64 t.2.1), .c (.int .i64 t.2.2)] := by
        have := congrArg (fun x => x.getD 0 default) hRd
        simp only [List.getD, List.getElem?_drop, List.map_cons, List.getElem?_cons_zero, Option.getD_some, Nat.add_zero] at this
        simpa only [List.getD, tkD] using this
      have hd1 : RT.drop (off + 1) = ts.map tkD := by
        have := congrArg (List.drop 1) hRd
        rwa [List.drop_drop, List.map_cons, List.drop_succ_cons, List.drop_zero] at this
      have hdrl : (ts.map tkD).length = ts.length := List.length_map ..
      have htk : (RT.drop (off + 1)).take ts.length = ts.map tkD := by rw [hd1, List.take_of_length_le (by rw [hdrl]; exact Nat.le_refl _)]
      have hTt := hT t (by simp)
      rw [W_eq] at hR
      by_cases ha : t.1 = 0
      · rw [if_pos ha] at hR
        have haI : ((t.1 : Nat) : Int) = 0 := by omega
        simp -dsimp -implicitDefEqProofs (disch := first | omega | (simp only [List.length_append, List.length_cons, List.length_nil, List.length_take, List.length_drop]; omega)) only [hs, h10, h11, hRl, hg, hd1, hdrl, htk, hn1, haI, ibeq_t, ↓aPre, aPost, oneW, allOne, retV, retVA, simprocAttr]
        refine round_of ⟨ts, s, hI, fun x hx => hT x (by simp [hx]), hR, by simp only [List.length_cons] at htl; omega, .inr ⟨101, off + 1, RT, .inl rfl, ?_, ?_, by omega, hd1⟩, ?_⟩ ?_
        · simp -dsimp -implicitDefEqProofs (disch := first | omega | (simp only [List.length_append, List.length_cons, List.length_nil, List.length_take, List.length_drop]; omega)) only [hs, h10, h11, hRl, hg, hd1, hdrl, htk, hn1, ↓aPre, aPost, oneW, allOne, retV, retVA, simprocAttr]
        · simp -dsimp -implicitDefEqProofs (disch := first | omega | (simp only [List.length_append, List.length_cons, List.length_nil, List.length_take, List.length_drop]; omega)) only [hs, h10, h11, hRl, hg, hd1, hdrl, htk, hn1, ↓aPre, aPost, oneW, allOne, retV, retVA, simprocAttr]
        · simp -dsimp -implicitDefEqProofs (disch := first | omega | (simp only [List.length_append, List.length_cons, List.length_nil, List.length_take, List.length_drop]; omega)) only [hs, h10, h11, hRl, hg, hd1, hdrl, htk, hn1, ↓aPre, aPost, oneW, allOne, retV, retVA, simprocAttr]
        · simp -dsimp -implicitDefEqProofs (disch := first | omega | (simp only [List.length_append, List.length_cons, List.length_nil, List.length_take, List.length_drop]; omega)) only [hs, h10, h11, hRl, hg, hd1, hdrl, htk, hn1, rowN, tkN_sl, List.length_map, ↓aPre, aPost, oneW, allOne, retV, retVA, simprocAttr]
          omega
      rw [if_neg ha] at hR
      have haI : ¬ ((t.1 : Nat) : Int) = 0 := by omega
      simp -dsimp -implicitDefEqProofs (disch := first | omega | (simp only [List.length_append, List.length_cons, List.length_nil, List.length_take, List.length_drop]; omega)) only [hs, h10, h11, hRl, hg, hd1, hdrl, htk, hn1, haI, ↓aPre, aPost, oneW, allOne, retV, retVA, simprocAttr]
      have hs0 := hs
      refine loop_of (fun st => ∃ k : Nat, k ≤ s.2.length ∧ (∀ i, i < k → (itx s.2 i).2.2.1 ≠ t.1) ∧ st.tm 13 = .d (.c (.int .i64 k)) ∧ st.tm 10 = .sl 101 3 (off + 1) ts.length ∧ st.hp 101 = some (.row 3 RT) ∧ st.tm 12 = .ptr 12 0 ∧ st.hp 12 = some (.box [.d (.c (.int .u64 t.1)), .d (.c (.int .i64 t.2.1)), .d (.c (.int .i64 t.2.2))]) ∧ st.tm 0 = .d (.c (.string (strOfNums b))) ∧ st.tm 5 = .ptr 5 0 ∧ st.hp 5 = some (.box [.d (.c (.bool big)), .d (.c (.bool large)), .d (.c (.int .u64 first))]) ∧ st.tm 2 = .d (.c (.int .i64 most)) ∧ st.tm 3 = .d (.c (.int .i64 deep)) ∧ st.tm 11 = .sl 100 5 0 s.2.length ∧ st.hp 100 = some (.row 5 (s.2.map itD))) (fun st => s.2.length - (avN (st.tm 13)).toNat) ?_ ?_
      · refine ⟨0, Nat.zero_le _, fun i hi => absurd hi (Nat.not_lt_zero _), ?_⟩
        simp -dsimp -implicitDefEqProofs (disch := first | omega | (simp only [List.length_append, List.length_cons, List.length_nil, List.length_take, List.length_drop]; omega)) only [hs, h10, h11, hRl, hg, hd1, hdrl, htk, hn1, ↓aPre, aPost, oneW, allOne, retV, retVA, simprocAttr]
      clear hs
      rintro st2 ⟨k, hk, hno, hs⟩
      by_cases hlt : k < s.2.length
      · have hgi := it_get hlt
        have hmi := itx_mem hlt
        obtain ⟨x, hx⟩ : ∃ x, x = itx s.2 k := ⟨_, rfl⟩
        rw [← hx] at hgi hmi
        rw [itD] at hgi
        by_cases heq : x.2.2.1 = t.1
        · rw [if_pos ((hI.has t.1).2 ⟨x, hmi, heq⟩)] at hR
          have hq := hbad _ _ hR (by decide)
          simp -dsimp -implicitDefEqProofs (disch := first | omega | (simp only [List.length_append, List.length_cons, List.length_nil, List.length_take, List.length_drop]; omega)) only [hs, hlen, hgi, heq, ibeq_t, ↓aPre, aPost, oneW, allOne, retV, retVA, simprocAttr]
          exact post_le (by rw [hq]; repeat (first | exact leD.nil | exact leE.refl _ | exact leE.nil _ | refine leD.cons ?_ ?_ | refine leE.agg ?_))
        · simp -dsimp -implicitDefEqProofs (disch := first | omega | (simp only [List.length_append, List.length_cons, List.length_nil, List.length_take, List.length_drop]; omega)) only [hs, hlen, hgi, heq, ↓aPre, aPost, oneW, allOne, retV, retVA, simprocAttr]
          refine round_of ⟨k + 1, by omega, fun i hi => ?_, ?_⟩ ?_
          · by_cases e : i = k
            · rw [e, ← hx]; exact heq
            · exact hno i (by omega)
          · simp -dsimp -implicitDefEqProofs (disch := first | omega | (simp only [List.length_append, List.length_cons, List.length_nil, List.length_take, List.length_drop]; omega)) only [hs, ↓aPre, aPost, oneW, allOne, retV, retVA, simprocAttr]
          · simp -dsimp -implicitDefEqProofs (disch := first | omega | (simp only [List.length_append, List.length_cons, List.length_nil, List.length_take, List.length_drop]; omega)) only [hs, ↓aPre, aPost, oneW, allOne, retV, retVA, simprocAttr]
            omega
      have hin : t.1 ∉ s.1 := fun c => by
        obtain ⟨x, h1, h2⟩ := (hI.has t.1).1 c
        obtain ⟨i, hi, rfl⟩ := List.getElem_of_mem h1
        refine hno i (by omega) ?_
        simpa only [itx, List.getD, List.getElem?_eq_getElem hi, Option.getD_some] using h2
      rw [if_neg hin] at hR
      by_cases hm : most ≤ (s.2.length : Int)
      · rw [if_pos (.inl hm)] at hR
        have hq := hbad _ _ hR (by decide)
        simp -dsimp -implicitDefEqProofs (disch := first | omega | (simp only [List.length_append, List.length_cons, List.length_nil, List.length_take, List.length_drop]; omega)) only [hs, ↓aPre, aPost, oneW, allOne, retV, retVA, simprocAttr]
        exact post_le (by rw [hq]; repeat (first | exact leD.nil | exact leE.refl _ | exact leE.nil _ | refine leD.cons ?_ ?_ | refine leE.agg ?_))
      by_cases hdp : deep < t.2.1
      · rw [if_pos (.inr hdp)] at hR
        have hq := hbad _ _ hR (by decide)
        simp -dsimp -implicitDefEqProofs (disch := first | omega | (simp only [List.length_append, List.length_cons, List.length_nil, List.length_take, List.length_drop]; omega)) only [hs, ↓aPre, aPost, oneW, allOne, retV, retVA, simprocAttr]
        exact post_le (by rw [hq]; repeat (first | exact leD.nil | exact leE.refl _ | exact leE.nil _ | refine leD.cons ?_ ?_ | refine leE.agg ?_))
      rw [if_neg (fun c => c.elim hm hdp)] at hR
      have hrd := rread_giv b big large first t.1 (by omega) hB hTt.1
      obtain ⟨dr, hdr2⟩ : ∃ dr, dr = dirS b big large t.1 := ⟨_, rfl⟩
      have hok := dirS_ok (b := b) (big := big) (large := large) (a := t.1) hB
      have hok2 := dir_ok (b := b) (big := big) (large := large) (a := t.1) hB
      have hsml := dir_small b big large t.1
      rw [← hdr2] at hR hrd hok hok2 hsml
      obtain ⟨⟨at_, nx, fs⟩, er⟩ := dr
      dsimp only at hR hok hok2 hsml
      rw [dirE, dirD, hD] at hrd
      dsimp only at hrd
      by_cases he : er = 0
      rotate_left
      · rw [if_pos he] at hR
        have hq := hbad _ _ hR he
        simp -dsimp -implicitDefEqProofs (disch := first | omega | (simp only [List.length_append, List.length_cons, List.length_nil, List.length_take, List.length_drop]; omega)) only [hs, ↓aPre, aPost, oneW, allOne, retV, retVA, simprocAttr]
        refine call_giv hrd ?_
        simp -dsimp -implicitDefEqProofs (disch := first | omega | (simp only [List.length_append, List.length_cons, List.length_nil, List.length_take, List.length_drop]; omega)) only [hs, he, ↓aPre, aPost, oneW, allOne, retV, retVA, simprocAttr]
        exact post_le (by rw [hq]; repeat (first | exact leD.nil | exact leE.refl _ | exact leE.nil _ | refine leD.cons ?_ ?_ | refine leE.agg ?_))
      rw [if_neg (fun c => c he)] at hR
      obtain ⟨k1, k2, k3, k4⟩ := hok he
      obtain ⟨m1, w0, m2⟩ := hok2 he
      obtain ⟨nx, rfl⟩ := Int.eq_ofNat_of_zero_le k3
      obtain ⟨a, d, u⟩ := t
      dsimp only at hR hTt hin k1 k2 ha haI hm hdp hrd hs hno
      have hI1 : Inv b (s.1 ++ [a], s.2 ++ [(d, u, ((at_ : Int), (nx : Int), fs))]) := hI.snoc (dr := ((at_ : Int), (nx : Int), fs)) k1 k2 hin hTt.2 hsml
      have hd : 0 ≤ d ∧ d ≤ s.2.length := by
        rcases hTt.2 with h | ⟨v, h1, h2, h3⟩
        · have := h.1; dsimp only at this; omega
        · have := hI.dep v h2
          dsimp only at h3
          omega
      have hl1 := hI1.len.2
      dsimp only at hl1
      rw [List.length_append, List.length_cons, List.length_nil] at hl1
      have hsn := its_snoc s.2 d u ((at_ : Int), (nx : Int), fs)
      dsimp only at hsn
      obtain ⟨s1, hs1⟩ : ∃ s1 : Stt, s1 = (s.1 ++ [a], s.2 ++ [(d, u, ((at_ : Int), (nx : Int), fs))]) := ⟨_, rfl⟩
      have hs12 : s1.2 = s.2 ++ [(d, u, ((at_ : Int), (nx : Int), fs))] := by rw [hs1]
      have hl2 : s1.2.length = s.2.length + 1 := by rw [hs12]; simp
      have hlen1 := its_len s1.2
      rw [hl2] at hlen1
      rw [← hs12] at hsn
      rw [← hs1] at hR hI1
      rw [if_neg (show ¬ b.length ≤ s.2.length by omega)] at hR
      have hfl : (fs.map fldD).length = fs.length := List.length_map ..
      have hfs := hsml.1
      dsimp only at hfs
      have hvl0 := vals_len m2 (fun f hf => hsml.2 f hf)
      obtain ⟨own, hown⟩ : ∃ own, own = s.2.length := ⟨_, rfl⟩
      have i0 : ((s.2.length : Int) + 1 - 1) = (own : Int) := by omega
      rw [← hown] at hR
      simp -dsimp -implicitDefEqProofs (disch := first | omega | (simp only [List.length_append, List.length_cons, List.length_nil, List.length_take, List.length_drop]; omega)) only [hs, ↓aPre, aPost, oneW, allOne, retV, retVA, simprocAttr]
      refine call_giv hrd ?_
      simp -dsimp -implicitDefEqProofs (disch := first | omega | (simp only [List.length_append, List.length_cons, List.length_nil, List.length_take, List.length_drop]; omega)) only [hs, he, hlen, hsn, ↓aPre, aPost, oneW, allOne, retV, retVA, simprocAttr]
      refine loop_nil 16 102 3 (fun st => ∃ (F1 F2 : List Fld) (L : List D), fs = F1 ++ F2 ∧ bad F1 = false ∧ L = (tks (d + 1) own (valsB F1)).map tkD ∧ st.tm 17 = .d (.c (.int .i64 F1.length)) ∧ st.tm 16 = .sl 102 3 0 L.length ∧ st.hp 102 = some (.row 3 L) ∧ st.tm 14 = .ptr 14 0 ∧ st.hp 14 = some (.box [.d (.c (.int .u64 at_)), .d (.c (.int .u64 nx)), .d (.lst 3 (fs.map fldD))]) ∧ st.tm 10 = .sl 101 3 (off + 1) ts.length ∧ st.hp 101 = some (.row 3 RT) ∧ st.tm 12 = .ptr 12 0 ∧ st.hp 12 = some (.box [.d (.c (.int .u64 a)), .d (.c (.int .i64 d)), .d (.c (.int .i64 u))]) ∧ st.tm 0 = .d (.c (.string (strOfNums b))) ∧ st.tm 5 = .ptr 5 0 ∧ st.hp 5 = some (.box [.d (.c (.bool big)), .d (.c (.bool large)), .d (.c (.int .u64 first))]) ∧ st.tm 2 = .d (.c (.int .i64 most)) ∧ st.tm 3 = .d (.c (.int .i64 deep)) ∧ st.tm 11 = .sl 100 5 0 s1.2.length ∧ st.hp 100 = some (.row 5 (s1.2.map itD))) (fun st => fs.length - (avN (st.tm 17)).toNat) ?_ (by decide) ?_ ?_
      · simp -dsimp -implicitDefEqProofs (disch := first | omega | (simp only [List.length_append, List.length_cons, List.length_nil, List.length_take, List.length_drop]; omega)) only [↓aPre, aPost, oneW, allOne, retV, retVA, simprocAttr]
      · refine ⟨[], fs, [], rfl, rfl, rfl, ?_⟩
        simp -dsimp -implicitDefEqProofs (disch := first | omega | (simp only [List.length_append, List.length_cons, List.length_nil, List.length_take, List.length_drop]; omega)) only [hs, hl2, List.length_nil, Int.natCast_zero, ↓aPre, aPost, oneW, allOne, retV, retVA, simprocAttr]
      clear hs
      rintro st3 ⟨F1, F2, L, hF, hb1, hL, hs⟩
      have hfl2 : fs.length = F1.length + F2.length := by rw [hF, List.length_append]
      cases F2 with
      | nil =>
        rw [List.append_nil] at hF
        subst hF
        rw [hb1, if_neg (by decide)] at hR
        have hLl : L.length = (valsB fs).length := by rw [hL, List.length_map, tks, List.length_map]
        obtain ⟨ts2, hts2⟩ : ∃ ts2, ts2 = tks (d + 1) own (valsB fs) ++ (nx, d, u) :: ts := ⟨_, rfl⟩
        have hts2l : ts2.length = L.length + 1 + ts.length := by rw [hts2, List.length_append, List.length_cons, hLl, tks, List.length_map]; omega
        have hrow : L ++ [D.agg [.c (.int .u64 nx), .c (.int .i64 d), .c (.int .i64 u)]] ++ ts.map tkD = ts2.map tkD := by rw [hts2, hL]; simp [tkD]
        have hts2m : (ts2.map tkD).length = ts2.length := List.length_map ..
        rw [Int.toNat_natCast, ← hts2] at hR
        simp only [List.length_cons] at htl
        have hmul : s1.2.length * 1000001 = s.2.length * 1000001 + 1000001 := by rw [hl2, Nat.succ_mul]
        have hmul2 : s.2.length * 1000001 ≤ 90000 * 1000001 := Nat.mul_le_mul_right _ (by omega)
        have hLs : (L ++ [D.agg [.c (.int .u64 nx), .c (.int .i64 d), .c (.int .i64 u)]]).length = L.length + 1 := by simp
        simp -dsimp -implicitDefEqProofs (disch := first | omega | (simp only [List.length_append, List.length_cons, List.length_nil, List.length_take, List.length_drop]; omega)) only [hs, hRl, hg, hd1, hdrl, htk, hn1, hLs, hrow, ↓aPre, aPost, oneW, allOne, retV, retVA, simprocAttr]
        refine round_of ⟨ts2, s1, hI1, ?_, hR, by omega, .inr ⟨102, 0, ts2.map tkD, .inr rfl, ?_, ?_, by rw [hts2m, Nat.zero_add], List.drop_zero⟩, ?_⟩ ?_
        · intro x hx
          rw [hts2] at hx
          have h5 : ∀ t ∈ tks (d + 1) own (valsB fs), Tok s1 t := by
            rw [hown, hs1]
            exact tks_ok (it := (d, u, ((at_ : Int), (nx : Int), fs))) (vals_in m1) rfl
          rcases List.mem_append.1 hx with q | q
          · exact h5 x q
          · rcases List.mem_cons.1 q with rfl | q
            · exact ⟨by dsimp only; omega, by rw [hs12]; exact hTt.2.app⟩
            · have := (hT x (by simp [q])).app s1.1 [(d, u, ((at_ : Int), (nx : Int), fs))]
              rw [← hs12] at this
              exact this
        · simp -dsimp -implicitDefEqProofs (disch := first | omega | (simp only [List.length_append, List.length_cons, List.length_nil, List.length_take, List.length_drop]; omega)) only [hs, hts2l, ↓aPre, aPost, oneW, allOne, retV, retVA, simprocAttr]
        · simp -dsimp -implicitDefEqProofs (disch := first | omega | (simp only [List.length_append, List.length_cons, List.length_nil, List.length_take, List.length_drop]; omega)) only [hs, ↓aPre, aPost, oneW, allOne, retV, retVA, simprocAttr]
        · simp -dsimp -implicitDefEqProofs (disch := first | omega | (simp only [List.length_append, List.length_cons, List.length_nil, List.length_take, List.length_drop]; omega)) only [hs, ↓aPre, aPost, oneW, allOne, retV, retVA, simprocAttr]
        · simp -dsimp -implicitDefEqProofs (disch := first | omega | (simp only [List.length_append, List.length_cons, List.length_nil, List.length_take, List.length_drop]; omega)) only [hs, hs0, h10, h11, hRl, hg, hd1, hdrl, htk, hn1, rowN, tkN_sl, tkN_d, List.length_map, hl2, ↓aPre, aPost, oneW, allOne, retV, retVA, simprocAttr]
          omega
      | cons f F2 =>
        rw [List.length_cons] at hfl2
        have gf := fl_mid hF
        obtain ⟨i, hi⟩ : ∃ i, i = F1.length := ⟨_, rfl⟩
        rw [← hi] at hs gf hfl2
        have j1 : (i : Int) + 1 = ((F1 ++ [f]).length : Int) := by rw [List.length_append, List.length_cons, List.length_nil]; omega
        obtain ⟨i2, hi2⟩ : ∃ i2, i2 = (F1 ++ [f]).length := ⟨_, rfl⟩
        rw [← hi2] at j1
        by_cases h330 : f.1 = 330
        rotate_left
        · have hb2 : bad (F1 ++ [f]) = false := by rw [bad_app, hb1, bad, decide_eq_false (fun c => h330 c.1)]; rfl
          have hv2 : valsB (F1 ++ [f]) = valsB F1 := by rw [vals_app, valsB, if_neg h330]; simp [valsB]
          simp -dsimp -implicitDefEqProofs (disch := first | omega | (simp only [List.length_append, List.length_cons, List.length_nil, List.length_take, List.length_drop]; omega)) only [hs, hfl, gf, h330, j1, ↓aPre, aPost, oneW, allOne, retV, retVA, simprocAttr]
          refine round_of ⟨F1 ++ [f], F2, L, by rw [hF]; simp, hb2, by rw [hv2]; exact hL, ?_⟩ ?_
          · rw [← hi2]
            simp -dsimp -implicitDefEqProofs (disch := first | omega | (simp only [List.length_append, List.length_cons, List.length_nil, List.length_take, List.length_drop]; omega)) only [hs, ↓aPre, aPost, oneW, allOne, retV, retVA, simprocAttr]
          · simp -dsimp -implicitDefEqProofs (disch := first | omega | (simp only [List.length_append, List.length_cons, List.length_nil, List.length_take, List.length_drop]; omega)) only [hs, ↓aPre, aPost, oneW, allOne, retV, retVA, simprocAttr]
            omega
        by_cases hpt : ptrP f.2.1
        rotate_left
        · have hbd : bad fs = true := by rw [hF, bad_app, bad, decide_eq_true ⟨h330, hpt⟩, Bool.true_or, Bool.or_true]
          rw [if_pos hbd] at hR
          have hq := hbad _ _ hR (by decide)
          have p1 : ¬ f.2.1 = 4 := fun c => hpt (.inl c)
          have p2 : ¬ f.2.1 = 13 := fun c => hpt (.inr (.inl c))
          have p3 : ¬ f.2.1 = 16 := fun c => hpt (.inr (.inr (.inl c)))
          have p4 : ¬ f.2.1 = 18 := fun c => hpt (.inr (.inr (.inr c)))
          simp -dsimp -implicitDefEqProofs (disch := first | omega | (simp only [List.length_append, List.length_cons, List.length_nil, List.length_take, List.length_drop]; omega)) only [hs, hfl, gf, h330, p1, p2, p3, p4, ↓aPre, aPost, oneW, allOne, retV, retVA, simprocAttr]
          exact post_le (by rw [hq]; repeat (first | exact leD.nil | exact leE.refl _ | exact leE.nil _ | refine leD.cons ?_ ?_ | refine leE.agg ?_))
        have hb2 : bad (F1 ++ [f]) = false := by rw [bad_app, hb1, bad, decide_eq_false (fun c => c.2 hpt)]; rfl
        have hv2 : valsB (F1 ++ [f]) = valsB F1 ++ f.2.2 := by rw [vals_app, valsB, if_pos h330]; simp [valsB]
        have hvl := li_length (k := .u64) (l := f.2.2)
        have hU := m1 f (by rw [hF]; simp)
        have hvb := hsml.2 f (by rw [hF]; simp)
        have hLb : L.length + f.2.2.length ≤ 1000000 := by
          have h1 : L.length = (valsB F1).length := by rw [hL, List.length_map, tks, List.length_map]
          have h2 : (valsB fs).length = (valsB F1).length + f.2.2.length + (valsB F2).length := by
            rw [hF, vals_app, valsB, if_pos h330, List.length_append, List.length_append]; omega
          omega
        have hs00 := hs
        by_cases p4 : f.2.1 = 4
        · simp -dsimp -implicitDefEqProofs (disch := first | omega | (simp only [List.length_append, List.length_cons, List.length_nil, List.length_take, List.length_drop]; omega)) only [hs, hfl, gf, h330, p4, ↓aPre, aPost, oneW, allOne, retV, retVA, simprocAttr]
          refine loop_of (fun st => ∃ (V1 V2 : List Int) (L2 : List D), f.2.2 = V1 ++ V2 ∧ L2 = L ++ (tks (d + 1) own V1).map tkD ∧ st.tm 19 = .d (.c (.int .i64 V1.length)) ∧ st.tm 18 = .ptr 18 0 ∧ st.hp 18 = some (.box [.d (.c (.int .u16 f.1)), .d (.c (.int .i64 f.2.1)), .d (.lst 1 (li .u64 f.2.2))]) ∧ st.tm 17 = .d (.c (.int .i64 i)) ∧ st.tm 16 = .sl 102 3 0 L2.length ∧ st.hp 102 = some (.row 3 L2) ∧ st.tm 14 = .ptr 14 0 ∧ st.hp 14 = some (.box [.d (.c (.int .u64 at_)), .d (.c (.int .u64 nx)), .d (.lst 3 (fs.map fldD))]) ∧ st.tm 10 = .sl 101 3 (off + 1) ts.length ∧ st.hp 101 = some (.row 3 RT) ∧ st.tm 12 = .ptr 12 0 ∧ st.hp 12 = some (.box [.d (.c (.int .u64 a)), .d (.c (.int .i64 d)), .d (.c (.int .i64 u))]) ∧ st.tm 0 = .d (.c (.string (strOfNums b))) ∧ st.tm 5 = .ptr 5 0 ∧ st.hp 5 = some (.box [.d (.c (.bool big)), .d (.c (.bool large)), .d (.c (.int .u64 first))]) ∧ st.tm 2 = .d (.c (.int .i64 most)) ∧ st.tm 3 = .d (.c (.int .i64 deep)) ∧ st.tm 11 = .sl 100 5 0 s1.2.length ∧ st.hp 100 = some (.row 5 (s1.2.map itD))) (fun st => f.2.2.length - (avN (st.tm 19)).toNat) ?_ ?_
          · refine ⟨[], f.2.2, L, rfl, by simp [tks], ?_⟩
            simp -dsimp -implicitDefEqProofs (disch := first | omega | (simp only [List.length_append, List.length_cons, List.length_nil, List.length_take, List.length_drop]; omega)) only [hs, h330, p4, List.length_nil, Int.natCast_zero, ↓aPre, aPost, oneW, allOne, retV, retVA, simprocAttr]
          clear hs
          rintro st4 ⟨V1, V2, L2, hV, hL2, hs⟩
          have hvl2 : f.2.2.length = V1.length + V2.length := by rw [hV, List.length_append]
          cases V2 with
          | nil =>
            rw [List.append_nil] at hV
            rw [List.length_nil, Nat.add_zero] at hvl2
            rw [← hvl2] at hs
            simp -dsimp -implicitDefEqProofs (disch := first | omega | (simp only [List.length_append, List.length_cons, List.length_nil, List.length_take, List.length_drop]; omega)) only [hs, hvl, j1, ↓aPre, aPost, oneW, allOne, retV, retVA, simprocAttr]
            refine round_of ⟨F1 ++ [f], F2, L2, by rw [hF]; simp, hb2, by rw [hL2, hL, hv2, tks_app, List.map_append, hV], ?_⟩ ?_
            · rw [← hi2]
              simp -dsimp -implicitDefEqProofs (disch := first | omega | (simp only [List.length_append, List.length_cons, List.length_nil, List.length_take, List.length_drop]; omega)) only [hs, ↓aPre, aPost, oneW, allOne, retV, retVA, simprocAttr]
            · simp -dsimp -implicitDefEqProofs (disch := first | omega | (simp only [List.length_append, List.length_cons, List.length_nil, List.length_take, List.length_drop]; omega)) only [hs, hs00, ↓aPre, aPost, oneW, allOne, retV, retVA, simprocAttr]
              omega
          | cons v V2 =>
            rw [List.length_cons] at hvl2
            have hv := hU v (by rw [hV]; simp)
            obtain ⟨v, rfl⟩ := Int.eq_ofNat_of_zero_le hv.1
            have gv : f.2.2.getD V1.length 0 = (v : Int) := by rw [hV]; simp [List.getD]
            have hL2l : L2.length = L.length + V1.length := by rw [hL2, List.length_append, List.length_map, tks, List.length_map]
            have hap : L2 ++ [D.agg [.c (.int .u64 v), .c (.int .i64 (d + 1)), .c (.int .i64 own)]] = L ++ (tks (d + 1) own (V1 ++ [(v : Int)])).map tkD := by rw [hL2, tks_app, List.map_append, ← List.append_assoc]; rfl
            obtain ⟨j, hj⟩ : ∃ j, j = V1.length := ⟨_, rfl⟩
            rw [← hj] at hs gv hvl2 hL2l
            have j2 : (j : Int) + 1 = ((V1 ++ [(v : Int)]).length : Int) := by rw [List.length_append, List.length_cons, List.length_nil]; omega
            obtain ⟨j3, hj3⟩ : ∃ j3, j3 = (V1 ++ [(v : Int)]).length := ⟨_, rfl⟩
            have hj4 : j3 = j + 1 := by rw [hj3, List.length_append, hj]; rfl
            rw [← hj3] at j2
            have hLa : (L2 ++ [D.agg [.c (.int .u64 v), .c (.int .i64 (d + 1)), .c (.int .i64 own)]]).length = L2.length + 1 := by simp
            simp -dsimp -implicitDefEqProofs (disch := first | omega | (simp only [List.length_append, List.length_cons, List.length_nil, List.length_take, List.length_drop]; omega)) only [hs, hvl, gv, j2, hlen1, hl2, i0, ↓aPre, aPost, oneW, allOne, retV, retVA, simprocAttr]
            refine round_of ⟨V1 ++ [(v : Int)], V2, L2 ++ [D.agg [.c (.int .u64 v), .c (.int .i64 (d + 1)), .c (.int .i64 own)]], by rw [hV]; simp, hap, ?_⟩ ?_
            · rw [← hj3, hLa]
              simp -dsimp -implicitDefEqProofs (disch := first | omega | (simp only [List.length_append, List.length_cons, List.length_nil, List.length_take, List.length_drop]; omega)) only [hs, h330, p4, ↓aPre, aPost, oneW, allOne, retV, retVA, simprocAttr]
            · simp -dsimp -implicitDefEqProofs (disch := first | omega | (simp only [List.length_append, List.length_cons, List.length_nil, List.length_take, List.length_drop]; omega)) only [hs, ↓aPre, aPost, oneW, allOne, retV, retVA, simprocAttr]
              omega
        by_cases p13 : f.2.1 = 13
        · simp -dsimp -implicitDefEqProofs (disch := first | omega | (simp only [List.length_append, List.length_cons, List.length_nil, List.length_take, List.length_drop]; omega)) only [hs, hfl, gf, h330, p13, ↓aPre, aPost, oneW, allOne, retV, retVA, simprocAttr]
          refine loop_of (fun st => ∃ (V1 V2 : List Int) (L2 : List D), f.2.2 = V1 ++ V2 ∧ L2 = L ++ (tks (d + 1) own V1).map tkD ∧ st.tm 19 = .d (.c (.int .i64 V1.length)) ∧ st.tm 18 = .ptr 18 0 ∧ st.hp 18 = some (.box [.d (.c (.int .u16 f.1)), .d (.c (.int .i64 f.2.1)), .d (.lst 1 (li .u64 f.2.2))]) ∧ st.tm 17 = .d (.c (.int .i64 i)) ∧ st.tm 16 = .sl 102 3 0 L2.length ∧ st.hp 102 = some (.row 3 L2) ∧ st.tm 14 = .ptr 14 0 ∧ st.hp 14 = some (.box [.d (.c (.int .u64 at_)), .d (.c (.int .u64 nx)), .d (.lst 3 (fs.map fldD))]) ∧ st.tm 10 = .sl 101 3 (off + 1) ts.length ∧ st.hp 101 = some (.row 3 RT) ∧ st.tm 12 = .ptr 12 0 ∧ st.hp 12 = some (.box [.d (.c (.int .u64 a)), .d (.c (.int .i64 d)), .d (.c (.int .i64 u))]) ∧ st.tm 0 = .d (.c (.string (strOfNums b))) ∧ st.tm 5 = .ptr 5 0 ∧ st.hp 5 = some (.box [.d (.c (.bool big)), .d (.c (.bool large)), .d (.c (.int .u64 first))]) ∧ st.tm 2 = .d (.c (.int .i64 most)) ∧ st.tm 3 = .d (.c (.int .i64 deep)) ∧ st.tm 11 = .sl 100 5 0 s1.2.length ∧ st.hp 100 = some (.row 5 (s1.2.map itD))) (fun st => f.2.2.length - (avN (st.tm 19)).toNat) ?_ ?_
          · refine ⟨[], f.2.2, L, rfl, by simp [tks], ?_⟩
            simp -dsimp -implicitDefEqProofs (disch := first | omega | (simp only [List.length_append, List.length_cons, List.length_nil, List.length_take, List.length_drop]; omega)) only [hs, h330, p13, List.length_nil, Int.natCast_zero, ↓aPre, aPost, oneW, allOne, retV, retVA, simprocAttr]
          clear hs
          rintro st4 ⟨V1, V2, L2, hV, hL2, hs⟩
          have hvl2 : f.2.2.length = V1.length + V2.length := by rw [hV, List.length_append]
          cases V2 with
          | nil =>
            rw [List.append_nil] at hV
            rw [List.length_nil, Nat.add_zero] at hvl2
            rw [← hvl2] at hs
            simp -dsimp -implicitDefEqProofs (disch := first | omega | (simp only [List.length_append, List.length_cons, List.length_nil, List.length_take, List.length_drop]; omega)) only [hs, hvl, j1, ↓aPre, aPost, oneW, allOne, retV, retVA, simprocAttr]
            refine round_of ⟨F1 ++ [f], F2, L2, by rw [hF]; simp, hb2, by rw [hL2, hL, hv2, tks_app, List.map_append, hV], ?_⟩ ?_
            · rw [← hi2]
              simp -dsimp -implicitDefEqProofs (disch := first | omega | (simp only [List.length_append, List.length_cons, List.length_nil, List.length_take, List.length_drop]; omega)) only [hs, ↓aPre, aPost, oneW, allOne, retV, retVA, simprocAttr]
            · simp -dsimp -implicitDefEqProofs (disch := first | omega | (simp only [List.length_append, List.length_cons, List.length_nil, List.length_take, List.length_drop]; omega)) only [hs, hs00, ↓aPre, aPost, oneW, allOne, retV, retVA, simprocAttr]
              omega
          | cons v V2 =>
            rw [List.length_cons] at hvl2
            have hv := hU v (by rw [hV]; simp)
            obtain ⟨v, rfl⟩ := Int.eq_ofNat_of_zero_le hv.1
            have gv : f.2.2.getD V1.length 0 = (v : Int) := by rw [hV]; simp [List.getD]
            have hL2l : L2.length = L.length + V1.length := by rw [hL2, List.length_append, List.length_map, tks, List.length_map]
            have hap : L2 ++ [D.agg [.c (.int .u64 v), .c (.int .i64 (d + 1)), .c (.int .i64 own)]] = L ++ (tks (d + 1) own (V1 ++ [(v : Int)])).map tkD := by rw [hL2, tks_app, List.map_append, ← List.append_assoc]; rfl
            obtain ⟨j, hj⟩ : ∃ j, j = V1.length := ⟨_, rfl⟩
            rw [← hj] at hs gv hvl2 hL2l
            have j2 : (j : Int) + 1 = ((V1 ++ [(v : Int)]).length : Int) := by rw [List.length_append, List.length_cons, List.length_nil]; omega
            obtain ⟨j3, hj3⟩ : ∃ j3, j3 = (V1 ++ [(v : Int)]).length := ⟨_, rfl⟩
            have hj4 : j3 = j + 1 := by rw [hj3, List.length_append, hj]; rfl
            rw [← hj3] at j2
            have hLa : (L2 ++ [D.agg [.c (.int .u64 v), .c (.int .i64 (d + 1)), .c (.int .i64 own)]]).length = L2.length + 1 := by simp
            simp -dsimp -implicitDefEqProofs (disch := first | omega | (simp only [List.length_append, List.length_cons, List.length_nil, List.length_take, List.length_drop]; omega)) only [hs, hvl, gv, j2, hlen1, hl2, i0, ↓aPre, aPost, oneW, allOne, retV, retVA, simprocAttr]
            refine round_of ⟨V1 ++ [(v : Int)], V2, L2 ++ [D.agg [.c (.int .u64 v), .c (.int .i64 (d + 1)), .c (.int .i64 own)]], by rw [hV]; simp, hap, ?_⟩ ?_
            · rw [← hj3, hLa]
              simp -dsimp -implicitDefEqProofs (disch := first | omega | (simp only [List.length_append, List.length_cons, List.length_nil, List.length_take, List.length_drop]; omega)) only [hs, h330, p13, ↓aPre, aPost, oneW, allOne, retV, retVA, simprocAttr]
            · simp -dsimp -implicitDefEqProofs (disch := first | omega | (simp only [List.length_append, List.length_cons, List.length_nil, List.length_take, List.length_drop]; omega)) only [hs, ↓aPre, aPost, oneW, allOne, retV, retVA, simprocAttr]
              omega
        by_cases p16 : f.2.1 = 16
        · simp -dsimp -implicitDefEqProofs (disch := first | omega | (simp only [List.length_append, List.length_cons, List.length_nil, List.length_take, List.length_drop]; omega)) only [hs, hfl, gf, h330, p16, ↓aPre, aPost, oneW, allOne, retV, retVA, simprocAttr]
          refine loop_of (fun st => ∃ (V1 V2 : List Int) (L2 : List D), f.2.2 = V1 ++ V2 ∧ L2 = L ++ (tks (d + 1) own V1).map tkD ∧ st.tm 19 = .d (.c (.int .i64 V1.length)) ∧ st.tm 18 = .ptr 18 0 ∧ st.hp 18 = some (.box [.d (.c (.int .u16 f.1)), .d (.c (.int .i64 f.2.1)), .d (.lst 1 (li .u64 f.2.2))]) ∧ st.tm 17 = .d (.c (.int .i64 i)) ∧ st.tm 16 = .sl 102 3 0 L2.length ∧ st.hp 102 = some (.row 3 L2) ∧ st.tm 14 = .ptr 14 0 ∧ st.hp 14 = some (.box [.d (.c (.int .u64 at_)), .d (.c (.int .u64 nx)), .d (.lst 3 (fs.map fldD))]) ∧ st.tm 10 = .sl 101 3 (off + 1) ts.length ∧ st.hp 101 = some (.row 3 RT) ∧ st.tm 12 = .ptr 12 0 ∧ st.hp 12 = some (.box [.d (.c (.int .u64 a)), .d (.c (.int .i64 d)), .d (.c (.int .i64 u))]) ∧ st.tm 0 = .d (.c (.string (strOfNums b))) ∧ st.tm 5 = .ptr 5 0 ∧ st.hp 5 = some (.box [.d (.c (.bool big)), .d (.c (.bool large)), .d (.c (.int .u64 first))]) ∧ st.tm 2 = .d (.c (.int .i64 most)) ∧ st.tm 3 = .d (.c (.int .i64 deep)) ∧ st.tm 11 = .sl 100 5 0 s1.2.length ∧ st.hp 100 = some (.row 5 (s1.2.map itD))) (fun st => f.2.2.length - (avN (st.tm 19)).toNat) ?_ ?_
          · refine ⟨[], f.2.2, L, rfl, by simp [tks], ?_⟩
            simp -dsimp -implicitDefEqProofs (disch := first | omega | (simp only [List.length_append, List.length_cons, List.length_nil, List.length_take, List.length_drop]; omega)) only [hs, h330, p16, List.length_nil, Int.natCast_zero, ↓aPre, aPost, oneW, allOne, retV, retVA, simprocAttr]
          clear hs
          rintro st4 ⟨V1, V2, L2, hV, hL2, hs⟩
          have hvl2 : f.2.2.length = V1.length + V2.length := by rw [hV, List.length_append]
          cases V2 with
          | nil =>
            rw [List.append_nil] at hV
            rw [List.length_nil, Nat.add_zero] at hvl2
            rw [← hvl2] at hs
            simp -dsimp -implicitDefEqProofs (disch := first | omega | (simp only [List.length_append, List.length_cons, List.length_nil, List.length_take, List.length_drop]; omega)) only [hs, hvl, j1, ↓aPre, aPost, oneW, allOne, retV, retVA, simprocAttr]
            refine round_of ⟨F1 ++ [f], F2, L2, by rw [hF]; simp, hb2, by rw [hL2, hL, hv2, tks_app, List.map_append, hV], ?_⟩ ?_
            · rw [← hi2]
              simp -dsimp -implicitDefEqProofs (disch := first | omega | (simp only [List.length_append, List.length_cons, List.length_nil, List.length_take, List.length_drop]; omega)) only [hs, ↓aPre, aPost, oneW, allOne, retV, retVA, simprocAttr]
            · simp -dsimp -implicitDefEqProofs (disch := first | omega | (simp only [List.length_append, List.length_cons, List.length_nil, List.length_take, List.length_drop]; omega)) only [hs, hs00, ↓aPre, aPost, oneW, allOne, retV, retVA, simprocAttr]
              omega
          | cons v V2 =>
            rw [List.length_cons] at hvl2
            have hv := hU v (by rw [hV]; simp)
            obtain ⟨v, rfl⟩ := Int.eq_ofNat_of_zero_le hv.1
            have gv : f.2.2.getD V1.length 0 = (v : Int) := by rw [hV]; simp [List.getD]
            have hL2l : L2.length = L.length + V1.length := by rw [hL2, List.length_append, List.length_map, tks, List.length_map]
            have hap : L2 ++ [D.agg [.c (.int .u64 v), .c (.int .i64 (d + 1)), .c (.int .i64 own)]] = L ++ (tks (d + 1) own (V1 ++ [(v : Int)])).map tkD := by rw [hL2, tks_app, List.map_append, ← List.append_assoc]; rfl
            obtain ⟨j, hj⟩ : ∃ j, j = V1.length := ⟨_, rfl⟩
            rw [← hj] at hs gv hvl2 hL2l
            have j2 : (j : Int) + 1 = ((V1 ++ [(v : Int)]).length : Int) := by rw [List.length_append, List.length_cons, List.length_nil]; omega
            obtain ⟨j3, hj3⟩ : ∃ j3, j3 = (V1 ++ [(v : Int)]).length := ⟨_, rfl⟩
            have hj4 : j3 = j + 1 := by rw [hj3, List.length_append, hj]; rfl
            rw [← hj3] at j2
            have hLa : (L2 ++ [D.agg [.c (.int .u64 v), .c (.int .i64 (d + 1)), .c (.int .i64 own)]]).length = L2.length + 1 := by simp
            simp -dsimp -implicitDefEqProofs (disch := first | omega | (simp only [List.length_append, List.length_cons, List.length_nil, List.length_take, List.length_drop]; omega)) only [hs, hvl, gv, j2, hlen1, hl2, i0, ↓aPre, aPost, oneW, allOne, retV, retVA, simprocAttr]
            refine round_of ⟨V1 ++ [(v : Int)], V2, L2 ++ [D.agg [.c (.int .u64 v), .c (.int .i64 (d + 1)), .c (.int .i64 own)]], by rw [hV]; simp, hap, ?_⟩ ?_
            · rw [← hj3, hLa]
              simp -dsimp -implicitDefEqProofs (disch := first | omega | (simp only [List.length_append, List.length_cons, List.length_nil, List.length_take, List.length_drop]; omega)) only [hs, h330, p16, ↓aPre, aPost, oneW, allOne, retV, retVA, simprocAttr]
            · simp -dsimp -implicitDefEqProofs (disch := first | omega | (simp only [List.length_append, List.length_cons, List.length_nil, List.length_take, List.length_drop]; omega)) only [hs, ↓aPre, aPost, oneW, allOne, retV, retVA, simprocAttr]
              omega
        by_cases p18 : f.2.1 = 18
        · simp -dsimp -implicitDefEqProofs (disch := first | omega | (simp only [List.length_append, List.length_cons, List.length_nil, List.length_take, List.length_drop]; omega)) only [hs, hfl, gf, h330, p18, ↓aPre, aPost, oneW, allOne, retV, retVA, simprocAttr]
          refine loop_of (fun st => ∃ (V1 V2 : List Int) (L2 : List D), f.2.2 = V1 ++ V2 ∧ L2 = L ++ (tks (d + 1) own V1).map tkD ∧ st.tm 19 = .d (.c (.int .i64 V1.length)) ∧ st.tm 18 = .ptr 18 0 ∧ st.hp 18 = some (.box [.d (.c (.int .u16 f.1)), .d (.c (.int .i64 f.2.1)), .d (.lst 1 (li .u64 f.2.2))]) ∧ st.tm 17 = .d (.c (.int .i64 i)) ∧ st.tm 16 = .sl 102 3 0 L2.length ∧ st.hp 102 = some (.row 3 L2) ∧ st.tm 14 = .ptr 14 0 ∧ st.hp 14 = some (.box [.d (.c (.int .u64 at_)), .d (.c (.int .u64 nx)), .d (.lst 3 (fs.map fldD))]) ∧ st.tm 10 = .sl 101 3 (off + 1) ts.length ∧ st.hp 101 = some (.row 3 RT) ∧ st.tm 12 = .ptr 12 0 ∧ st.hp 12 = some (.box [.d (.c (.int .u64 a)), .d (.c (.int .i64 d)), .d (.c (.int .i64 u))]) ∧ st.tm 0 = .d (.c (.string (strOfNums b))) ∧ st.tm 5 = .ptr 5 0 ∧ st.hp 5 = some (.box [.d (.c (.bool big)), .d (.c (.bool large)), .d (.c (.int .u64 first))]) ∧ st.tm 2 = .d (.c (.int .i64 most)) ∧ st.tm 3 = .d (.c (.int .i64 deep)) ∧ st.tm 11 = .sl 100 5 0 s1.2.length ∧ st.hp 100 = some (.row 5 (s1.2.map itD))) (fun st => f.2.2.length - (avN (st.tm 19)).toNat) ?_ ?_
          · refine ⟨[], f.2.2, L, rfl, by simp [tks], ?_⟩
            simp -dsimp -implicitDefEqProofs (disch := first | omega | (simp only [List.length_append, List.length_cons, List.length_nil, List.length_take, List.length_drop]; omega)) only [hs, h330, p18, List.length_nil, Int.natCast_zero, ↓aPre, aPost, oneW, allOne, retV, retVA, simprocAttr]
          clear hs
          rintro st4 ⟨V1, V2, L2, hV, hL2, hs⟩
          have hvl2 : f.2.2.length = V1.length + V2.length := by rw [hV, List.length_append]
          cases V2 with
          | nil =>
            rw [List.append_nil] at hV
            rw [List.length_nil, Nat.add_zero] at hvl2
            rw [← hvl2] at hs
            simp -dsimp -implicitDefEqProofs (disch := first | omega | (simp only [List.length_append, List.length_cons, List.length_nil, List.length_take, List.length_drop]; omega)) only [hs, hvl, j1, ↓aPre, aPost, oneW, allOne, retV, retVA, simprocAttr]
            refine round_of ⟨F1 ++ [f], F2, L2, by rw [hF]; simp, hb2, by rw [hL2, hL, hv2, tks_app, List.map_append, hV], ?_⟩ ?_
            · rw [← hi2]
              simp -dsimp -implicitDefEqProofs (disch := first | omega | (simp only [List.length_append, List.length_cons, List.length_nil, List.length_take, List.length_drop]; omega)) only [hs, ↓aPre, aPost, oneW, allOne, retV, retVA, simprocAttr]
            · simp -dsimp -implicitDefEqProofs (disch := first | omega | (simp only [List.length_append, List.length_cons, List.length_nil, List.length_take, List.length_drop]; omega)) only [hs, hs00, ↓aPre, aPost, oneW, allOne, retV, retVA, simprocAttr]
              omega
          | cons v V2 =>
            rw [List.length_cons] at hvl2
            have hv := hU v (by rw [hV]; simp)
            obtain ⟨v, rfl⟩ := Int.eq_ofNat_of_zero_le hv.1
            have gv : f.2.2.getD V1.length 0 = (v : Int) := by rw [hV]; simp [List.getD]
            have hL2l : L2.length = L.length + V1.length := by rw [hL2, List.length_append, List.length_map, tks, List.length_map]
            have hap : L2 ++ [D.agg [.c (.int .u64 v), .c (.int .i64 (d + 1)), .c (.int .i64 own)]] = L ++ (tks (d + 1) own (V1 ++ [(v : Int)])).map tkD := by rw [hL2, tks_app, List.map_append, ← List.append_assoc]; rfl
            obtain ⟨j, hj⟩ : ∃ j, j = V1.length := ⟨_, rfl⟩
            rw [← hj] at hs gv hvl2 hL2l
            have j2 : (j : Int) + 1 = ((V1 ++ [(v : Int)]).length : Int) := by rw [List.length_append, List.length_cons, List.length_nil]; omega
            obtain ⟨j3, hj3⟩ : ∃ j3, j3 = (V1 ++ [(v : Int)]).length := ⟨_, rfl⟩
            have hj4 : j3 = j + 1 := by rw [hj3, List.length_append, hj]; rfl
            rw [← hj3] at j2
            have hLa : (L2 ++ [D.agg [.c (.int .u64 v), .c (.int .i64 (d + 1)), .c (.int .i64 own)]]).length = L2.length + 1 := by simp
            simp -dsimp -implicitDefEqProofs (disch := first | omega | (simp only [List.length_append, List.length_cons, List.length_nil, List.length_take, List.length_drop]; omega)) only [hs, hvl, gv, j2, hlen1, hl2, i0, ↓aPre, aPost, oneW, allOne, retV, retVA, simprocAttr]
            refine round_of ⟨V1 ++ [(v : Int)], V2, L2 ++ [D.agg [.c (.int .u64 v), .c (.int .i64 (d + 1)), .c (.int .i64 own)]], by rw [hV]; simp, hap, ?_⟩ ?_
            · rw [← hj3, hLa]
              simp -dsimp -implicitDefEqProofs (disch := first | omega | (simp only [List.length_append, List.length_cons, List.length_nil, List.length_take, List.length_drop]; omega)) only [hs, h330, p18, ↓aPre, aPost, oneW, allOne, retV, retVA, simprocAttr]
            · simp -dsimp -implicitDefEqProofs (disch := first | omega | (simp only [List.length_append, List.length_cons, List.length_nil, List.length_take, List.length_drop]; omega)) only [hs, ↓aPre, aPost, oneW, allOne, retV, retVA, simprocAttr]
              omega
        · exact absurd hpt (fun c => c.elim p4 fun c => c.elim p13 fun c => c.elim p16 p18)
  ·
    cases ts with
    | nil =>
      rw [W_nil] at hR
      rw [hR, if_pos rfl] at hQ
      simp -dsimp -implicitDefEqProofs (disch := first | omega | (simp only [List.length_append, List.length_cons, List.length_nil, List.length_take, List.length_drop]; omega)) only [hs, h10, h11, ↓aPre, aPost, oneW, allOne, retV, retVA, simprocAttr]
      refine post_eq ?_
      subst hQ
      first | rfl | rw [List.take_of_length_le (by rw [hlen]; exact Nat.le_refl _)]
    | cons t ts =>
      rw [List.length_cons] at hRl h10
      have hoff : off < RT.length := by omega
      have hn1 : ((ts.length : Int) + 1).toNat - 1 = ts.length := by omega
      have hg : RT.getD off default = .agg [.c (.int .u64 t.1), .c (.int .i64 t.2.1), .c (.int .i64 t.2.2)] := by
        have := congrArg (fun x => x.getD 0 default) hRd
        simp only [List.getD, List.getElem?_drop, List.map_cons, List.getElem?_cons_zero, Option.getD_some, Nat.add_zero] at this
        simpa only [List.getD, tkD] using this
      have hd1 : RT.drop (off + 1) = ts.map tkD := by
        have := congrArg (List.drop 1) hRd
        rwa [List.drop_drop, List.map_cons, List.drop_succ_cons, List.drop_zero] at this
      have hdrl : (ts.map tkD).length = ts.length := List.length_map ..
      have htk : (RT.drop (off + 1)).take ts.length = ts.map tkD := by rw [hd1, List.take_of_length_le (by rw [hdrl]; exact Nat.le_refl _)]
      have hTt := hT t (by simp)
      rw [W_eq] at hR
      by_cases ha : t.1 = 0
      · rw [if_pos ha] at hR
        have haI : ((t.1 : Nat) : Int) = 0 := by omega
        simp -dsimp -implicitDefEqProofs (disch := first | omega | (simp only [List.length_append, List.length_cons, List.length_nil, List.length_take, List.length_drop]; omega)) only [hs, h10, h11, hRl, hg, hd1, hdrl, htk, hn1, haI, ibeq_t, ↓aPre, aPost, oneW, allOne, retV, retVA, simprocAttr]
        refine round_of ⟨ts, s, hI, fun x hx => hT x (by simp [hx]), hR, by simp only [List.length_cons] at htl; omega, .inr ⟨102, off + 1, RT, .inr rfl, ?_, ?_, by omega, hd1⟩, ?_⟩ ?_
        · simp -dsimp -implicitDefEqProofs (disch := first | omega | (simp only [List.length_append, List.length_cons, List.length_nil, List.length_take, List.length_drop]; omega)) only [hs, h10, h11, hRl, hg, hd1, hdrl, htk, hn1, ↓aPre, aPost, oneW, allOne, retV, retVA, simprocAttr]
        · simp -dsimp -implicitDefEqProofs (disch := first | omega | (simp only [List.length_append, List.length_cons, List.length_nil, List.length_take, List.length_drop]; omega)) only [hs, h10, h11, hRl, hg, hd1, hdrl, htk, hn1, ↓aPre, aPost, oneW, allOne, retV, retVA, simprocAttr]
        · simp -dsimp -implicitDefEqProofs (disch := first | omega | (simp only [List.length_append, List.length_cons, List.length_nil, List.length_take, List.length_drop]; omega)) only [hs, h10, h11, hRl, hg, hd1, hdrl, htk, hn1, ↓aPre, aPost, oneW, allOne, retV, retVA, simprocAttr]
        · simp -dsimp -implicitDefEqProofs (disch := first | omega | (simp only [List.length_append, List.length_cons, List.length_nil, List.length_take, List.length_drop]; omega)) only [hs, h10, h11, hRl, hg, hd1, hdrl, htk, hn1, rowN, tkN_sl, List.length_map, ↓aPre, aPost, oneW, allOne, retV, retVA, simprocAttr]
          omega
      rw [if_neg ha] at hR
      have haI : ¬ ((t.1 : Nat) : Int) = 0 := by omega
      simp -dsimp -implicitDefEqProofs (disch := first | omega | (simp only [List.length_append, List.length_cons, List.length_nil, List.length_take, List.length_drop]; omega)) only [hs, h10, h11, hRl, hg, hd1, hdrl, htk, hn1, haI, ↓aPre, aPost, oneW, allOne, retV, retVA, simprocAttr]
      have hs0 := hs
      refine loop_of (fun st => ∃ k : Nat, k ≤ s.2.length ∧ (∀ i, i < k → (itx s.2 i).2.2.1 ≠ t.1) ∧ st.tm 13 = .d (.c (.int .i64 k)) ∧ st.tm 10 = .sl 102 3 (off + 1) ts.length ∧ st.hp 102 = some (.row 3 RT) ∧ st.tm 12 = .ptr 12 0 ∧ st.hp 12 = some (.box [.d (.c (.int .u64 t.1)), .d (.c (.int .i64 t.2.1)), .d (.c (.int .i64 t.2.2))]) ∧ st.tm 0 = .d (.c (.string (strOfNums b))) ∧ st.tm 5 = .ptr 5 0 ∧ st.hp 5 = some (.box [.d (.c (.bool big)), .d (.c (.bool large)), .d (.c (.int .u64 first))]) ∧ st.tm 2 = .d (.c (.int .i64 most)) ∧ st.tm 3 = .d (.c (.int .i64 deep)) ∧ st.tm 11 = .sl 100 5 0 s.2.length ∧ st.hp 100 = some (.row 5 (s.2.map itD))) (fun st => s.2.length - (avN (st.tm 13)).toNat) ?_ ?_
      · refine ⟨0, Nat.zero_le _, fun i hi => absurd hi (Nat.not_lt_zero _), ?_⟩
        simp -dsimp -implicitDefEqProofs (disch := first | omega | (simp only [List.length_append, List.length_cons, List.length_nil, List.length_take, List.length_drop]; omega)) only [hs, h10, h11, hRl, hg, hd1, hdrl, htk, hn1, ↓aPre, aPost, oneW, allOne, retV, retVA, simprocAttr]
      clear hs
      rintro st2 ⟨k, hk, hno, hs⟩
      by_cases hlt : k < s.2.length
      · have hgi := it_get hlt
        have hmi := itx_mem hlt
        obtain ⟨x, hx⟩ : ∃ x, x = itx s.2 k := ⟨_, rfl⟩
        rw [← hx] at hgi hmi
        rw [itD] at hgi
        by_cases heq : x.2.2.1 = t.1
        · rw [if_pos ((hI.has t.1).2 ⟨x, hmi, heq⟩)] at hR
          have hq := hbad _ _ hR (by decide)
          simp -dsimp -implicitDefEqProofs (disch := first | omega | (simp only [List.length_append, List.length_cons, List.length_nil, List.length_take, List.length_drop]; omega)) only [hs, hlen, hgi, heq, ibeq_t, ↓aPre, aPost, oneW, allOne, retV, retVA, simprocAttr]
          exact post_le (by rw [hq]; repeat (first | exact leD.nil | exact leE.refl _ | exact leE.nil _ | refine leD.cons ?_ ?_ | refine leE.agg ?_))
        · simp -dsimp -implicitDefEqProofs (disch := first | omega | (simp only [List.length_append, List.length_cons, List.length_nil, List.length_take, List.length_drop]; omega)) only [hs, hlen, hgi, heq, ↓aPre, aPost, oneW, allOne, retV, retVA, simprocAttr]
          refine round_of ⟨k + 1, by omega, fun i hi => ?_, ?_⟩ ?_
          · by_cases e : i = k
            · rw [e, ← hx]; exact heq
            · exact hno i (by omega)
          · simp -dsimp -implicitDefEqProofs (disch := first | omega | (simp only [List.length_append, List.length_cons, List.length_nil, List.length_take, List.length_drop]; omega)) only [hs, ↓aPre, aPost, oneW, allOne, retV, retVA, simprocAttr]
          · simp -dsimp -implicitDefEqProofs (disch := first | omega | (simp only [List.length_append, List.length_cons, List.length_nil, List.length_take, List.length_drop]; omega)) only [hs, ↓aPre, aPost, oneW, allOne, retV, retVA, simprocAttr]
            omega
      have hin : t.1 ∉ s.1 := fun c => by
        obtain ⟨x, h1, h2⟩ := (hI.has t.1).1 c
        obtain ⟨i, hi, rfl⟩ := List.getElem_of_mem h1
        refine hno i (by omega) ?_
        simpa only [itx, List.getD, List.getElem?_eq_getElem hi, Option.getD_some] using h2
      rw [if_neg hin] at hR
      by_cases hm : most ≤ (s.2.length : Int)
      · rw [if_pos (.inl hm)] at hR
        have hq := hbad _ _ hR (by decide)
        simp -dsimp -implicitDefEqProofs (disch := first | omega | (simp only [List.length_append, List.length_cons, List.length_nil, List.length_take, List.length_drop]; omega)) only [hs, ↓aPre, aPost, oneW, allOne, retV, retVA, simprocAttr]
        exact post_le (by rw [hq]; repeat (first | exact leD.nil | exact leE.refl _ | exact leE.nil _ | refine leD.cons ?_ ?_ | refine leE.agg ?_))
      by_cases hdp : deep < t.2.1
      · rw [if_pos (.inr hdp)] at hR
        have hq := hbad _ _ hR (by decide)
        simp -dsimp -implicitDefEqProofs (disch := first | omega | (simp only [List.length_append, List.length_cons, List.length_nil, List.length_take, List.length_drop]; omega)) only [hs, ↓aPre, aPost, oneW, allOne, retV, retVA, simprocAttr]
        exact post_le (by rw [hq]; repeat (first | exact leD.nil | exact leE.refl _ | exact leE.nil _ | refine leD.cons ?_ ?_ | refine leE.agg ?_))
      rw [if_neg (fun c => c.elim hm hdp)] at hR
      have hrd := rread_giv b big large first t.1 (by omega) hB hTt.1
      obtain ⟨dr, hdr2⟩ : ∃ dr, dr = dirS b big large t.1 := ⟨_, rfl⟩
      have hok := dirS_ok (b := b) (big := big) (large := large) (a := t.1) hB
      have hok2 := dir_ok (b := b) (big := big) (large := large) (a := t.1) hB
      have hsml := dir_small b big large t.1
      rw [← hdr2] at hR hrd hok hok2 hsml
      obtain ⟨⟨at_, nx, fs⟩, er⟩ := dr
      dsimp only at hR hok hok2 hsml
      rw [dirE, dirD, hD] at hrd
      dsimp only at hrd
      by_cases he : er = 0
      rotate_left
      · rw [if_pos he] at hR
        have hq := hbad _ _ hR he
        simp -dsimp -implicitDefEqProofs (disch := first | omega | (simp only [List.length_append, List.length_cons, List.length_nil, List.length_take, List.length_drop]; omega)) only [hs, ↓aPre, aPost, oneW, allOne, retV, retVA, simprocAttr]
        refine call_giv hrd ?_
        simp -dsimp -implicitDefEqProofs (disch := first | omega | (simp only [List.length_append, List.length_cons, List.length_nil, List.length_take, List.length_drop]; omega)) only [hs, he, ↓aPre, aPost, oneW, allOne, retV, retVA, simprocAttr]
        exact post_le (by rw [hq]; repeat (first | exact leD.nil | exact leE.refl _ | exact leE.nil _ | refine leD.cons ?_ ?_ | refine leE.agg ?_))
      rw [if_neg (fun c => c he)] at hR
      obtain ⟨k1, k2, k3, k4⟩ := hok he
      obtain ⟨m1, w0, m2⟩ := hok2 he
      obtain ⟨nx, rfl⟩ := Int.eq_ofNat_of_zero_le k3
      obtain ⟨a, d, u⟩ := t
      dsimp only at hR hTt hin k1 k2 ha haI hm hdp hrd hs hno
      have hI1 : Inv b (s.1 ++ [a], s.2 ++ [(d, u, ((at_ : Int), (nx : Int), fs))]) := hI.snoc (dr := ((at_ : Int), (nx : Int), fs)) k1 k2 hin hTt.2 hsml
      have hd : 0 ≤ d ∧ d ≤ s.2.length := by
        rcases hTt.2 with h | ⟨v, h1, h2, h3⟩
        · have := h.1; dsimp only at this; omega
        · have := hI.dep v h2
          dsimp only at h3
          omega
      have hl1 := hI1.len.2
      dsimp only at hl1
      rw [List.length_append, List.length_cons, List.length_nil] at hl1
      have hsn := its_snoc s.2 d u ((at_ : Int), (nx : Int), fs)
      dsimp only at hsn
      obtain ⟨s1, hs1⟩ : ∃ s1 : Stt, s1 = (s.1 ++ [a], s.2 ++ [(d, u, ((at_ : Int), (nx : Int), fs))]) := ⟨_, rfl⟩
      have hs12 : s1.2 = s.2 ++ [(d, u, ((at_ : Int), (nx : Int), fs))] := by rw [hs1]
      have hl2 : s1.2.length = s.2.length + 1 := by rw [hs12]; simp
      have hlen1 := its_len s1.2
      rw [hl2] at hlen1
      rw [← hs12] at hsn
      rw [← hs1] at hR hI1
      rw [if_neg (show ¬ b.length ≤ s.2.length by omega)] at hR
      have hfl : (fs.map fldD).length = fs.length := List.length_map ..
      have hfs := hsml.1
      dsimp only at hfs
      have hvl0 := vals_len m2 (fun f hf => hsml.2 f hf)
      obtain ⟨own, hown⟩ : ∃ own, own = s.2.length := ⟨_, rfl⟩
      have i0 : ((s.2.length : Int) + 1 - 1) = (own : Int) := by omega
      rw [← hown] at hR
      simp -dsimp -implicitDefEqProofs (disch := first | omega | (simp only [List.length_append, List.length_cons, List.length_nil, List.length_take, List.length_drop]; omega)) only [hs, ↓aPre, aPost, oneW, allOne, retV, retVA, simprocAttr]
      refine call_giv hrd ?_
      simp -dsimp -implicitDefEqProofs (disch := first | omega | (simp only [List.length_append, List.length_cons, List.length_nil, List.length_take, List.length_drop]; omega)) only [hs, he, hlen, hsn, ↓aPre, aPost, oneW, allOne, retV, retVA, simprocAttr]
      refine loop_nil 16 101 3 (fun st => ∃ (F1 F2 : List Fld) (L : List D), fs = F1 ++ F2 ∧ bad F1 = false ∧ L = (tks (d + 1) own (valsB F1)).map tkD ∧ st.tm 17 = .d (.c (.int .i64 F1.length)) ∧ st.tm 16 = .sl 101 3 0 L.length ∧ st.hp 101 = some (.row 3 L) ∧ st.tm 14 = .ptr 14 0 ∧ st.hp 14 = some (.box [.d (.c (.int .u64 at_)), .d (.c (.int .u64 nx)), .d (.lst 3 (fs.map fldD))]) ∧ st.tm 10 = .sl 102 3 (off + 1) ts.length ∧ st.hp 102 = some (.row 3 RT) ∧ st.tm 12 = .ptr 12 0 ∧ st.hp 12 = some (.box [.d (.c (.int .u64 a)), .d (.c (.int .i64 d)), .d (.c (.int .i64 u))]) ∧ st.tm 0 = .d (.c (.string (strOfNums b))) ∧ st.tm 5 = .ptr 5 0 ∧ st.hp 5 = some (.box [.d (.c (.bool big)), .d (.c (.bool large)), .d (.c (.int .u64 first))]) ∧ st.tm 2 = .d (.c (.int .i64 most)) ∧ st.tm 3 = .d (.c (.int .i64 deep)) ∧ st.tm 11 = .sl 100 5 0 s1.2.length ∧ st.hp 100 = some (.row 5 (s1.2.map itD))) (fun st => fs.length - (avN (st.tm 17)).toNat) ?_ (by decide) ?_ ?_
      · simp -dsimp -implicitDefEqProofs (disch := first | omega | (simp only [List.length_append, List.length_cons, List.length_nil, List.length_take, List.length_drop]; omega)) only [↓aPre, aPost, oneW, allOne, retV, retVA, simprocAttr]
      · refine ⟨[], fs, [], rfl, rfl, rfl, ?_⟩
        simp -dsimp -implicitDefEqProofs (disch := first | omega | (simp only [List.length_append, List.length_cons, List.length_nil, List.length_take, List.length_drop]; omega)) only [hs, hl2, List.length_nil, Int.natCast_zero, ↓aPre, aPost, oneW, allOne, retV, retVA, simprocAttr]
      clear hs
      rintro st3 ⟨F1, F2, L, hF, hb1, hL, hs⟩
      have hfl2 : fs.length = F1.length + F2.length := by rw [hF, List.length_append]
      cases F2 with
      | nil =>
        rw [List.append_nil] at hF
        subst hF
        rw [hb1, if_neg (by decide)] at hR
        have hLl : L.length = (valsB fs).length := by rw [hL, List.length_map, tks, List.length_map]
        obtain ⟨ts2, hts2⟩ : ∃ ts2, ts2 = tks (d + 1) own (valsB fs) ++ (nx, d, u) :: ts := ⟨_, rfl⟩
        have hts2l : ts2.length = L.length + 1 + ts.length := by rw [hts2, List.length_append, List.length_cons, hLl, tks, List.length_map]; omega
        have hrow : L ++ [D.agg [.c (.int .u64 nx), .c (.int .i64 d), .c (.int .i64 u)]] ++ ts.map tkD = ts2.map tkD := by rw [hts2, hL]; simp [tkD]
        have hts2m : (ts2.map tkD).length = ts2.length := List.length_map ..
        rw [Int.toNat_natCast, ← hts2] at hR
        simp only [List.length_cons] at htl
        have hmul : s1.2.length * 1000001 = s.2.length * 1000001 + 1000001 := by rw [hl2, Nat.succ_mul]
        have hmul2 : s.2.length * 1000001 ≤ 90000 * 1000001 := Nat.mul_le_mul_right _ (by omega)
        have hLs : (L ++ [D.agg [.c (.int .u64 nx), .c (.int .i64 d), .c (.int .i64 u)]]).length = L.length + 1 := by simp
        simp -dsimp -implicitDefEqProofs (disch := first | omega | (simp only [List.length_append, List.length_cons, List.length_nil, List.length_take, List.length_drop]; omega)) only [hs, hRl, hg, hd1, hdrl, htk, hn1, hLs, hrow, ↓aPre, aPost, oneW, allOne, retV, retVA, simprocAttr]
        refine round_of ⟨ts2, s1, hI1, ?_, hR, by omega, .inr ⟨101, 0, ts2.map tkD, .inl rfl, ?_, ?_, by rw [hts2m, Nat.zero_add], List.drop_zero⟩, ?_⟩ ?_
        · intro x hx
          rw [hts2] at hx
          have h5 : ∀ t ∈ tks (d + 1) own (valsB fs), Tok s1 t := by
            rw [hown, hs1]
            exact tks_ok (it := (d, u, ((at_ : Int), (nx : Int), fs))) (vals_in m1) rfl
          rcases List.mem_append.1 hx with q | q
          · exact h5 x q
          · rcases List.mem_cons.1 q with rfl | q
            · exact ⟨by dsimp only; omega, by rw [hs12]; exact hTt.2.app⟩
            · have := (hT x (by simp [q])).app s1.1 [(d, u, ((at_ : Int), (nx : Int), fs))]
              rw [← hs12] at this
              exact this
        · simp -dsimp -implicitDefEqProofs (disch := first | omega | (simp only [List.length_append, List.length_cons, List.length_nil, List.length_take, List.length_drop]; omega)) only [hs, hts2l, ↓aPre, aPost, oneW, allOne, retV, retVA, simprocAttr]
        · simp -dsimp -implicitDefEqProofs (disch := first | omega | (simp only [List.length_append, List.length_cons, List.length_nil, List.length_take, List.length_drop]; omega)) only [hs, ↓aPre, aPost, oneW, allOne, retV, retVA, simprocAttr]
        · simp -dsimp -implicitDefEqProofs (disch := first | omega | (simp only [List.length_append, List.length_cons, List.length_nil, List.length_take, List.length_drop]; omega)) only [hs, ↓aPre, aPost, oneW, allOne, retV, retVA, simprocAttr]
        · simp -dsimp -implicitDefEqProofs (disch := first | omega | (simp only [List.length_append, List.length_cons, List.length_nil, List.length_take, List.length_drop]; omega)) only [hs, hs0, h10, h11, hRl, hg, hd1, hdrl, htk, hn1, rowN, tkN_sl, tkN_d, List.length_map, hl2, ↓aPre, aPost, oneW, allOne, retV, retVA, simprocAttr]
          omega
      | cons f F2 =>
        rw [List.length_cons] at hfl2
        have gf := fl_mid hF
        obtain ⟨i, hi⟩ : ∃ i, i = F1.length := ⟨_, rfl⟩
        rw [← hi] at hs gf hfl2
        have j1 : (i : Int) + 1 = ((F1 ++ [f]).length : Int) := by rw [List.length_append, List.length_cons, List.length_nil]; omega
        obtain ⟨i2, hi2⟩ : ∃ i2, i2 = (F1 ++ [f]).length := ⟨_, rfl⟩
        rw [← hi2] at j1
        by_cases h330 : f.1 = 330
        rotate_left
        · have hb2 : bad (F1 ++ [f]) = false := by rw [bad_app, hb1, bad, decide_eq_false (fun c => h330 c.1)]; rfl
          have hv2 : valsB (F1 ++ [f]) = valsB F1 := by rw [vals_app, valsB, if_neg h330]; simp [valsB]
          simp -dsimp -implicitDefEqProofs (disch := first | omega | (simp only [List.length_append, List.length_cons, List.length_nil, List.length_take, List.length_drop]; omega)) only [hs, hfl, gf, h330, j1, ↓aPre, aPost, oneW, allOne, retV, retVA, simprocAttr]
          refine round_of ⟨F1 ++ [f], F2, L, by rw [hF]; simp, hb2, by rw [hv2]; exact hL, ?_⟩ ?_
          · rw [← hi2]
            simp -dsimp -implicitDefEqProofs (disch := first | omega | (simp only [List.length_append, List.length_cons, List.length_nil, List.length_take, List.length_drop]; omega)) only [hs, ↓aPre, aPost, oneW, allOne, retV, retVA, simprocAttr]
          · simp -dsimp -implicitDefEqProofs (disch := first | omega | (simp only [List.length_append, List.length_cons, List.length_nil, List.length_take, List.length_drop]; omega)) only [hs, ↓aPre, aPost, oneW, allOne, retV, retVA, simprocAttr]
            omega
        by_cases hpt : ptrP f.2.1
        rotate_left
        · have hbd : bad fs = true := by rw [hF, bad_app, bad, decide_eq_true ⟨h330, hpt⟩, Bool.true_or, Bool.or_true]
          rw [if_pos hbd] at hR
          have hq := hbad _ _ hR (by decide)
          have p1 : ¬ f.2.1 = 4 := fun c => hpt (.inl c)
          have p2 : ¬ f.2.1 = 13 := fun c => hpt (.inr (.inl c))
          have p3 : ¬ f.2.1 = 16 := fun c => hpt (.inr (.inr (.inl c)))
          have p4 : ¬ f.2.1 = 18 := fun c => hpt (.inr (.inr (.inr c)))
          simp -dsimp -implicitDefEqProofs (disch := first | omega | (simp only [List.length_append, List.length_cons, List.length_nil, List.length_take, List.length_drop]; omega)) only [hs, hfl, gf, h330, p1, p2, p3, p4, ↓aPre, aPost, oneW, allOne, retV, retVA, simprocAttr]
          exact post_le (by rw [hq]; repeat (first | exact leD.nil | exact leE.refl _ | exact leE.nil _ | refine leD.cons ?_ ?_ | refine leE.agg ?_))
        have hb2 : bad (F1 ++ [f]) = false := by rw [bad_app, hb1, bad, decide_eq_false (fun c => c.2 hpt)]; rfl
        have hv2 : valsB (F1 ++ [f]) = valsB F1 ++ f.2.2 := by rw [vals_app, valsB, if_pos h330]; simp [valsB]
        have hvl := li_length (k := .u64) (l := f.2.2)
        have hU := m1 f (by rw [hF]; simp)
        have hvb := hsml.2 f (by rw [hF]; simp)
        have hLb : L.length + f.2.2.length ≤ 1000000 := by
          have h1 : L.length = (valsB F1).length := by rw [hL, List.length_map, tks, List.length_map]
          have h2 : (valsB fs).length = (valsB F1).length + f.2.2.length + (valsB F2).length := by
            rw [hF, vals_app, valsB, if_pos h330, List.length_append, List.length_append]; omega
          omega
        have hs00 := hs
        by_cases p4 : f.2.1 = 4
        · simp -dsimp -implicitDefEqProofs (disch := first | omega | (simp only [List.length_append, List.length_cons, List.length_nil, List.length_take, List.length_drop]; omega)) only [hs, hfl, gf, h330, p4, ↓aPre, aPost, oneW, allOne, retV, retVA, simprocAttr]
          refine loop_of (fun st => ∃ (V1 V2 : List Int) (L2 : List D), f.2.2 = V1 ++ V2 ∧ L2 = L ++ (tks (d + 1) own V1).map tkD ∧ st.tm 19 = .d (.c (.int .i64 V1.length)) ∧ st.tm 18 = .ptr 18 0 ∧ st.hp 18 = some (.box [.d (.c (.int .u16 f.1)), .d (.c (.int .i64 f.2.1)), .d (.lst 1 (li .u64 f.2.2))]) ∧ st.tm 17 = .d (.c (.int .i64 i)) ∧ st.tm 16 = .sl 101 3 0 L2.length ∧ st.hp 101 = some (.row 3 L2) ∧ st.tm 14 = .ptr 14 0 ∧ st.hp 14 = some (.box [.d (.c (.int .u64 at_)), .d (.c (.int .u64 nx)), .d (.lst 3 (fs.map fldD))]) ∧ st.tm 10 = .sl 102 3 (off + 1) ts.length ∧ st.hp 102 = some (.row 3 RT) ∧ st.tm 12 = .ptr 12 0 ∧ st.hp 12 = some (.box [.d (.c (.int .u64 a)), .d (.c (.int .i64 d)), .d (.c (.int .i64 u))]) ∧ st.tm 0 = .d (.c (.string (strOfNums b))) ∧ st.tm 5 = .ptr 5 0 ∧ st.hp 5 = some (.box [.d (.c (.bool big)), .d (.c (.bool large)), .d (.c (.int .u64 first))]) ∧ st.tm 2 = .d (.c (.int .i64 most)) ∧ st.tm 3 = .d (.c (.int .i64 deep)) ∧ st.tm 11 = .sl 100 5 0 s1.2.length ∧ st.hp 100 = some (.row 5 (s1.2.map itD))) (fun st => f.2.2.length - (avN (st.tm 19)).toNat) ?_ ?_
          · refine ⟨[], f.2.2, L, rfl, by simp [tks], ?_⟩
            simp -dsimp -implicitDefEqProofs (disch := first | omega | (simp only [List.length_append, List.length_cons, List.length_nil, List.length_take, List.length_drop]; omega)) only [hs, h330, p4, List.length_nil, Int.natCast_zero, ↓aPre, aPost, oneW, allOne, retV, retVA, simprocAttr]
          clear hs
          rintro st4 ⟨V1, V2, L2, hV, hL2, hs⟩
          have hvl2 : f.2.2.length = V1.length + V2.length := by rw [hV, List.length_append]
          cases V2 with
          | nil =>
            rw [List.append_nil] at hV
            rw [List.length_nil, Nat.add_zero] at hvl2
            rw [← hvl2] at hs
            simp -dsimp -implicitDefEqProofs (disch := first | omega | (simp only [List.length_append, List.length_cons, List.length_nil, List.length_take, List.length_drop]; omega)) only [hs, hvl, j1, ↓aPre, aPost, oneW, allOne, retV, retVA, simprocAttr]
            refine round_of ⟨F1 ++ [f], F2, L2, by rw [hF]; simp, hb2, by rw [hL2, hL, hv2, tks_app, List.map_append, hV], ?_⟩ ?_
            · rw [← hi2]
              simp -dsimp -implicitDefEqProofs (disch := first | omega | (simp only [List.length_append, List.length_cons, List.length_nil, List.length_take, List.length_drop]; omega)) only [hs, ↓aPre, aPost, oneW, allOne, retV, retVA, simprocAttr]
            · simp -dsimp -implicitDefEqProofs (disch := first | omega | (simp only [List.length_append, List.length_cons, List.length_nil, List.length_take, List.length_drop]; omega)) only [hs, hs00, ↓aPre, aPost, oneW, allOne, retV, retVA, simprocAttr]
              omega
          | cons v V2 =>
            rw [List.length_cons] at hvl2
            have hv := hU v (by rw [hV]; simp)
            obtain ⟨v, rfl⟩ := Int.eq_ofNat_of_zero_le hv.1
            have gv : f.2.2.getD V1.length 0 = (v : Int) := by rw [hV]; simp [List.getD]
            have hL2l : L2.length = L.length + V1.length := by rw [hL2, List.length_append, List.length_map, tks, List.length_map]
            have hap : L2 ++ [D.agg [.c (.int .u64 v), .c (.int .i64 (d + 1)), .c (.int .i64 own)]] = L ++ (tks (d + 1) own (V1 ++ [(v : Int)])).map tkD := by rw [hL2, tks_app, List.map_append, ← List.append_assoc]; rfl
            obtain ⟨j, hj⟩ : ∃ j, j = V1.length := ⟨_, rfl⟩
            rw [← hj] at hs gv hvl2 hL2l
            have j2 : (j : Int) + 1 = ((V1 ++ [(v : Int)]).length : Int) := by rw [List.length_append, List.length_cons, List.length_nil]; omega
            obtain ⟨j3, hj3⟩ : ∃ j3, j3 = (V1 ++ [(v : Int)]).length := ⟨_, rfl⟩
            have hj4 : j3 = j + 1 := by rw [hj3, List.length_append, hj]; rfl
            rw [← hj3] at j2
            have hLa : (L2 ++ [D.agg [.c (.int .u64 v), .c (.int .i64 (d + 1)), .c (.int .i64 own)]]).length = L2.length + 1 := by simp
            simp -dsimp -implicitDefEqProofs (disch := first | omega | (simp only [List.length_append, List.length_cons, List.length_nil, List.length_take, List.length_drop]; omega)) only [hs, hvl, gv, j2, hlen1, hl2, i0, ↓aPre, aPost, oneW, allOne, retV, retVA, simprocAttr]
            refine round_of ⟨V1 ++ [(v : Int)], V2, L2 ++ [D.agg [.c (.int .u64 v), .c (.int .i64 (d + 1)), .c (.int .i64 own)]], by rw [hV]; simp, hap, ?_⟩ ?_
            · rw [← hj3, hLa]
              simp -dsimp -implicitDefEqProofs (disch := first | omega | (simp only [List.length_append, List.length_cons, List.length_nil, List.length_take, List.length_drop]; omega)) only [hs, h330, p4, ↓aPre, aPost, oneW, allOne, retV, retVA, simprocAttr]
            · simp -dsimp -implicitDefEqProofs (disch := first | omega | (simp only [List.length_append, List.length_cons, List.length_nil, List.length_take, List.length_drop]; omega)) only [hs, ↓aPre, aPost, oneW, allOne, retV, retVA, simprocAttr]
              omega
        by_cases p13 : f.2.1 = 13
        · simp -dsimp -implicitDefEqProofs (disch := first | omega | (simp only [List.length_append, List.length_cons, List.length_nil, List.length_take, List.length_drop]; omega)) only [hs, hfl, gf, h330, p13, ↓aPre, aPost, oneW, allOne, retV, retVA, simprocAttr]
          refine loop_of (fun st => ∃ (V1 V2 : List Int) (L2 : List D), f.2.2 = V1 ++ V2 ∧ L2 = L ++ (tks (d + 1) own V1).map tkD ∧ st.tm 19 = .d (.c (.int .i64 V1.length)) ∧ st.tm 18 = .ptr 18 0 ∧ st.hp 18 = some (.box [.d (.c (.int .u16 f.1)), .d (.c (.int .i64 f.2.1)), .d (.lst 1 (li .u64 f.2.2))]) ∧ st.tm 17 = .d (.c (.int .i64 i)) ∧ st.tm 16 = .sl 101 3 0 L2.length ∧ st.hp 101 = some (.row 3 L2) ∧ st.tm 14 = .ptr 14 0 ∧ st.hp 14 = some (.box [.d (.c (.int .u64 at_)), .d (.c (.int .u64 nx)), .d (.lst 3 (fs.map fldD))]) ∧ st.tm 10 = .sl 102 3 (off + 1) ts.length ∧ st.hp 102 = some (.row 3 RT) ∧ st.tm 12 = .ptr 12 0 ∧ st.hp 12 = some (.box [.d (.c (.int .u64 a)), .d (.c (.int .i64 d)), .d (.c (.int .i64 u))]) ∧ st.tm 0 = .d (.c (.string (strOfNums b))) ∧ st.tm 5 = .ptr 5 0 ∧ st.hp 5 = some (.box [.d (.c (.bool big)), .d (.c (.bool large)), .d (.c (.int .u64 first))]) ∧ st.tm 2 = .d (.c (.int .i64 most)) ∧ st.tm 3 = .d (.c (.int .i64 deep)) ∧ st.tm 11 = .sl 100 5 0 s1.2.length ∧ st.hp 100 = some (.row 5 (s1.2.map itD))) (fun st => f.2.2.length - (avN (st.tm 19)).toNat) ?_ ?_
          · refine ⟨[], f.2.2, L, rfl, by simp [tks], ?_⟩
            simp -dsimp -implicitDefEqProofs (disch := first | omega | (simp only [List.length_append, List.length_cons, List.length_nil, List.length_take, List.length_drop]; omega)) only [hs, h330, p13, List.length_nil, Int.natCast_zero, ↓aPre, aPost, oneW, allOne, retV, retVA, simprocAttr]
          clear hs
          rintro st4 ⟨V1, V2, L2, hV, hL2, hs⟩
          have hvl2 : f.2.2.length = V1.length + V2.length := by rw [hV, List.length_append]
          cases V2 with
          | nil =>
            rw [List.append_nil] at hV
            rw [List.length_nil, Nat.add_zero] at hvl2
            rw [← hvl2] at hs
            simp -dsimp -implicitDefEqProofs (disch := first | omega | (simp only [List.length_append, List.length_cons, List.length_nil, List.length_take, List.length_drop]; omega)) only [hs, hvl, j1, ↓aPre, aPost, oneW, allOne, retV, retVA, simprocAttr]
            refine round_of ⟨F1 ++ [f], F2, L2, by rw [hF]; simp, hb2, by rw [hL2, hL, hv2, tks_app, List.map_append, hV], ?_⟩ ?_
            · rw [← hi2]
              simp -dsimp -implicitDefEqProofs (disch := first | omega | (simp only [List.length_append, List.length_cons, List.length_nil, List.length_take, List.length_drop]; omega)) only [hs, ↓aPre, aPost, oneW, allOne, retV, retVA, simprocAttr]
            · simp -dsimp -implicitDefEqProofs (disch := first | omega | (simp only [List.length_append, List.length_cons, List.length_nil, List.length_take, List.length_drop]; omega)) only [hs, hs00, ↓aPre, aPost, oneW, allOne, retV, retVA, simprocAttr]
              omega
          | cons v V2 =>
            rw [List.length_cons] at hvl2
            have hv := hU v (by rw [hV]; simp)
            obtain ⟨v, rfl⟩ := Int.eq_ofNat_of_zero_le hv.1
            have gv : f.2.2.getD V1.length 0 = (v : Int) := by rw [hV]; simp [List.getD]
            have hL2l : L2.length = L.length + V1.length := by rw [hL2, List.length_append, List.length_map, tks, List.length_map]
            have hap : L2 ++ [D.agg [.c (.int .u64 v), .c (.int .i64 (d + 1)), .c (.int .i64 own)]] = L ++ (tks (d + 1) own (V1 ++ [(v : Int)])).map tkD := by rw [hL2, tks_app, List.map_append, ← List.append_assoc]; rfl
            obtain ⟨j, hj⟩ : ∃ j, j = V1.length := ⟨_, rfl⟩
            rw [← hj] at hs gv hvl2 hL2l
            have j2 : (j : Int) + 1 = ((V1 ++ [(v : Int)]).length : Int) := by rw [List.length_append, List.length_cons, List.length_nil]; omega
            obtain ⟨j3, hj3⟩ : ∃ j3, j3 = (V1 ++ [(v : Int)]).length := ⟨_, rfl⟩
            have hj4 : j3 = j + 1 := by rw [hj3, List.length_append, hj]; rfl
            rw [← hj3] at j2
            have hLa : (L2 ++ [D.agg [.c (.int .u64 v), .c (.int .i64 (d + 1)), .c (.int .i64 own)]]).length = L2.length + 1 := by simp
            simp -dsimp -implicitDefEqProofs (disch := first | omega | (simp only [List.length_append, List.length_cons, List.length_nil, List.length_take, List.length_drop]; omega)) only [hs, hvl, gv, j2, hlen1, hl2, i0, ↓aPre, aPost, oneW, allOne, retV, retVA, simprocAttr]
            refine round_of ⟨V1 ++ [(v : Int)], V2, L2 ++ [D.agg [.c (.int .u64 v), .c (.int .i64 (d + 1)), .c (.int .i64 own)]], by rw [hV]; simp, hap, ?_⟩ ?_
            · rw [← hj3, hLa]
              simp -dsimp -implicitDefEqProofs (disch := first | omega | (simp only [List.length_append, List.length_cons, List.length_nil, List.length_take, List.length_drop]; omega)) only [hs, h330, p13, ↓aPre, aPost, oneW, allOne, retV, retVA, simprocAttr]
            · simp -dsimp -implicitDefEqProofs (disch := first | omega | (simp only [List.length_append, List.length_cons, List.length_nil, List.length_take, List.length_drop]; omega)) only [hs, ↓aPre, aPost, oneW, allOne, retV, retVA, simprocAttr]
              omega
        by_cases p16 : f.2.1 = 16
        · simp -dsimp -implicitDefEqProofs (disch := first | omega | (simp only [List.length_append, List.length_cons, List.length_nil, List.length_take, List.length_drop]; omega)) only [hs, hfl, gf, h330, p16, ↓aPre, aPost, oneW, allOne, retV, retVA, simprocAttr]
          refine loop_of (fun st => ∃ (V1 V2 : List Int) (L2 : List D), f.2.2 = V1 ++ V2 ∧ L2 = L ++ (tks (d + 1) own V1).map tkD ∧ st.tm 19 = .d (.c (.int .i64 V1.length)) ∧ st.tm 18 = .ptr 18 0 ∧ st.hp 18 = some (.box [.d (.c (.int .u16 f.1)), .d (.c (.int .i64 f.2.1)), .d (.lst 1 (li .u64 f.2.2))]) ∧ st.tm 17 = .d (.c (.int .i64 i)) ∧ st.tm 16 = .sl 101 3 0 L2.length ∧ st.hp 101 = some (.row 3 L2) ∧ st.tm 14 = .ptr 14 0 ∧ st.hp 14 = some (.box [.d (.c (.int .u64 at_)), .d (.c (.int .u64 nx)), .d (.lst 3 (fs.map fldD))]) ∧ st.tm 10 = .sl 102 3 (off + 1) ts.length ∧ st.hp 102 = some (.row 3 RT) ∧ st.tm 12 = .ptr 12 0 ∧ st.hp 12 = some (.box [.d (.c (.int .u64 a)), .d (.c (.int .i64 d)), .d (.c (.int .i64 u))]) ∧ st.tm 0 = .d (.c (.string (strOfNums b))) ∧ st.tm 5 = .ptr 5 0 ∧ st.hp 5 = some (.box [.d (.c (.bool big)), .d (.c (.bool large)), .d (.c (.int .u64 first))]) ∧ st.tm 2 = .d (.c (.int .i64 most)) ∧ st.tm 3 = .d (.c (.int .i64 deep)) ∧ st.tm 11 = .sl 100 5 0 s1.2.length ∧ st.hp 100 = some (.row 5 (s1.2.map itD))) (fun st => f.2.2.length - (avN (st.tm 19)).toNat) ?_ ?_
          · refine ⟨[], f.2.2, L, rfl, by simp [tks], ?_⟩
            simp -dsimp -implicitDefEqProofs (disch := first | omega | (simp only [List.length_append, List.length_cons, List.length_nil, List.length_take, List.length_drop]; omega)) only [hs, h330, p16, List.length_nil, Int.natCast_zero, ↓aPre, aPost, oneW, allOne, retV, retVA, simprocAttr]
          clear hs
          rintro st4 ⟨V1, V2, L2, hV, hL2, hs⟩
          have hvl2 : f.2.2.length = V1.length + V2.length := by rw [hV, List.length_append]
          cases V2 with
          | nil =>
            rw [List.append_nil] at hV
            rw [List.length_nil, Nat.add_zero] at hvl2
            rw [← hvl2] at hs
            simp -dsimp -implicitDefEqProofs (disch := first | omega | (simp only [List.length_append, List.length_cons, List.length_nil, List.length_take, List.length_drop]; omega)) only [hs, hvl, j1, ↓aPre, aPost, oneW, allOne, retV, retVA, simprocAttr]
            refine round_of ⟨F1 ++ [f], F2, L2, by rw [hF]; simp, hb2, by rw [hL2, hL, hv2, tks_app, List.map_append, hV], ?_⟩ ?_
            · rw [← hi2]
              simp -dsimp -implicitDefEqProofs (disch := first | omega | (simp only [List.length_append, List.length_cons, List.length_nil, List.length_take, List.length_drop]; omega)) only [hs, ↓aPre, aPost, oneW, allOne, retV, retVA, simprocAttr]
            · simp -dsimp -implicitDefEqProofs (disch := first | omega | (simp only [List.length_append, List.length_cons, List.length_nil, List.length_take, List.length_drop]; omega)) only [hs, hs00, ↓aPre, aPost, oneW, allOne, retV, retVA, simprocAttr]
              omega
          | cons v V2 =>
            rw [List.length_cons] at hvl2
            have hv := hU v (by rw [hV]; simp)
            obtain ⟨v, rfl⟩ := Int.eq_ofNat_of_zero_le hv.1
            have gv : f.2.2.getD V1.length 0 = (v : Int) := by rw [hV]; simp [List.getD]
            have hL2l : L2.length = L.length + V1.length := by rw [hL2, List.length_append, List.length_map, tks, List.length_map]
            have hap : L2 ++ [D.agg [.c (.int .u64 v), .c (.int .i64 (d + 1)), .c (.int .i64 own)]] = L ++ (tks (d + 1) own (V1 ++ [(v : Int)])).map tkD := by rw [hL2, tks_app, List.map_append, ← List.append_assoc]; rfl
            obtain ⟨j, hj⟩ : ∃ j, j = V1.length := ⟨_, rfl⟩
            rw [← hj] at hs gv hvl2 hL2l
            have j2 : (j : Int) + 1 = ((V1 ++ [(v : Int)]).length : Int) := by rw [List.length_append, List.length_cons, List.length_nil]; omega
            obtain ⟨j3, hj3⟩ : ∃ j3, j3 = (V1 ++ [(v : Int)]).length := ⟨_, rfl⟩
            have hj4 : j3 = j + 1 := by rw [hj3, List.length_append, hj]; rfl
            rw [← hj3] at j2
            have hLa : (L2 ++ [D.agg [.c (.int .u64 v), .c (.int .i64 (d + 1)), .c (.int .i64 own)]]).length = L2.length + 1 := by simp
            simp -dsimp -implicitDefEqProofs (disch := first | omega | (simp only [List.length_append, List.length_cons, List.length_nil, List.length_take, List.length_drop]; omega)) only [hs, hvl, gv, j2, hlen1, hl2, i0, ↓aPre, aPost, oneW, allOne, retV, retVA, simprocAttr]
            refine round_of ⟨V1 ++ [(v : Int)], V2, L2 ++ [D.agg [.c (.int .u64 v), .c (.int .i64 (d + 1)), .c (.int .i64 own)]], by rw [hV]; simp, hap, ?_⟩ ?_
            · rw [← hj3, hLa]
              simp -dsimp -implicitDefEqProofs (disch := first | omega | (simp only [List.length_append, List.length_cons, List.length_nil, List.length_take, List.length_drop]; omega)) only [hs, h330, p16, ↓aPre, aPost, oneW, allOne, retV, retVA, simprocAttr]
            · simp -dsimp -implicitDefEqProofs (disch := first | omega | (simp only [List.length_append, List.length_cons, List.length_nil, List.length_take, List.length_drop]; omega)) only [hs, ↓aPre, aPost, oneW, allOne, retV, retVA, simprocAttr]
              omega
        by_cases p18 : f.2.1 = 18
        · simp -dsimp -implicitDefEqProofs (disch := first | omega | (simp only [List.length_append, List.length_cons, List.length_nil, List.length_take, List.length_drop]; omega)) only [hs, hfl, gf, h330, p18, ↓aPre, aPost, oneW, allOne, retV, retVA, simprocAttr]
          refine loop_of (fun st => ∃ (V1 V2 : List Int) (L2 : List D), f.2.2 = V1 ++ V2 ∧ L2 = L ++ (tks (d + 1) own V1).map tkD ∧ st.tm 19 = .d (.c (.int .i64 V1.length)) ∧ st.tm 18 = .ptr 18 0 ∧ st.hp 18 = some (.box [.d (.c (.int .u16 f.1)), .d (.c (.int .i64 f.2.1)), .d (.lst 1 (li .u64 f.2.2))]) ∧ st.tm 17 = .d (.c (.int .i64 i)) ∧ st.tm 16 = .sl 101 3 0 L2.length ∧ st.hp 101 = some (.row 3 L2) ∧ st.tm 14 = .ptr 14 0 ∧ st.hp 14 = some (.box [.d (.c (.int .u64 at_)), .d (.c (.int .u64 nx)), .d (.lst 3 (fs.map fldD))]) ∧ st.tm 10 = .sl 102 3 (off + 1) ts.length ∧ st.hp 102 = some (.row 3 RT) ∧ st.tm 12 = .ptr 12 0 ∧ st.hp 12 = some (.box [.d (.c (.int .u64 a)), .d (.c (.int .i64 d)), .d (.c (.int .i64 u))]) ∧ st.tm 0 = .d (.c (.string (strOfNums b))) ∧ st.tm 5 = .ptr 5 0 ∧ st.hp 5 = some (.box [.d (.c (.bool big)), .d (.c (.bool large)), .d (.c (.int .u64 first))]) ∧ st.tm 2 = .d (.c (.int .i64 most)) ∧ st.tm 3 = .d (.c (.int .i64 deep)) ∧ st.tm 11 = .sl 100 5 0 s1.2.length ∧ st.hp 100 = some (.row 5 (s1.2.map itD))) (fun st => f.2.2.length - (avN (st.tm 19)).toNat) ?_ ?_
          · refine ⟨[], f.2.2, L, rfl, by simp [tks], ?_⟩
            simp -dsimp -implicitDefEqProofs (disch := first | omega | (simp only [List.length_append, List.length_cons, List.length_nil, List.length_take, List.length_drop]; omega)) only [hs, h330, p18, List.length_nil, Int.natCast_zero, ↓aPre, aPost, oneW, allOne, retV, retVA, simprocAttr]
          clear hs
          rintro st4 ⟨V1, V2, L2, hV, hL2, hs⟩
          have hvl2 : f.2.2.length = V1.length + V2.length := by rw [hV, List.length_append]
          cases V2 with
          | nil =>
            rw [List.append_nil] at hV
            rw [List.length_nil, Nat.add_zero] at hvl2
            rw [← hvl2] at hs
            simp -dsimp -implicitDefEqProofs (disch := first | omega | (simp only [List.length_append, List.length_cons, List.length_nil, List.length_take, List.length_drop]; omega)) only [hs, hvl, j1, ↓aPre, aPost, oneW, allOne, retV, retVA, simprocAttr]
            refine round_of ⟨F1 ++ [f], F2, L2, by rw [hF]; simp, hb2, by rw [hL2, hL, hv2, tks_app, List.map_append, hV], ?_⟩ ?_
            · rw [← hi2]
              simp -dsimp -implicitDefEqProofs (disch := first | omega | (simp only [List.length_append, List.length_cons, List.length_nil, List.length_take, List.length_drop]; omega)) only [hs, ↓aPre, aPost, oneW, allOne, retV, retVA, simprocAttr]
            · simp -dsimp -implicitDefEqProofs (disch := first | omega | (simp only [List.length_append, List.length_cons, List.length_nil, List.length_take, List.length_drop]; omega)) only [hs, hs00, ↓aPre, aPost, oneW, allOne, retV, retVA, simprocAttr]
              omega
          | cons v V2 =>
            rw [List.length_cons] at hvl2
            have hv := hU v (by rw [hV]; simp)
            obtain ⟨v, rfl⟩ := Int.eq_ofNat_of_zero_le hv.1
            have gv : f.2.2.getD V1.length 0 = (v : Int) := by rw [hV]; simp [List.getD]
            have hL2l : L2.length = L.length + V1.length := by rw [hL2, List.length_append, List.length_map, tks, List.length_map]
            have hap : L2 ++ [D.agg [.c (.int .u64 v), .c (.int .i64 (d + 1)), .c (.int .i64 own)]] = L ++ (tks (d + 1) own (V1 ++ [(v : Int)])).map tkD := by rw [hL2, tks_app, List.map_append, ← List.append_assoc]; rfl
            obtain ⟨j, hj⟩ : ∃ j, j = V1.length := ⟨_, rfl⟩
            rw [← hj] at hs gv hvl2 hL2l
            have j2 : (j : Int) + 1 = ((V1 ++ [(v : Int)]).length : Int) := by rw [List.length_append, List.length_cons, List.length_nil]; omega
            obtain ⟨j3, hj3⟩ : ∃ j3, j3 = (V1 ++ [(v : Int)]).length := ⟨_, rfl⟩
            have hj4 : j3 = j + 1 := by rw [hj3, List.length_append, hj]; rfl
            rw [← hj3] at j2
            have hLa : (L2 ++ [D.agg [.c (.int .u64 v), .c (.int .i64 (d + 1)), .c (.int .i64 own)]]).length = L2.length + 1 := by simp
            simp -dsimp -implicitDefEqProofs (disch := first | omega | (simp only [List.length_append, List.length_cons, List.length_nil, List.length_take, List.length_drop]; omega)) only [hs, hvl, gv, j2, hlen1, hl2, i0, ↓aPre, aPost, oneW, allOne, retV, retVA, simprocAttr]
            refine round_of ⟨V1 ++ [(v : Int)], V2, L2 ++ [D.agg [.c (.int .u64 v), .c (.int .i64 (d + 1)), .c (.int .i64 own)]], by rw [hV]; simp, hap, ?_⟩ ?_
            · rw [← hj3, hLa]
              simp -dsimp -implicitDefEqProofs (disch := first | omega | (simp only [List.length_append, List.length_cons, List.length_nil, List.length_take, List.length_drop]; omega)) only [hs, h330, p18, ↓aPre, aPost, oneW, allOne, retV, retVA, simprocAttr]
            · simp -dsimp -implicitDefEqProofs (disch := first | omega | (simp only [List.length_append, List.length_cons, List.length_nil, List.length_take, List.length_drop]; omega)) only [hs, ↓aPre, aPost, oneW, allOne, retV, retVA, simprocAttr]
              omega
        · exact absurd hpt (fun c => c.elim p4 fun c => c.elim p13 fun c => c.elim p16 p18)
end Go.Proofs.Ytpjnpmdmcllilaa
