/- registry.Rules, walked: the rules as data. No condition. -/
import Derived.Test.YthbdglibakjfbaaDoorWLine
import Derived.RangeFuncLeaves
set_option linter.unusedSimpArgs false
set_option linter.unusedVariables false
set_option maxRecDepth 8000
set_option maxHeartbeats 4000000
set_option linter.unusedSectionVars false
namespace Go.Proofs.YthbdglibakjfbaaDoor
open Go.Eng Go.RowKit
variable [Inhabited Lo]
def rT (k : Nat) : RuT := rulT.getD k ([], [], [], [])
def rY (k : Nat) : Ru := ruls.getD k (0, [], [], 0)
theorem chk_at {k : Nat} (h : k < 55) : chk (rT k) (rY k) = true := by
  have h1 : k < rulT.length := by rw [rulT_len]; exact h
  have h2 : k < ruls.length := by rw [ruls_len]; exact h
  have h3 : k < (rulT.zip ruls).length := by rw [List.length_zip, rulT_len, ruls_len]; exact h
  have := List.all_eq_true.1 chk_all ((rulT.zip ruls)[k]) (List.getElem_mem _)
  rw [List.getElem_zip] at this
  unfold rT rY
  simp only [List.getD, List.getElem?_eq_getElem h1, List.getElem?_eq_getElem h2, Option.getD_some]
  exact this
theorem rusD_snoc {k : Nat} (h : k < 55) : rusD (ruls.take k) ++ [ruD (rY k)] = rusD (ruls.take (k + 1)) := by
  have h2 : k < ruls.length := by rw [ruls_len]; exact h
  have e : ruls.take (k + 1) = ruls.take k ++ [rY k] := by
    rw [List.take_add_one]
    unfold rY
    simp only [List.getD, List.getElem?_eq_getElem h2, Option.getD_some, Option.toList_some]
  rw [e, rusD, rusD, List.map_append]
  rfl
theorem tbl_len : tblT.length ≤ 100000 := by decide +kernel
theorem byB_bytes {l : List Int} (h : byB l = true) : Bytes l := fun z hz => by
  have := List.all_eq_true.1 h z hz
  rw [decide_eq_true_eq] at this
  omega
theorem lines_at {k : Nat} (h : k < 55) : (rulT.map lineT).getD k [] = lineT (rT k) := by
  have h1 : k < rulT.length := by rw [rulT_len]; exact h
  unfold rT
  simp only [List.getD, List.getElem?_map, List.getElem?_eq_getElem h1, Option.map_some, Option.getD_some]
theorem mem_at {p : List Int} (h : p ∈ rulT.map lineT) : ∃ k, k < 55 ∧ p = lineT (rT k) := by
  obtain ⟨k, hk, rfl⟩ := List.mem_iff_getElem.1 h
  have hk' : k < 55 := by rw [List.length_map, rulT_len] at hk; exact hk
  refine ⟨k, hk', ?_⟩
  have := lines_at hk'
  simp only [List.getD, List.getElem?_eq_getElem hk, Option.getD_some] at this
  exact this
structure LineF (x : RuT) (y : Ru) : Prop where
  f : Lib.fields (ubS (lineT x)) = (wordsT x).map ubS
  t : Lib.atoi (ubS x.1) = some y.1
  c : Lib.atoi (ubS x.2.2.2) = some y.2.2.2
  k : x.2.2.1.map (fun k => Lib.atoi (ubS k)) = y.2.2.1.map some
  tl : x.1.length ≤ 18
  cl : x.2.2.2.length ≤ 18
  ka : ∀ p ∈ x.2.2.1, p.length ≤ 18 ∧ byB p = true ∧ ∀ z ∈ p, ¬ z = 44
  k0 : x.2.2.1 ≠ []
  k1 : x.2.2.1.length ≤ 10
  b : byB (lineT x) = true
  n : ∀ z ∈ lineT x, ¬ z = 10
  g : 0 ≤ y.1 ∧ y.1 < 65536
  nm : x.2.1 = y.2.1
  l : (lineT x).length ≤ 100
theorem line_at {k : Nat} (h : k < 55) : LineF (rT k) (rY k) := by
  have := chk_at h
  unfold chk at this
  simp only [Bool.and_eq_true, beq_iff_eq, decide_eq_true_eq, List.all_eq_true] at this
  obtain ⟨⟨⟨⟨⟨⟨⟨⟨⟨⟨⟨⟨⟨h1, h2⟩, h3⟩, h4⟩, h5⟩, h6⟩, h7⟩, h8⟩, h9⟩, h10⟩, h11⟩, h12⟩, h13⟩, h14⟩ := this
  exact ⟨h1, h2, h3, h4, h5, h6, fun p hp => ⟨(h7 p hp).1.1, (h7 p hp).1.2, (h7 p hp).2⟩, h8, h9, h10, h11, h12, h13, h14⟩
theorem LineF.kinds {x : RuT} {y : Ru} (h : LineF x y) : x.2.2.1.length = y.2.2.1.length ∧ ∀ j, j < x.2.2.1.length → Lib.atoi (ubS (x.2.2.1.getD j [])) = some (y.2.2.1.getD j 0) := by
  have hl : x.2.2.1.length = y.2.2.1.length := by
    have := congrArg List.length h.k
    rwa [List.length_map, List.length_map] at this
  refine ⟨hl, fun j hj => ?_⟩
  have h2 : j < y.2.2.1.length := by omega
  have := congrArg (fun l => l[j]?) h.k
  simp only [List.getElem?_map, List.getElem?_eq_getElem hj, List.getElem?_eq_getElem h2, Option.map_some, Option.some.injEq] at this
  simp only [List.getD, List.getElem?_eq_getElem hj, List.getElem?_eq_getElem h2, Option.getD_some]
  exact this
theorem seq_lines : SeqC Tryd.prog 47 (strOfNums [10]) (rulT.map lineT).length (fun k => strOfNums (joinS 10 ((rulT.map lineT).drop k))) (fun k => strOfNums ((rulT.map lineT).getD k [])) :=
  seqJ (by decide) (by intro h; have := congrArg List.length h; rw [List.length_map, rulT_len] at this; cases this)
    (fun p hp => by obtain ⟨k, hk, rfl⟩ := mem_at hp; exact (line_at hk).n) (fun p hp => by obtain ⟨k, hk, rfl⟩ := mem_at hp; exact byB_bytes (line_at hk).b) tbl_len
theorem one_line {k : Nat} (hk : k < 55) {sep rst : ByteArray} {lr n : Nat} {c' : Cx} (hnt : c'.nt = 56) {Z : Nat → Prop} {M : Nat → Option Nat} {a' : Act} {W : World}
    (R : Rep c' Z M (((S0 [(1, 2000000)] (ItO sep rst ++ U1 ruls k)).put (some 11) (.d (.c (.string (strOfNums ((rulT.map lineT).getD k [])))))).put (some 2) (.d (.c (.string (strOfNums ((rulT.map lineT).getD k [])))))) a' W) (hlp : ∃ r0, W.heap[lr]? = some (.loop r0)) (hne : ∀ m b, M m = some b → b ≠ lr) (hw0 : c'.w0 = W) (hM0 : c'.M0 = M) :
    (Code.block 1 bd1).wpIn (wideR (some lr)) n Tryd.prog (fun e a2 W2 => e = .normal ∧ ∃ Z2 M2 s2, Rep c' Z2 M2 s2 a2 W2 ∧ hpEq s2 (ItO sep rst ++ U1 ruls (k + 1))) a' W := by
  have L := line_at hk
  have hK := L.kinds
  have hsn := rusD_snoc hk
  rw [lines_at hk] at R
  rcases hx : rT k with ⟨t0, nm, kt, t3⟩
  rcases hy : rY k with ⟨tag, nm', ks, ct⟩
  rw [hx] at R
  rw [hy] at hsn
  rw [hx, hy] at L hK
  have e := L.nm
  dsimp only at e hK
  subst e
  have hk0 : 0 < kt.length := by
    have := L.k0
    cases kt with
    | nil => exact absurd rfl this
    | cons p r => simp
  exact line_round (by rw [ruls_len]; exact hk) (by rw [ruls_len]; decide) hsn L.g (fields_giv _ (by have := L.l; omega) L.b _ (by show 4 ≤ 1000; decide) L.f) (atoi_giv L.tl L.t) (atoi_giv L.cl L.c) hK.1 hk0 (by have := L.k1; dsimp only at this; omega)
    (fun j hj => atoi_giv (L.ka _ (lget_mem hj)).1 (hK.2 j hj)) (seqJ (by decide) L.k0 (fun p hp => (L.ka p hp).2.2) (fun p hp => byB_bytes (L.ka p hp).2.1) (by
      have h1 := L.l
      have h2 : (joinS 44 kt).length ≤ (lineT (t0, nm, kt, t3)).length := by
        unfold lineT wordsT
        simp only [joinS, List.length_append, List.length_cons]
        omega
      omega)) rfl hnt R hlp hne hw0 hM0
end Go.Proofs.YthbdglibakjfbaaDoor
