/- A line of the table and its kinds, walked. No condition but what each says. -/
import Derived.Test.YthbdglibakjfbaaDoorWRule1
import Derived.Test.YthbdglibakjfbaaDoorWGh
set_option linter.unusedSimpArgs false
set_option linter.unusedVariables false
set_option maxRecDepth 8000
set_option maxHeartbeats 4000000
set_option linter.unusedSectionVars false
namespace Go.Proofs.YthbdglibakjfbaaDoor
open Go.Eng Go.RowKit
variable [Inhabited Lo]
theorem str_back (w : List Int) : (⟨(ubS w).toArray⟩ : ByteArray) = strOfNums w := by
  unfold ubS
  cases strOfNums w
  simp
def strD (ws : List (List Int)) : List D := ws.map fun w => .c (.string (strOfNums w))
theorem strD_len (ws : List (List Int)) : (strD ws).length = ws.length := List.length_map ..
theorem strD_get {ws : List (List Int)} {i : Nat} (h : i < ws.length) : (strD ws).getD i default = .c (.string (strOfNums (ws.getD i []))) := by
  simp only [strD, List.getD, List.getElem?_map, List.getElem?_eq_getElem h, Option.map_some, Option.getD_some]
theorem drt_c {Z : Nat → Prop} {w : World} : ∀ {xs vs : List Value}, DRt Z w (xs.map D.c) vs → vs = xs
  | [], vs, h => by simpa only [List.map_nil, DRt] using h
  | x :: xs, vs, h => by
    simp only [List.map_cons, DRt] at h
    obtain ⟨y, ys, rfl, h1, h2⟩ := h
    unfold DR at h1
    rw [h1.1, drt_c h2]
theorem drt_of {Z : Nat → Prop} {w : World} : ∀ {xs : List Value}, (∀ x ∈ xs, x.oneCell' = true) → DRt Z w (xs.map D.c) xs
  | [], h => by simp only [List.map_nil, DRt]
  | x :: xs, h => by
    simp only [List.map_cons, DRt]
    exact ⟨x, xs, rfl, by unfold DR; exact ⟨rfl, h x (by simp)⟩, drt_of fun y hy => h y (by simp [hy])⟩
theorem giv_lib {P : Program} {f : FuncId} {xs rs : List Value} (hb : hasBody P f = true) (hr : ∀ x ∈ rs, x.oneCell' = true)
    (h : ∀ w, Tw w → Calls P f xs.toArray w fun e w' => e = .returned (retVal rs) ∧ Below w.heap.size w w') : Giv P f (xs.map D.c) (retV (rs.map D.c)) := by
  refine .inl ⟨hb, fun Z w vs hz ht hv => ?_⟩
  rw [drt_c hv]
  refine (h w ht).mono fun e w' ⟨he, hbl⟩ => ⟨_, Z, he, ⟨fun _ h => h, fun _ h => .inl h, fun b hb => Nat.lt_of_lt_of_le (hz b hb) hbl.size, hbl⟩, fun M => retV_AR (drt_of hr)⟩
theorem below_bytes (w : World) (t : TypeId) (s : ByteArray) : Below w.heap.size w (Lib.bytesWorld w t s) := by
  unfold Lib.bytesWorld
  exact Lib.below_freeze ((Below.drew (Below.refl _ w)).alloc (Nat.le_refl _) _) (p := ⟨w.heap.size, _, none⟩) (Nat.le_refl _) 1
theorem fields_giv (t : List Int) (hs : t.length ≤ 100000) (hasc : byB t = true) (ws : List (List Int)) (hn : ws.length ≤ 1000) (hw : Lib.fields (ubS t) = ws.map ubS) :
    Giv Tryd.prog 17 [.c (.string (strOfNums t))] (retV [.lst 1 (strD ws)]) := by
  refine .inl ⟨by kernel_rfl, fun Z w vs hz ht hv => ?_⟩
  rw [drt_c (xs := [.string (strOfNums t)]) hv]
  have hvals : (Lib.fields (strOfNums t).data.toList).map (fun l => Value.string ⟨l.toArray⟩) = ws.map (fun l => Value.string (strOfNums l)) := by
    rw [show (strOfNums t).data.toList = ubS t from rfl, hw, List.map_map]
    refine List.map_congr_left fun x _ => ?_
    show Value.string ⟨(ubS x).toArray⟩ = _
    rw [str_back]
  refine (Tryd.strings_Fields (strOfNums t) w (by rw [str_size]; omega) (fun j b hj => ?_) ht.space).mono fun e w' ⟨he, hw'⟩ => ?_
  · rw [str_ub] at hj
    unfold ub at hj
    rw [List.getElem?_map, Option.map_eq_some_iff] at hj
    obtain ⟨z, hz1, rfl⟩ := hj
    have := List.all_eq_true.1 hasc z (List.mem_of_getElem? hz1)
    rw [decide_eq_true_eq] at this
    have h2 := u8_of (z := z) (by omega)
    omega
  have hlen : (Lib.fields (strOfNums t).data.toList).length = ws.length := by
    rw [show (strOfNums t).data.toList = ubS t from rfl, hw, List.length_map]
  have he2 : e = .returned (.slice (some ⟨w.heap.size, 0, none⟩) ws.length ws.length) := by rw [he, hlen]
  have hw2 : w' = w.alloc (.cells (ws.map (fun l => Value.string (strOfNums l))).toArray 9) := by rw [hw', hvals]
  clear he hw'
  subst he2 hw2
  refine ⟨_, fun b => Z b ∨ b = w.heap.size, rfl, ⟨fun b h => .inl h, fun b h => ?_, fun b h => ?_, (Below.refl _ w).alloc (Nat.le_refl _) _⟩, fun M => ?_⟩
  · rcases h with h | h
    · exact .inl h
    · exact .inr (Nat.le_of_eq h.symm)
  · rw [World.size_alloc]
    rcases h with h | h
    · have := hz b h; omega
    · omega
  · refine retV_AR (vs := [.slice (some ⟨w.heap.size, 0, none⟩) ws.length ws.length]) ?_
    unfold DRt
    refine ⟨_, _, rfl, ?_, by unfold DRt; rfl⟩
    have hl := strD_len ws
    unfold DR
    rw [hl]
    refine ⟨_, _, rfl, Nat.le_refl _, Nat.le_trans hn (by decide), fun _ => ⟨w.heap.size, 0, rfl, .inr rfl, DRrow.of _ _ fun i hi => ?_⟩⟩
    rw [hl] at hi
    refine ⟨.string (strOfNums (ws.getD i [])), ⟨rfl, fun j hj => ?_⟩, ?_⟩
    · obtain rfl : j = 0 := by omega
      rw [Nat.zero_add, Nat.mul_one, Nat.add_zero, World.cell?_alloc_new]
      simp [List.getElem?_eq_getElem hi, List.getD, Value.cells]
    · rw [strD_get hi]
      unfold DR
      exact ⟨rfl, rfl⟩
theorem atoi_giv {t : List Int} (hl : t.length ≤ 18) {v : Int} (h : Lib.atoi (ubS t) = some v) : Giv Tryd.prog 18 [.c (.string (strOfNums t))] (retV [.c (.int .i64 v), .c .nilIface]) := by
  refine giv_lib (xs := [.string (strOfNums t)]) (rs := [.int .i64 v, .nilIface]) (by kernel_rfl) (by simp [Value.oneCell']) fun w ht => ?_
  refine (Tryd.strconv_Atoi (strOfNums t) v (by rw [str_size]; exact hl) h w).mono fun e w' ⟨he, s, hw⟩ => ?_
  subst hw
  exact ⟨he, below_bytes w 5 s⟩
/-- a kind -/
def U2 (tag : Int) (nm : List Int) (ks : List Int) (j : Nat) : List (Nat × Ob) := [(2000000, .box [.d (.c (.int .u16 tag)), .d (.c (.string (strOfNums nm))), .sl 1000000 1 0 j, .d (.c (.int .i64 0))]), (1000000, .row 1 (li .i64 (ks.take j)))]
theorem kind_round {tag : Int} {nm : List Int} {ks : List Int} {j : Nat} (hj : j < ks.length) (hks : ks.length ≤ 100) {sep rst pc : ByteArray} (hat : Giv Tryd.prog 18 [.c (.string pc)] (retV [.c (.int .i64 (ks.getD j 0)), .c .nilIface])) {lr n : Nat} {c' : Cx} (hnt : c'.nt = 56) {Z : Nat → Prop} {M : Nat → Option Nat} {a' : Act} {W : World}
    (R : Rep c' Z M (((S0 [(6, 2000000)] (ItO sep rst ++ U2 tag nm ks j)).put (some 31) (.d (.c (.string pc)))).put (some 7) (.d (.c (.string pc)))) a' W) :
    bd2.wpIn (wideR (some lr)) n Tryd.prog (fun e a2 W2 => e = .normal ∧ ∃ Z2 M2 s2, Rep c' Z2 M2 s2 a2 W2 ∧ hpEq s2 (ItO sep rst ++ U2 tag nm ks (j + 1))) a' W := by
  obtain ⟨s, hse⟩ : ∃ s, s = (((S0 [(6, 2000000)] (ItO sep rst ++ U2 tag nm ks j)).put (some 31) (.d (.c (.string pc)))).put (some 7) (.d (.c (.string pc)))) := ⟨_, rfl⟩
  have hs : s.tm 6 = .ptr 2000000 0 ∧ s.tm 7 = .d (.c (.string pc)) ∧ s.hp 2000011 = some (.box [.d (.c (.string sep))]) ∧ s.hp 2000012 = some (.box [.d (.c (.string rst))]) ∧ s.hp 2000013 = some (.box [.d (.c (.int .i64 0))]) ∧ s.hp 2000000 = some (.box [.d (.c (.int .u16 tag)), .d (.c (.string (strOfNums nm))), .sl 1000000 1 0 j, .d (.c (.int .i64 0))]) ∧ s.hp 1000000 = some (.row 1 (li .i64 (ks.take j))) := by
    subst hse
    exact ⟨rfl, rfl, rfl, rfl, rfl, rfl, rfl⟩
  rw [← hse] at R
  clear hse
  have htl : (ks.take j).length = j := by rw [List.length_take]; omega
  have htk := take_at hj
  refine piece_in (own := []) (prot := []) (by rw [hnt]; exact cbd2) (by kernel_rfl) R ?_
  simp -dsimp -implicitDefEqProofs (disch := first | omega | (simp only [List.length_append, List.length_cons, List.length_nil, List.length_take, List.length_drop]; omega)) only [abd2, hs, ↓aPre, aPost, oneW, allOne, retV, retVA, simprocAttr]
  refine call_giv hat ?_
  simp -dsimp -implicitDefEqProofs (disch := first | omega | (simp only [List.length_append, List.length_cons, List.length_nil, List.length_take, List.length_drop]; omega)) only [hs, htl, pcQ_n, ↓aPre, aPost, oneW, allOne, retV, retVA, simprocAttr]
  refine pc_of ?_
  show hpEq _ [(2000011, .box [.d (.c (.string sep))]), (2000012, .box [.d (.c (.string rst))]), (2000013, .box [.d (.c (.int .i64 0))]), (2000000, .box [.d (.c (.int .u16 tag)), .d (.c (.string (strOfNums nm))), .sl 1000000 1 0 (j + 1), .d (.c (.int .i64 0))]), (1000000, .row 1 (li .i64 (ks.take (j + 1))))]
  simp -dsimp -implicitDefEqProofs (disch := first | omega | (simp only [List.length_append, List.length_cons, List.length_nil, List.length_take, List.length_drop]; omega)) only [hs, htl, htk, ↓aPre, aPost, oneW, allOne, retV, retVA, simprocAttr]
end Go.Proofs.YthbdglibakjfbaaDoor
