/- append on a walk's values agrees with Go's. No condition. -/
import Derived.Test.YthbdglibakjfbaaDoorEngJ
import Derived.Lib.AppendZerosOnto
set_option linter.unusedSectionVars false
namespace Go.Eng
open Go.RowKit
variable [Inhabited Lo]
section
variable {P : Program} {c : Cx} {Z Z' : Nat → Prop} {M : Nat → Option Nat} {s : St} {a : Act} {w w' : World}

/-- a list of cells that reads as a list of elements -/
def RowOf (Z : Nat → Prop) (w : World) (es : Nat) (xs : List Value) (L : List D) : Prop := xs.length = L.length * es ∧ ∀ i, i < L.length → ∃ x, (x.cells.size = es ∧ ∀ j, j < es → xs[i * es + j]? = x.cells[j]?) ∧ DR Z w (L.getD i default) x
theorem RowOf.append {es : Nat} {xs ys : List Value} {L L' : List D} (h : RowOf Z w es xs L) (k : RowOf Z w es ys L') : RowOf Z w es (xs ++ ys) (L ++ L') := by
  refine ⟨by rw [List.length_append, List.length_append, h.1, k.1, Nat.add_mul], fun i hi => ?_⟩
  rw [List.length_append] at hi
  by_cases h1 : i < L.length
  · obtain ⟨x, ⟨hx1, hx2⟩, hx3⟩ := h.2 i h1
    have hie : (i + 1) * es ≤ L.length * es := Nat.mul_le_mul_right _ h1
    rw [Nat.add_mul, Nat.one_mul] at hie
    refine ⟨x, ⟨hx1, fun j hj => ?_⟩, ?_⟩
    · rw [List.getElem?_append_left (by rw [h.1]; omega)]; exact hx2 j hj
    · have e : (L ++ L').getD i default = L.getD i default := by simp only [List.getD, List.getElem?_append_left h1]
      rw [e]; exact hx3
  · obtain ⟨x, ⟨hx1, hx2⟩, hx3⟩ := k.2 (i - L.length) (by omega)
    have hie : i * es = L.length * es + (i - L.length) * es := by rw [← Nat.add_mul]; congr 1; omega
    refine ⟨x, ⟨hx1, fun j hj => ?_⟩, ?_⟩
    · rw [List.getElem?_append_right (by rw [h.1]; omega), h.1, show i * es + j - L.length * es = (i - L.length) * es + j from by omega]; exact hx2 j hj
    · have e : (L ++ L').getD i default = L'.getD (i - L.length) default := by simp only [List.getD, List.getElem?_append_right (Nat.le_of_not_lt h1)]
      rw [e]; exact hx3
theorem RowOf.nil (es : Nat) : RowOf Z w es [] [] := ⟨by simp, fun i hi => by simp at hi⟩
theorem row_cells {es b : Nat} : ∀ (L : List D) (off : Nat), DRrow Z w es b L off → ∃ xs, RowOf Z w es xs L ∧ (∀ (j : Nat) u, xs[j]? = some u → w.cell? ⟨b, off + j, none⟩ = some u) ∧ ∀ u ∈ xs, u.oneCell' = true
  | [], off, _ => ⟨[], RowOf.nil es, fun j u h => by simp at h, fun u h => by simp at h⟩
  | d :: L, off, h => by
    unfold DRrow at h
    obtain ⟨⟨x, ⟨hx1, hx2⟩, hd⟩, hr⟩ := h
    obtain ⟨xs, h1, h2, h3⟩ := row_cells L _ hr
    have hone : RowOf Z w es x.cells.toList [d] := by
      refine ⟨by simp [hx1], fun i hi => ?_⟩
      obtain rfl : i = 0 := by simp at hi; omega
      exact ⟨x, ⟨hx1, fun j hj => by simp⟩, by simpa using hd⟩
    refine ⟨x.cells.toList ++ xs, hone.append h1, fun j u hj => ?_, fun u hu => ?_⟩
    · by_cases hlt : j < es
      · rw [List.getElem?_append_left (by simp [hx1]; exact hlt)] at hj
        rw [hx2 j hlt]
        simpa using hj
      · rw [List.getElem?_append_right (by simp [hx1]; omega)] at hj
        have := h2 _ u hj
        simp only [Array.length_toList, hx1] at this
        rwa [show off + es + (j - es) = off + j from by omega] at this
    · rcases List.mem_append.1 hu with hu | hu
      · exact hd.cells.ones u hu
      · exact h3 u hu
theorem RowOf.keep (k : Keeps Z Z' w w') {es : Nat} {xs : List Value} {L : List D} (h : RowOf Z w es xs L) : RowOf Z' w' es xs L :=
  ⟨h.1, fun i hi => by obtain ⟨x, h1, h2⟩ := h.2 i hi; exact ⟨x, h1, DR.keep k _ _ h2⟩⟩
theorem RowOf.row {es b : Nat} {xs : List Value} {L : List D} (h : RowOf Z w es xs L) (hc : ∀ j, j < xs.length → w.cell? ⟨b, j, none⟩ = xs[j]?) : DRrow Z w es b L 0 := by
  refine DRrow.of _ _ fun i hi => ?_
  obtain ⟨x, ⟨h1, h2⟩, h3⟩ := h.2 i hi
  have hie : (i + 1) * es ≤ L.length * es := Nat.mul_le_mul_right _ hi
  rw [Nat.add_mul, Nat.one_mul] at hie
  refine ⟨x, ⟨h1, fun j hj => ?_⟩, h3⟩
  rw [Nat.zero_add, hc _ (by rw [h.1]; omega), h2 j hj]

theorem run_app_none {t ty e : TypeId} {i : TypeInfo} (ht : P.underlying t = some (.slice e)) (hi : P.info? e = some i) (ad ad2 : Option Addr) (len cap cap2 : Nat) (hl : len ≤ cap) :
    (Builtin.append_ #[t, t] ty #[.slice ad len cap, .slice ad2 0 cap2]).run P w = .ok (.slice ad len cap) w := by
  cases ad <;> cases ad2 <;> simp [Builtin.append_, run_underlying ht, sizeOf, typeInfo, hi, Builtin.lenOf, Builtin.firstCells, loadCells, loadCellsFrom, hl, storeCells]
theorem run_app_room {t ty e e' : TypeId} {i : TypeInfo} (ht : P.underlying t = some (.slice e)) (hi : P.info? e = some i)
    {g len cap : Nat} {cur : Array Value} (hg : blkAt w g cur e')
    {ad : Addr} {m c : Nat} {news : List Value} (hl : news.length = m * i.size) (hnews : ∀ (j : Nat) u, news[j]? = some u → w.cell? (ad.add j) = some u) (h1 : ∀ u ∈ news, u.oneCell' = true)
    (hroom : len + m ≤ cap) (hfit : len * i.size + news.length ≤ cur.size) :
    (Builtin.append_ #[t, t] ty #[.slice (some ⟨g, 0, none⟩) len cap, .slice (some ad) m c]).run P w = .ok (.slice (some ⟨g, 0, none⟩) (len + m) cap) (w.setRow g (spl cur.toList (len * i.size) news).toArray) := by
  have hf := run_firstCells_some (P := P) w i.size m ad m c news hl hnews
  have hst := run_storeCells_ok (P := P) g (len * i.size) e' news 0 cur w hg (by simpa using hfit) h1
  simp only [Nat.add_zero] at hst
  unfold spl
  simp [Builtin.append_, run_underlying ht, sizeOf, typeInfo, hi, Builtin.lenOf, hroom, hf, add_at, hst]

/-- the type of what is appended -/
structure AppT (P : Program) (t e : TypeId) (i : TypeInfo) (z : Value) : Prop where
  ht : P.underlying t = some (.slice e)
  hi : P.info? e = some i
  hz : i.zero = some z
  hs : z.cells.size = i.size
  pos : 0 < i.size
/-- what is appended, as it stands in the world -/
structure Src (Z : Nat → Prop) (w : World) (es : Nat) (L : List D) (x : Value) : Prop where
  form : ∃ ad cap, x = .slice ad L.length cap ∧ (L.length ≠ 0 → ∃ a0 xs, ad = some a0 ∧ RowOf Z w es xs L ∧ (∀ (j : Nat) u, xs[j]? = some u → w.cell? (a0.add j) = some u) ∧ ∀ u ∈ xs, u.oneCell' = true)

theorem drew_below (w : World) : Below w.heap.size w w.drew := Below.drew (Below.refl _ _)
theorem Rep.app_new (R : Rep c Z M s a w) {t e : TypeId} {i : TypeInfo} {z : Value} (T : AppT P t e i z) (n : Nat) (hfx : n < 2000000) {L : List D} {xs : List Value} (h : RowOf Z w i.size xs L) {need cap : Nat} (hn : L.length = need) (hle : need ≤ cap) (hm : cap ≤ maxLen) :
    ∃ M', (∀ m, m ≠ n → M' m = M m) ∧ Rep c Z M' (s.renew n (.row i.size L)) a (w.drew.alloc (.cells (xs.toArray ++ Builtin.zeroCells z.cells (cap - need)) e)) ∧ AR Z M' (w.drew.alloc (.cells (xs.toArray ++ Builtin.zeroCells z.cells (cap - need)) e)) (.sl n i.size 0 L.length) (.slice (some ⟨w.heap.size, 0, none⟩) need cap) := by
  subst hn
  have R1 := R.grow (drew_below w).grow_none
  refine R1.newRow n hfx T.pos (cap := cap) ?_ hle hm fun q hq => ?_
  · simp only [Array.size_append, List.size_toArray, size_zeroCells, T.hs, h.1, ← Nat.add_mul]
    congr 1; omega
  · obtain ⟨x, ⟨h1, h2⟩, h3⟩ := h.2 q hq
    have hie : (q + 1) * i.size ≤ L.length * i.size := Nat.mul_le_mul_right _ hq
    rw [Nat.add_mul, Nat.one_mul] at hie
    refine ⟨x, ⟨h1, fun j hj => ?_⟩, DR.keep (show Keeps Z Z w w.drew from ⟨fun _ h => h, fun _ _ _ => rfl⟩) _ _ h3⟩
    rw [Array.getElem?_append_left (by simp [h.1]; omega)]
    simpa using h2 j hj

def appT (n : Nat) (v : AV) : List Nat := match v with
  | .sl m _ _ _ => [m]
  | _ => [n]
theorem app_sound (R : Rep c Z M s a w) {t e ty : TypeId} {i : TypeInfo} {z : Value} (T : AppT P t e i z) (n : Nat) (hfx : n < 2000000) {v : AV} {x y : Value} {L' : List D} (hv : AR Z M w v x) (hy : Src Z w i.size L' y)
    {K : St → AV → Prop} (h : appB n i.size i.bytes v s L' K) :
    ∃ r w' M' s' u, (Builtin.append_ #[t, t] ty #[x, y]).run P w = .ok r w' ∧ Eff (appT n v) Z M M' w w' ∧ Rep c Z M' s' a w' ∧ AR Z M' w' u r ∧ K s' u := by
  obtain ⟨ad2, cap2, rfl, hsrc⟩ := hy.form
  unfold appB at h
  split at h
  · rename_i m es' off len
    split at h
    · rename_i es'' L hm
      obtain ⟨rfl, rfl, rfl, rfl, h2m, hby, h63, hk⟩ := h
      have hlv : s.live m := ⟨_, hm, rfl⟩
      have hav := hv
      unfold AR at hv
      obtain ⟨ad, cap, rfl, hlc, hcm, hpl⟩ := hv
      by_cases hn0 : L'.length = 0
      · -- nothing is appended
        obtain rfl : L' = [] := List.eq_nil_of_length_eq_zero hn0
        have hrun := run_app_none (P := P) (w := w) (ty := ty) T.ht T.hi ad ad2 L.length cap cap2 hlc
        have g : w.grownBy w none := ⟨rfl, rfl, rfl, Nat.le_refl _, fun _ _ _ => rfl⟩
        refine ⟨_, w, M, s.renew m (.row i.size (L ++ [])), .sl m i.size 0 (L.length + 0), by simpa using hrun, Eff.of_grown g (by simp) (fun _ _ => rfl), R.renew m h2m (row := none) g (by simp) (fun _ _ => rfl) (by rw [List.append_nil]; exact R.ob m _ hm) (fun b hb => .inl ⟨hlv, hb⟩), by simpa using hav, hk⟩
      · obtain ⟨a0, news, rfl, hrow, hcell, hone⟩ := hsrc hn0
        rcases hpl (.inr rfl) with ⟨hMn, rfl, rfl⟩ | ⟨b, hMb, rfl, arr, e', hh, hsz⟩
        · -- the old one is nil
          obtain ⟨_, ⟨_, hL⟩ | ⟨b, _, _, hMb, _⟩⟩ := R.ob m _ hm
          · subst hL
            have hrun := run_append_nil (P := P) w t ty e i z T.ht T.hi T.hz a0 L'.length cap2 news hrow.1 hcell (by omega) (by omega) (by simp at hby; omega)
            obtain ⟨M', hMo, R', hr⟩ := R.app_new T m h2m hrow rfl (grownCap_ge w L'.length 0 e) (grownCap_le_maxLen w L'.length 0 e (by unfold maxLen; simp at h63; omega))
            refine ⟨_, _, M', _, _, by simpa using hrun, Eff.of_below ((drew_below w).trans ((below_alloc w.drew _).mono (by simp))) (fun k hk => hMo k (by simpa [appT] using hk)), R', hr, ?_⟩
            simpa using hk
          · rw [hMn] at hMb; cases hMb
        · obtain ⟨_, ⟨h1, _⟩ | ⟨b', arr', e2, h1, h2, h3, h4, h5⟩⟩ := R.ob m _ hm
          · rw [hMb] at h1; cases h1
          rw [hMb] at h1; cases h1
          obtain ⟨rfl, rfl⟩ := hh.uniq h2
          obtain ⟨olds, ho1, ho2, ho3⟩ := row_cells L 0 h5
          have holds : ∀ (j : Nat) u, olds[j]? = some u → w.cell? ((⟨b, 0 * i.size, none⟩ : Addr).add j) = some u := by
            intro j u hj
            rw [Nat.zero_mul, add_at]
            exact ho2 j u hj
          by_cases hroom : L.length + L'.length ≤ cap
          · -- there is room
            have hfit : L.length * i.size + news.length ≤ arr.size := by
              rw [hrow.1, hsz, ← Nat.add_mul, Nat.zero_add]
              exact Nat.mul_le_mul_right _ hroom
            have hrun := run_app_room (P := P) (ty := ty) T.ht T.hi hh hrow.1 hcell hone hroom hfit (c := cap2)
            obtain ⟨g, hr, hh'⟩ := setRow_grown' (ys := (spl arr.toList (L.length * i.size) news).toArray) hh (by simp only [List.size_toArray]; rw [spl_len (by simp; omega)]; simp)
            have k := R.stays_renew (n := m) (M' := M) (row := some b) g (fun b' hb' => by cases hb'; exact ⟨hlv, hMb⟩) (fun _ _ => rfl)
            have hall := (RowOf.append ho1 hrow).keep k.toKeeps
            refine ⟨_, _, M, _, _, by rw [Nat.zero_mul]; exact hrun, Eff.of_grown g (fun b' hb' => by cases hb'; exact ⟨h4, m, by simp [appT], hMb⟩) (fun _ _ => rfl), R.renew m h2m (row := some b) (o := .row i.size (L ++ L')) g (fun b' hb' => by cases hb'; exact ⟨hlv, hMb⟩) (fun _ _ => rfl) ⟨T.pos, .inr ⟨b, _, e', hMb, hh', ?_, h4, hall.row fun j hj => ?_⟩⟩ (fun b hb => .inl ⟨hlv, hb⟩) (fun b' k hb' hk => by cases hb'; exact hr k hk), ?_, hk⟩
            · rw [List.length_append, List.size_toArray, spl_len (by simp; omega)]
              simp only [Array.length_toList]
              rw [hsz, Nat.zero_add]
              exact Nat.mul_le_mul_right _ hroom
            · have hlo := ho1.1
              have hln := hrow.1
              rw [List.length_append] at hj
              rw [hh'.cell j]
              simp only [List.getElem?_toArray]
              rw [spl_get (by simp; omega)]
              by_cases c1 : j < L.length * i.size
              · rw [if_pos c1, List.getElem?_append_left (by omega)]
                have hj' : j < olds.length := by omega
                have := ho2 j olds[j] (List.getElem?_eq_getElem hj')
                rw [Nat.zero_add, hh.cell j] at this
                rw [List.getElem?_eq_getElem hj', ← this]; simp
              · rw [if_neg c1, if_pos (by omega), List.getElem?_append_right (by omega), hlo]
            · unfold AR
              exact ⟨_, cap, rfl, hroom, hcm, fun _ => .inr ⟨b, hMb, by rw [Nat.zero_mul], hr _ ⟨arr, e', hh, hsz⟩⟩⟩
          · -- a new block
            have hrun := run_append_grow (P := P) w t ty e i z T.ht T.hi T.hz ⟨b, 0 * i.size, none⟩ L.length cap olds ho1.1 holds a0 L'.length cap2 news hrow.1 hcell (by omega) (by omega) (growslice_fits (by omega) hby)
            have hall := RowOf.append ho1 hrow
            obtain ⟨M', hMo, R', hr⟩ := R.app_new T m h2m hall (by rw [List.length_append]) (grownCap_ge w (L.length + L'.length) cap e) (grownCap_le_maxLen w (L.length + L'.length) cap e (by unfold maxLen; omega))
            rw [List.length_append] at hr
            refine ⟨_, _, M', _, _, hrun, Eff.of_below ((drew_below w).trans ((below_alloc w.drew _).mono (by simp))) (fun k hk => hMo k (by simpa [appT] using hk)), ?_, ?_, hk⟩
            · simpa using R'
            · simpa using hr
    · exact h.elim
  · have hx := hv.c_.1
    subst hx
    obtain ⟨hby, h63, hk⟩ := h
    by_cases hn0 : L'.length = 0
    · obtain rfl : L' = [] := List.eq_nil_of_length_eq_zero hn0
      have hrun := run_app_none (P := P) (w := w) (ty := ty) T.ht T.hi none ad2 0 0 cap2 (Nat.le_refl _)
      have g : w.grownBy w none := ⟨rfl, rfl, rfl, Nat.le_refl _, fun _ _ _ => rfl⟩
      refine ⟨_, w, fun m => if m = n then none else M m, _, _, by simpa using hrun, Eff.of_grown g (by simp) (fun k hk => by simp [appT] at hk; simp [hk]), R.renew n hfx (row := none) (o := .row i.size []) g (by simp) (fun m hm => by simp [hm]) ⟨T.pos, .inl ⟨by simp, rfl⟩⟩ (fun b hb => by simp at hb), ?_, hk⟩
      unfold AR
      exact ⟨none, 0, rfl, Nat.le_refl _, Nat.zero_le _, fun _ => .inl ⟨by simp, rfl, rfl⟩⟩
    · obtain ⟨a0, news, rfl, hrow, hcell, hone⟩ := hsrc hn0
      have hrun := run_append_nil (P := P) w t ty e i z T.ht T.hi T.hz a0 L'.length cap2 news hrow.1 hcell (by omega) (by omega) (by omega)
      obtain ⟨M', hMo, R', hr⟩ := R.app_new T n hfx hrow rfl (grownCap_ge w L'.length 0 e) (grownCap_le_maxLen w L'.length 0 e (by unfold maxLen; omega))
      exact ⟨_, _, M', _, _, hrun, Eff.of_below ((drew_below w).trans ((below_alloc w.drew _).mono (by simp))) (fun k hk => hMo k (by simpa [appT] using hk)), R', hr, hk⟩
  · exact h.elim
theorem run_zero_none {t tn ty e : TypeId} {i : TypeInfo} {kn kq : IntKind} (ht : P.underlying t = some (.slice e)) (htn : P.underlying tn = some (.int kn)) (hi : P.info? e = some i) (ad : Option Addr) (len cap : Nat) (hl : len ≤ cap) :
    (Builtin.append_ #[t, tn] ty #[.slice ad len cap, .int kq 0]).run P w = .ok (.slice ad len cap) w := by
  have hw : IntKind.i64.wrap 0 = 0 := by decide
  cases ad <;> simp [Builtin.append_, run_underlying ht, run_underlying htn, sizeOf, typeInfo, hi, asInt, asIntOf, hw, hl, storeCells]
theorem run_zero_room {t tn ty e e' : TypeId} {i : TypeInfo} {z : Value} {kn kq : IntKind} (ht : P.underlying t = some (.slice e)) (htn : P.underlying tn = some (.int kn)) (hi : P.info? e = some i) (hz : i.zero = some z) (pos : 0 < i.size)
    {g len cap : Nat} {cur : Array Value} (hg : blkAt w g cur e') {m : Nat} (h0 : 0 < m) (hm : (m : Int) ≤ 9223372036854775807) (h48 : m * i.bytes ≤ 140737488355328)
    (h1 : ∀ u ∈ (Builtin.zeroCells z.cells m).toList, u.oneCell' = true) (hroom : len + m ≤ cap) (hfit : len * i.size + (Builtin.zeroCells z.cells m).toList.length ≤ cur.size) :
    (Builtin.append_ #[t, tn] ty #[.slice (some ⟨g, 0, none⟩) len cap, .int kq m]).run P w = .ok (.slice (some ⟨g, 0, none⟩) (len + m) cap) (w.setRow g (spl cur.toList (len * i.size) (Builtin.zeroCells z.cells m).toList).toArray) := by
  have hst := run_storeCells_ok (P := P) g (len * i.size) e' (Builtin.zeroCells z.cells m).toList 0 cur w hg (by simpa using hfit) h1
  simp only [Nat.add_zero] at hst
  have hw : IntKind.i64.wrap (m : Int) = m := by rw [IntKind.wrap_i64]; omega
  have h48i : ¬ (281474976710656 < (m : Int) * (i.bytes : Int)) := by
    rw [← Int.natCast_mul]
    omega
  have hneg : ¬ ((m : Int) < 0) := by omega
  have hns : ¬ (m * i.size = 0) := Nat.mul_ne_zero (by omega) (by omega)
  unfold spl
  simp [Builtin.append_, run_underlying ht, run_underlying htn, sizeOf, typeInfo, zeroValue, hi, hz, asInt, asIntOf, hw, hneg, hns, h48i, hroom, add_at, hst]
theorem zero_row {es : Nat} {zc : Array Value} {d : D} {x : Value} (hs : zc.size = es) (hx : x.cells = zc) (hd : ∀ (Z : Nat → Prop) (w : World), DR Z w d x) (m : Nat) : RowOf Z w es (Builtin.zeroCells zc m).toList (List.replicate m d) := by
  have hsz : (Builtin.zeroCells zc m).toList.length = m * es := by rw [Array.length_toList, size_zeroCells, hs]
  refine ⟨by rw [hsz, List.length_replicate], fun i hi => ?_⟩
  rw [List.length_replicate] at hi
  have hie : (i + 1) * es ≤ m * es := Nat.mul_le_mul_right _ hi
  rw [Nat.add_mul, Nat.one_mul] at hie
  refine ⟨x, ⟨by rw [hx, hs], fun j hj => ?_⟩, ?_⟩
  · have hm : (i * es + j) % es = j := by rw [Nat.add_comm, Nat.add_mul_mod_self_right, Nat.mod_eq_of_lt hj]
    rw [hx, Array.getElem?_toList]
    unfold Builtin.zeroCells
    rw [Array.getElem?_map, Array.getElem?_range, hs, if_pos (by omega), Option.map_some, hm, Array.getElem?_eq_getElem (by omega), getElem!_pos zc j (by omega)]
  · have e1 : (List.replicate m d).getD i default = d := by simp [List.getD, hi]
    rw [e1]
    exact hd Z w
theorem zero_one {zc : Array Value} {d : D} {x : Value} (hx : x.cells = zc) (hd : ∀ (Z : Nat → Prop) (w : World), DR Z w d x) (w0 : World) (m : Nat) : ∀ u ∈ (Builtin.zeroCells zc m).toList, u.oneCell' = true := by
  intro u hu
  have hc := DR.cells (hd (fun _ => False) w0)
  rw [hx] at hc
  have hlen := DRs.len _ _ hc
  unfold Builtin.zeroCells at hu
  simp only [Array.toList_map, List.mem_map] at hu
  obtain ⟨q, hq, rfl⟩ := hu
  have hq2 : q < m * zc.size := by simpa using hq
  have hp : 0 < zc.size := by
    rcases Nat.eq_zero_or_pos zc.size with h | h
    · rw [h, Nat.mul_zero] at hq2; omega
    · exact h
  have hr := Nat.mod_lt q hp
  rw [Array.length_toList] at hlen
  obtain ⟨y, h1, h2, _⟩ := DRs.get _ _ hc (q % zc.size) (by omega)
  rw [getElem!_pos zc _ hr]
  rw [Array.getElem?_toList, Array.getElem?_eq_getElem hr] at h1
  cases h1
  exact h2
theorem appZ_sound (R : Rep c Z M s a w) {t tn e ty : TypeId} {i : TypeInfo} {z : Value} (T : AppT P t e i z) (n : Nat) (hfx : n < 2000000) {v : AV} {x : Value} {kn kq : IntKind} (hv : AR Z M w v x) (htn : P.underlying tn = some (.int kn)) {zd : D} {xv : Value} (hx : xv.cells = z.cells) (hd : ∀ (Z : Nat → Prop) (w : World), DR Z w zd xv) {lv : Int} (hb : 0 ≤ lv ∧ lv ≤ 9223372036854775807 ∧ lv * (i.bytes : Int) ≤ 140737488355328)
    {K : St → AV → Prop} (h : appB n i.size i.bytes v s (List.replicate lv.toNat zd) K) :
    ∃ r w' M' s' u, (Builtin.append_ #[t, tn] ty #[x, .int kq lv]).run P w = .ok r w' ∧ Eff (appT n v) Z M M' w w' ∧ Rep c Z M' s' a w' ∧ AR Z M' w' u r ∧ K s' u := by
  obtain ⟨m0, rfl⟩ := Int.eq_ofNat_of_zero_le hb.1
  rw [Int.toNat_natCast] at h
  have hm63 := hb.2.1
  have hm48 : m0 * i.bytes ≤ 140737488355328 := by
    have := hb.2.2
    rw [← Int.natCast_mul] at this
    omega
  obtain ⟨L', hL'⟩ : ∃ L', L' = List.replicate m0 zd := ⟨_, rfl⟩
  have hLl : L'.length = m0 := by rw [hL', List.length_replicate]
  have hrow : ∀ {Z : Nat → Prop} {w : World}, RowOf Z w i.size (Builtin.zeroCells z.cells m0).toList L' := fun {Z w} => by
    rw [hL']
    exact zero_row T.hs hx hd m0
  have hone := zero_one hx hd w m0
  have hnl : (Builtin.zeroCells z.cells m0).toList.length = m0 * i.size := by rw [Array.length_toList, size_zeroCells, T.hs]
  rw [← hL'] at h
  unfold appB at h
  split at h
  · rename_i m es' off len
    split at h
    · rename_i es'' L hm
      obtain ⟨rfl, rfl, rfl, rfl, h2m, hby, h63, hk⟩ := h
      have hlv : s.live m := ⟨_, hm, rfl⟩
      have hav := hv
      unfold AR at hv
      obtain ⟨ad, cap, rfl, hlc, hcm, hpl⟩ := hv
      by_cases hn0 : L'.length = 0
      · -- nothing is appended
        obtain rfl : L' = [] := List.eq_nil_of_length_eq_zero hn0
        obtain rfl : m0 = 0 := by rw [← hLl]; rfl
        have hrun := run_zero_none (P := P) (w := w) (ty := ty) (kq := kq) T.ht htn T.hi ad L.length cap hlc
        have g : w.grownBy w none := ⟨rfl, rfl, rfl, Nat.le_refl _, fun _ _ _ => rfl⟩
        refine ⟨_, w, M, s.renew m (.row i.size (L ++ [])), .sl m i.size 0 (L.length + 0), by simpa using hrun, Eff.of_grown g (by simp) (fun _ _ => rfl), R.renew m h2m (row := none) g (by simp) (fun _ _ => rfl) (by rw [List.append_nil]; exact R.ob m _ hm) (fun b hb => .inl ⟨hlv, hb⟩), by simpa using hav, hk⟩
      · rcases hpl (.inr rfl) with ⟨hMn, rfl, rfl⟩ | ⟨b, hMb, rfl, arr, e', hh, hsz⟩
        · -- the old one is nil
          obtain ⟨_, ⟨_, hL⟩ | ⟨b, _, _, hMb, _⟩⟩ := R.ob m _ hm
          · subst hL
            have hrun := Lib.run_append_nil_zeros (P := P) w t tn ty e i z kq kn T.ht htn T.hi T.hz m0 (by omega) T.pos hm63 (by omega)
            obtain ⟨M', hMo, R', hr⟩ := R.app_new T m h2m hrow (need := m0) hLl (grownCap_ge w m0 0 e) (grownCap_le_maxLen w m0 0 e (by unfold maxLen; omega))
            rw [Array.toArray_toList] at R' hr
            rw [hLl] at hk hr
            refine ⟨_, _, M', _, _, by simpa using hrun, Eff.of_below ((drew_below w).trans ((below_alloc w.drew _).mono (by simp))) (fun k hk => hMo k (by simpa [appT] using hk)), R', hr, ?_⟩
            simpa using hk
          · rw [hMn] at hMb; cases hMb
        · obtain ⟨_, ⟨h1, _⟩ | ⟨b', arr', e2, h1, h2, h3, h4, h5⟩⟩ := R.ob m _ hm
          · rw [hMb] at h1; cases h1
          rw [hMb] at h1; cases h1
          obtain ⟨rfl, rfl⟩ := hh.uniq h2
          obtain ⟨olds, ho1, ho2, ho3⟩ := row_cells L 0 h5
          have holds : ∀ (j : Nat) u, olds[j]? = some u → w.cell? ((⟨b, 0 * i.size, none⟩ : Addr).add j) = some u := by
            intro j u hj
            rw [Nat.zero_mul, add_at]
            exact ho2 j u hj
          by_cases hroom : L.length + L'.length ≤ cap
          · -- there is room
            rw [hLl] at hroom
            have hfit : L.length * i.size + (Builtin.zeroCells z.cells m0).toList.length ≤ arr.size := by
              rw [hnl, hsz, ← Nat.add_mul, Nat.zero_add]
              exact Nat.mul_le_mul_right _ hroom
            have hrun := run_zero_room (P := P) (ty := ty) (kq := kq) T.ht htn T.hi T.hz T.pos hh (by omega) hm63 hm48 hone hroom hfit
            obtain ⟨news, hnews⟩ : ∃ news, news = (Builtin.zeroCells z.cells m0).toList := ⟨_, rfl⟩
            have hrow' : RowOf Z w i.size news L' := by rw [hnews]; exact hrow
            rw [← hnews] at hfit hrun hnl
            obtain ⟨g, hr, hh'⟩ := setRow_grown' (ys := (spl arr.toList (L.length * i.size) news).toArray) hh (by simp only [List.size_toArray]; rw [spl_len (by simp; omega)]; simp)
            have k := R.stays_renew (n := m) (M' := M) (row := some b) g (fun b' hb' => by cases hb'; exact ⟨hlv, hMb⟩) (fun _ _ => rfl)
            have hall := (RowOf.append ho1 hrow').keep k.toKeeps
            refine ⟨_, _, M, _, _, by rw [Nat.zero_mul]; exact hrun, Eff.of_grown g (fun b' hb' => by cases hb'; exact ⟨h4, m, by simp [appT], hMb⟩) (fun _ _ => rfl), R.renew m h2m (row := some b) (o := .row i.size (L ++ L')) g (fun b' hb' => by cases hb'; exact ⟨hlv, hMb⟩) (fun _ _ => rfl) ⟨T.pos, .inr ⟨b, _, e', hMb, hh', ?_, h4, hall.row fun j hj => ?_⟩⟩ (fun b hb => .inl ⟨hlv, hb⟩) (fun b' k hb' hk => by cases hb'; exact hr k hk), ?_, hk⟩
            · rw [List.length_append, List.size_toArray, spl_len (by simp; omega)]
              simp only [Array.length_toList]
              rw [hsz, Nat.zero_add, hLl]
              exact Nat.mul_le_mul_right _ hroom
            · have hlo := ho1.1
              have hln := hrow'.1
              rw [List.length_append] at hj
              rw [hh'.cell j]
              simp only [List.getElem?_toArray]
              rw [spl_get (by simp; omega)]
              by_cases c1 : j < L.length * i.size
              · rw [if_pos c1, List.getElem?_append_left (by omega)]
                have hj' : j < olds.length := by omega
                have := ho2 j olds[j] (List.getElem?_eq_getElem hj')
                rw [Nat.zero_add, hh.cell j] at this
                rw [List.getElem?_eq_getElem hj', ← this]; simp
              · rw [if_neg c1, if_pos (by omega), List.getElem?_append_right (by omega), hlo]
            · unfold AR
              exact ⟨_, cap, by rw [hLl], by rw [hLl]; exact hroom, hcm, fun _ => .inr ⟨b, hMb, by rw [Nat.zero_mul], hr _ ⟨arr, e', hh, hsz⟩⟩⟩
          · -- a new block
            have holdr : (Builtin.firstCells i.size L.length (.slice (some ⟨b, 0 * i.size, none⟩) L.length cap)).run P w.drew = .ok olds.toArray w.drew :=
              run_firstCells_some (P := P) w.drew i.size L.length ⟨b, 0 * i.size, none⟩ L.length cap olds ho1.1 holds
            have hfits : Builtin.nextslicecap (L.length + m0) cap * i.bytes ≤ 281474976710656 := by
              rw [← hLl]
              exact growslice_fits (by omega) hby
            have hrun := Lib.run_append_grow_zeros (P := P) w t tn ty e i z kq kn T.ht htn T.hi T.hz (some ⟨b, 0 * i.size, none⟩) L.length cap olds holdr m0 (by omega) T.pos (by omega) (by omega) (by omega) hfits
            have hall := RowOf.append ho1 (hrow (Z := Z) (w := w))
            obtain ⟨M', hMo, R', hr⟩ := R.app_new T m h2m hall (need := L.length + m0) (by rw [List.length_append, hLl]) (grownCap_ge w (L.length + m0) cap e) (grownCap_le_maxLen w (L.length + m0) cap e (by unfold maxLen; omega))
            have ea : (olds ++ (Builtin.zeroCells z.cells m0).toList).toArray = olds.toArray ++ Builtin.zeroCells z.cells m0 := by
              rw [← List.append_toArray, Array.toArray_toList]
            rw [ea] at R' hr
            rw [List.length_append, hLl] at hr
            rw [hLl] at hk
            refine ⟨_, _, M', _, _, hrun, Eff.of_below ((drew_below w).trans ((below_alloc w.drew _).mono (by simp))) (fun k hk => hMo k (by simpa [appT] using hk)), ?_, ?_, hk⟩
            · simpa using R'
            · simpa using hr
    · exact h.elim
  · have hx := hv.c_.1
    subst hx
    obtain ⟨hby, h63, hk⟩ := h
    by_cases hn0 : L'.length = 0
    · obtain rfl : L' = [] := List.eq_nil_of_length_eq_zero hn0
      obtain rfl : m0 = 0 := by rw [← hLl]; rfl
      have hrun := run_zero_none (P := P) (w := w) (ty := ty) (kq := kq) T.ht htn T.hi none 0 0 (Nat.le_refl _)
      have g : w.grownBy w none := ⟨rfl, rfl, rfl, Nat.le_refl _, fun _ _ _ => rfl⟩
      refine ⟨_, w, fun m => if m = n then none else M m, _, _, by simpa using hrun, Eff.of_grown g (by simp) (fun k hk => by simp [appT] at hk; simp [hk]), R.renew n hfx (row := none) (o := .row i.size []) g (by simp) (fun m hm => by simp [hm]) ⟨T.pos, .inl ⟨by simp, rfl⟩⟩ (fun b hb => by simp at hb), ?_, hk⟩
      unfold AR
      exact ⟨none, 0, rfl, Nat.le_refl _, Nat.zero_le _, fun _ => .inl ⟨by simp, rfl, rfl⟩⟩
    · have hrun := Lib.run_append_nil_zeros (P := P) w t tn ty e i z kq kn T.ht htn T.hi T.hz m0 (by omega) T.pos hm63 (by omega)
      obtain ⟨M', hMo, R', hr⟩ := R.app_new T n hfx hrow (need := m0) hLl (grownCap_ge w m0 0 e) (grownCap_le_maxLen w m0 0 e (by unfold maxLen; omega))
      rw [Array.toArray_toList] at R' hr
      rw [hLl] at hk hr
      exact ⟨_, _, M', _, _, hrun, Eff.of_below ((drew_below w).trans ((below_alloc w.drew _).mono (by simp))) (fun k hk => hMo k (by simpa [appT] using hk)), R', hr, hk⟩
  · exact h.elim
/-- the cells of a row of walk-values -/
theorem tab_cells {cs : List AV} {b : Nat} {arr : Array Value} {e : TypeId} (hh : blkAt w b arr e) (hl : cs.length ≤ arr.size) (hr : ARs Z M w cs (arr.toList.take cs.length)) :
    (arr.toList.take cs.length).length = cs.length ∧ (∀ (j : Nat) u, (arr.toList.take cs.length)[j]? = some u → w.cell? ⟨b, j, none⟩ = some u) ∧ ∀ u ∈ arr.toList.take cs.length, u.oneCell' = true := by
  have h1 : (arr.toList.take cs.length).length = cs.length := by
    rw [List.length_take, Array.length_toList]
    exact Nat.min_eq_left hl
  refine ⟨h1, fun j u hj => ?_, fun u hu => ?_⟩
  · have hjl : j < cs.length := by
      have := (List.getElem?_eq_some_iff.1 hj).1
      omega
    rw [hh.cell j]
    rw [List.getElem?_take_of_lt hjl] at hj
    simpa using hj
  · obtain ⟨j, hj, rfl⟩ := List.getElem_of_mem hu
    obtain ⟨x, hx, h1c, _⟩ := ARs.get _ _ hr j (cs.getD j .any) (by simp [List.getD, show j < cs.length by omega])
    rw [List.getElem?_eq_getElem hj] at hx
    cases hx
    exact h1c
theorem ARs.one {u : AV} {y : Value} (h : AR Z M w u y) (h1 : y.oneCell' = true) : ARs Z M w [u] [y] := by
  unfold ARs
  exact ⟨y, [], rfl, h1, h, by unfold ARs; rfl⟩
/-- a new row of walk-values -/
theorem Rep.newTab (R : Rep c Z M s a w) (n : Nat) (hfx : n < 2000000) {cs : List AV} {xs : List Value} (hr : ARs Z M w cs xs) {arr : Array Value} {e : TypeId} {cap : Nat} (hsz : arr.size = cap) (hle : cs.length ≤ cap) (hm : cap ≤ maxLen)
    (hx : ∀ j, j < cs.length → arr[j]? = xs[j]?) (w1 : World) (hw : w1 = w ∨ w1 = w.drew) :
    ∃ M', (∀ m, m ≠ n → M' m = M m) ∧ Rep c Z M' (s.renew n (.tab (AV.killL (some n) cs))) a (w1.alloc (.cells arr e)) ∧ AR Z M' (w1.alloc (.cells arr e)) (.sl n 1 0 cs.length) (.slice (some ⟨w.heap.size, 0, none⟩) cs.length cap) := by
  have hxl := ARs.len _ _ hr
  have R1 : Rep c Z M s a w1 := by
    rcases hw with rfl | rfl
    · exact R
    · exact R.grow (drew_below w).grow_none
  have hws : w1.heap.size = w.heap.size := by rcases hw with rfl | rfl <;> rfl
  have hr1 : ARs Z M w1 cs xs := by
    rcases hw with rfl | rfl
    · exact hr
    · have k : Stays Z Z M M w w.drew none := ⟨⟨fun _ h => h, fun _ _ _ => rfl⟩, fun _ _ _ h => h, fun _ _ h => h, fun _ _ _ _ _ h => h⟩
      exact ARs.keep k hr
  have hh := heap_alloc_new w1 (.cells arr e)
  obtain ⟨M', hMo, hM, R'⟩ := R1.newOb n hfx (cells := arr) (e := e) (o := .tab (AV.killL (some n) cs)) fun M' hM k => by
    refine .inr ⟨w1.heap.size, arr, e, hM, .of hh, by rw [killL_len]; omega, not_zlt R1, ?_⟩
    rw [killL_len]
    have : arr.toList.take cs.length = xs := by
      apply List.ext_getElem?
      intro j
      by_cases hj : j < cs.length
      · rw [List.getElem?_take_of_lt hj]
        simpa using hx j hj
      · rw [List.getElem?_eq_none (by rw [List.length_take]; omega), List.getElem?_eq_none (by omega)]
    rw [this]
    exact ARs.kill k _ _ hr1
  refine ⟨M', hMo, R', ?_⟩
  unfold AR
  exact ⟨_, cap, rfl, hle, hm, fun _ => .inr ⟨w1.heap.size, hM, by rw [Nat.zero_mul, hws], arr, e, .of hh, by rw [Nat.zero_add, Nat.mul_one]; exact hsz⟩⟩
theorem ARs.app {cs ds : List AV} {xs ys : List Value} : ARs Z M w cs xs → ARs Z M w ds ys → ARs Z M w (cs ++ ds) (xs ++ ys) := fun h k => ARs.append h k
theorem appR_sound (R : Rep c Z M s a w) {t e ty : TypeId} {i : TypeInfo} {z : Value} (T : AppT P t e i z) (hi1 : i.size = 1) (n : Nat) (hfx : n < 2000000) {v : AV} {x y : Value} {m1 : Nat} {u : AV} (hv : AR Z M w v x) (hm1 : s.hp m1 = some (.tab [u])) (hy : AR Z M w (.sl m1 1 0 1) y)
    {K : St → AV → Prop} (h : appRB n i.bytes v s u K) :
    ∃ r w' M' s' q, (Builtin.append_ #[t, t] ty #[x, y]).run P w = .ok r w' ∧ Eff (appT n v) Z M M' w w' ∧ Rep c Z M' s' a w' ∧ AR Z M' w' q r ∧ K s' q := by
  unfold AR at hy
  obtain ⟨ad2, cap2, rfl, hl2, _, hp2⟩ := hy
  rcases hp2 (.inr rfl) with ⟨_, _, hc0⟩ | ⟨b2, hMb2, rfl, _⟩
  · omega
  obtain ⟨h1, _⟩ | ⟨b', arr2, e2, h1, hh2, hsz2, _, hr2⟩ := R.ob m1 _ hm1
  · rw [hMb2] at h1; cases h1
  rw [hMb2] at h1; cases h1
  obtain ⟨hn1, hn2, hn3⟩ := tab_cells hh2 hsz2 hr2
  obtain ⟨news, hnews⟩ : ∃ q, q = arr2.toList.take [u].length := ⟨_, rfl⟩
  rw [← hnews] at hr2 hn1 hn2 hn3
  have hnl : news.length = 1 * i.size := by rw [hi1, hn1]; rfl
  have hcell : ∀ (j : Nat) u, news[j]? = some u → w.cell? ((⟨b2, 0 * 1, none⟩ : Addr).add j) = some u := fun j q hj => by rw [Nat.zero_mul, add_at, Nat.zero_add]; exact hn2 j q hj
  unfold appRB at h
  split at h
  · rename_i m len
    unfold appRO at h
    split at h
    · rename_i cs hm
      obtain ⟨rfl, h2m, hby, h63, hk⟩ := h
      have hlv : s.live m := ⟨_, hm, rfl⟩
      unfold AR at hv
      obtain ⟨ad, cap, rfl, hlc, hcm, hpl⟩ := hv
      rcases hpl (.inr rfl) with ⟨hMn, rfl, rfl⟩ | ⟨b, hMb, rfl, arr, e', hh, hsz⟩
      · obtain ⟨_, hL⟩ | ⟨b, _, _, hMb, _⟩ := R.ob m _ hm
        · subst hL
          have hrun := run_append_nil (P := P) w t ty e i z T.ht T.hi T.hz ⟨b2, 0 * 1, none⟩ 1 cap2 news hnl hcell (by decide) (by decide) (by simp at hby; omega)
          obtain ⟨M', hMo, R', hr⟩ := R.newTab m h2m hr2 (arr := news.toArray ++ Builtin.zeroCells z.cells (grownCap w 1 0 e - 1)) (e := e) (cap := grownCap w 1 0 e) (by
            have := grownCap_ge w 1 0 e
            simp only [Array.size_append, List.size_toArray, size_zeroCells, T.hs, hi1, hn1, List.length_singleton]
            omega) (grownCap_ge w 1 0 e) (grownCap_le_maxLen w 1 0 e (by unfold maxLen; omega)) (fun j hj => by
            rw [Array.getElem?_append_left (by simp [hn1]; simpa using hj)]; simp) w.drew (.inr rfl)
          refine ⟨_, _, M', _, _, hrun, Eff.of_below ((drew_below w).trans ((below_alloc w.drew _).mono (by simp))) (fun k hk => hMo k (by simpa [appT] using hk)), R', hr, by simpa using hk⟩
        · rw [hMn] at hMb; cases hMb
      · obtain ⟨h1, _⟩ | ⟨b', arr', e2', h1, h2, h3, h4, h5⟩ := R.ob m _ hm
        · rw [hMb] at h1; cases h1
        rw [hMb] at h1; cases h1
        obtain ⟨rfl, rfl⟩ := hh.uniq h2
        obtain ⟨ho1, ho2, ho3⟩ := tab_cells h2 h3 h5
        obtain ⟨olds, holds⟩ : ∃ q, q = arr.toList.take cs.length := ⟨_, rfl⟩
        rw [← holds] at h5 ho1 ho2 ho3
        rw [Nat.zero_add, Nat.mul_one] at hsz
        by_cases hroom : cs.length + 1 ≤ cap
        · have hrun := run_app_room (P := P) (ty := ty) T.ht T.hi hh hnl hcell hn3 hroom (by rw [hi1, hn1]; simp; omega) (c := cap2)
          obtain ⟨g, hr, hh'⟩ := setRow_grown' (ys := (spl arr.toList (cs.length * i.size) news).toArray) hh (by simp only [List.size_toArray]; rw [spl_len (by rw [hi1, hn1]; simp; omega)]; simp)
          have k := R.stays_renew (n := m) (M' := M) (row := some b) g (fun b' hb' => by cases hb'; exact ⟨hlv, hMb⟩) (fun _ _ => rfl)
          have hall := ARs.kill k _ _ (ARs.append h5 hr2)
          refine ⟨_, _, M, _, _, by rw [Nat.zero_mul]; exact hrun, Eff.of_grown g (fun b' hb' => by cases hb'; exact ⟨h4, m, by simp [appT], hMb⟩) (fun _ _ => rfl), R.renew m h2m (row := some b) (o := .tab (AV.killL (some m) (cs ++ [u]))) g (fun b' hb' => by cases hb'; exact ⟨hlv, hMb⟩) (fun _ _ => rfl) (.inr ⟨b, _, e', hMb, hh', ?_, h4, ?_⟩) (fun b hb => .inl ⟨hlv, hb⟩) (fun b' k hb' hk => by cases hb'; exact hr k hk), ?_, hk⟩
          · rw [killL_len, List.length_append, List.size_toArray, spl_len (by rw [hi1, hn1]; simp; omega)]
            simp; omega
          · rw [killL_len]
            have : (spl arr.toList (cs.length * i.size) news).toArray.toList.take (cs ++ [u]).length = olds ++ news := by
              apply List.ext_getElem?
              intro j
              rw [List.length_append, List.length_singleton]
              by_cases hj : j < cs.length + 1
              · rw [List.getElem?_take_of_lt hj]
                simp only [hi1, Nat.mul_one]
                rw [spl_get (by rw [hn1]; simp; omega)]
                by_cases c1 : j < cs.length
                · rw [if_pos c1, List.getElem?_append_left (by omega), holds, List.getElem?_take_of_lt c1]
                · rw [if_neg c1, if_pos (by rw [hn1]; simp; omega), List.getElem?_append_right (by omega), ho1]
              · rw [List.getElem?_eq_none (by rw [List.length_take]; omega), List.getElem?_eq_none (by rw [List.length_append, ho1, hn1]; simp; omega)]
            rw [this]
            exact hall
          · unfold AR
            exact ⟨_, cap, rfl, hroom, hcm, fun _ => .inr ⟨b, hMb, by rw [Nat.zero_mul], hr _ ⟨arr, e', hh, by rw [Nat.zero_add, Nat.mul_one]; exact hsz⟩⟩⟩
        · have holc : ∀ (j : Nat) u, olds[j]? = some u → w.cell? ((⟨b, 0 * 1, none⟩ : Addr).add j) = some u := fun j q hj => by rw [Nat.zero_mul, add_at, Nat.zero_add]; exact ho2 j q hj
          have hrun := run_append_grow (P := P) w t ty e i z T.ht T.hi T.hz ⟨b, 0 * 1, none⟩ cs.length cap olds (by rw [hi1, ho1, Nat.mul_one]) holc ⟨b2, 0 * 1, none⟩ 1 cap2 news hnl hcell (by omega) (by omega) (growslice_fits (by omega) hby)
          obtain ⟨M', hMo, R', hr⟩ := R.newTab m h2m (ARs.append h5 hr2) (arr := olds.toArray ++ news.toArray ++ Builtin.zeroCells z.cells (grownCap w (cs.length + 1) cap e - (cs.length + 1))) (e := e) (cap := grownCap w (cs.length + 1) cap e) (by
            have := grownCap_ge w (cs.length + 1) cap e
            simp only [Array.size_append, List.size_toArray, size_zeroCells, T.hs, hi1, ho1, hn1, List.length_singleton]
            omega) (by rw [List.length_append]; exact grownCap_ge w (cs.length + 1) cap e) (grownCap_le_maxLen w (cs.length + 1) cap e (by unfold maxLen; omega)) (fun j hj => by
            rw [List.length_append, List.length_singleton] at hj
            rw [Array.getElem?_append_left (by simp [ho1, hn1]; omega)]; simp [List.getElem?_append]) w.drew (.inr rfl)
          rw [List.length_append, List.length_singleton] at hr
          exact ⟨_, _, M', _, _, hrun, Eff.of_below ((drew_below w).trans ((below_alloc w.drew _).mono (by simp))) (fun k hk => hMo k (by simpa [appT] using hk)), R', hr, hk⟩
    · exact h.elim
  · have hx := hv.c_.1
    subst hx
    obtain ⟨hby, hk⟩ := h
    have hrun := run_append_nil (P := P) w t ty e i z T.ht T.hi T.hz ⟨b2, 0 * 1, none⟩ 1 cap2 news hnl hcell (by decide) (by decide) (by omega)
    obtain ⟨M', hMo, R', hr⟩ := R.newTab n hfx hr2 (arr := news.toArray ++ Builtin.zeroCells z.cells (grownCap w 1 0 e - 1)) (e := e) (cap := grownCap w 1 0 e) (by
      have := grownCap_ge w 1 0 e
      simp only [Array.size_append, List.size_toArray, size_zeroCells, T.hs, hi1, hn1, List.length_singleton]
      omega) (grownCap_ge w 1 0 e) (grownCap_le_maxLen w 1 0 e (by unfold maxLen; omega)) (fun j hj => by
      rw [Array.getElem?_append_left (by simp [hn1]; simpa using hj)]; simp) w.drew (.inr rfl)
    exact ⟨_, _, M', _, _, hrun, Eff.of_below ((drew_below w).trans ((below_alloc w.drew _).mono (by simp))) (fun k hk => hMo k (by simpa [appT] using hk)), R', hr, hk⟩
  · exact h.elim
end
end Go.Eng
