/- A box with an own row in it told as data. No condition but what each says. -/
import Derived.Test.YtihgplkfikpgbaaDoorEngV
import Derived.Test.YtihgplkfikpgbaaDoorEngW
set_option linter.unusedSimpArgs false
set_option linter.unusedVariables false
namespace Go.Eng
open Go.RowKit
section
variable {c : Cx} {Z : Nat → Prop} {M : Nat → Option Nat} {s : St} {a : Act} {w : World}
/-- an own object told in other words -/
theorem Rep.tell (R : Rep c Z M s a w) {n : Nat} {o0 o : Ob} (h0 : s.hp n = some o0) (hl : o0.live = true) (ho : OR Z M w n o) : Rep c Z M (s.turn n o) a w := by
  have hlv : ∀ m, (s.turn n o).live m → s.live m := fun m hm => by
    obtain ⟨o', h1, h2⟩ := hm
    by_cases e : m = n
    · subst e; exact ⟨_, h0, hl⟩
    · exact ⟨o', by simpa [St.turn, e] using h1, h2⟩
  refine { R with tm := R.tm, ob := fun m o' ho' => ?_, dead := fun m hm => ?_, inj := fun m m' b h1 h2 => R.inj m m' b (hlv m h1) (hlv m' h2), own := fun m b h1 => R.own m b (hlv m h1) }
  · by_cases e : m = n
    · subst e
      have : o' = o := by simpa [St.turn] using ho'.symm
      rw [this]; exact ho
    · exact R.ob m o' (by simpa [St.turn, e] using ho')
  · by_cases e : m = n
    · subst e; simp [St.turn] at hm
    · exact R.dead m (by simpa [St.turn, e] using hm)
end
theorem Gh.bok {s : St} {v : Value} {n m es len : Nat} {L : List D} {d1 d2 : D} (hn : s.hp n = some (.box [.sl m es 0 len, .d d1, .d d2])) (hm : s.hp m = some (.row es L)) (hl : len = L.length) (h1 : n < 1000000) (h2 : m < 1000000) (hnm : n ≠ m) :
    Gh [] s [.ptr n 0, .d (.c v)] (((s.turn m (.ice es L)).turn n (.box [.d (.lst es L), .d d1, .d d2])).turn n (.icb [.lst es L, d1, d2])) [.d (.ref [.lst es L, d1, d2]), .d (.c v)] := fun c Z M a w xs R h => by
  unfold ARt at h
  obtain ⟨x, xs', rfl, hx, hvs⟩ := h
  unfold ARt at hvs
  obtain ⟨x2, xs2, rfl, hx2, hvs⟩ := hvs
  unfold ARt at hvs
  subst hvs
  obtain ⟨b, ys, e, hb1, hb2, hb3, hb4⟩ := R.ob n _ hn
  unfold ARs at hb3
  obtain ⟨y, ys', hy0, hy1, hy2, hy3⟩ := hb3
  obtain ⟨Z', s', d, hz, R', hd, _, rfl, rfl⟩ := slD_sound R hy2 (K := fun s' d => s' = s.turn m (.ice es L) ∧ d = .lst es L) (by
    unfold slD
    rw [hm]
    exact ⟨h2, rfl, by omega, rfl, by rw [List.drop_zero, hl, List.take_length]⟩)
  have hn2 : (s.turn m (.ice es L)).hp n = some (.box [.sl m es 0 len, .d d1, .d d2]) := by simp only [St.turn, if_neg hnm]; exact hn
  obtain ⟨b2, zs, e2, k1, k2, k3, k4⟩ := R'.ob n _ hn2
  obtain rfl : b = b2 := by rw [hb1] at k1; exact Option.some.inj k1
  have hzs : ys = zs := by
    rw [hb2] at k2
    injection k2 with k2
    injection k2
  subst hzs
  unfold ARs at k3
  obtain ⟨y2, ys2, i0, i1, i2, i3⟩ := k3
  have hyy : y = y2 ∧ ys' = ys2 := by
    rw [hy0] at i0
    injection i0 with p q
    exact ⟨p, q⟩
  obtain ⟨rfl, rfl⟩ := hyy
  have hO : OR Z' M w n (.box [.d (.lst es L), .d d1, .d d2]) := by
    refine ⟨b, ys, e, hb1, hb2, ?_, k4⟩
    unfold ARs
    exact ⟨y, ys', hy0, hy1, by unfold AR; exact hd, i3⟩
  have R2 := R'.tell hn2 rfl hO
  obtain ⟨Z3, s3, d3, hz3, R3, hd3, _, rfl, rfl⟩ := ptrD_sound (n := n) (off := 0) (x := x) R2 (by unfold AR at hx ⊢; exact hx) (K := fun s' d => s' = ((s.turn m (.ice es L)).turn n (.box [.d (.lst es L), .d d1, .d d2])).turn n (.icb [.lst es L, d1, d2]) ∧ d = .ref [.lst es L, d1, d2]) (by
    unfold ptrD
    simp only [St.turn, if_true]
    exact ⟨h1, rfl, rfl⟩)
  refine ⟨Z3, M, fun b h => hz3 b (hz b h), R3, ?_, fun _ _ => rfl, fun _ h => by cases h⟩
  obtain ⟨rfl, ho⟩ := AR.c_ hx2
  unfold ARt
  refine ⟨x, _, rfl, by unfold AR; exact hd3, ?_⟩
  unfold ARt
  refine ⟨_, _, rfl, AR.c_of ho, ?_⟩
  unfold ARt
  rfl
/-- an own row in a slot that nobody writes any more, told as data -/
theorem Gh.ice {s : St} {t n es off len : Nat} {L : List D} (h1 : s.tm t = .sl n es off len) (h2 : s.hp n = some (.row es L)) (hn : n < 1000000) (hl : off + len ≤ L.length) :
    Gh [] s [] ((s.turn n (.ice es L)).put (some t) (.d (.lst es ((L.drop off).take len)))) [] := fun c Z M a w xs R hvs => by
  have hv := R.tm t
  rw [h1] at hv
  have ht : t < c.nt := by
    refine Decidable.byContradiction fun hlt => ?_
    have e : a.tmps.getD t undef = undef := by
      have : ¬ t < a.tmps.size := by rw [R.size]; exact hlt
      simp [Array.getD, this]
    rw [e] at hv
    unfold AR at hv
    obtain ⟨ad, cap, h3, _⟩ := hv
    simp [undef] at h3
  obtain ⟨Z', s', d, hz, R', hd, _, rfl, rfl⟩ := slD_sound R hv (K := fun s' d => s' = s.turn n (.ice es L) ∧ d = .lst es ((L.drop off).take len)) (by
    unfold slD
    rw [h2]
    exact ⟨hn, rfl, hl, rfl, rfl⟩)
  have hd2 : AR Z' M w (.d (.lst es ((L.drop off).take len))) (a.tmps.getD t undef) := by unfold AR; exact hd
  refine ⟨Z', M, hz, R'.again ht hd2, ?_, fun _ _ => rfl, fun _ h => by cases h⟩
  unfold ARt at hvs ⊢
  exact hvs
end Go.Eng
