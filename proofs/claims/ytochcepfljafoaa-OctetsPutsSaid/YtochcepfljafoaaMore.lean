/- More words on slices that are read: parts of a slice. No condition. -/
import Derived.Test.YtochcepfljafoaaOwn
namespace Go.Shp
open Go.RowKit
section
variable {w : World} {k : IntKind} {bytes : Nat} {zs : List Int} {a : Option Addr} {cap : Nat}
theorem add_at (b off lo : Nat) : (⟨b, off, none⟩ : Addr).add lo = ⟨b, off + lo, none⟩ := by unfold Addr.add; split <;> simp_all
theorem SlI.empty (w : World) (k : IntKind) (bytes : Nat) (a : Option Addr) (cap : Nat) (h : cap ≤ maxLen) : SlI w k bytes [] a cap := ⟨Nat.zero_le _, h, by simp, by simp, fun h => absurd rfl h⟩
/-- a part 's[lo:lo+m]' of a slice -/
theorem SlI.sub (h : SlI w k bytes zs a cap) (lo m : Nat) (hm : lo + m ≤ zs.length) : SlI w k bytes ((zs.drop lo).take m) (Option.map (fun x => x.add lo) a) (cap - lo) := by
  have hl : ((zs.drop lo).take m).length = m := by rw [List.length_take, List.length_drop]; omega
  refine ⟨by rw [hl]; have := h.le; omega, by have := h.cap63; omega, ?_, fun z hz => h.ok z (List.mem_of_mem_drop (List.mem_of_mem_take hz)), fun hn => ?_⟩
  · rw [hl]
    exact Nat.le_trans (Nat.mul_le_mul_right bytes (by omega)) h.reach
  · rw [hl] at hn ⊢
    obtain ⟨b, off, rfl, hb, hc⟩ := h.cells (by omega)
    refine ⟨b, off + lo, by simp [add_at], hb, fun i hi => ?_⟩
    have := hc (lo + i) (by omega)
    rw [show off + lo + i = off + (lo + i) from by omega, this]
    congr 2
    simp only [List.getD, List.getElem?_take, List.getElem?_drop]
    rw [if_pos hi]
theorem OwI.cutN {base : Nat} {e : TypeId} {m n : Nat} (h : OwI w base e k zs (.slice a m cap)) (hm : zs.length = m) (hn : n ≤ m) : OwI w base e k (zs.take n) (.slice a n cap) := by
  subst hm
  have hl : (zs.take n).length = n := by rw [List.length_take]; omega
  refine ⟨⟨by rw [List.length_map, hl]; omega, ?_⟩, fun z hz => h.ok z (List.mem_of_mem_take hz)⟩
  rcases h.own.2 with ⟨h1, h2⟩ | ⟨g, cap', cur, h1, h2, h3, h4, h5, h6, h7⟩
  · simp only [Value.slice.injEq] at h1
    obtain ⟨rfl, h1, rfl⟩ := h1
    have : n = 0 := by omega
    subst this
    exact .inl ⟨rfl, hl⟩
  · simp only [Value.slice.injEq, true_and] at h1
    obtain ⟨rfl, rfl⟩ := h1
    refine .inr ⟨g, cap, cur, by rw [hl], h2, h3, by omega, h5, h6, ?_⟩
    rw [hl, List.map_take, ← h7, List.take_take]
    congr 1
    omega
end
end Go.Shp
