/- The library's sort of whole numbers, by the kit's contract, laid at this program (the laying was printed by the kit's own tool). No condition but that the slice is not too long. -/
import Derived.Shelf.Sort.Plain
import Derived.Shelf.Slices.In.SortNone
import Derived.Test.YtdpkmfjjhpfdbaaProg
import Derived.Test.YtdpkmfjjhpfdbaaEngV
import Derived.Test.YtdpkmfjjhpfdbaaEngW
set_option linter.unusedSimpArgs false
set_option linter.unusedVariables false
set_option maxRecDepth 8000
set_option maxHeartbeats 4000000
namespace Go.Proofs
open Go.Shelf
def Try.lays189_ren : Go.Shelf.Ren := ⟨fun | 189 => 18 | 125 => 30 | 257 => 29 | 128 => 40 | 129 => 41 | 294 => 31 | 295 => 32 | 296 => 33 | 297 => 34 | 298 => 35 | 299 => 36 | 216 => 37 | 300 => 38 | 301 => 39 | 328 => 42 | 329 => 43 | 330 => 44 | 331 => 45 | 332 => 46 | 215 => 47 | 343 => 48 | n => n, fun | 28 => 22 | 3 => 3 | 46 => 38 | 0 => 0 | 51 => 65 | 53 => 67 | 4 => 4 | 183 => 58 | 182 => 57 | 131 => 62 | 5 => 5 | 9 => 9 | 218 => 68 | 222 => 72 | 228 => 74 | 229 => 48 | n => n, fun | n => n⟩
theorem Try.lays189 : Go.Proofs.Lays.n189 Try.prog Try.lays189_ren := {
  mixed := by kernel_rfl
  f125 := Try.func30.trans (congrArg some (by kernel_rfl))
  f128 := Try.func40.trans (congrArg some (by kernel_rfl))
  f129 := Try.func41.trans (congrArg some (by kernel_rfl))
  f189 := Try.func18.trans (congrArg some (by kernel_rfl))
  f215 := Try.func47.trans (congrArg some (by kernel_rfl))
  f216 := Try.func37.trans (congrArg some (by kernel_rfl))
  f257 := Try.func29.trans (congrArg some (by kernel_rfl))
  f294 := Try.func31.trans (congrArg some (by kernel_rfl))
  f295 := Try.func32.trans (congrArg some (by kernel_rfl))
  f296 := Try.func33.trans (congrArg some (by kernel_rfl))
  f297 := Try.func34.trans (congrArg some (by kernel_rfl))
  f298 := Try.func35.trans (congrArg some (by kernel_rfl))
  f299 := Try.func36.trans (congrArg some (by kernel_rfl))
  f300 := Try.func38.trans (congrArg some (by kernel_rfl))
  f301 := Try.func39.trans (congrArg some (by kernel_rfl))
  f328 := Try.func42.trans (congrArg some (by kernel_rfl))
  f329 := Try.func43.trans (congrArg some (by kernel_rfl))
  f330 := Try.func44.trans (congrArg some (by kernel_rfl))
  f331 := Try.func45.trans (congrArg some (by kernel_rfl))
  f332 := Try.func46.trans (congrArg some (by kernel_rfl))
  f343 := Try.func48.trans (congrArg some (by kernel_rfl))
  t0 := Try.underlying0
  a0 := Try.isAgg0
  z0 := Try.sizeOf0
  v0 := Try.zeroValue0
  t3 := Try.underlying3
  a3 := Try.isAgg3
  z3 := Try.sizeOf3
  v3 := Try.zeroValue3
  t4 := Try.underlying4
  a4 := Try.isAgg4
  z4 := Try.sizeOf4
  v4 := Try.zeroValue4
  t5 := Try.underlying5
  a5 := Try.isAgg5
  z5 := Try.sizeOf5
  v5 := Try.zeroValue5
  t9 := Try.underlying9
  a9 := Try.isAgg9
  z9 := Try.sizeOf9
  v9 := Try.zeroValue9
  t28 := Try.underlying22
  a28 := Try.isAgg22
  z28 := Try.sizeOf22
  v28 := Try.zeroValue22
  t46 := Try.underlying38
  a46 := Try.isAgg38
  z46 := Try.sizeOf38
  v46 := Try.zeroValue38
  t51 := Try.underlying65
  a51 := Try.isAgg65
  z51 := Try.sizeOf65
  v51 := Try.zeroValue65
  t53 := Try.underlying67
  a53 := Try.isAgg67
  z53 := Try.sizeOf67
  v53 := Try.zeroValue67
  t131 := Try.underlying62
  a131 := Try.isAgg62
  z131 := Try.sizeOf62
  v131 := Try.zeroValue62
  t182 := Try.underlying57
  a182 := Try.isAgg57
  z182 := Try.sizeOf57
  v182 := Try.zeroValue57
  t183 := Try.underlying58
  a183 := Try.isAgg58
  z183 := Try.sizeOf58
  v183 := Try.zeroValue58
  t218 := Try.underlying68
  a218 := Try.isAgg68
  z218 := Try.sizeOf68
  v218 := Try.zeroValue68
  t222 := Try.underlying72
  a222 := Try.isAgg72
  z222 := Try.sizeOf72
  v222 := Try.zeroValue72
  t228 := Try.underlying74
  a228 := Try.isAgg74
  z228 := Try.sizeOf74
  v228 := Try.zeroValue74
  t229 := Try.underlying48
  a229 := Try.isAgg48
  z229 := Try.sizeOf48
  v229 := Try.zeroValue48 }
open Go.Sort Go.RowKit in
theorem Try.slices_Sort_int (blk off cap : Nat) (zs : List Int) (w : World) (hH : Holds (Value.int .i64) w blk off zs.toArray) (hblk : blk < w.heap.size) (hsz : zs.length < 4611686018427387904) :
    Calls Try.prog 18 #[.slice (some ⟨blk, off, none⟩) zs.length cap] w fun e w' =>
      e = .returned (.tuple #[]) ∧ ∃ n os, w' = grow (putRow (Value.int .i64) (Sort.ahead w n) blk off (zs.mergeSort fun x y => decide (x ≤ y)).toArray) os := Any.slices_Sort_int Try.lays189 blk off cap zs w hH hblk hsz
open Go.RowKit Go.Sort in
theorem Try.slices_Sort_int_none (p : Option Addr) (cap : Nat) (w : World) :
    Calls Try.prog 18 #[.slice p 0 cap] w fun e w' => e = .returned (.tuple #[]) ∧ w' = w := Any.slices_Sort_int_none Try.lays189 p cap w
end Go.Proofs
namespace Go.Proofs.Ytdpkmfjjhpfdbaa
open Go.Eng Go.RowKit Go.Sort
def srt (zs : List Int) : List Int := zs.mergeSort fun x y => decide (x ≤ y)
theorem srt_len (zs : List Int) : (srt zs).length = zs.length := List.length_mergeSort zs
theorem bang (zs : List Int) {j : Nat} (hj : j < zs.length) : zs.toArray[j]! = zs.getD j 0 := by
  rw [getElem!_pos zs.toArray j (by simpa using hj)]
  simp [List.getD, hj]
theorem sort_m (zs : List Int) (hl : zs.length ≤ 100000) : GivM Try.prog 18 [.sl 2000000 1 0 zs.length] [(2000000, .row 1 (li .i64 zs))] (.tup []) [(2000000, .row 1 (li .i64 (srt zs)))] := by
  refine ⟨by kernel_rfl, fun Z w M vs hz hv hob hinj hnone => ?_⟩
  unfold ARt at hv
  obtain ⟨x, xs', rfl, hx, hv⟩ := hv
  unfold ARt at hv
  subst hv
  unfold AR at hx
  obtain ⟨a, cap, rfl, h1, h2, h3⟩ := hx
  have ho : OR Z M w 2000000 (.row 1 (li .i64 zs)) := hob (2000000, _) (List.mem_singleton.2 rfl)
  obtain ⟨hes, ho⟩ := ho
  by_cases hn : zs = []
  · subst hn
    refine (Try.slices_Sort_int_none a cap w).mono fun e w' ⟨he, hw⟩ => ?_
    subst hw
    refine ⟨_, Z, M, he, fun _ h => h, fun _ h => .inl h, hz, Frm.refl _ _, fun _ _ h => h, ?_, ?_, hinj, fun n _ b h => .inr h, fun _ _ => rfl⟩
    · unfold AR
      exact ⟨[], rfl, by unfold ARt; rfl⟩
    · intro p hp
      rw [List.mem_singleton.1 hp, show srt [] = [] by simp [srt]]
      exact hob (2000000, _) (List.mem_singleton.2 rfl)
  have hlen : 0 < zs.length := List.length_pos_iff.2 hn
  obtain ⟨b, arr, e, hM, hh, hsz, hZ, hrow⟩ := ho.resolve_left fun k => by
    have := congrArg List.length k.2
    rw [li_length] at this
    simp at this
    exact hn this
  rw [li_length, Nat.mul_one] at hsz
  have ha : a = some ⟨b, 0, none⟩ := by
    rcases h3 (.inr rfl) with k | ⟨b', k1, k2, _⟩
    · rw [hM] at k
      cases k.1
    · rw [hM] at k1
      cases k1
      rw [k2]
  subst ha
  have hbl := heap_lt hh
  have hcell : ∀ j, j < zs.length → w.cell? ⟨b, 0 + j, none⟩ = some (.int .i64 (zs.getD j 0)) := fun j hj => by
    obtain ⟨x, ⟨hx1, hx2⟩, hx3⟩ := DRrow.get _ _ hrow j (by rw [li_length]; exact hj)
    rw [li_getD hj] at hx3
    unfold DR at hx3
    obtain ⟨rfl, _⟩ := hx3
    have := hx2 0 (by decide)
    rw [Nat.mul_one, Nat.add_zero] at this
    rw [this]
    rfl
  have hH : Holds (Value.int .i64) w b 0 zs.toArray := fun j hj => by
    have hj' : j < zs.length := by simpa using hj
    refine ⟨by rw [hcell j hj', bang zs hj'], ?_⟩
    unfold World.frozen?
    dsimp only
    rw [hh]
    simp
  refine (Try.slices_Sort_int b 0 cap zs w hH hbl (by omega)).mono fun e' w' ⟨he, n, os, hw⟩ => ?_
  have hs : (zs.mergeSort fun x y => decide (x ≤ y)).toArray = (srt zs).toArray := rfl
  rw [hs] at hw
  have hss : (srt zs).toArray.size = zs.toArray.size := by simp [srt_len]
  have hc' : ∀ j, j < zs.length → w'.cell? ⟨b, 0 + j, none⟩ = some (.int .i64 ((srt zs).getD j 0)) := fun j hj => by
    rw [hw, cell?_grow _ _ _ (by simpa using hbl), cell?_putRow (Value.int .i64) (Sort.ahead w n) b 0 zs.toArray (srt zs).toArray (holds_ahead _ _ _ _ _ _ hH) hss j (by rw [hss]; simpa using hj), bang _ (by rw [srt_len]; exact hj)]
  have hsize : w.heap.size ≤ w'.heap.size := by rw [hw]; simp
  have hblk : ∀ k, k < w.heap.size → k ≠ b → w'.heap[k]? = w.heap[k]? := fun k hk hne => by
    rw [hw, heap_grow_old _ _ (by simpa using hk)]
    simp only [putRow, mapBlock, heap_ahead, Array.getElem?_modify]
    rw [if_neg (fun q => hne q.symm)]
  have hb' : ∃ arr', w'.heap[b]? = some (.cells arr' e (0, 0)) ∧ arr'.size = arr.size := by
    refine ⟨putCells (Value.int .i64) 0 (srt zs).toArray arr, ?_, by simp [putCells]⟩
    rw [hw, heap_grow_old _ _ (by simpa using hbl)]
    simp only [putRow, mapBlock, heap_ahead, Array.getElem?_modify]
    rw [if_pos trivial, hh]
    rfl
  obtain ⟨arr', hb1, hb2⟩ := hb'
  refine ⟨_, Z, M, he, fun _ h => h, fun _ h => .inl h, fun k hk => Nat.lt_of_lt_of_le (hz k hk) hsize, ⟨by rw [hw]; rfl, by rw [hw]; rfl, by rw [hw]; rfl, hsize, fun k hk hno => hblk k hk fun q => hno ⟨2000000, by rw [q]; exact hM⟩⟩, ?_, ?_, ?_, hinj, fun n _ b h => .inr h, fun _ _ => rfl⟩
  · rintro k m ⟨ar, ee, g1, g2⟩
    by_cases q : k = b
    · subst q
      rw [hh] at g1
      cases g1
      exact ⟨arr', e, hb1, by omega⟩
    · exact ⟨ar, ee, by rw [hblk k (heap_lt g1) q]; exact g1, g2⟩
  · unfold AR
    exact ⟨[], rfl, by unfold ARt; rfl⟩
  · intro p hp
    rw [List.mem_singleton.1 hp]
    refine ⟨by decide, .inr ⟨b, arr', e, hM, hb1, by rw [li_length, srt_len]; omega, hZ, DRrow.of _ _ fun i hi => ?_⟩⟩
    rw [li_length, srt_len] at hi
    refine ⟨.int .i64 ((srt zs).getD i 0), ⟨rfl, fun j hj => ?_⟩, ?_⟩
    · obtain rfl : j = 0 := by omega
      rw [Nat.mul_one, Nat.add_zero, hc' i hi]
      rfl
    · rw [li_getD (by rw [srt_len]; exact hi)]
      unfold DR
      exact ⟨rfl, rfl⟩
end Go.Proofs.Ytdpkmfjjhpfdbaa
