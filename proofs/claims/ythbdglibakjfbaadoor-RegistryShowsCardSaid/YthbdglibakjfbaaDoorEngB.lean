/- The state of a walk without addresses ('St') and what it says of a frame and a world ('Rep'); what new blocks, writes into own blocks, and the freezing of an own object do to it. No condition. -/
import Derived.Test.YthbdglibakjfbaaDoorEngA
set_option linter.unusedSectionVars false
namespace Go.Eng
open Go.RowKit
variable [Inhabited Lo]

/-- A walk's own objects: 'box' cells that are known one by one; 'row' a row of elements that may be written; 'ice', 'icb' the same when nobody writes any more; 'map' a map of whole numbers of a kind, its entries in the order in which they came. -/
 inductive Ob where
  | map (k : IntKind) (L : List (Int × Value))
  | itr (t : ByteArray) (pos : Nat)
  | tab (cs : List AV)
  | box (cs : List AV)
  | row (es : Nat) (L : List D)
  | ice (es : Nat) (L : List D)
  | icb (cs : List D)
def Ob.kill (n : Option Nat) : Ob → Ob
  | .box cs => .box (AV.killL n cs)
  | .tab cs => .tab (AV.killL n cs)
  | o => o
def Ob.live : Ob → Bool
  | .box _ => true
  | .row _ _ => true
  | .map _ _ => true
  | .itr _ _ => true
  | .tab _ => true
  | _ => false

structure St where
  tm : Nat → AV
  hp : Nat → Option Ob
def St.live (s : St) (n : Nat) : Prop := ∃ o, s.hp n = some o ∧ o.live = true
def St.put (s : St) (d : Option Nat) (v : AV) : St := match d with
  | some d => { s with tm := fun t => if t = d then v else s.tm t }
  | none => s
/-- object n anew: what speaks of the old one is forgotten -/
def St.renew (s : St) (n : Nat) (o : Ob) : St := { tm := fun t => (s.tm t).kill (some n), hp := fun m => if m = n then some o else (s.hp m).map (Ob.kill (some n)) }
/-- object n turned, where it is -/
def St.turn (s : St) (n : Nat) (o : Ob) : St := { s with hp := fun m => if m = n then some o else s.hp m }

def OR (Z : Nat → Prop) (M : Nat → Option Nat) (w : World) (n : Nat) : Ob → Prop
  | .box cs => ∃ b xs e, M n = some b ∧ w.heap[b]? = some (.cells xs e (0, 0)) ∧ ARs Z M w cs xs.toList ∧ ¬ Z b
  | .row es L => 0 < es ∧ ((M n = none ∧ L = []) ∨ ∃ b arr e, M n = some b ∧ blkAt w b arr e ∧ L.length * es ≤ arr.size ∧ ¬ Z b ∧ DRrow Z w es b L 0)
  | .ice es L => 0 < es ∧ ((M n = none ∧ L = []) ∨ ∃ b, M n = some b ∧ Z b ∧ DRrow Z w es b L 0)
  | .icb cs => ∃ b, M n = some b ∧ Z b ∧ DRcs Z w b cs 0
  | .map k L => ∃ b es clock, M n = some b ∧ w.heap[b]? = some (.map es clock) ∧ es.toList.map (fun e => (e.key, e.val)) = L.map (fun p => (Value.int k p.1, p.2)) ∧ (∀ p ∈ L, p.2.oneCell' = true) ∧ ¬ Z b
  | .itr t pos => ∃ b, M n = some b ∧ w.heap[b]? = some (.stringIter t pos) ∧ ¬ Z b
  | .tab cs => (M n = none ∧ cs = []) ∨ ∃ b arr e, M n = some b ∧ blkAt w b arr e ∧ cs.length ≤ arr.size ∧ ¬ Z b ∧ ARs Z M w cs (arr.toList.take cs.length)

/-- all blocks of the first world, but those of Own, are as they were -/
structure Frm (Own : Nat → Prop) (w0 w : World) : Prop where
  os : w.os = w0.os
  tape : w.tape = w0.tape
  output : w.output = w0.output
  size : w0.heap.size ≤ w.heap.size
  block : ∀ b, b < w0.heap.size → ¬ Own b → w.heap[b]? = w0.heap[b]?
theorem Frm.refl (Own : Nat → Prop) (w : World) : Frm Own w w := ⟨rfl, rfl, rfl, Nat.le_refl _, fun _ _ _ => rfl⟩
theorem Frm.mono {Own Own' : Nat → Prop} {w0 w : World} (h : Frm Own w0 w) (k : ∀ b, Own b → Own' b) : Frm Own' w0 w := ⟨h.os, h.tape, h.output, h.size, fun b hb hn => h.block b hb fun q => hn (k b q)⟩
theorem Frm.below {w0 w : World} (h : Frm (fun _ => False) w0 w) : Below w0.heap.size w0 w := ⟨h.os, h.tape, h.output, h.size, fun b hb => h.block b hb id⟩

/-- what is fixed in a call: the blocks that were there and that nobody writes, the first world, how many slots, where the caller's objects stand that the call may write (their names from 1000000 on; from 2000000 on: those that stay where they are) -/
structure Cx where
  Z0 : Nat → Prop
  w0 : World
  nt : Nat
  M0 : Nat → Option Nat
  tw : Tw w0
  gl : ∀ n b, M0 n = some b → ¬ Gl b

structure Rep (c : Cx) (Z : Nat → Prop) (M : Nat → Option Nat) (s : St) (a : Act) (w : World) : Prop where
  size : a.tmps.size = c.nt
  defers : a.defers = []
  tm : ∀ t, AR Z M w (s.tm t) (a.tmps.getD t undef)
  ob : ∀ n o, s.hp n = some o → OR Z M w n o
  dead : ∀ n, s.hp n = none → M n = none
  inj : ∀ n m b, s.live n → s.live m → M n = some b → M m = some b → n = m
  own : ∀ n b, s.live n → M n = some b → c.w0.heap.size ≤ b ∨ c.M0 n = some b
  zlt : ∀ b, Z b → b < w.heap.size
  zold : ∀ b, Z b → c.Z0 b ∨ c.w0.heap.size ≤ b
  zsub : ∀ b, c.Z0 b → Z b
  fr : Frm (fun b => ∃ n, c.M0 n = some b) c.w0 w
  fix : ∀ n, 2000000 ≤ n → M n = c.M0 n
  ntl : c.nt ≤ 1000000
  m0 : ∀ n, n < 1000000 → c.M0 n = none
  rm : ∀ b k, room c.w0 b k → room w b k

theorem Rep.tw {c : Cx} {Z : Nat → Prop} {M : Nat → Option Nat} {s : St} {a : Act} {w : World} (R : Rep c Z M s a w) : Tw w := c.tw.keep fun b hb => R.fr.block b (c.tw.lt hb) fun h => by
  obtain ⟨n, hn⟩ := h
  exact c.gl n b hn hb
theorem Rep.gl {c : Cx} {Z : Nat → Prop} {M : Nat → Option Nat} {s : St} {a : Act} {w : World} (R : Rep c Z M s a w) {n b : Nat} (hl : s.live n) (hM : M n = some b) : ¬ Gl b := fun hb => by
  rcases R.own n b hl hM with h | h
  · have := c.tw.lt hb; omega
  · exact c.gl n b h hb
theorem heap_lt {w : World} {b : Nat} {o : Obj} (h : w.heap[b]? = some o) : b < w.heap.size := (Array.getElem?_eq_some_iff.1 h).1
theorem cell_of_heap {w w' : World} {b : Nat} (h : w'.heap[b]? = w.heap[b]?) (o : Nat) : w'.cell? ⟨b, o, none⟩ = w.cell? ⟨b, o, none⟩ := World.cell?_of_block (w := w) h
theorem room_of_heap {w w' : World} {b k : Nat} (h : w'.heap[b]? = w.heap[b]?) (r : room w b k) : room w' b k := by
  obtain ⟨arr, e, h1, h2⟩ := r
  exact ⟨arr, e, h1.tr h, h2⟩

section
variable {c : Cx} {Z Z' : Nat → Prop} {M M' : Nat → Option Nat} {s : St} {a : Act} {w w' : World}

theorem blkAt.cell {b : Nat} {arr : Array Value} {e : TypeId} (h : blkAt w b arr e) (q : Nat) : w.cell? ⟨b, q, none⟩ = arr[q]? := by
  obtain ⟨fr, h1, _⟩ := h
  exact cell_of_row w b q arr e fr h1
theorem killL_len (n : Option Nat) : ∀ cs : List AV, (AV.killL n cs).length = cs.length
  | [] => rfl
  | c :: cs => by unfold AV.killL; rw [List.length_cons, List.length_cons, killL_len n cs]
/-- the block of a live object is there, and none of Z's -/
theorem OR.blk {n : Nat} {o : Ob} (h : OR Z M w n o) (hl : o.live = true) {b : Nat} (hb : M n = some b) : ¬ Z b ∧ b < w.heap.size := by
  cases o with
  | box cs =>
    obtain ⟨b', xs, e, h1, h2, _, h3⟩ := h
    rw [hb] at h1; cases h1
    exact ⟨h3, heap_lt h2⟩
  | row es L =>
    obtain ⟨_, ⟨h1, _⟩ | ⟨b', arr, e, h1, h2, _, h3, _⟩⟩ := h
    · rw [hb] at h1; cases h1
    · rw [hb] at h1; cases h1
      exact ⟨h3, h2.lt⟩
  | ice es L => cases hl
  | icb cs => cases hl
  | map k L =>
    obtain ⟨b', es, cl, h1, h2, _, _, h3⟩ := h
    rw [hb] at h1; cases h1
    exact ⟨h3, heap_lt h2⟩
  | itr t pos =>
    obtain ⟨b', h1, h2, h3⟩ := h
    rw [hb] at h1; cases h1
    exact ⟨h3, heap_lt h2⟩
  | tab cs =>
    obtain ⟨h1, _⟩ | ⟨b', arr, e, h1, h2, _, h3, _⟩ := h
    · rw [hb] at h1; cases h1
    · rw [hb] at h1; cases h1
      exact ⟨h3, h2.lt⟩
theorem OR.ice {n : Nat} {o : Ob} (h : OR Z M w n o) (hl : o.live = false) {b : Nat} (hb : M n = some b) : Z b := by
  cases o with
  | box cs => cases hl
  | row es L => cases hl
  | map k L => cases hl
  | itr t pos => cases hl
  | tab cs => cases hl
  | ice es L =>
    obtain ⟨_, ⟨h1, _⟩ | ⟨b', h1, h2, _⟩⟩ := h
    · rw [hb] at h1; cases h1
    · rw [hb] at h1; cases h1; exact h2
  | icb cs =>
    obtain ⟨b', h1, h2, _⟩ := h
    rw [hb] at h1; cases h1; exact h2

/-- An object in a later world, whose own block is as it was. -/
theorem OR.stay {n : Option Nat} (k : Stays Z Z' M M' w w' n) {m : Nat} (hM : M' m = M m) {o : Ob} (h : OR Z M w m o) (hz : ∀ b, o.live = true → M m = some b → ¬ Z' b)
    (hb : ∀ b, o.live = true → M m = some b → w'.heap[b]? = w.heap[b]?) : OR Z' M' w' m (o.kill n) := by
  cases o with
  | box cs =>
    obtain ⟨b, xs, e, h1, h2, h3, h4⟩ := h
    exact ⟨b, xs, e, hM.trans h1, (hb b rfl h1).trans h2, ARs.kill k _ _ h3, hz b rfl h1⟩
  | row es L =>
    obtain ⟨h0, ⟨h1, h2⟩ | ⟨b, arr, e, h1, h2, h3, h4, h5⟩⟩ := h
    · exact ⟨h0, .inl ⟨hM.trans h1, h2⟩⟩
    · exact ⟨h0, .inr ⟨b, arr, e, hM.trans h1, h2.tr (hb b rfl h1), h3, hz b rfl h1, DRrow.keep' k.toKeeps L 0 (fun o _ _ => cell_of_heap (hb b rfl h1) o) h5⟩⟩
  | ice es L =>
    obtain ⟨h0, ⟨h1, h2⟩ | ⟨b, h1, h2, h3⟩⟩ := h
    · exact ⟨h0, .inl ⟨hM.trans h1, h2⟩⟩
    · exact ⟨h0, .inr ⟨b, hM.trans h1, k.sub b h2, DRrow.keep k.toKeeps h2 L 0 h3⟩⟩
  | icb cs =>
    obtain ⟨b, h1, h2, h3⟩ := h
    exact ⟨b, hM.trans h1, k.sub b h2, DRcs.keep k.toKeeps h2 cs 0 h3⟩
  | map q L =>
    obtain ⟨b, es, cl, h1, h2, h3, h4, h5⟩ := h
    exact ⟨b, es, cl, hM.trans h1, (hb b rfl h1).trans h2, h3, h4, hz b rfl h1⟩
  | itr t pos =>
    obtain ⟨b, h1, h2, h3⟩ := h
    exact ⟨b, hM.trans h1, (hb b rfl h1).trans h2, hz b rfl h1⟩
  | tab cs =>
    obtain ⟨h1, h2⟩ | ⟨b, arr, e, h1, h2, h3, h4, h5⟩ := h
    · subst h2
      exact .inl ⟨hM.trans h1, by unfold AV.killL; rfl⟩
    · have hl : (AV.killL n cs).length = cs.length := killL_len n cs
      refine .inr ⟨b, arr, e, hM.trans h1, h2.tr (hb b rfl h1), by rw [hl]; exact h3, hz b rfl h1, ?_⟩
      rw [hl]
      exact ARs.kill k _ _ h5

theorem Ob.kill_none (o : Ob) : o.kill none = o := by cases o <;> simp [Ob.kill, AV.killL_none]
theorem Ob.kill_live (o : Ob) (n : Option Nat) : (o.kill n).live = o.live := by cases o <;> rfl

theorem Rep.frame_step (R : Rep c Z M s a w) {row : Option Nat} (g : w.grownBy w' row) (hr : ∀ b, row = some b → ∃ n, s.live n ∧ M n = some b) : Frm (fun b => ∃ n, c.M0 n = some b) c.w0 w' := by
  refine ⟨g.os.trans R.fr.os, g.tape.trans R.fr.tape, g.output.trans R.fr.output, Nat.le_trans R.fr.size g.size, fun b hb hn => ?_⟩
  have hb' : b < w.heap.size := Nat.lt_of_lt_of_le hb R.fr.size
  rw [g.block b hb' ?_, R.fr.block b hb hn]
  rintro rfl
  obtain ⟨n, hl, hM⟩ := hr b rfl
  rcases R.own n b hl hM with h | h
  · omega
  · exact hn ⟨n, h⟩
theorem Rep.own' (R : Rep c Z M s a w) {n b : Nat} (hl : s.live n) (hI : n < 1000000) (hM : M n = some b) : c.w0.heap.size ≤ b :=
  (R.own n b hl hM).elim id fun h => by rw [R.m0 n hI] at h; cases h
theorem Rep.rm_step (R : Rep c Z M s a w) {row : Option Nat} (g : w.grownBy w' row) (hrw : ∀ b k, row = some b → Eng.room w b k → Eng.room w' b k) : ∀ b k, Eng.room c.w0 b k → Eng.room w' b k := fun b k h => by
  have h1 := R.rm b k h
  by_cases e : row = some b
  · exact hrw b k e h1
  · obtain ⟨arr, t, h2, h3⟩ := h1
    exact ⟨arr, t, h2.tr (g.block b h2.lt (fun q => e q.symm)), h3⟩
theorem Rep.keeps_step (R : Rep c Z M s a w) {row : Option Nat} (g : w.grownBy w' row) (hr : ∀ b, row = some b → ∃ n, s.live n ∧ M n = some b) : Keeps Z Z w w' := by
  refine ⟨fun _ h => h, fun b o hb => cell_of_heap (g.block b (R.zlt b hb) ?_) o⟩
  rintro rfl
  obtain ⟨n, ⟨x, hx, hl⟩, hM⟩ := hr b rfl
  exact ((R.ob n x hx).blk hl hM).1 hb
/-- No object but n has the block that was written. -/
theorem Rep.other (R : Rep c Z M s a w) {n : Nat} {row : Option Nat} (g : w.grownBy w' row) (hr : ∀ b, row = some b → s.live n ∧ M n = some b) {m b : Nat} (hm : m ≠ n) (hM : M m = some b) : w'.heap[b]? = w.heap[b]? ∧ b < w.heap.size := by
  cases ho : s.hp m with
  | none => rw [R.dead m ho] at hM; cases hM
  | some o =>
    have hlt : b < w.heap.size := by
      cases hl : o.live with
      | true => exact ((R.ob m o ho).blk hl hM).2
      | false => exact R.zlt b ((R.ob m o ho).ice hl hM)
    refine ⟨g.block b hlt ?_, hlt⟩
    rintro rfl
    obtain ⟨hn, hMn⟩ := hr b rfl
    cases hl : o.live with
    | true => exact hm (R.inj m n b ⟨o, ho, hl⟩ hn hM hMn)
    | false =>
      obtain ⟨x, hx, hxl⟩ := hn
      exact ((R.ob n x hx).blk hxl hMn).1 ((R.ob m o ho).ice hl hM)

theorem Rep.stays_renew (R : Rep c Z M s a w) {n : Nat} {row : Option Nat} (g : w.grownBy w' row) (hr : ∀ b, row = some b → s.live n ∧ M n = some b) (hM : ∀ m, m ≠ n → M' m = M m) : Stays Z Z M M' w w' (some n) :=
  ⟨R.keeps_step g (fun b h => ⟨n, hr b h⟩), fun m hm b h => (hM m (fun e => hm (by rw [e]))).trans h, fun m hm h => (hM m (fun e => hm (by rw [e]))).trans h, fun m b x hm h r => room_of_heap (R.other g hr (fun e => hm (by rw [e])) h).1 r⟩
theorem Rep.stays_turn (R : Rep c Z M s a w) {n b : Nat} (g : w.grownBy w' (some b)) (hn : s.live n) (hMn : M n = some b) (hrm : ∀ k, room w b k → room w' b k) : Stays Z Z M M w w' none := by
  refine ⟨R.keeps_step g (fun b' h => by cases h; exact ⟨n, hn, hMn⟩), fun m _ b h => h, fun m _ h => h, fun m b' x _ h r => ?_⟩
  by_cases hmn : m = n
  · subst hmn
    rw [hMn] at h; cases h
    exact hrm x r
  · exact room_of_heap (R.other (n := n) g (fun b' h => by cases h; exact ⟨hn, hMn⟩) hmn h).1 r
/-- Object n is made anew, in its own block or in a new one. -/
theorem Rep.renewZ (R : Rep c Z M s a w) (n : Nat) (hfx : n < 2000000) {row : Option Nat} (g : w.grownBy w' row) (hz : ∀ b, Z b → Z' b) (hzn : ∀ b, Z' b → Z b ∨ w.heap.size ≤ b) (hzl : ∀ b, Z' b → b < w'.heap.size) (hr : ∀ b, row = some b → s.live n ∧ M n = some b) (hM : ∀ m, m ≠ n → M' m = M m) {o : Ob} (ho : OR Z' M' w' n o)
    (hb : ∀ b, M' n = some b → (s.live n ∧ M n = some b) ∨ w.heap.size ≤ b) (hrw : ∀ b k, row = some b → Eng.room w b k → Eng.room w' b k := by simp) : Rep c Z' M' (s.renew n o) a w' := by
  have hr' : ∀ b, row = some b → ∃ n, s.live n ∧ M n = some b := fun b h => ⟨n, hr b h⟩
  have k : Stays Z Z' M M' w w' (some n) := by
    refine ⟨⟨hz, (R.keeps_step g hr').cell⟩, fun m hm b h => (hM m (fun e => hm (by rw [e]))).trans h, fun m hm h => (hM m (fun e => hm (by rw [e]))).trans h, fun m b x hm h r => room_of_heap (R.other g hr (fun e => hm (by rw [e])) h).1 r⟩
  have live' : ∀ m, m ≠ n → (s.renew n o).live m → s.live m := by
    rintro m hm ⟨x, hx, hl⟩
    simp only [St.renew, if_neg hm, Option.map_eq_some_iff] at hx
    obtain ⟨y, hy, rfl⟩ := hx
    exact ⟨y, hy, by rwa [Ob.kill_live] at hl⟩
  have hlt : ∀ m b, s.live m → M m = some b → b < w.heap.size := fun m b ⟨x, hx, hl⟩ h => ((R.ob m x hx).blk hl h).2
  refine ⟨R.size, R.defers, fun t => AR.kill k _ _ (R.tm t), fun m x hx => ?_, fun m hm => ?_, fun m m' b h1 h2 h3 h4 => ?_, fun m b hl hm => ?_, hzl, fun b h => (hzn b h).elim (R.zold b) (fun h => .inr (Nat.le_trans R.fr.size h)), fun b h => hz b (R.zsub b h), R.frame_step g hr', fun m hm => (hM m (by omega)).trans (R.fix m hm), R.ntl, R.m0, R.rm_step g hrw⟩
  · by_cases hmn : m = n
    · subst hmn
      simp only [St.renew, if_true, Option.some.injEq] at hx
      subst hx
      exact ho
    · simp only [St.renew, if_neg hmn, Option.map_eq_some_iff] at hx
      obtain ⟨y, hy, rfl⟩ := hx
      refine OR.stay k (hM m hmn) (R.ob m y hy) (fun b hl h hzb => (hzn b hzb).elim ((R.ob m y hy).blk hl h).1 (fun h' => by have := ((R.ob m y hy).blk hl h).2; omega)) fun b _ h => (R.other g hr hmn h).1
  · by_cases hmn : m = n
    · subst hmn; simp [St.renew] at hm
    · simp only [St.renew, if_neg hmn, Option.map_eq_none_iff] at hm
      rw [hM m hmn]; exact R.dead m hm
  · by_cases hmn : m = n <;> by_cases hmn' : m' = n
    · rw [hmn, hmn']
    · subst hmn
      rw [hM m' hmn'] at h4
      rcases hb b h3 with ⟨hl, h5⟩ | h5
      · exact (R.inj m m' b hl (live' m' hmn' h2) h5 h4)
      · have := hlt m' b (live' m' hmn' h2) h4; omega
    · subst hmn'
      rw [hM m hmn] at h3
      rcases hb b h4 with ⟨hl, h5⟩ | h5
      · exact (R.inj m m' b (live' m hmn h1) hl h3 h5)
      · have := hlt m b (live' m hmn h1) h3; omega
    · rw [hM m hmn] at h3
      rw [hM m' hmn'] at h4
      exact R.inj m m' b (live' m hmn h1) (live' m' hmn' h2) h3 h4
  · by_cases hmn : m = n
    · subst hmn
      rcases hb b hm with ⟨h1, h2⟩ | h1
      · exact R.own m b h1 h2
      · exact .inl (Nat.le_trans R.fr.size h1)
    · rw [hM m hmn] at hm
      exact R.own m b (live' m hmn hl) hm

theorem Rep.renew (R : Rep c Z M s a w) (n : Nat) (hfx : n < 2000000) {row : Option Nat} (g : w.grownBy w' row) (hr : ∀ b, row = some b → s.live n ∧ M n = some b) (hM : ∀ m, m ≠ n → M' m = M m) {o : Ob} (ho : OR Z M' w' n o)
    (hb : ∀ b, M' n = some b → (s.live n ∧ M n = some b) ∨ w.heap.size ≤ b) (hrw : ∀ b k, row = some b → Eng.room w b k → Eng.room w' b k := by simp) : Rep c Z M' (s.renew n o) a w' :=
  R.renewZ n hfx g (fun _ h => h) (fun _ h => .inl h) (fun b h => Nat.lt_of_lt_of_le (R.zlt b h) g.size) hr hM ho hb hrw

/-- Object n is turned in its block: those who speak of it still do. -/
theorem Rep.turn (R : Rep c Z M s a w) (n : Nat) {b : Nat} (g : w.grownBy w' (some b)) (hn : s.live n) (hMn : M n = some b) (hrm : ∀ k, room w b k → room w' b k) {o : Ob} (ho : OR Z M w' n o) : Rep c Z M (s.turn n o) a w' := by
  have hr' : ∀ b', some b = some b' → ∃ n, s.live n ∧ M n = some b' := fun b' h => by cases h; exact ⟨n, hn, hMn⟩
  have hr : ∀ b', some b = some b' → s.live n ∧ M n = some b' := fun b' h => by cases h; exact ⟨hn, hMn⟩
  have k : Stays Z Z M M w w' none := by
    refine ⟨R.keeps_step g hr', fun m _ b h => h, fun m _ h => h, fun m b' x _ h r => ?_⟩
    by_cases hmn : m = n
    · subst hmn
      rw [hMn] at h; cases h
      exact hrm x r
    · exact room_of_heap (R.other g hr hmn h).1 r
  have live' : ∀ m, (s.turn n o).live m → s.live m := by
    rintro m ⟨x, hx, hxl⟩
    by_cases hmn : m = n
    · subst hmn; exact hn
    · simp only [St.turn, if_neg hmn] at hx
      exact ⟨x, hx, hxl⟩
  refine ⟨R.size, R.defers, fun t => AR.keep k (R.tm t), fun m x hx => ?_, fun m hm => ?_, fun m m' b h1 h2 => R.inj m m' b (live' m h1) (live' m' h2), fun m b h => R.own m b (live' m h), fun b h => Nat.lt_of_lt_of_le (R.zlt b h) g.size, R.zold, R.zsub, R.frame_step g hr', R.fix, R.ntl, R.m0, R.rm_step g fun b' k hb' hk => by cases hb'; exact hrm k hk⟩
  · by_cases hmn : m = n
    · subst hmn
      simp only [St.turn, if_true, Option.some.injEq] at hx
      subst hx
      exact ho
    · simp only [St.turn, if_neg hmn] at hx
      have := OR.stay k rfl (R.ob m x hx) (fun b hl h => ((R.ob m x hx).blk hl h).1) (fun b _ h => (R.other g hr hmn h).1)
      rwa [Ob.kill_none] at this
  · by_cases hmn : m = n
    · subst hmn; simp [St.turn] at hm
    · simp only [St.turn, if_neg hmn] at hm
      exact R.dead m hm

/-- The world grows; nothing that was there has turned. -/
theorem Rep.grow (R : Rep c Z M s a w) (g : w.grownBy w' none) : Rep c Z M s a w' := by
  have hr' : ∀ b', (none : Option Nat) = some b' → ∃ n, s.live n ∧ M n = some b' := fun b' h => by cases h
  have hlt : ∀ m b, M m = some b → b < w.heap.size := fun m b h => by
    cases ho : s.hp m with
    | none => rw [R.dead m ho] at h; cases h
    | some o =>
      cases hl : o.live with
      | true => exact ((R.ob m o ho).blk hl h).2
      | false => exact R.zlt b ((R.ob m o ho).ice hl h)
  have k : Stays Z Z M M w w' none := ⟨R.keeps_step g hr', fun m _ b h => h, fun m _ h => h, fun m b' x _ h r => room_of_heap (g.block b' (hlt m b' h) (by simp)) r⟩
  refine ⟨R.size, R.defers, fun t => AR.keep k (R.tm t), fun m x hx => ?_, R.dead, R.inj, R.own, fun b h => Nat.lt_of_lt_of_le (R.zlt b h) g.size, R.zold, R.zsub, R.frame_step g hr', R.fix, R.ntl, R.m0, R.rm_step g (by simp)⟩
  have := OR.stay k rfl (R.ob m x hx) (fun b hl h => ((R.ob m x hx).blk hl h).1) (fun b _ h => g.block b (hlt m b h) (by simp))
  rwa [Ob.kill_none] at this

/-- More blocks that nobody writes: those that are new, and none of the walk's own. -/
theorem Rep.zmore (R : Rep c Z M s a w) (hz : ∀ b, Z b → Z' b) (hn : ∀ b, Z' b → Z b ∨ c.w0.heap.size ≤ b) (hlt : ∀ b, Z' b → b < w.heap.size) (hl : ∀ n b, s.live n → M n = some b → ¬ Z' b) : Rep c Z' M s a w := by
  have k : Stays Z Z' M M w w none := ⟨⟨hz, fun _ _ _ => rfl⟩, fun _ _ _ h => h, fun _ _ h => h, fun _ _ _ _ _ h => h⟩
  refine ⟨R.size, R.defers, fun t => AR.keep k (R.tm t), fun m x hx => ?_, R.dead, R.inj, R.own, hlt, fun b h => (hn b h).elim (R.zold b) .inr, fun b h => hz b (R.zsub b h), R.fr, R.fix, R.ntl, R.m0, R.rm⟩
  have := OR.stay k rfl (R.ob m x hx) (fun b hxl h => hl m b ⟨x, hx, hxl⟩ h) (fun b _ h => rfl)
  rwa [Ob.kill_none] at this

theorem Rep.put (R : Rep c Z M s a w) {d : Option Nat} (hd : ∀ t, d = some t → t < c.nt) {v : AV} {x : Value} (h : AR Z M w v x) : Rep c Z M (s.put d v) (a.put d x) w := by
  cases d with
  | none => exact R
  | some d =>
    refine ⟨by simp only [Act.put]; rw [Array.size_setIfInBounds]; exact R.size, R.defers, fun t => ?_, R.ob, R.dead, R.inj, R.own, R.zlt, R.zold, R.zsub, R.fr, R.fix, R.ntl, R.m0, R.rm⟩
    simp only [St.put, Act.put]
    by_cases ht : t = d
    · subst ht
      rw [if_pos rfl]
      have : t < a.tmps.size := by rw [R.size]; exact hd t rfl
      simpa [Array.getD, this] using h
    · rw [if_neg ht]
      have := R.tm t
      have e : (a.tmps.setIfInBounds d x).getD t undef = a.tmps.getD t undef := by
        simp only [Array.getD_eq_getD_getElem?]
        rw [Array.getElem?_setIfInBounds_ne (Ne.symm ht)]
      rw [e]; exact this
theorem AR.any_ {x : Value} : AR Z M w .any x := by unfold AR; trivial

/-- An own object that nobody is to write any more. -/
theorem Rep.freezeG (R : Rep c Z M s a w) (n : Nat) {o o' : Ob} (hn : s.hp n = some o) (hl : o.live = true) (hl' : o'.live = false) (hI : n < 1000000)
    (ho : ∀ Z', (∀ b, Z b → Z' b) → (∀ b, M n = some b → Z' b) → OR Z M w n o → OR Z' M w n o') : ∃ Z', (∀ b, Z b → Z' b) ∧ Rep c Z' M (s.turn n o') a w := by
  have hlv : s.live n := ⟨_, hn, hl⟩
  have hO := R.ob n _ hn
  refine ⟨fun b => Z b ∨ M n = some b, fun b h => .inl h, ?_⟩
  have live' : ∀ m, (s.turn n o').live m → m ≠ n ∧ s.live m := by
    rintro m ⟨x, hx, hxl⟩
    by_cases hmn : m = n
    · subst hmn; simp only [St.turn, if_true, Option.some.injEq] at hx; subst hx; rw [hl'] at hxl; cases hxl
    · simp only [St.turn, if_neg hmn] at hx; exact ⟨hmn, x, hx, hxl⟩
  have k : Stays Z (fun b => Z b ∨ M n = some b) M M w w none := ⟨⟨fun b h => .inl h, fun _ _ _ => rfl⟩, fun _ _ _ h => h, fun _ _ h => h, fun _ _ _ _ _ h => h⟩
  refine ⟨R.size, R.defers, fun t => AR.keep k (R.tm t), fun m x hx => ?_, fun m hm => ?_, fun m m' b h1 h2 => R.inj m m' b (live' m h1).2 (live' m' h2).2, fun m b h => R.own m b (live' m h).2, fun b h => ?_, fun b h => ?_, fun b h => .inl (R.zsub b h), R.fr, R.fix, R.ntl, R.m0, R.rm⟩
  · by_cases hmn : m = n
    · subst hmn
      simp only [St.turn, if_true, Option.some.injEq] at hx
      subst hx
      exact ho _ (fun b h => .inl h) (fun b h => .inr h) hO
    · simp only [St.turn, if_neg hmn] at hx
      have := OR.stay k rfl (R.ob m x hx) (fun b hxl h => ?_) (fun b _ h => rfl)
      · rwa [Ob.kill_none] at this
      · rintro (h' | h')
        · exact ((R.ob m x hx).blk hxl h).1 h'
        · exact hmn (R.inj m n b ⟨x, hx, hxl⟩ hlv h h')
  · by_cases hmn : m = n
    · subst hmn; simp [St.turn] at hm
    · simp only [St.turn, if_neg hmn] at hm; exact R.dead m hm
  · rcases h with h | h
    · exact R.zlt b h
    · exact (hO.blk hl h).2
  · rcases h with h | h
    · exact R.zold b h
    · exact .inr (R.own' hlv hI h)
theorem Rep.freeze (R : Rep c Z M s a w) (n : Nat) {es : Nat} {L : List D} (hn : s.hp n = some (.row es L)) (hI : n < 1000000) : ∃ Z', (∀ b, Z b → Z' b) ∧ Rep c Z' M (s.turn n (.ice es L)) a w := by
  refine R.freezeG n hn rfl rfl hI fun Z' hz hb hO => ?_
  obtain ⟨h0, ⟨h1, h2⟩ | ⟨b, arr, e, h1, h2, h3, h4, h5⟩⟩ := hO
  · exact ⟨h0, .inl ⟨h1, h2⟩⟩
  · exact ⟨h0, .inr ⟨b, h1, hb b h1, DRrow.keep' ⟨hz, fun _ _ _ => rfl⟩ L 0 (fun _ _ _ => rfl) h5⟩⟩
theorem cs_of_ARs (hz : ∀ b, Z b → Z' b) {b : Nat} : ∀ (cs : List D) (xs : List Value) (off : Nat), ARs Z M w (cs.map AV.d) xs → (∀ j, j < xs.length → w.cell? ⟨b, off + j, none⟩ = xs[j]?) → DRcs Z' w b cs off
  | [], _, _, _, _ => trivial
  | d :: cs, xs, off, h, hc => by
    simp only [List.map_cons] at h
    unfold ARs at h
    obtain ⟨x, xs', rfl, h1, h2, h3⟩ := h
    unfold AR at h2
    unfold DRcs
    refine ⟨⟨x, by simpa using hc 0 (by simp), h1, DR.keep ⟨hz, fun _ _ _ => rfl⟩ d x h2⟩, cs_of_ARs hz cs xs' _ h3 fun j hj => ?_⟩
    have := hc (j + 1) (by simpa using hj)
    rw [show off + 1 + j = off + (j + 1) from by omega, this]
    rfl
theorem Rep.freezeB (R : Rep c Z M s a w) (n : Nat) {cs : List D} (hn : s.hp n = some (.box (cs.map AV.d))) (hI : n < 1000000) : ∃ Z', (∀ b, Z b → Z' b) ∧ Rep c Z' M (s.turn n (.icb cs)) a w := by
  refine R.freezeG n hn rfl rfl hI fun Z' hz hb hO => ?_
  obtain ⟨b, xs, e, h1, h2, h3, h4⟩ := hO
  refine ⟨b, h1, hb b h1, cs_of_ARs hz cs xs.toList 0 h3 fun j hj => ?_⟩
  rw [cell_of_row w b (0 + j) xs e (0, 0) h2, Nat.zero_add]
  simp
end
end Go.Eng
