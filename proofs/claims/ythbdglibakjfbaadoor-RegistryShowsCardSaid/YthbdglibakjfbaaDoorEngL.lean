/- Calls on a walk's values agree with Go's; all writing operations ('do_sound'). No condition. -/
import Derived.Laws.RangeString
import Derived.Lib.OthersKept
import Derived.Test.YthbdglibakjfbaaDoorEngK
import Derived.Lib.ConvBytes
set_option linter.unusedSectionVars false
namespace Go.Eng
open Go.RowKit
variable [Inhabited Lo]
section
variable {P : Program} {c : Cx} {Z Z' : Nat → Prop} {M : Nat → Option Nat} {s : St} {a : Act} {w w' : World}

theorem srcW_sound (R : Rep c Z M s a w) {es : Nat} {v : AV} {x : Value} (hv : AR Z M w v x) {K : List D → Prop} (h : srcW s es v K) : ∃ L, Src Z w es L x ∧ K L := by
  unfold srcW at h
  split at h
  · rename_i es' L
    obtain ⟨rfl, hk⟩ := h
    unfold AR DR at hv
    obtain ⟨ad, cap, rfl, hl, hm, hc⟩ := hv
    refine ⟨L, ⟨ad, cap, rfl, fun hn => ?_⟩, hk⟩
    obtain ⟨b, off, rfl, hz, hr⟩ := hc hn
    obtain ⟨xs, h1, h2, h3⟩ := row_cells L off hr
    exact ⟨_, xs, rfl, h1, fun j u hj => by rw [add_at]; exact h2 j u hj, h3⟩
  · exact ⟨[], ⟨none, 0, hv.c_.1, fun hn => absurd rfl hn⟩, h⟩
  · rename_i n es' off len
    have key : ∀ es'' L, (s.hp n = some (.row es'' L) ∨ s.hp n = some (.ice es'' L)) → es = es' ∧ es = es'' ∧ off + len ≤ L.length ∧ K ((L.drop off).take len) → ∃ L, Src Z w es L x ∧ K L := by
      rintro es'' L hn ⟨rfl, rfl, hl, hk⟩
      unfold AR at hv
      obtain ⟨ad, cap, rfl, h1, h2, h3⟩ := hv
      have hlen : ((L.drop off).take len).length = len := by rw [List.length_take, List.length_drop]; omega
      refine ⟨_, ⟨ad, cap, by rw [hlen], fun hne => ?_⟩, hk⟩
      rw [hlen] at hne
      obtain ⟨b, h4, rfl, _⟩ := (h3 (by omega)).resolve_left (by omega)
      obtain ⟨_, _, hr⟩ := R.row_at hn h4
      have hr' := sub_row (l := off) (n := len) hr hl
      rw [Nat.zero_add] at hr'
      obtain ⟨xs, k1, k2, k3⟩ := row_cells _ _ hr'
      exact ⟨_, xs, rfl, k1, fun j u hj => by rw [add_at]; exact k2 j u hj, k3⟩
    split at h
    · rename_i es'' L hn
      exact key es'' L (.inl hn) h
    · rename_i es'' L hn
      exact key es'' L (.inr hn) h
    · exact h.elim
  · exact h.elim

theorem done_rep (R : Rep c Z M s a w) (hd : Done Z w Z' w') : Rep c Z' M s a w' := by
  have R1 := R.grow hd.below.grow_none
  refine R1.zmore hd.sub (fun b h => (hd.new b h).imp id fun h => Nat.le_trans R.fr.size h) hd.lt ?_
  rintro n b ⟨o, ho, hl⟩ hM hz
  have := (R.ob n o ho).blk hl hM
  rcases hd.new b hz with h | h
  · exact this.1 h
  · omega

theorem callFunc_run {f : FuncId} (hb : hasBody P f = true) (args : Array Value) : (callFunc f args).run P w = .ok (.enter f args) w := by
  unfold hasBody at hb
  unfold callFunc
  cases hf : P.funcs[f]? with
  | none => simp [hf] at hb
  | some fn =>
    simp only [hf, Bool.and_eq_true] at hb
    obtain ⟨h1, h2⟩ := hb
    have h1' : (fn.name == "runtime.NumGoroutine") = false := by simpa using h1
    have h2' : fn.body.isNone = false := by cases hb : fn.body <;> simp_all
    simp only [Sem.run_bind, run_program, Result.andThen_ok, hf]
    simp only [h1', h2', Bool.false_eq_true, if_false, Sem.run_pure]

/-- a call that has been resolved: its function, its arguments -/
theorem wp_called {o : Oper} {f : FuncId} {vs : Array Value} (he : ∀ w, (execOp a.eval o).run P w = (callFunc f vs).run P w) (hb : hasBody P f = true) {K : Act → World → Prop} {Q : Exit → Act → World → Prop}
    (h : Calls P f vs w fun e w' => ∃ v, e = .returned v ∧ K (a.put o.dst v) w') : o.wp P a w K Q := by
  unfold Oper.wp
  rw [he, callFunc_run hb, Oper.upon_enter]
  refine h.mono fun e w' h => ?_
  obtain ⟨v, rfl, hk⟩ := h
  exact hk

def Ins.tch (i : Ins) (s : St) : List Nat := match i with
  | .lit0 n _ => [n]
  | .cvB n _ => [n]
  | .mrk x => rdS (ev s x)
  | .litO n _ _ => [n]
  | .box n _ _ => [n]
  | .alloc n _ => [n]
  | .mk n _ _ _ _ _ => [n]
  | .st _ p _ => rdV (ev s p)
  | .app n _ _ v _ => appT n (ev s v)
  | .appZ n _ _ _ v _ => appT n (ev s v)
  | .cpy v _ => rdS (ev s v)
  | .call n _ _ => [n]
  | .callv n _ _ => [n]
  | .mkm n _ => [n]
  | .rng n _ => [n]
  | .nxt x => rdV (ev s x)
  | .litR n _ => [n]
  | .appR n _ v _ => appT n (ev s v)
  | .mup _ m _ _ => rdM (ev s m)
  | _ => []
theorem fn_sound {Z0 : Nat → Prop} {s0 : St} (R0 : Rep c Z0 M s0 a w) (hz0 : ∀ b, Z0 b → Z b) (R : Rep c Z M s a w) {o : Oper} {f : FuncId} {ds : List D} {vs : List Value} (hvs : DRt Z w ds vs) (he : ∀ w, (execOp a.eval o).run P w = (callFunc f vs.toArray).run P w) (hd : ∀ t, o.dst = some t → t < c.nt) {n : Nat} (hfx : n < 2000000) {K : St → Prop}
    (h : (∃ r, Giv P f ds r ∧ K (s.put o.dst r)) ∨ (∃ r ob, GivO P f ds r ob ∧ K ((s.renew n (ob.ren n)).put o.dst (r.ren n))) ∨ ∃ r, r.flats = true ∧ Giv P f ds r ∧ K (s0.put o.dst r)) {Kc : Act → World → Prop} {Q : Exit → Act → World → Prop}
    (hk : ∀ Z' M' s' a' w', Rep c Z' M' s' a' w' → (∀ b, Z0 b → Z' b) → Below w.heap.size w w' → (∀ k, k ∉ [n] → M' k = M k) → K s' → Kc a' w') : o.wp P a w Kc Q := by
  rcases h with ⟨r, ⟨hb, hf⟩ | hf, hK⟩ | ⟨r, ob, ⟨hb, hf⟩, hK⟩ | ⟨r, hfl, ⟨hb, hf⟩ | hf, hK⟩
  · refine wp_called he hb ((hf Z w vs R.zlt R.tw hvs).mono fun e w' h => ?_)
    obtain ⟨v, Z', rfl, hdn, hr⟩ := h
    exact ⟨v, rfl, hk _ _ _ _ _ ((done_rep R hdn).put hd (hr M)) (fun b h => hdn.sub b (hz0 b h)) hdn.below (fun _ _ => rfl) hK⟩
  · obtain ⟨v, hv, hr⟩ := hf Z w vs hvs
    exact wp_value ((he w).trans hv) (hk _ _ _ _ _ (R.put hd (hr M)) hz0 (Below.refl _ _) (fun _ _ => rfl) hK)
  · refine wp_called he hb ((hf Z w vs R.zlt R.tw hvs).mono fun e w' h => ?_)
    obtain ⟨v, Z', rfl, hdn, m, hm, hr, ho⟩ := h
    refine ⟨v, rfl, hk Z' (fun k => if k = n then m else M k) _ _ _ (Rep.put (R.renewZ n hfx (row := none) hdn.below.grow_none hdn.sub hdn.new hdn.lt (by simp) (fun k hkn => by simp [hkn]) ?_ fun b hb => ?_) hd ?_) (fun b h => hdn.sub b (hz0 b h)) hdn.below (fun k hk => by simp at hk; simp [hk]) hK⟩
    · exact OR.ren (n := n) (M := fun k => if k = n then m else M k) (by simpa using ho)
    · simp at hb
      exact .inr (hm b hb)
    · exact AR.ren (n := n) (M := fun k => if k = n then m else M k) r v (by simpa using hr)
  · refine wp_called he hb ((hf Z w vs R.zlt R.tw hvs).mono fun e w' h => ?_)
    obtain ⟨v, Z', rfl, hdn, hr⟩ := h
    exact ⟨v, rfl, hk _ _ _ _ _ ((R0.grow hdn.below.grow_none).put hd (flats_AR hfl (hr M))) (fun _ h => h) hdn.below (fun _ _ => rfl) hK⟩
  · obtain ⟨v, hv, hr⟩ := hf Z w vs hvs
    exact wp_value ((he w).trans hv) (hk _ _ _ _ _ (R0.put hd (flats_AR hfl (hr M))) (fun _ h => h) (Below.refl _ _) (fun _ _ => rfl) hK)

theorem run_copy_ok (w : World) (dT sT ty elem : TypeId) (g o dLen dCap : Nat) (a : Addr) (sLen sCap : Nat) (cur : Array Value) (t : TypeId) (cs : List Value)
    (hu : P.underlying dT = some (.slice elem)) (hs : (P.info? elem).map (·.size) = some 1)
    (hg : blkAt w g cur t) (hn : cs.length = Nat.min sLen dLen)
    (hsrc : ∀ j v, cs[j]? = some v → w.cell? (a.add j) = some v) (hfit : o + cs.length ≤ cur.size) (h1 : ∀ v ∈ cs, v.oneCell' = true) :
    (Builtin.copy_ #[dT, sT] ty #[.slice (some ⟨g, o, none⟩) dLen dCap, .slice (some a) sLen sCap]).run P w =
      .ok (goInt cs.length) (w.setRow g (cur.toList.take o ++ cs ++ cur.toList.drop (o + cs.length)).toArray) := by
  have hl := run_loadCells_list (P := P) w a cs hsrc
  have hst := run_storeCells_ok (P := P) g o t cs 0 cur w hg (by simpa using hfit) h1
  cases hq : P.info? elem with
  | none => simp [hq] at hs
  | some i =>
    have hi : i.size = 1 := by simpa [hq] using hs
    simp [Builtin.copy_, run_underlying hu, Builtin.lenOf, Builtin.firstCells, sizeOf, typeInfo, hq, hi, ← hn, hl, hst]

theorem cpy_sound (R : Rep c Z M s a w) {dT sT ty e : TypeId} (ht : P.underlying dT = some (.slice e)) (he : sizeT P e = some 1) {n off len : Nat} {L L' : List D} (hn : s.hp n = some (.row 1 L)) {x y : Value} (hv : AR Z M w (.sl n 1 off len) x) (hy : Src Z w 1 L' y) (hle : off + len ≤ L.length) :
    ∃ w', (Builtin.copy_ #[dT, sT] ty #[x, y]).run P w = .ok (goInt ((min L'.length len : Nat) : Int)) w' ∧ Eff [n] Z M M w w' ∧ Rep c Z M (s.turn n (.row 1 (spl L off (L'.take len)))) a w' := by
  unfold AR at hv
  obtain ⟨ad, cap, rfl, hlc, hcm, hpl⟩ := hv
  obtain ⟨ad2, cap2, rfl, hsrc⟩ := hy.form
  obtain ⟨i, hi, hi1⟩ : ∃ i, P.info? e = some i ∧ i.size = 1 := by
    cases hq : P.info? e with
    | none => simp [sizeT, hq] at he
    | some i => exact ⟨i, rfl, by simpa [sizeT, hq] using he⟩
  by_cases h0 : min L'.length len = 0
  · have htk : L'.take len = [] := by
      apply List.eq_nil_of_length_eq_zero
      rw [List.length_take]; omega
    have hspl : spl L off ([] : List D) = L := by simp [spl]
    have hst : s.turn n (.row 1 (spl L off (L'.take len))) = s := by
      rw [htk, hspl]
      unfold St.turn
      congr 1
      funext m
      split
      · rename_i hm; rw [hm, hn]
      · rfl
    have h0' : Nat.min L'.length len = 0 := h0
    have g : w.grownBy w none := ⟨rfl, rfl, rfl, Nat.le_refl _, fun _ _ _ => rfl⟩
    refine ⟨w, ?_, Eff.of_grown g (by simp) (fun _ _ => rfl), by rw [hst]; exact R⟩
    rw [h0]
    cases ad <;> cases ad2 <;> simp [Builtin.copy_, run_underlying ht, Builtin.lenOf, Builtin.firstCells, sizeOf, typeInfo, hi, h0', storeCells, loadCells, loadCellsFrom]
  · rcases hpl (.inl (by omega)) with ⟨_, _, hc0⟩ | ⟨b, hMb, rfl, _⟩
    · omega
    obtain ⟨_, ⟨h1, _⟩ | ⟨b', cur, e', h1, h2, h3, h4, h5⟩⟩ := R.ob n _ hn
    · rw [hMb] at h1; cases h1
    rw [hMb] at h1; cases h1
    obtain ⟨a0, xs, rfl, hrow, hcell, hone⟩ := hsrc (by omega)
    have hxl := hrow.1
    rw [Nat.mul_one] at hxl h3
    obtain ⟨k, hk⟩ : ∃ k, k = min L'.length len := ⟨_, rfl⟩
    have hcs : (xs.take k).length = k := by rw [List.length_take]; omega
    have hfit : off + (xs.take k).length ≤ cur.size := by omega
    have hrun := run_copy_ok (P := P) w dT sT ty e b off len cap a0 L'.length cap2 cur e' (xs.take k) ht (by simp [hi, hi1]) h2 (by rw [hcs, hk]) (fun j v hj => hcell j v (by
      rw [List.getElem?_take] at hj
      split at hj
      · exact hj
      · cases hj)) hfit (fun v hv => hone v (List.mem_of_mem_take hv))
    rw [hcs] at hrun
    obtain ⟨g, hr, hh⟩ := setRow_grown' (ys := (spl cur.toList off (xs.take k)).toArray) h2 (by simp only [List.size_toArray]; rw [spl_len (by simpa using hfit)]; simp)
    have hlv : s.live n := ⟨_, hn, rfl⟩
    have kp := R.stays_turn g hlv hMb hr
    have hlt : (L'.take len).length = k := by rw [List.length_take, hk]; exact Nat.min_comm _ _
    have hcellw : ∀ q, (w.setRow b (spl cur.toList off (xs.take k)).toArray).cell? ⟨b, q, none⟩ = if q < off then w.cell? ⟨b, q, none⟩ else if q < off + k then xs[q - off]? else w.cell? ⟨b, q, none⟩ := by
      intro q
      rw [hh.cell q, h2.cell q]
      have := spl_get (cs := cur.toList) (xs := xs.take k) (off := off) (by simpa using hfit) q
      simp only [hcs] at this
      simp only [List.getElem?_toArray, this]
      by_cases c1 : q < off
      · simp [c1]
      · by_cases c2 : q < off + k
        · rw [if_neg c1, if_neg c1, if_pos c2, if_pos c2, List.getElem?_take, if_pos (by omega)]
        · simp [c1, c2]
    refine ⟨_, by rw [← hk, Nat.mul_one, spl, hcs]; exact hrun, Eff.of_grown g (fun b' hb' => by cases hb'; exact ⟨h4, n, by simp, hMb⟩) (fun _ _ => rfl), R.turn n g hlv hMb hr ⟨by decide, .inr ⟨b, _, e', hMb, hh, ?_, h4, DRrow.of _ _ fun q hq => ?_⟩⟩⟩
    · rw [spl_len (by omega), List.size_toArray, spl_len (by simpa using hfit), Nat.mul_one]
      simpa using h3
    · rw [spl_len (by omega)] at hq
      have hg : (spl L off (L'.take len)).getD q default = if q < off then L.getD q default else if q < off + k then L'.getD (q - off) default else L.getD q default := by
        simp only [List.getD]
        rw [spl_get (by omega), hlt]
        by_cases c1 : q < off
        · simp [c1]
        · by_cases c2 : q < off + k
          · simp only [if_neg c1, if_pos c2]
            rw [List.getElem?_take, if_pos (by omega)]
          · simp [c1, c2]
      rw [hg]
      obtain ⟨y, ⟨hy1, hy2⟩, hy3⟩ := DRrow.get _ _ h5 q hq
      by_cases c1 : q < off
      · rw [if_pos c1]
        refine ⟨y, ⟨hy1, fun j hj => ?_⟩, DR.keep kp.toKeeps _ _ hy3⟩
        rw [hcellw, if_pos (by omega), ← hy2 j hj]
      · rw [if_neg c1]
        by_cases c2 : q < off + k
        · rw [if_pos c2]
          obtain ⟨z, ⟨hz1, hz2⟩, hz3⟩ := hrow.2 (q - off) (by omega)
          refine ⟨z, ⟨hz1, fun j hj => ?_⟩, DR.keep kp.toKeeps _ _ hz3⟩
          have := hz2 j hj
          rw [Nat.mul_one] at this
          rw [hcellw, if_neg (by omega), if_pos (by omega), ← this]
          congr 1; omega
        · rw [if_neg c2]
          refine ⟨y, ⟨hy1, fun j hj => ?_⟩, DR.keep kp.toKeeps _ _ hy3⟩
          rw [hcellw, if_neg (by omega), if_neg (by omega), ← hy2 j hj]
theorem litO_sound (R : Rep c Z M s a w) {n es : Nat} (hfx : n < 2000000) (h0 : 0 < es) {ds : List D} {xs : List Value} (hd : DRt Z w ds xs) (hl : allLen es ds) (cs : Array Value) (hcs : cs.size = xs.length * es) {e : TypeId} (hm : xs.length ≤ maxLen) :
    ∃ ys M', Instr.fill (fun i => some (i * es, es)) cs ((xs.zipIdx 0).map fun p => (p.2, p.1)) = some ys ∧ (∀ m, m ≠ n → M' m = M m) ∧ Rep c Z M' (s.renew n (.row es ds)) a (w.alloc (.cells ys e)) ∧
      AR Z M' (w.alloc (.cells ys e)) (.sl n es 0 ds.length) (.slice (some ⟨w.heap.size, 0, none⟩) xs.length xs.length) := by
  obtain ⟨ys, h1, h2, h3, _⟩ := fill_rows xs 0 cs (allLen_vals hl hd) (by rw [hcs]; simp)
  have hlen := hd.len
  obtain ⟨M', g1, g2, g3⟩ := R.newRow n hfx h0 (L := ds) (arr := ys) (e := e) (cap := xs.length) (by rw [h2, hcs]) (by omega) hm fun i hi => by
    obtain ⟨x, hx, hdx⟩ := hd.get i hi
    have hxs : x.cells.size = es := allLen_vals hl hd x (List.mem_of_getElem? hx)
    refine ⟨x, ⟨hxs, fun j hj => ?_⟩, hdx⟩
    have := h3 i x hx j hj
    rw [Nat.zero_add] at this
    exact this
  rw [← hlen] at g3 ⊢
  exact ⟨ys, M', h1, g1, g2, by rw [hlen] at g3 ⊢; exact g3⟩
def Ins.bad : Ins → Bool
  | .st _ _ _ => true
  | .app _ _ _ _ _ => true
  | .appZ _ _ _ _ _ _ => true
  | .cpy _ _ => true
  | .mrk _ => true
  | .mup _ _ _ _ => true
  | .nxt _ => true
  | .appR _ _ _ _ => true
  | .callm _ _ => true
  | .callvm _ _ => true
  | _ => false

theorem d_lt (R : Rep c Z M s a w) {d : Nat} (h : d < c.nt) : d < 2000000 := Nat.lt_of_lt_of_le h (Nat.le_trans R.ntl (by decide))
theorem dst_lt {o : Oper} (R : Rep c Z M s a w) (hd : ∀ t, o.dst = some t → t < c.nt) : o.dst.getD 0 < 2000000 := by
  have := R.ntl
  cases h : o.dst with
  | none => exact (by decide : (0 : Nat) < 2000000)
  | some t => exact d_lt R (hd t h)
theorem mrk_sound (R : Rep c Z M s a w) {t e : TypeId} (ht : P.underlying t = some (.slice e)) (he : P.underlying e = some (.int .u8)) {n off len : Nat} {L : List D} (hn : s.hp n = some (.row 1 L)) (hlen : 0 < len) {x : Value} (hx : AR Z M w (.sl n 1 off len) x) :
    ∃ w', (convert t t x).run P w = .ok x w' ∧ Eff [n] Z M M w w' ∧ Rep c Z M s a w' ∧ AR Z M w' (.sl n 1 off len) x := by
  unfold AR at hx
  obtain ⟨ad, cap, rfl, hlc, hcm, hpl⟩ := hx
  rcases hpl (.inl (by omega)) with ⟨_, _, hc0⟩ | ⟨b, hMb, rfl, hroom⟩
  · omega
  obtain ⟨h0, ⟨h1, _⟩ | ⟨b', arr, e', h1, h2, h3, h4, h5⟩⟩ := R.ob n _ hn
  · rw [hMb] at h1; cases h1
  rw [hMb] at h1; cases h1
  obtain ⟨fr, hh, hf⟩ := h2
  have hlt := heap_lt hh
  have hfz : (w.freeze ⟨b, arr.size, none⟩ 1).heap[b]? = some (.cells arr e' (if fr.1 == fr.2 then (arr.size, arr.size + 1) else (min fr.1 arr.size, max fr.2 (arr.size + 1)))) := by
    unfold World.freeze
    rw [if_neg (by decide)]
    simp only [Array.getElem?_modify, if_true, hh, Option.map_some]
  have hoth : ∀ k, k ≠ b → (w.freeze ⟨b, arr.size, none⟩ 1).heap[k]? = w.heap[k]? := fun k hk => by
    unfold World.freeze
    rw [if_neg (by decide)]
    simp only [Array.getElem?_modify]
    rw [if_neg (fun q => hk q.symm)]
  have hB : blkAt (w.freeze ⟨b, arr.size, none⟩ 1) b arr e' := by
    refine ⟨_, hfz, .inl ?_⟩
    split
    · exact Nat.le_refl _
    · rename_i hne
      rcases hf with q | q
      · show arr.size ≤ min fr.1 arr.size
        omega
      · rw [q] at hne
        simp at hne
  have hsz : (w.freeze ⟨b, arr.size, none⟩ 1).heap.size = w.heap.size := by
    unfold World.freeze
    rw [if_neg (by decide)]
    simp
  have g : w.grownBy (w.freeze ⟨b, arr.size, none⟩ 1) (some b) := ⟨rfl, rfl, rfl, by rw [hsz]; exact Nat.le_refl _, fun k _ hk => hoth k fun q => hk (by rw [q])⟩
  have hlv : s.live n := ⟨_, hn, rfl⟩
  have hr : ∀ k, room w b k → room (w.freeze ⟨b, arr.size, none⟩ 1) b k := by
    rintro k ⟨ar, ee, g1, g2⟩
    obtain ⟨rfl, rfl⟩ := (show blkAt w b arr e' from ⟨fr, hh, hf⟩).uniq g1
    exact ⟨_, _, hB, g2⟩
  have hcell : ∀ q, (w.freeze ⟨b, arr.size, none⟩ 1).cell? ⟨b, q, none⟩ = w.cell? ⟨b, q, none⟩ := fun q => by
    rw [hB.cell q, (show blkAt w b arr e' from ⟨fr, hh, hf⟩).cell q]
  have kp := R.stays_turn g hlv hMb hr
  have R' := R.turn n g hlv hMb hr (o := .row 1 L) ⟨h0, .inr ⟨b, arr, e', hMb, hB, h3, h4, DRrow.keep' kp.toKeeps L 0 (fun o _ _ => hcell o) h5⟩⟩
  have hst : s.turn n (.row 1 L) = s := by
    unfold St.turn
    congr 1
    funext m
    by_cases hm : m = n
    · rw [if_pos hm, hm, hn]
    · rw [if_neg hm]
  rw [hst] at R'
  refine ⟨_, ?_, Eff.of_grown g (fun b' hb' => by cases hb'; exact ⟨h4, n, by simp, hMb⟩) (fun _ _ => rfl), R', ?_⟩
  · have hsh : w.shape? b = some (e', arr.size) := by unfold World.shape?; rw [hh]
    simp [convert, run_underlying ht, run_underlying he, markStringish, hsh]
  · unfold AR
    exact ⟨_, cap, rfl, hlc, hcm, fun _ => .inr ⟨b, hMb, rfl, hr _ hroom⟩⟩
theorem cvB_sound (R : Rep c Z M s a w) {n : Nat} (hfx : n < 2000000) (e : TypeId) (b : ByteArray) (hb : b.size ≤ maxLen) :
    ∃ M', (∀ m, m ≠ n → M' m = M m) ∧ Rep c Z M' (s.renew n (.row 1 (bD b))) a (Lib.bytesWorld w e b) ∧ AR Z M' (Lib.bytesWorld w e b) (.sl n 1 0 b.size) (.slice (some ⟨w.heap.size, 0, none⟩) b.size (grownCap w b.size 0 e)) ∧ Below w.heap.size w (Lib.bytesWorld w e b) := by
  have hlt : w.heap.size ≤ (Lib.bytesWorld w e b).heap.size := by rw [Lib.bytesWorld_size]; omega
  have hbe : Below w.heap.size w (Lib.bytesWorld w e b) := ⟨rfl, rfl, rfl, hlt, fun k hk => Lib.bytesWorld_at_old w e b k hk⟩
  have g := hbe.grow_none
  have hM : ∀ m, m ≠ n → (fun m => if m = n then some w.heap.size else M m) m = M m := fun m hm => by simp [hm]
  have hsz : (Lib.bytesCells w e b).size = grownCap w b.size 0 e := by
    have := grownCap_ge w b.size 0 e
    simp only [Lib.bytesCells, Array.size_append, Array.size_map, Array.size_replicate]
    have : b.data.size = b.size := rfl
    omega
  have hbl : blkAt (Lib.bytesWorld w e b) w.heap.size (Lib.bytesCells w e b) e := ⟨_, Lib.bytesWorld_at_new w e b, .inl (Nat.le_refl _)⟩
  have hbl2 : (bD b).length = b.size := by simp [bD]
  refine ⟨fun m => if m = n then some w.heap.size else M m, hM, R.renew n hfx (row := none) g (by simp) hM ⟨by decide, .inr ⟨w.heap.size, _, e, by simp, hbl, ?_, not_zlt R, DRrow.of _ _ fun i hi => ?_⟩⟩ (fun b hb => ?_), ?_, hbe⟩
  · rw [hbl2, hsz, Nat.mul_one]
    exact grownCap_ge w b.size 0 e
  · rw [hbl2] at hi
    have hc := Lib.bytesWorld_cell w e b i hi
    have hg : (bD b).getD i default = .c (.int .u8 (b.data.toList.getD i 0).toNat) := by
      have : i < b.data.toList.length := by simpa using hi
      simp only [bD, List.getD, List.getElem?_map, List.getElem?_eq_getElem this, Option.map_some, Option.getD_some]
    rw [hg]
    refine ⟨.int .u8 (b.data.toList.getD i 0).toNat, ⟨rfl, fun j hj => ?_⟩, by unfold DR; exact ⟨rfl, rfl⟩⟩
    obtain rfl : j = 0 := by omega
    rw [Nat.mul_one, Nat.add_zero, Nat.zero_add, hc]
    rfl
  · simp at hb
    exact .inr (by omega)
  · unfold AR
    refine ⟨_, _, rfl, grownCap_ge w b.size 0 e, grownCap_le_maxLen w b.size 0 e hb, fun _ => .inr ⟨w.heap.size, by simp, by simp, _, e, hbl, ?_⟩⟩
    rw [hsz]; omega
theorem mkm_sound (R : Rep c Z M s a w) {n : Nat} (hfx : n < 2000000) {k : IntKind} :
    ∃ M', (∀ m, m ≠ n → M' m = M m) ∧ Rep c Z M' (s.renew n (.map k [])) a (w.alloc (.map #[] 0)) ∧ AR Z M' (w.alloc (.map #[] 0)) (.mp n) (.map (some w.heap.size)) := by
  have g := (below_alloc w (.map #[] 0)).grow_none
  have hM : ∀ m, m ≠ n → (fun m => if m = n then some w.heap.size else M m) m = M m := fun m hm => by simp [hm]
  refine ⟨fun m => if m = n then some w.heap.size else M m, hM, R.renew n hfx (row := none) g (by simp) hM ⟨w.heap.size, #[], 0, by simp, heap_alloc_new w _, rfl, by simp, not_zlt R⟩ (fun b hb => ?_), by unfold AR; exact ⟨_, by simp, rfl⟩⟩
  simp at hb
  exact .inr (by omega)
theorem rng_sound (R : Rep c Z M s a w) {n : Nat} (hfx : n < 2000000) {t : ByteArray} :
    ∃ M', (∀ m, m ≠ n → M' m = M m) ∧ Rep c Z M' (s.renew n (.itr t 0)) a (w.alloc (.stringIter t 0)) ∧ AR Z M' (w.alloc (.stringIter t 0)) (.ptr n 0) (.pointer (some ⟨w.heap.size, 0, none⟩)) := by
  have g := (below_alloc w (.stringIter t 0)).grow_none
  have hM : ∀ m, m ≠ n → (fun m => if m = n then some w.heap.size else M m) m = M m := fun m hm => by simp [hm]
  refine ⟨fun m => if m = n then some w.heap.size else M m, hM, R.renew n hfx (row := none) g (by simp) hM ⟨w.heap.size, by simp, heap_alloc_new w _, not_zlt R⟩ (fun b hb => ?_), by unfold AR; exact ⟨_, by simp, rfl⟩⟩
  simp at hb
  exact .inr (by omega)
theorem mup_sound (R : Rep c Z M s a w) {t kt e : TypeId} {q : IntKind} (ht : P.underlying t = some (.map kt e)) (hk : P.underlying kt = some (.int q)) {n : Nat} {L : List (Int × Value)} (hn : s.hp n = some (.map q L)) {m key val : Value} (hm : AR Z M w (.mp n) m) {z : Int} (hkey : key = .int q z) (hv : val.oneCell' = true) :
    ∃ w', (Instr.mapUpdate t m key val).run P w = .ok () w' ∧ Eff [n] Z M M w w' ∧ Rep c Z M (s.turn n (.map q (mset L z val))) a w' := by
  unfold AR at hm
  obtain ⟨b, hb, rfl⟩ := hm
  subst hkey
  obtain ⟨b', es, cl, g1, g2, g3, g4, g5⟩ := R.ob n _ hn
  rw [hb] at g1; cases g1
  have hlv : s.live n := ⟨_, hn, rfl⟩
  have key : ∀ es' cl', (Instr.mapUpdate t (.map (some b)) (.int q z) val).run P w = .ok () { w with heap := w.heap.setIfInBounds b (.map es' cl') } → es'.toList.map (fun e => (e.key, e.val)) = (mset L z val).map (fun p => (Value.int q p.1, p.2)) →
      ∃ w', (Instr.mapUpdate t (.map (some b)) (.int q z) val).run P w = .ok () w' ∧ Eff [n] Z M M w w' ∧ Rep c Z M (s.turn n (.map q (mset L z val))) a w' := by
    intro es' cl' hr he
    have hlt := heap_lt g2
    have hg : w.grownBy { w with heap := w.heap.setIfInBounds b (.map es' cl') } (some b) := ⟨rfl, rfl, rfl, by simp, fun i hi hne => by
      have : b ≠ i := fun e => hne (by rw [e])
      simp [Array.getElem?_setIfInBounds_ne this]⟩
    refine ⟨_, hr, Eff.of_grown hg (fun b' hb' => by cases hb'; exact ⟨g5, n, by simp, hb⟩) (fun _ _ => rfl), R.turn n hg hlv hb (fun k hk => ?_) ⟨b, es', cl', hb, by simp [hlt], he, mset_one g4 hv, g5⟩⟩
    obtain ⟨arr, e, ⟨fr, k1, _⟩, _⟩ := hk
    rw [g2] at k1; cases k1
  rcases findNow_int (z := z) es.toList L 0 g3 with ⟨k1, k2⟩ | ⟨j, v, k1, k2, k3, k4, k5⟩
  · refine key (es.push { key := .int q z, val := val, born := cl }) (cl + 1) ?_ ?_
    · unfold Instr.mapUpdate
      simp only [Sem.run_bind, run_underlying ht, Result.andThen_ok, run_getObj g2, checkKey_int hk, Instr.findKey, run_underlying hk, k2, Sem.run_pure]
      exact MapKept.run_setObj_map _ g2
    · have hms : ∀ L : List (Int × Value), mget L z = none → mset L z val = L ++ [(z, val)] := by
        intro L
        induction L with
        | nil => intro _; rfl
        | cons p L ih =>
          intro h
          unfold mget at h
          split at h
          · cases h
          · rename_i hne
            rw [mset, if_neg hne, ih h]; rfl
      rw [hms L k1]
      simp [g3]
  · refine key (es.modify j fun e => { e with key := .int q z, val := val }) cl ?_ ?_
    · unfold Instr.mapUpdate
      simp only [Sem.run_bind, run_underlying ht, Result.andThen_ok, run_getObj g2, checkKey_int hk, Instr.findKey, run_underlying hk, k2, Sem.run_pure]
      have hkk : ((es[j]?).map (·.key)).getD (.int q z) = .int q z := by
        simp only [Array.getElem?_toList] at k3
        rw [k3]; rfl
      simp only [Nat.zero_add]
      rw [hkk]
      have hkt : (Instr.keyThatStays (.int q z) (.int q z)).run P w = .ok (.int q z) w := by
        unfold Instr.keyThatStays
        rw [if_pos (by simp [Instr.sameBits])]
        rfl
      simp only [hkt, Result.andThen_ok]
      exact MapKept.run_setObj_map _ g2
    · simpa using k5 val

def Ins.isSt : Ins → Bool
  | .st _ _ _ => true
  | _ => false
theorem mup_case (R : Rep c Z M s a w) {o : Oper} {t kt e : TypeId} {q : IntKind} (ht : P.underlying t = some (.map kt e)) (hkt : P.underlying kt = some (.int q)) {m key x : Operand} (hdst : o.dst = none) (he : execOp a.eval o = (do Instr.mapUpdate t (a.eval m) (a.eval key) (a.eval x); pure .skip)) {K : St → Prop} (h : mupW q (ev s m) (ev s key) (ev s x) s K) {Kc : Act → World → Prop} {Q : Exit → Act → World → Prop}
    (hk : ∀ Z' M' s' a' w', Rep c Z' M' s' a' w' → (∀ b, Z b → Z' b) → ((Ins.mup q m key x).bad = false → Below w.heap.size w w') → Eff ((Ins.mup q m key x).tch s) Z M M' w w' → ((Ins.mup q m key x).isSt = true → M' = M) → K s' → Kc a' w') : o.wp P a w Kc Q := by
  have hm := R.ev m
  have hkey := R.ev key
  have hx := R.ev x
  unfold mupW at h
  split at h
  · rename_i n q' z v hn hz hv
    obtain ⟨rfl, h⟩ := h
    rw [hn] at hm
    rw [hz] at hkey
    rw [hv] at hx
    unfold mupO at h
    split at h
    · rename_i q2 L hq
      obtain ⟨rfl, _, h⟩ := h
      obtain ⟨w', hr, hE, R'⟩ := mup_sound (P := P) R ht hkt hq hm hkey.c_.1 (val := v) hx.c_.2
      rw [← hx.c_.1] at hr
      refine wp_skip_ (w' := w') (by rw [he]; simp [hr]) ?_
      rw [hdst]
      exact hk _ _ _ _ _ R' (fun _ h => h) (fun h => by cases h) (by rw [show (Ins.mup q' m key x).tch s = [n] by simp [Ins.tch, hn, rdM]]; exact hE) (fun h => by cases h) (by rw [hx.c_.1] at *; exact h)
    · exact h.elim
  · exact h.elim
set_option maxHeartbeats 4000000 in
theorem do_sound (R : Rep c Z M s a w) {own : List Nat} {o : Oper} {i : Ins} (hc : cmp P own o = some i) (hd : ∀ t, o.dst = some t → t < c.nt) {K : St → Prop} (h : doW P i o.dst s K) {Kc : Act → World → Prop} {Q : Exit → Act → World → Prop}
    (hk : ∀ Z' M' s' a' w', Rep c Z' M' s' a' w' → (∀ b, Z b → Z' b) → (i.bad = false → Below w.heap.size w w') → Eff (i.tch s) Z M M' w w' → (i.isSt = true → M' = M) → K s' → Kc a' w') : o.wp P a w Kc Q := by
  unfold cmp at hc
  split at hc
  case h_1 => cases hc; exact h.elim
  case h_2 => cases hc; exact h.elim
  case h_3 => cases hc; exact h.elim
  case h_4 =>
    split at hc
    · cases hc; exact h.elim
    · split at hc
      · cases hc; exact h.elim
      · cases hc
    · cases hc
  case h_5 =>
    split at hc
    · cases hc; exact h.elim
    · cases hc; exact h.elim
    · split at hc
      · cases hc; exact h.elim
      · cases hc; exact h.elim
      · cases hc
    · split at hc
      · cases hc; exact h.elim
      · cases hc; exact h.elim
      · cases hc
    · split at hc
      · cases hc; exact h.elim
      · cases hc; exact h.elim
      · cases hc
    · split at hc
      · split at hc
        · split at hc
          · cases hc; exact h.elim
          · cases hc; exact h.elim
          · cases hc
        · cases hc
      · cases hc
    · split at hc
      · split at hc
        · split at hc
          · cases hc; exact h.elim
          · cases hc; exact h.elim
          · cases hc
        · cases hc
      · cases hc
    · cases hc
  case h_6 => cases hc; exact h.elim
  case h_7 src dst x hop =>
    split at hc
    · cases hc; exact h.elim
    · cases hc; exact h.elim
    · split at hc
      · cases hc; exact h.elim
      · cases hc
    · rename_i e hsu hdu
      split at hc
      · rename_i d hdst
        split at hc
        · rename_i hmt
          cases hc
          have he : P.underlying e = some (.int .u8) := hmt
          have h : cvBW (ev s x) fun b => b.size ≤ maxLen ∧ K ((s.renew d (.row 1 (bD b))).put o.dst (.sl d 1 0 b.size)) := h
          unfold cvBW at h
          split at h
          · rename_i b hx
            obtain ⟨hb, h⟩ := h
            have hxe := R.ev x
            rw [hx] at hxe
            have hxe := (AR.c_ hxe).1
            obtain ⟨M', hMo, R', hp, hbe⟩ := cvB_sound R (n := d) (d_lt R (hd d hdst)) e b hb
            refine wp_value (w' := Lib.bytesWorld w e b) (x := .slice (some ⟨w.heap.size, 0, none⟩) b.size (grownCap w b.size 0 e)) (run_of (m := convert src dst (a.eval x)) (by simp only [execOp, hop]) ?_) ?_
            · rw [hxe]
              exact Lib.run_convert_string_bytes w src dst e b hsu hdu he
            · exact hk _ _ _ _ _ (R'.put hd hp) (fun _ h => h) (fun _ => hbe) (Eff.of_below hbe fun k hk => hMo k (by simpa [Ins.tch] using hk)) (fun h => by cases h) h
          · exact h.elim
        · cases hc
      · cases hc
    · rename_i e0 e hsu hdu
      split at hc
      · rename_i hsd
        split at hc
        · rename_i hmt
          cases hc
          subst hsd
          have he : P.underlying e = some (.int .u8) := hmt
          have h : mrkW (ev s x) s fun r => K (s.put o.dst r) := h
          unfold mrkW at h
          split at h
          · rename_i n off len hvv
            obtain ⟨hlen, h⟩ := h
            unfold mrkO at h
            split at h
            · rename_i L hnn
              obtain ⟨w', g1, gE, g2, g3⟩ := mrk_sound (P := P) R hdu he hnn hlen (by have := R.ev x; rw [hvv] at this; exact this)
              exact wp_value (run_of (m := convert src src (a.eval x)) (by simp only [execOp, hop]) g1) (hk _ _ _ _ _ (g2.put hd g3) (fun _ h => h) (fun h => by cases h) (by rw [show (Ins.mrk x).tch s = [n] by simp [Ins.tch, hvv, rdS]]; exact gE) (fun h => by cases h) h)
            · exact h.elim
          · exact h.elim
        · cases hc
      · cases hc
    · cases hc
  case h_8 =>
    split at hc
    · cases hs : sizeT P _ with
      | none => rw [hs] at hc; cases hc
      | some n => rw [hs] at hc; cases hc; exact h.elim
    · cases hc; exact h.elim
    · cases hc
  case h_9 =>
    split at hc
    · split at hc
      · split at hc
        · split at hc
          · cases hc
          · cases hc; exact h.elim
        · cases hc
      · cases hc
    · cases hc
  case h_10 =>
    split at hc
    · split at hc
      · cases hs : partOf P _ with
        | none => rw [hs] at hc; cases hc
        | some n => rw [hs] at hc; cases hc; exact h.elim
      · cases hc
    · cases hc
  case h_11 =>
    split at hc
    · cases hs : sizeT P _ with
      | none => rw [hs] at hc; cases hc
      | some n => rw [hs] at hc; cases hc; exact h.elim
    · cases hs : sizeT P _ with
      | none => rw [hs] at hc; cases hc
      | some n => rw [hs] at hc; cases hc; exact h.elim
    · cases hc
  case h_12 =>
    split at hc
    · cases hc; exact h.elim
    · split at hc
      · cases hc; exact h.elim
      · cases hc
    · cases hc
  case h_13 => cases hc; exact h.elim
  case h_14 t parts hop =>
    split at hc
    · rename_i zero pl hz hp
      cases hm : (parts.toList.mapM fun (p : Nat × Operand) => (pl p.1).map fun (q : Nat × Nat) => (q.1, q.2, p.2)) with
      | none => simp [hm] at hc
      | some ps => simp only [hm, Option.map_some, Option.some.injEq] at hc; subst hc; exact h.elim
    · cases hc
  case h_15 =>
    split at hc
    · split at hc
      · cases hc; exact h.elim
      · cases hc
    · cases hc
  case h_16 t hop =>
    split at hc
    · rename_i d hdst
      cases hz : zeroOf P t with
      | none => simp [hz] at hc
      | some zero =>
        simp only [hz, Option.map_some, Option.some.injEq] at hc
        subst hc
        obtain ⟨i, z, h1, h2, h3, h4⟩ := zeroOf_spec hz
        obtain ⟨M', hMo, R', hp⟩ := box_sound R (n := d) (d_lt R (hd d hdst)) (cells := z.cells) (e := t) (cs := zero.map fun v => .d (.c v)) (by rw [h3]; exact ARs_consts h4)
        rw [killL_consts] at R'
        refine wp_value (w' := w.alloc (.cells z.cells t)) (x := .pointer (some ⟨w.heap.size, 0, none⟩)) (run_of (m := Instr.alloc t true (.tuple #[])) (by simp only [execOp, hop]) ?_) ?_
        · simp [Instr.alloc, zeroValue, typeInfo, h1, h2, newVar, newRow]
        · exact hk _ _ _ _ _ (R'.put hd hp) (fun _ h => h) (fun _ => below_alloc _ _) (Eff.of_below (below_alloc _ _) fun k hk => hMo k (by simpa [Ins.tch] using hk)) (fun h => by cases h) h
    · cases hc
  case h_17 t x hop =>
    split at hc
    · rename_i d hdst
      cases hz : sizeT P t with
      | none => simp [hz] at hc
      | some n =>
        simp only [hz, Option.map_some, Option.some.injEq] at hc
        subst hc
        have h : (ev s x).cellsW fun cs => cs.length = n ∧ K ((s.renew d (.box (AV.killL (some d) cs))).put o.dst (.ptr d 0)) := h
        obtain ⟨cs, ⟨_, hK⟩, hcs⟩ := cells_sound (R.ev x) h
        obtain ⟨M', hMo, R', hp⟩ := box_sound R (n := d) (d_lt R (hd d hdst)) (cells := (a.eval x).cells) (e := t) hcs
        refine wp_value (w' := w.alloc (.cells (a.eval x).cells t)) (x := .pointer (some ⟨w.heap.size, 0, none⟩)) (run_of (m := Instr.box t (a.eval x)) (by simp only [execOp, hop]) ?_) ?_
        · simp [Instr.box, newVar, newRow]
        · exact hk _ _ _ _ _ (R'.put hd hp) (fun _ h => h) (fun _ => below_alloc _ _) (Eff.of_below (below_alloc _ _) fun k hk => hMo k (by simpa [Ins.tch] using hk)) (fun h => by cases h) hK
    · cases hc
  case h_18 t len parts hop =>
    split at hc
    · rename_i e d ht hdst
      split at hc
      · rename_i es zero hes hz
        split at hc
        · cases hc
        · rename_i hne
          obtain ⟨i, z, h1, h2, h3, h4⟩ := zeroOf_spec hz
          have hsz : i.size = es := by unfold sizeT at hes; simpa [h1] using hes
          subst hsz
          split at hc
          · split at hc
            · rename_i x hpx
              split at hc
              · rename_i hcond
                obtain ⟨hi1, rfl⟩ := hcond
                cases hc
                have h : litRW d (ev s x) s fun s r => K (s.put o.dst r) := h
                have hx := R.ev x
                unfold litRW at h
                split at h
                · rename_i m es off len hev
                  rw [hev] at hx
                  have hx1 : ∃ ad cap, a.eval x = .slice ad len cap := by
                    unfold AR at hx
                    obtain ⟨ad, cap, hx, _⟩ := hx
                    exact ⟨ad, cap, hx⟩
                  obtain ⟨ad, cap, hxe⟩ := hx1
                  have h1c : (a.eval x).oneCell' = true := by rw [hxe]; rfl
                  have hpe : parts = #[(0, x)] := Array.toList_inj.1 hpx
                  obtain ⟨ys, f1, f2, f3, _⟩ := fill_rows (es := 1) [a.eval x] 0 ((Array.range (1 * i.size)).map (z.cells[· % z.cells.size]!)) (fun y hy => by rw [List.mem_singleton.1 hy, hxe]; rfl) (by simp [hi1])
                  have hys : ys.size = 1 := by rw [f2]; simp [hi1]
                  have hyx : ys[0]? = some (a.eval x) := by
                    have := f3 0 (a.eval x) rfl 0 (by decide)
                    rw [hxe] at this ⊢
                    simpa [Value.cells] using this
                  obtain ⟨M', hMo, R2, f4⟩ := R.newTab d (d_lt R (hd d hdst)) (ARs.one hx h1c) (arr := ys) (e := e) (cap := 1) hys (Nat.le_refl _) (by decide) (fun j hj => by
                    obtain rfl : j = 0 := by simp at hj; omega
                    simpa using hyx) w (.inl rfl)
                  have hrun := run_buildSlice (P := P) w t e 1 (parts.map fun (i, x) => (i, a.eval x)) ys i z ht h1 h2 (by omega) (by omega) (by rw [hi1] at f1 ⊢; rw [hpe]; simpa using f1)
                  refine wp_value (run_of (m := Instr.buildSlice t 1 (parts.map fun (i, x) => (i, a.eval x))) (by simp only [execOp, hop]) hrun) ?_
                  exact hk _ _ _ _ _ (R2.put hd f4) (fun _ h => h) (fun _ => below_alloc _ _) (Eff.of_below (below_alloc _ _) fun k hk => hMo k (by simpa [Ins.tch] using hk)) (fun h => by cases h) h
                · exact h.elim
              · cases hc
            · cases hc
          split at hc
          · rename_i hl0
            subst hl0
            split at hc
            · rename_i hparts
              cases hc
              have hp : parts = #[] := by
                apply Array.toList_inj.1
                simpa using hparts
              subst hp
              obtain ⟨M', hMo, R', hr⟩ := R.newRow d (d_lt R (hd d hdst)) (es := i.size) (by omega) (L := []) (arr := #[]) (e := e) (cap := 0) (by simp) (by simp) (Nat.zero_le _) (fun i hi => by simp at hi)
              refine wp_value (w' := w.alloc (.cells #[] e)) (x := .slice (some ⟨w.heap.size, 0, none⟩) 0 0) (run_of (m := Instr.buildSlice t 0 #[]) (by simp only [execOp, hop]; simp) ?_) ?_
              · simp [Instr.buildSlice, run_underlying ht, sizeOf, typeInfo, h1, Instr.fill, newRow, Array.range_zero']
              · exact hk _ _ _ _ _ (R'.put hd hr) (fun _ h => h) (fun _ => below_alloc _ _) (Eff.of_below (below_alloc _ _) fun k hk => hMo k (by simpa [Ins.tch] using hk)) (fun h => by cases h) h
            · cases hc
          · rename_i hl0
            split at hc
            · split at hc
              · rename_i hcond
                cases hc
                have h : frzA (parts.toList.map (·.2)) s fun s ds => allLen i.size ds ∧ K ((s.renew d (.row i.size ds)).put o.dst (.sl d i.size 0 ds.length)) := h
                obtain ⟨Z1, s1, ds, g1, R1, g3, _, hall, hK⟩ := frzA_sound _ R h
                have hvl : (parts.toList.map (·.2)).map a.eval = parts.toList.map fun p => a.eval p.2 := by simp
                rw [hvl] at g3
                have hpl : parts.size = len := by have := congrArg List.length hcond.2; simpa using this
                have hparts : (parts.map fun (i, x) => (i, a.eval x)).toList = ((parts.toList.map fun p => a.eval p.2).zipIdx 0).map fun p => (p.2, p.1) := by
                  apply List.ext_getElem?
                  intro q
                  simp only [Array.toList_map, List.getElem?_map, List.getElem?_zipIdx, Nat.zero_add]
                  cases hq : parts.toList[q]? with
                  | none => simp
                  | some p =>
                    have := congrArg (fun l => l[q]?) hcond.2
                    have hql : q < len := by
                      have := (List.getElem?_eq_some_iff.1 hq).1
                      simp [hpl] at this
                      exact this
                    simp only [List.getElem?_map, hq, Option.map_some, List.getElem?_range hql] at this
                    simp at this
                    simp [this]
                have hle : len ≤ maxLen := by
                  have : len * 1 ≤ len * i.size := Nat.mul_le_mul_left _ (by omega)
                  unfold maxLen; omega
                have hlen : (parts.toList.map fun p => a.eval p.2).length = len := by simp [hpl]
                obtain ⟨ys, M', f1, f2, R2, f3⟩ := litO_sound R1 (n := d) (d_lt R (hd d hdst)) (by omega) g3 hall ((Array.range (len * i.size)).map (z.cells[· % z.cells.size]!)) (by simp [hpl]) (e := e) (by rw [hlen]; exact hle)
                rw [hlen] at f3
                have hrun := run_buildSlice (P := P) w t e len (parts.map fun (i, x) => (i, a.eval x)) ys i z ht h1 h2 (by omega) (Nat.mul_ne_zero hl0 (by omega)) (by rw [hparts]; exact f1)
                refine wp_value (run_of (m := Instr.buildSlice t len (parts.map fun (i, x) => (i, a.eval x))) (by simp only [execOp, hop]) hrun) ?_
                exact hk _ _ _ _ _ (R2.put hd f3) g1 (fun _ => below_alloc _ _) (Eff.of_below (below_alloc _ _) fun k hk => f2 k (by simpa [Ins.tch] using hk)) (fun h => by cases h) hK
              · cases hc
            · split at hc
              · rename_i hcond
                cases hc
                obtain ⟨Z1, s1, ds, g1, R1, g3, _, hall, hK⟩ := frzA_sound _ R h
                have hvl : (parts.toList.map (·.2)).map a.eval = parts.toList.map fun p => a.eval p.2 := by simp
                rw [hvl] at g3
                have hpl : parts.size = len := by have := congrArg List.length hcond.2; simpa using this
                have hparts : (parts.map fun (i, x) => (i, a.eval x)).toList = ((parts.toList.map fun p => a.eval p.2).zipIdx 0).map fun p => (p.2, p.1) := by
                  apply List.ext_getElem?
                  intro q
                  simp only [Array.toList_map, List.getElem?_map, List.getElem?_zipIdx, Nat.zero_add]
                  cases hq : parts.toList[q]? with
                  | none => simp
                  | some p =>
                    have := congrArg (fun l => l[q]?) hcond.2
                    have hql : q < len := by
                      have := (List.getElem?_eq_some_iff.1 hq).1
                      simp [hpl] at this
                      exact this
                    simp only [List.getElem?_map, hq, Option.map_some, List.getElem?_range hql] at this
                    simp at this
                    simp [this]
                obtain ⟨ys, Z2, f1, f2, R2, f3⟩ := lit_sound R1 g3 hall ((Array.range (len * i.size)).map (z.cells[· % z.cells.size]!)) (by simp [hpl]) (e := e)
                have hlen : (parts.toList.map fun p => a.eval p.2).length = len := by simp [hpl]
                rw [hlen] at f3
                have hrun := run_buildSlice (P := P) w t e len (parts.map fun (i, x) => (i, a.eval x)) ys i z ht h1 h2 (by omega) (Nat.mul_ne_zero hl0 (by omega)) (by rw [hparts]; exact f1)
                refine wp_value (run_of (m := Instr.buildSlice t len (parts.map fun (i, x) => (i, a.eval x))) (by simp only [execOp, hop]) hrun) ?_
                have hle : len ≤ maxLen := by
                  have : len * 1 ≤ len * i.size := Nat.mul_le_mul_left _ (by omega)
                  unfold maxLen; omega
                exact hk _ _ _ _ _ (R2.put hd (by unfold AR; exact f3 hle)) (fun b h => f2 b (g1 b h)) (fun _ => below_alloc _ _) (Eff.of_below (below_alloc _ _) fun _ _ => rfl) (fun h => by cases h) hK
              · cases hc
      · cases hc
    · cases hc
  case h_19 t l cp hop =>
    split at hc
    · rename_i e d ht hdst
      split at hc
      · rename_i i z hi hz
        split at hc
        · cases hc
        · rename_i h0
          split at hc
          · rename_i hzl
            cases hc
            obtain ⟨kl, lv, hl, h⟩ := intW_iff (R.ev l) h
            obtain ⟨kc, cv, hcv, hb, hK⟩ := intW_iff (R.ev cp) h
            obtain ⟨i', zv, x, g1, g2, g3, g4, g5⟩ := zeroD_spec hz
            rw [hi] at g1; cases g1
            obtain ⟨ln, rfl⟩ := Int.eq_ofNat_of_zero_le hb.1
            obtain ⟨cn, rfl⟩ := Int.eq_ofNat_of_zero_le (Int.le_trans hb.1 hb.2.1)
            have hzs : zv.cells.size = i.size := by rw [← g4]; exact hzl
            have hby := hb.2.2.1
            have hrun := run_make (P := P) w t e i zv ht hi g2 kl kc ln cn hb.1 hb.2.1 (by omega) (by omega)
            simp only [Int.toNat_natCast] at hrun hK
            obtain ⟨M', hMo, R', hr⟩ := R.newRow d (d_lt R (hd d hdst)) (es := i.size) (by omega) (L := List.replicate ln z) (arr := madeCells zv.cells (cn * i.size)) (e := e) (cap := cn) (size_madeCells _ _) (by simp; omega) (by unfold maxLen; omega) fun q hq => by
              rw [List.length_replicate] at hq
              refine ⟨x, ⟨by rw [g3, hzs], fun j hj => ?_⟩, ?_⟩
              · have hqe : (q + 1) * i.size ≤ cn * i.size := Nat.mul_le_mul_right _ (by omega)
                rw [Nat.add_mul, Nat.one_mul] at hqe
                rw [madeCells_get _ _ _ (by omega) (by omega), hzs, g3]
                congr 1
                rw [Nat.add_comm, Nat.add_mul_mod_self_right, Nat.mod_eq_of_lt hj]
              · have e1 : (List.replicate ln z).getD q default = z := by simp [List.getD, hq]
                rw [e1]; exact g5 Z w
            rw [List.length_replicate] at hr
            refine wp_value (run_of (m := Instr.makeSlice t (a.eval l) (a.eval cp)) (by simp only [execOp, hop]) (by rw [hl, hcv]; exact hrun)) ?_
            exact hk _ _ _ _ _ (R'.put hd hr) (fun _ h => h) (fun _ => below_alloc _ _) (Eff.of_below (below_alloc _ _) fun k hk => hMo k (by simpa [Ins.tch] using hk)) (fun h => by cases h) hK
          · cases hc
      · cases hc
    · cases hc
  case h_20 t p x hop =>
    split at hc
    · rename_i hdst
      cases hz : sizeT P t with
      | none => simp [hz] at hc
      | some n =>
        simp only [hz, Option.map_some, Option.some.injEq] at hc
        subst hc
        have fin : ∀ w' Z' s', (Instr.storeAt t (a.eval p) (a.eval x)).run P w = .ok () w' → Eff (rdV (ev s p)) Z M M w w' → Rep c Z' M s' a w' → (∀ b, Z b → Z' b) → K s' → o.wp P a w Kc Q := fun w' Z' s' hr hE R' hz hK => by
          refine wp_skip_ (w' := w') (by simp only [execOp, hop]; simp [hr]) ?_
          rw [hdst]
          exact hk _ _ _ _ _ R' hz (fun h => by cases h) hE (fun _ => rfl) hK
        have h : stW n (ev s p) (ev s x) s K := h
        unfold stW at h
        split at h
        · rename_i m off hpe
          have hp := R.ev p
          rw [hpe] at hp
          split at h
          · rename_i cs hm
            obtain ⟨xs, ⟨g1, g2, hK⟩, hxs⟩ := cells_sound (R.ev x) h
            obtain ⟨w', hr, hE, R'⟩ := stbox_sound R hz hm hp hxs g1 g2
            exact fin _ _ _ hr (by rw [hpe]; exact hE) R' (fun _ h => h) hK
          · exact h.elim
        · rename_i m es i j hpe
          have hp := R.ev p
          rw [hpe] at hp
          obtain ⟨Z1, s1, d, g1, R1, g3, g4, h⟩ := frzW_sound _ R (R.ev x) h
          split at h
          · rename_i es' L hm
            obtain ⟨rfl, k1, k2, k3, k4, hK⟩ := h
            have hp' : AR Z1 M w (.eptr m es i j) (a.eval p) := AR.keep (stays_z g1) hp
            obtain ⟨w', hr, hE, R'⟩ := strow_sound R1 hz hm hp' g3 k1 k2 k3 k4
            exact fin _ _ _ hr (by rw [hpe]; exact hE.sub g1) R' g1 hK
          · exact h.elim
        · exact h.elim
    · cases hc
  case h_21 cl hop =>
    split at hc
    · split at hc
      · split at hc
        · cases hc; exact h.elim
        · cases hc; exact h.elim
        · cases hc; exact h.elim
        · cases hc
      · cases hc
    · rename_i hcal
      split at hc
      · rename_i sv x t t' d hargs hts hdst
        split at hc
        · rename_i e ht
          split at hc
          · rename_i i hi
            split at hc
            · split at hc
              · rename_i hcond
                obtain ⟨rfl, hi1, hzz⟩ := hcond
                cases hc
                have e1 : cl.args = #[sv, x] := by rw [← Array.toArray_toList (xs := cl.args), hargs]
                have e2 : cl.argTypes = #[t, t] := by rw [← Array.toArray_toList (xs := cl.argTypes), hts]
                obtain ⟨z, hz, hzs⟩ : ∃ z, i.zero = some z ∧ z.cells.size = i.size := by
                  cases hq : i.zero with
                  | none => simp [hq] at hzz
                  | some z => exact ⟨z, rfl, by simpa [hq] using hzz⟩
                have T : AppT P t e i z := ⟨ht, hi, hz, hzs, by omega⟩
                have h : appRW d i.bytes (ev s sv) (ev s x) s fun s r => K (s.put o.dst r) := h
                have hx := R.ev x
                unfold appRW at h
                split at h
                · rename_i m1 hev
                  rw [hev] at hx
                  unfold appRS at h
                  split at h
                  · rename_i u hm1
                    obtain ⟨r, w', M', s', u, g1, gE, g2, g3, hK⟩ := appR_sound (P := P) (ty := o.type) R T hi1 d (d_lt R (hd d hdst)) (R.ev sv) hm1 hx h
                    refine wp_value (run_of (m := Builtin.append_ #[t, t] o.type #[a.eval sv, a.eval x]) ?_ g1) (hk _ _ _ _ _ (g2.put hd g3) (fun _ h => h) (fun h => by cases h) gE (fun h => by cases h) hK)
                    simp only [execOp, hop, resolve, hcal, e1, e2]
                    simp [invoke, builtin]
                  · exact h.elim
                · exact h.elim
              · cases hc
            split at hc
            · rename_i hcond
              obtain ⟨rfl, hne, hzz⟩ := hcond
              cases hc
              have e1 : cl.args = #[sv, x] := by rw [← Array.toArray_toList (xs := cl.args), hargs]
              have e2 : cl.argTypes = #[t, t] := by rw [← Array.toArray_toList (xs := cl.argTypes), hts]
              obtain ⟨z, hz, hzs⟩ : ∃ z, i.zero = some z ∧ z.cells.size = i.size := by
                cases hq : i.zero with
                | none => simp [hq] at hzz
                | some z => exact ⟨z, rfl, by simpa [hq] using hzz⟩
              have T : AppT P t e i z := ⟨ht, hi, hz, hzs, by omega⟩
              have h : appW d i.size i.bytes (ev s sv) (ev s x) s fun s r => K (s.put o.dst r) := h
              obtain ⟨L', hs, h⟩ := srcW_sound R (R.ev x) h
              obtain ⟨r, w', M', s', u, g1, gE, g2, g3, hK⟩ := app_sound (P := P) (ty := o.type) R T d (d_lt R (hd d hdst)) (R.ev sv) hs h
              refine wp_value (run_of (m := Builtin.append_ #[t, t] o.type #[a.eval sv, a.eval x]) ?_ g1) (hk _ _ _ _ _ (g2.put hd g3) (fun _ h => h) (fun h => by cases h) gE (fun h => by cases h) hK)
              simp only [execOp, hop, resolve, hcal, e1, e2]
              simp [invoke, builtin]
            · split at hc
              · rename_i kn zd htn hzd
                split at hc
                · rename_i hcond2
                  obtain ⟨hne, hzl⟩ := hcond2
                  cases hc
                  have e1 : cl.args = #[sv, x] := by rw [← Array.toArray_toList (xs := cl.args), hargs]
                  have e2 : cl.argTypes = #[t, t'] := by rw [← Array.toArray_toList (xs := cl.argTypes), hts]
                  obtain ⟨i', z, xv, q1, q2, q3, q4, q5⟩ := zeroD_spec hzd
                  rw [hi] at q1
                  cases q1
                  have T : AppT P t e i z := ⟨ht, hi, q2, by rw [← q4]; exact hzl, by omega⟩
                  have h : intW (ev s x) fun _ l => (0 ≤ l ∧ l ≤ 9223372036854775807 ∧ l * (i.bytes : Int) ≤ 140737488355328) ∧ appB d i.size i.bytes (ev s sv) s (List.replicate l.toNat zd) fun s r => K (s.put o.dst r) := h
                  obtain ⟨kl, lv, hl, hb, h⟩ := intW_iff (R.ev x) h
                  obtain ⟨r, w', M', s', u, g1, gE, g2, g3, hK⟩ := appZ_sound (P := P) (ty := o.type) R T d (d_lt R (hd d hdst)) (R.ev sv) htn (kq := kl) q3 q5 hb h
                  refine wp_value (run_of (m := Builtin.append_ #[t, t'] o.type #[a.eval sv, a.eval x]) ?_ (by rw [hl]; exact g1)) (hk _ _ _ _ _ (g2.put hd g3) (fun _ h => h) (fun h => by cases h) gE (fun h => by cases h) hK)
                  simp only [execOp, hop, resolve, hcal, e1, e2]
                  simp [invoke, builtin]
                · cases hc
              · cases hc
          · cases hc
        · cases hc
      · cases hc
    · rename_i hcal
      split at hc
      · rename_i dv sv t t' hargs hts
        split at hc
        · rename_i e ht
          split at hc
          · rename_i hcond
            cases hc
            have e1 : cl.args = #[dv, sv] := by rw [← Array.toArray_toList (xs := cl.args), hargs]
            have e2 : cl.argTypes = #[t, t'] := by rw [← Array.toArray_toList (xs := cl.argTypes), hts]
            have h : cpyW (ev s dv) (ev s sv) s fun s m => K (s.put o.dst (.d (.c (.int .i64 m)))) := h
            obtain ⟨L', hs, h⟩ := srcW_sound R (R.ev sv) h
            unfold cpyB at h
            split at h
            · rename_i n off len hvv
              unfold cpyO at h
              split at h
              · rename_i L hnn
                obtain ⟨w', g1, gE, g2⟩ := cpy_sound (P := P) (dT := t) (sT := t') (ty := o.type) R ht hcond.1 hnn (by have := R.ev dv; rw [hvv] at this; exact this) hs h.1
                refine wp_value (run_of (m := Builtin.copy_ #[t, t'] o.type #[a.eval dv, a.eval sv]) ?_ g1) (hk _ _ _ _ _ (g2.put hd (AR.c_of rfl)) (fun _ h => h) (fun h => by cases h) (by rw [show (Ins.cpy dv sv).tch s = [n] by simp [Ins.tch, hvv, rdS]]; exact gE) (fun h => by cases h) h.2)
                simp only [execOp, hop, resolve, hcal, e1, e2]
                simp [invoke, builtin]
              · exact h.elim
            · exact h.elim
          · cases hc
        · cases hc
      · cases hc
    · split at hc
      · cases hc; exact h.elim
      · cases hc
    · split at hc
      · cases hc; exact h.elim
      · cases hc
    · split at hc
      · split at hc
        · cases hc; exact h.elim
        · cases hc
      · cases hc
    · rename_i f hcal
      · cases hc
        obtain ⟨Z1, s1, ds, g1, R1, g3, g4, h⟩ := frzA_sound _ R h
        refine fn_sound (P := P) (f := f) (n := o.dst.getD 0) R g1 R1 g3 (fun w => ?_) hd (dst_lt R hd) h fun Z' M' s' a' w' R' hz hb hM hK => hk _ _ _ _ _ R' hz (fun _ => hb) (Eff.of_below hb hM) (fun h => by cases h) hK
        have e : (cl.args.toList.map a.eval).toArray = cl.args.map a.eval := by
          apply Array.toList_inj.1
          simp
        rw [e]
        simp only [execOp, hop, resolve, hcal]
        simp [Act.eval, Deferred.ofValue, invoke]
    · rename_i x hcal
      cases hc
      obtain ⟨Z1, s1, g, g1, R1, g3, g4, h⟩ := frzW_sound _ R (R.ev (.tmp x)) h
      split at h
      · rename_i f caps
        obtain ⟨Z2, s2, ds, k1, R2, k3, k4, h⟩ := frzA_sound _ R1 h
        unfold DR at g3
        obtain ⟨xs, hx, hxs⟩ := g3
        have hcaps : DRt Z2 w (ds ++ caps) (cl.args.toList.map a.eval ++ xs) := by
          have h1 : ∀ (ds : List D) (vs : List Value), DRt Z2 w ds vs → ∀ (cs : List D) (xs : List Value), DRs Z2 w cs xs → DRt Z2 w (ds ++ cs) (vs ++ xs) := by
            intro ds
            induction ds with
            | nil =>
              intro vs h cs
              unfold DRt at h
              subst h
              induction cs with
              | nil => intro xs hx; unfold DRs at hx; subst hx; simp only [List.append_nil]; unfold DRt; rfl
              | cons c cs ih =>
                intro xs hx
                unfold DRs at hx
                obtain ⟨x, xs', rfl, _, h1, h2⟩ := hx
                simp only [List.nil_append] at ih ⊢
                unfold DRt
                exact ⟨x, xs', rfl, h1, ih xs' h2⟩
            | cons d ds ih =>
              intro vs h cs xs hx
              unfold DRt at h
              obtain ⟨v, vs', rfl, h1, h2⟩ := h
              simp only [List.cons_append]
              unfold DRt
              exact ⟨v, vs' ++ xs, rfl, h1, ih vs' h2 cs xs hx⟩
          exact h1 _ _ k3 _ _ (DRs.keep ⟨k1, fun _ _ _ => rfl⟩ _ _ hxs)
        refine fn_sound (P := P) (f := f) (n := o.dst.getD 0) R (fun b h => k1 b (g1 b h)) R2 hcaps (fun w => ?_) hd (dst_lt R hd) h fun Z' M' s' a' w' R' hz hb hM hK => hk _ _ _ _ _ R' hz (fun _ => hb) (Eff.of_below hb hM) (fun h => by cases h) hK
        have e : (cl.args.toList.map a.eval ++ xs).toArray = cl.args.map a.eval ++ xs.toArray := by
          apply Array.toList_inj.1
          simp
        rw [e]
        simp only [execOp, hop, resolve, hcal, hx]
        simp [Deferred.ofValue, invoke]
      · exact h.elim
    · cases hc
  case h_22 => cases hc; exact h.elim
  case h_23 t hop =>
    split at hc
    · rename_i k e d ht hdst
      split at hc
      · rename_i q hk
        cases hc
        have h : K ((s.renew d (.map q [])).put o.dst (.mp d)) := h
        obtain ⟨M', hMo, R', hp⟩ := mkm_sound R (n := d) (d_lt R (hd d hdst)) (k := q)
        refine wp_value (w' := w.alloc (.map #[] 0)) (x := .map (some w.heap.size)) (run_of (m := Instr.makeMap t none) (by simp only [execOp, hop]; rfl) ?_) ?_
        · exact run_makeMap t w
        · exact hk _ _ _ _ _ (R'.put hd hp) (fun _ h => h) (fun _ => below_alloc _ _) (Eff.of_below (below_alloc _ _) fun k hk => hMo k (by simpa [Ins.tch] using hk)) (fun h => by cases h) h
      · cases hc
    · cases hc
  case h_24 =>
    split at hc
    · split at hc
      · cases hc; exact h.elim
      · cases hc
    · cases hc
  case h_25 t m key x hop =>
    split at hc
    · rename_i kt e ht
      split at hc
      · rename_i q hkt
        split at hc
        · rename_i hdst
          cases hc
          have h : mupW q (ev s m) (ev s key) (ev s x) s K := h
          exact mup_case R ht hkt hdst (by simp only [execOp, hop]) h hk
        · cases hc
      · cases hc
    · cases hc
  case h_26 t m key x hop =>
    split at hc
    · rename_i kt e ht
      split at hc
      · rename_i q hkt
        split at hc
        · rename_i hdst
          cases hc
          have h : mupW q (ev s m) (ev s key) (ev s x) s K := h
          exact mup_case R ht hkt hdst (by simp only [execOp, hop]) h hk
        · cases hc
      · cases hc
    · cases hc
  case h_27 => cases hc; exact h.elim
  case h_28 => cases hc; exact h.elim
  case h_29 t x hop =>
    split at hc
    · rename_i d ht hdst
      cases hc
      have h : cvBW (ev s x) fun b => K ((s.renew d (.itr b 0)).put o.dst (.ptr d 0)) := h
      have hx := R.ev x
      unfold cvBW at h
      split at h
      · rename_i b hb
        rw [hb] at hx
        have hxe := hx.c_.1
        obtain ⟨M', hMo, R', hp⟩ := rng_sound R (n := d) (d_lt R (hd d hdst)) (t := b)
        refine wp_value (w' := w.iter b 0) (x := .pointer (some ⟨w.heap.size, 0, none⟩)) (run_of (m := Instr.range t (a.eval x)) (by simp only [execOp, hop]) ?_) ?_
        · rw [hxe]
          exact run_range_string w t b ht
        · exact hk _ _ _ _ _ (R'.put hd hp) (fun _ h => h) (fun _ => below_alloc _ _) (Eff.of_below (below_alloc _ _) fun k hk => hMo k (by simpa [Ins.tch] using hk)) (fun h => by cases h) h
      · exact h.elim
    · cases hc
  case h_30 x str hop =>
    split at hc
    · rename_i hstr
      subst hstr
      cases hc
      have h : nxtW (ev s x) s fun s r => K (s.put o.dst r) := h
      have hx := R.ev x
      unfold nxtW at h
      split at h
      · rename_i n hn
        rw [hn] at hx
        unfold AR at hx
        obtain ⟨b, hb, hxe⟩ := hx
        unfold nxtO at h
        split at h
        · rename_i t pos ho
          obtain ⟨b', g1, g2, g3⟩ := R.ob n _ ho
          rw [hb] at g1; cases g1
          have hlv : s.live n := ⟨_, ho, rfl⟩
          by_cases hp : pos < t.size
          · rw [if_pos hp] at h
            have hg : w.grownBy (w.iterAt b t (pos + (Utf8.decode t pos).2)) (some b) := ⟨rfl, rfl, rfl, by simp [World.iterAt], fun i hi hne => Lib.iterAt_other w b i t _ (fun e => hne (by rw [e]))⟩
            have R' := R.turn n hg hlv hb (fun k hk => by
              obtain ⟨arr, e, ⟨fr, k1, _⟩, _⟩ := hk
              rw [g2] at k1; cases k1) (o := .itr t (pos + (Utf8.decode t pos).2)) ⟨b, hb, Lib.iterAt_heap w b t pos _ g2, g3⟩
            refine wp_value (w' := w.iterAt b t (pos + (Utf8.decode t pos).2)) (x := .tuple #[.bool true, .int .i64 pos, .int .i32 (Utf8.decode t pos).1]) (run_of (m := Instr.next (a.eval x) true _) (by simp only [execOp, hop]; rfl) ?_) ?_
            · rw [hxe]
              exact Lib.run_next_any_at w b t pos _ g2 hp
            · exact hk _ _ _ _ _ (R'.put hd (v := .tup [.d (.c (.bool true)), .d (.c (.int .i64 pos)), .d (.c (.int .i32 (Utf8.decode t pos).1))]) (by unfold AR; exact ⟨[.bool true, .int .i64 pos, .int .i32 (Utf8.decode t pos).1], rfl, by simp [ARt, AR, DR, Value.oneCell']⟩)) (fun _ h => h) (fun h => by cases h) (by rw [show (Ins.nxt x).tch s = [n] by simp [Ins.tch, hn, rdV]]; exact Eff.of_grown hg (fun b' hb' => by cases hb'; exact ⟨g3, n, by simp, hb⟩) (fun _ _ => rfl)) (fun h => by cases h) h
          · rw [if_neg hp] at h
            refine wp_value (w' := w) (x := .tuple #[.bool false]) (run_of (m := Instr.next (a.eval x) true _) (by simp only [execOp, hop]; rfl) ?_) ?_
            · rw [hxe]
              exact Lib.run_next_end_at w b t pos _ g2 hp
            · exact hk _ _ _ _ _ (R.put hd (v := .tup [.d (.c (.bool false))]) (by unfold AR; exact ⟨[.bool false], rfl, by simp [ARt, AR, DR, Value.oneCell']⟩)) (fun _ h => h) (fun h => by cases h) (Eff.of_below (Below.refl _ _) fun _ _ => rfl) (fun h => by cases h) h
        · exact h.elim
      · exact h.elim
    · cases hc
  case h_31 => cases hc
end
end Go.Eng
