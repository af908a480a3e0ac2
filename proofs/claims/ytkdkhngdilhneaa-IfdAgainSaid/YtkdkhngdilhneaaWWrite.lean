/- A directory, written: by the program and by the reference. No condition but what each says. -/
import Derived.Test.YtkdkhngdilhneaaWPut
set_option linter.unusedSimpArgs false
set_option linter.unusedVariables false
set_option maxRecDepth 8000
set_option maxHeartbeats 4000000
namespace Go.Proofs.Ytkdkhngdilhneaa
open Go.Eng Go.RowKit
def a14 : AFn := ⟨133, (.seq (.ops [⟨(.some 5), (.box 5 3 (.tmp 1)), .none⟩, ⟨(.some 8), (.mov (.const (.slice .none 0 0))), .none⟩, ⟨(.some 9), (.mov (.const (.int .i64 0))), .none⟩]) (.seq (.seq (.ops [⟨(.some 23), (.mov (.tmp 0)), .none⟩, ⟨(.some 24), (.fadr 1 (.tmp 5)), .none⟩, ⟨(.some 25), (.ld (.tmp 24)), .none⟩, ⟨(.some 26), (.call 26 30 [(.tmp 23), (.tmp 25)]), .none⟩, ⟨(.some 27), (.un .not (.tmp 26)), .none⟩]) (.cond (.tmp 27) (.seq (.ops [⟨(.some 8), (.mov (.const (.slice .none 0 0))), .none⟩, ⟨(.some 9), (.mov (.const (.int .i64 1))), .none⟩]) .ret) .skip)) (.seq (.ops [⟨(.some 29), (.fadr 1 (.tmp 5)), .none⟩, ⟨(.some 30), (.ld (.tmp 29)), .none⟩, ⟨(.some 31), (.call 31 26 [(.tmp 30)]), .none⟩, ⟨(.some 28), (.mov (.tmp 31)), .none⟩, ⟨(.some 32), (.ext (.tmp 28) 0), .none⟩, ⟨(.some 33), (.ext (.tmp 28) 1), .none⟩, ⟨(.some 34), (.ext (.tmp 28) 2), .none⟩, ⟨(.some 10), (.mov (.tmp 32)), .none⟩, ⟨(.some 11), (.mov (.tmp 33)), .none⟩, ⟨(.some 12), (.mov (.tmp 34)), .none⟩]) (.seq (.ops [⟨(.some 13), (.alloc 13 [(.slice .none 0 0)]), .none⟩, ⟨(.some 14), (.mov (.const (.slice .none 0 0))), .none⟩]) (.seq (.ops [⟨(.some 15), (.alloc 15 [(.int .i64 0)]), .none⟩, ⟨.none, (.st 1 (.tmp 15) (.const (.int .i64 0))), .none⟩]) (.seq (.ops [⟨(.some 35), (.mkfn 31 [(.tmp 5), (.tmp 15), (.tmp 13)]), .none⟩, ⟨(.some 16), (.mov (.tmp 35)), .none⟩]) (.seq (.ops [⟨(.some 36), (.mov (.tmp 16)), .none⟩, ⟨(.some 37), (.mov (.tmp 0)), .none⟩, ⟨(.some 38), (.len (.tmp 37)), .none⟩, ⟨(.some 39), (.cvI .u64 (.tmp 38)), .none⟩, ⟨(.some 40), (.mov (.tmp 10)), .none⟩, ⟨(.some 41), (.callvm (.tmp 36) [(.tmp 39), (.tmp 40)]), .none⟩]) (.seq (.ops [⟨(.some 42), (.mov (.tmp 10)), .none⟩, ⟨(.some 43), (.mov (.tmp 11)), .none⟩, ⟨(.some 44), (.mov (.tmp 0)), .none⟩, ⟨(.some 45), (.len (.tmp 44)), .none⟩, ⟨(.some 46), (.bin .mul (.tmp 43) (.tmp 45)), .none⟩, ⟨(.some 47), (.bin .add (.tmp 42) (.tmp 46)), .none⟩, ⟨(.some 48), (.mov (.tmp 12)), .none⟩, ⟨(.some 49), (.bin .add (.tmp 47) (.tmp 48)), .none⟩, ⟨(.some 50), (.cvI .u64 (.tmp 49)), .none⟩, ⟨(.some 17), (.mov (.tmp 50)), .none⟩]) (.seq (.seq (.ops [⟨(.some 51), (.mov (.tmp 0)), .none⟩, ⟨(.some 52), (.len (.tmp 51)), .none⟩, ⟨(.some 53), (.mov (.const (.int .i64 0))), .none⟩]) (.block 0 (.loop (.seq (.ops [⟨(.some 54), (.bin .lss (.tmp 53) (.tmp 52)), .none⟩]) (.seq (.cond (.tmp 54) .skip (.exit 0)) (.seq (.block 1 (.seq (.ops [⟨(.some 55), (.iadr 3 (.tmp 51) (.tmp 53)), .none⟩, ⟨(.some 56), (.ldn 3 (.tmp 55)), .none⟩, ⟨(.some 19), (.alloc 19 [(.int .u16 0), (.int .i64 0), (.slice .none 0 0)]), .none⟩, ⟨.none, (.st 3 (.tmp 19) (.tmp 56)), .none⟩]) (.seq (.ops [⟨(.some 58), (.fadr 2 (.tmp 19)), .none⟩, ⟨(.some 59), (.ld (.tmp 58)), .none⟩, ⟨(.some 60), (.fadr 1 (.tmp 19)), .none⟩, ⟨(.some 61), (.ld (.tmp 60)), .none⟩, ⟨(.some 62), (.fadr 0 (.tmp 5)), .none⟩, ⟨(.some 63), (.ld (.tmp 62)), .none⟩, ⟨(.some 64), (.call 64 32 [(.tmp 59), (.tmp 61), (.tmp 63)]), .none⟩, ⟨(.some 57), (.mov (.tmp 64)), .none⟩, ⟨(.some 65), (.ext (.tmp 57) 0), .none⟩, ⟨(.some 66), (.ext (.tmp 57) 1), .none⟩, ⟨(.some 20), (.mov (.tmp 65)), .none⟩, ⟨(.some 21), (.mov (.tmp 66)), .none⟩]) (.seq (.seq (.ops [⟨(.some 67), (.mov (.tmp 21)), .none⟩, ⟨(.some 68), (.bin .neq (.tmp 67) (.const (.int .i64 0))), .none⟩]) (.cond (.tmp 68) (.seq (.ops [⟨(.some 69), (.mov (.tmp 21)), .none⟩, ⟨(.some 8), (.mov (.const (.slice .none 0 0))), .none⟩, ⟨(.some 9), (.mov (.tmp 69)), .none⟩]) .ret) .skip)) (.seq (.ops [⟨(.some 70), (.mov (.tmp 16)), .none⟩, ⟨(.some 71), (.fadr 0 (.tmp 19)), .none⟩, ⟨(.some 72), (.ld (.tmp 71)), .none⟩, ⟨(.some 73), (.cvI .u64 (.tmp 72)), .none⟩, ⟨(.some 74), (.callvm (.tmp 70) [(.tmp 73), (.const (.int .i64 2))]), .none⟩]) (.seq (.ops [⟨(.some 75), (.mov (.tmp 16)), .none⟩, ⟨(.some 76), (.fadr 1 (.tmp 19)), .none⟩, ⟨(.some 77), (.ld (.tmp 76)), .none⟩, ⟨(.some 78), (.cvI .u64 (.tmp 77)), .none⟩, ⟨(.some 79), (.callvm (.tmp 75) [(.tmp 78), (.const (.int .i64 2))]), .none⟩]) (.seq (.ops [⟨(.some 80), (.mov (.tmp 16)), .none⟩, ⟨(.some 81), (.fadr 2 (.tmp 19)), .none⟩, ⟨(.some 82), (.ld (.tmp 81)), .none⟩, ⟨(.some 83), (.len (.tmp 82)), .none⟩, ⟨(.some 84), (.cvI .u64 (.tmp 83)), .none⟩, ⟨(.some 85), (.mov (.tmp 12)), .none⟩, ⟨(.some 86), (.callvm (.tmp 80) [(.tmp 84), (.tmp 85)]), .none⟩]) (.seq (.seq (.ops [⟨(.some 87), (.mov (.tmp 20)), .none⟩, ⟨(.some 88), (.len (.tmp 87)), .none⟩, ⟨(.some 89), (.mov (.tmp 12)), .none⟩, ⟨(.some 90), (.bin .leq (.tmp 88) (.tmp 89)), .none⟩]) (.cond (.tmp 90) (.seq (.ops [⟨(.some 91), (.ld (.tmp 13)), .none⟩, ⟨(.some 92), (.mov (.tmp 20)), .none⟩, ⟨(.some 93), (.app 93 1 1 (.tmp 91) (.tmp 92)), .none⟩, ⟨(.some 94), (.mov (.tmp 12)), .none⟩, ⟨(.some 95), (.mov (.tmp 20)), .none⟩, ⟨(.some 96), (.len (.tmp 95)), .none⟩, ⟨(.some 97), (.bin .sub (.tmp 94) (.tmp 96)), .none⟩, ⟨(.some 98), (.appZ 98 1 1 (.c (.int .u8 0)) (.tmp 93) (.tmp 97)), .none⟩, ⟨.none, (.st 1 (.tmp 13) (.tmp 98)), .none⟩]) (.exit 1)) .skip)) (.seq (.ops [⟨(.some 100), (.mov (.tmp 2)), .none⟩, ⟨(.some 101), (.mov (.tmp 17)), .none⟩, ⟨(.some 102), (.mov (.tmp 14)), .none⟩, ⟨(.some 103), (.len (.tmp 102)), .none⟩, ⟨(.some 104), (.cvI .u64 (.tmp 103)), .none⟩, ⟨(.some 105), (.bin .add (.tmp 101) (.tmp 104)), .none⟩, ⟨(.some 106), (.call 106 33 [(.tmp 100), (.tmp 105)]), .none⟩, ⟨(.some 99), (.mov (.tmp 106)), .none⟩, ⟨(.some 107), (.ext (.tmp 99) 0), .none⟩, ⟨(.some 108), (.ext (.tmp 99) 1), .none⟩, ⟨(.some 22), (.mov (.tmp 107)), .none⟩, ⟨(.some 21), (.mov (.tmp 108)), .none⟩]) (.seq (.seq (.ops [⟨(.some 109), (.mov (.tmp 21)), .none⟩, ⟨(.some 110), (.bin .neq (.tmp 109) (.const (.int .i64 0))), .none⟩]) (.cond (.tmp 110) (.seq (.ops [⟨(.some 8), (.mov (.const (.slice .none 0 0))), .none⟩, ⟨(.some 9), (.mov (.const (.int .i64 11))), .none⟩]) .ret) .skip)) (.seq (.ops [⟨(.some 111), (.mov (.tmp 16)), .none⟩, ⟨(.some 112), (.mov (.tmp 22)), .none⟩, ⟨(.some 113), (.mov (.tmp 12)), .none⟩, ⟨(.some 114), (.callvm (.tmp 111) [(.tmp 112), (.tmp 113)]), .none⟩]) (.ops [⟨(.some 115), (.mov (.tmp 14)), .none⟩, ⟨(.some 116), (.mov (.tmp 20)), .none⟩, ⟨(.some 117), (.app 117 1 1 (.tmp 115) (.tmp 116)), .none⟩, ⟨(.some 118), (.mov (.tmp 20)), .none⟩, ⟨(.some 119), (.len (.tmp 118)), .none⟩, ⟨(.some 120), (.bin .rem (.tmp 119) (.const (.int .i64 2))), .none⟩, ⟨(.some 121), (.appZ 121 1 1 (.c (.int .u8 0)) (.tmp 117) (.tmp 120)), .none⟩, ⟨(.some 14), (.mov (.tmp 121)), .none⟩])))))))))))) (.ops [⟨(.some 122), (.bin .add (.tmp 53) (.const (.int .i64 1))), .none⟩, ⟨(.some 53), (.mov (.tmp 122)), .none⟩]))))))) (.seq (.ops [⟨(.some 123), (.mov (.tmp 16)), .none⟩, ⟨(.some 124), (.mov (.tmp 3)), .none⟩, ⟨(.some 125), (.mov (.tmp 12)), .none⟩, ⟨(.some 126), (.callvm (.tmp 123) [(.tmp 124), (.tmp 125)]), .none⟩]) (.seq (.seq (.ops [⟨(.some 127), (.ld (.tmp 15)), .none⟩, ⟨(.some 128), (.bin .neq (.tmp 127) (.const (.int .i64 0))), .none⟩]) (.cond (.tmp 128) (.seq (.draw [(⟨(.some 129), (.ld (.tmp 15)), .none⟩, (false, [])), (⟨(.some 8), (.mov (.const (.slice .none 0 0))), .none⟩, (false, [])), (⟨(.some 9), (.mov (.tmp 129)), .none⟩, (false, []))]) .ret) .skip)) (.seq (.ops [⟨(.some 130), (.ld (.tmp 13)), .none⟩, ⟨(.some 131), (.mov (.tmp 14)), .none⟩, ⟨(.some 132), (.app 132 1 1 (.tmp 130) (.tmp 131)), .none⟩, ⟨(.some 8), (.mov (.tmp 132)), .none⟩, ⟨(.some 9), (.mov (.const (.int .i64 0))), .none⟩]) .ret)))))))))))), [(8, .none), (9, .none)]⟩
theorem c14 : cmpF Try.prog [4000036, 4000070, 4000075, 4000080, 4000111, 4000123] [5, 15, 13] 14 = some a14 := by kernel_rfl
structure FR (f : Fld) : Prop where
  t : 0 ≤ f.1 ∧ f.1 < 65536
  v : U64 f.2.2
  n : f.2.2.length ≤ 300
theorem ct_giv (large : Bool) : Giv Try.prog 26 [.c (.bool large)] (retV [.c (.int .i64 (ct large)), .c (.int .i64 (en large)), .c (.int .i64 (wd large))]) := by
  have h := sizes_giv large
  have hct : (if large = true then ([.c (.int .i64 8), .c (.int .i64 20), .c (.int .i64 8)] : List D) else [.c (.int .i64 2), .c (.int .i64 12), .c (.int .i64 4)]) = [.c (.int .i64 (ct large)), .c (.int .i64 (en large)), .c (.int .i64 (wd large))] := by cases large <;> rfl
  rwa [hct] at h
theorem rct_giv (large : Bool) : Giv Try.prog 34 [.c (.bool large)] (retV [.c (.int .i64 (ct large)), .c (.int .i64 (en large)), .c (.int .i64 (wd large))]) := by
  have h := rwide_giv large
  have hct : (if large = true then ([.c (.int .i64 8), .c (.int .i64 20), .c (.int .i64 8)] : List D) else [.c (.int .i64 2), .c (.int .i64 12), .c (.int .i64 4)]) = [.c (.int .i64 (ct large)), .c (.int .i64 (en large)), .c (.int .i64 (wd large))] := by cases large <;> rfl
  rwa [hct] at h
theorem sized_ct (large : Bool) : sizedP (ct large : Int) := by
  cases large
  · exact .inr (.inl rfl)
  · exact .inr (.inr (.inr rfl))
theorem fits_2 {v : Nat} (h : v < 65536) : v < 256 ^ 2 := h
theorem fits_w {v : Nat} (h : v < 65536 * 65536) (large : Bool) : v < 256 ^ wd large := by
  cases large
  · exact h
  · exact Nat.lt_trans h (by decide)
theorem fits_c {v : Nat} (h : v < 65536) (large : Bool) : v < 256 ^ ct large := by
  cases large
  · exact h
  · exact Nat.lt_trans h (by decide)
theorem write_giv (l : List Fld) (big large : Bool) (first : Int) (at_ next : Nat) (hl : l.length ≤ 140737488351232) (hv : ∀ f ∈ l, FR f) (hat : at_ < 18446744073709551616) (hnx : next < 18446744073709551616) :
    Giv Try.prog 14 [.lst 3 (l.map fldD), hD big large first, .c (.int .u64 at_), .c (.int .u64 next)] (retV [.lst 1 (li .u8 (wdS l big large at_ next).1), .c (.int .i64 (wdS l big large at_ next).2)]) := by
  have hlen := fls_len l
  have hr := right_giv l large hl (fun f hf => by have := (hv f hf).n; omega)
  obtain ⟨R, hR⟩ : ∃ R, R = wdS l big large at_ next := ⟨_, rfl⟩
  rw [← hR]
  rw [wdS] at hR
  by_cases hB : rtS l large = true
  rotate_left
  · have hB : rtS l large = false := by simpa using hB
    rw [hB] at hr
    rw [if_pos hB] at hR
    refine Giv.of mixed c14 (Nat.le_of_ble_eq_true rfl) ?_
    simp -dsimp -implicitDefEqProofs (disch := first | omega | (simp only [List.length_append, List.length_cons, List.length_nil, List.length_take, List.length_drop]; omega)) only [a14, hD, ↓aPre, aPost, oneW, allOne, retV, retVA, simprocAttr]
    refine call_giv hr ?_
    simp -dsimp -implicitDefEqProofs (disch := first | omega | (simp only [List.length_append, List.length_cons, List.length_nil, List.length_take, List.length_drop]; omega)) only [↓aPre, aPost, oneW, allOne, retV, retVA, simprocAttr]
    exact post_le (by rw [hR]; repeat (first | exact leD.nil | exact leE.refl _ | exact leE.nil _ | refine leD.cons ?_ ?_ | refine leE.agg ?_))
  rw [if_neg (by rw [hB]; decide)] at hR
  rw [hB] at hr
  obtain ⟨h64, hrt⟩ := of_decide_eq_true hB
  have hsz := ct_giv large
  have hcb : 2 ≤ ct large ∧ ct large ≤ 8 ∧ en large ≤ 20 ∧ 4 ≤ wd large ∧ wd large ≤ 8 := by cases large <;> decide
  have hp0 := put_0 l.length (ct large) big large first (sized_ct large) (by omega) (fits_c (by omega) large)
  have hpl0 := putL_len l.length (ct large) big
  obtain ⟨E, hE⟩ : ∃ E, E = en large * l.length := ⟨_, rfl⟩
  have hEI : (en large : Int) * (l.length : Int) = E := by rw [hE]; simp
  have hEb : E ≤ 20 * 64 := by rw [hE]; exact Nat.mul_le_mul hcb.2.2.1 h64
  obtain ⟨base, hbase⟩ : ∃ base, base = ct large + E + wd large := ⟨_, rfl⟩
  have hbI : (ct large : Int) + E + (wd large : Int) = (base : Int) := by omega
  rw [← hE, ← hbase] at hR
  obtain ⟨S, hS⟩ : ∃ S, S = wrS big large at_ base l (putL l.length (ct large) big) [] false := ⟨_, rfl⟩
  rw [← hS] at hR
  refine Giv.of mixed c14 (Nat.le_of_ble_eq_true rfl) ?_
  simp -dsimp -implicitDefEqProofs (disch := first | omega | (simp only [List.length_append, List.length_cons, List.length_nil, List.length_take, List.length_drop]; omega)) only [a14, hD, ↓aPre, aPost, oneW, allOne, retV, retVA, simprocAttr]
  refine call_giv hr ?_
  simp -dsimp -implicitDefEqProofs (disch := first | omega | (simp only [List.length_append, List.length_cons, List.length_nil, List.length_take, List.length_drop]; omega)) only [↓aPre, aPost, oneW, allOne, retV, retVA, simprocAttr]
  refine call_giv hsz ?_
  simp -dsimp -implicitDefEqProofs (disch := first | omega | (simp only [List.length_append, List.length_cons, List.length_nil, List.length_take, List.length_drop]; omega)) only [hlen, ↓aPre, aPost, oneW, allOne, retV, retVA, simprocAttr]
  refine call_mut hp0 [(2000000, 5), (2000001, 15), (2000002, 13), (21, 100)] rfl rfl ?_ ?_
  · simp -dsimp -implicitDefEqProofs (disch := first | omega | (simp only [List.length_append, List.length_cons, List.length_nil, List.length_take, List.length_drop]; omega)) only [↓aPre, aPost, oneW, allOne, retV, retVA, simprocAttr]
  simp -dsimp -implicitDefEqProofs (disch := first | omega | (simp only [List.length_append, List.length_cons, List.length_nil, List.length_take, List.length_drop]; omega)) only [hlen, hEI, hbI, ↓aPre, aPost, oneW, allOne, retV, retVA, simprocAttr]
  refine loop_nil 14 101 1 (fun s => ∃ (k : Nat) (out behind : List Int) (bad : Bool), k ≤ l.length ∧ S = wrS big large at_ base (l.drop k) out behind bad ∧ out.length ≤ 8 + k * 20 ∧ behind.length ≤ k * 2401 ∧ s.tm 53 = .d (.c (.int .i64 k)) ∧ s.tm 52 = .d (.c (.int .i64 l.length)) ∧ s.tm 51 = .d (.lst 3 (l.map fldD)) ∧ s.tm 2 = .d (.c (.int .u64 at_)) ∧ s.tm 3 = .d (.c (.int .u64 next)) ∧ s.tm 5 = .ptr 5 0 ∧ s.hp 5 = some (.box [.d (.c (.bool big)), .d (.c (.bool large)), .d (.c (.int .u64 first))]) ∧ s.tm 12 = .d (.c (.int .i64 (wd large))) ∧ s.tm 13 = .ptr 13 0 ∧ s.hp 13 = some (.box [.sl 100 1 0 out.length]) ∧ s.hp 100 = some (.row 1 (li .u8 out)) ∧ s.tm 14 = .sl 101 1 0 behind.length ∧ s.hp 101 = some (.row 1 (li .u8 behind)) ∧ s.tm 15 = .ptr 15 0 ∧ s.hp 15 = some (.box [.d (.c (.int .i64 (if bad = true then 11 else 0)))]) ∧ s.tm 16 = .fn 31 [.ptr 5 0, .ptr 15 0, .ptr 13 0] ∧ s.tm 17 = .d (.c (.int .u64 base))) (fun s => l.length - (avN (s.tm 53)).toNat) ?_ (by decide) ?_ ?_
  · simp -dsimp -implicitDefEqProofs (disch := first | omega | (simp only [List.length_append, List.length_cons, List.length_nil, List.length_take, List.length_drop]; omega)) only [↓aPre, aPost, oneW, allOne, retV, retVA, simprocAttr]
  · refine ⟨0, putL l.length (ct large) big, [], false, Nat.zero_le _, hS, by omega, by simp, ?_⟩
    simp -dsimp -implicitDefEqProofs (disch := first | omega | (simp only [List.length_append, List.length_cons, List.length_nil, List.length_take, List.length_drop]; omega)) only [Int.natCast_zero, hpl0, List.length_nil, ↓aPre, aPost, oneW, allOne, retV, retVA, simprocAttr]
  rintro s ⟨k, out, behind, bad, hk, hSk, hol, hbl, hs⟩
  have hk64 : k * 20 ≤ 64 * 20 := Nat.mul_le_mul_right _ (by omega)
  have hk65 : k * 2401 ≤ 64 * 2401 := Nat.mul_le_mul_right _ (by omega)
  by_cases hlt : k < l.length
  · have eg := fl_get hlt
    have hfr := hv _ (fl_mem hlt)
    have hok := (hrt k hlt).1
    rw [fl_drop hlt, wrS] at hSk
    obtain ⟨f, hf⟩ : ∃ f, f = fl l k := ⟨_, rfl⟩
    rw [← hf] at hfr hok hSk
    rw [← hf, fldD] at eg
    clear hf
    obtain ⟨t, ki, v⟩ := f
    obtain ⟨t, rfl⟩ := Int.eq_ofNat_of_zero_le hfr.t.1
    have hkb : 0 ≤ ki ∧ ki ≤ 18 := by have := hok.1; unfold knownP at this; dsimp only at this; omega
    obtain ⟨kd, rfl⟩ := Int.eq_ofNat_of_zero_le hkb.1
    have htb := hfr.t.2
    have hvl := hfr.n
    dsimp only at hSk eg htb hvl
    have g32 := (wkS_giv kd v big (by omega) hfr.v).1
    have hwl := wkS_len kd v big
    obtain ⟨W, hW⟩ : ∃ W, W = wkS kd v big := ⟨_, rfl⟩
    rw [← hW] at g32 hSk hwl
    by_cases he : W.2 = 0
    rotate_left
    · have he' := ibne_t he
      rw [if_pos he] at hSk
      rw [hSk, if_pos he] at hR
      simp -dsimp -implicitDefEqProofs (disch := first | omega | (simp only [List.length_append, List.length_cons, List.length_nil, List.length_take, List.length_drop]; omega)) only [hs, hlen, eg, ↓aPre, aPost, oneW, allOne, retV, retVA, simprocAttr]
      refine call_giv g32 ?_
      simp -dsimp -implicitDefEqProofs (disch := first | omega | (simp only [List.length_append, List.length_cons, List.length_nil, List.length_take, List.length_drop]; omega)) only [hs, he', ↓aPre, aPost, oneW, allOne, retV, retVA, simprocAttr]
      exact post_le (by rw [hR]; repeat (first | exact leD.nil | exact leE.refl _ | exact leE.nil _ | refine leD.cons ?_ ?_ | refine leE.agg ?_))
    rw [if_neg (fun q => q he)] at hSk
    rw [he] at g32
    have p1 := putL_len t 2 big
    have p2 := putL_len kd 2 big
    have p3 := putL_len v.length (wd large) big
    have l1 : (out ++ putL t 2 big).length = out.length + 2 := by rw [List.length_append, p1]
    have l2 : (out ++ putL t 2 big ++ putL kd 2 big).length = out.length + 2 + 2 := by rw [List.length_append, l1, p2]
    have l3 : (out ++ putL t 2 big ++ putL kd 2 big ++ putL v.length (wd large) big).length = out.length + 2 + 2 + wd large := by rw [List.length_append, l2, p3]
    have m1 := put_m t 2 big large first (if bad = true then 11 else 0) out (.inr (.inl rfl)) (by omega) (fits_2 (by omega)) (by omega)
    have m2 := put_m kd 2 big large first (if bad = true then 11 else 0) (out ++ putL t 2 big) (.inr (.inl rfl)) (by omega) (fits_2 (by omega)) (by omega)
    have m3 := put_m v.length (wd large) big large first (if bad = true then 11 else 0) (out ++ putL t 2 big ++ putL kd 2 big) (sized_wd large) (by omega) (fits_w (by omega) large) (by omega)
    rw [l1] at m2
    rw [l2] at m3
    rw [ehd] at hSk
    dsimp only at hSk
    rw [Int.toNat_natCast, Int.toNat_natCast] at hSk
    obtain ⟨o3, ho3⟩ : ∃ o3, o3 = out ++ putL t 2 big ++ putL kd 2 big ++ putL v.length (wd large) big := ⟨_, rfl⟩
    rw [← ho3] at m3 l3
    by_cases hw : W.1.length ≤ wd large
    · rw [if_pos hw] at hSk
      have hwI : (W.1.length : Int) ≤ (wd large : Int) := by omega
      simp -dsimp -implicitDefEqProofs (disch := first | omega | (simp only [List.length_append, List.length_cons, List.length_nil, List.length_take, List.length_drop]; omega)) only [hs, hlen, eg, ↓aPre, aPost, oneW, allOne, retV, retVA, simprocAttr]
      refine call_giv g32 ?_
      simp -dsimp -implicitDefEqProofs (disch := first | omega | (simp only [List.length_append, List.length_cons, List.length_nil, List.length_take, List.length_drop]; omega)) only [hs, ↓aPre, aPost, oneW, allOne, retV, retVA, simprocAttr]
      refine call_mut m1 [(2000000, 5), (2000001, 15), (2000002, 13), (1000000, 100)] rfl rfl ?_ ?_
      · simp -dsimp -implicitDefEqProofs (disch := first | omega | (simp only [List.length_append, List.length_cons, List.length_nil, List.length_take, List.length_drop]; omega)) only [hs, ↓aPre, aPost, oneW, allOne, retV, retVA, simprocAttr]
      simp -dsimp -implicitDefEqProofs (disch := first | omega | (simp only [List.length_append, List.length_cons, List.length_nil, List.length_take, List.length_drop]; omega)) only [hs, ↓aPre, aPost, oneW, allOne, retV, retVA, simprocAttr]
      refine call_mut m2 [(2000000, 5), (2000001, 15), (2000002, 13), (1000000, 100)] rfl rfl ?_ ?_
      · simp -dsimp -implicitDefEqProofs (disch := first | omega | (simp only [List.length_append, List.length_cons, List.length_nil, List.length_take, List.length_drop]; omega)) only [hs, ↓aPre, aPost, oneW, allOne, retV, retVA, simprocAttr]
      simp -dsimp -implicitDefEqProofs (disch := first | omega | (simp only [List.length_append, List.length_cons, List.length_nil, List.length_take, List.length_drop]; omega)) only [hs, ↓aPre, aPost, oneW, allOne, retV, retVA, simprocAttr]
      refine call_mut m3 [(2000000, 5), (2000001, 15), (2000002, 13), (1000000, 100)] rfl rfl ?_ ?_
      · simp -dsimp -implicitDefEqProofs (disch := first | omega | (simp only [List.length_append, List.length_cons, List.length_nil, List.length_take, List.length_drop]; omega)) only [hs, ↓aPre, aPost, oneW, allOne, retV, retVA, simprocAttr]
      simp -dsimp -implicitDefEqProofs (disch := first | omega | (simp only [List.length_append, List.length_cons, List.length_nil, List.length_take, List.length_drop]; omega)) only [hs, hwI, l3, ↓aPre, aPost, oneW, allOne, retV, retVA, simprocAttr]
      obtain ⟨z, hz⟩ : ∃ z, z = wd large - W.1.length := ⟨_, rfl⟩
      have hzn : ((wd large : Int) - (W.1.length : Int)).toNat = z := by omega
      have l4 : (o3 ++ W.1 ++ zs z).length = out.length + 2 + 2 + wd large + W.1.length + z := by rw [List.length_append, List.length_append, l3, zs, List.length_replicate]
      have hzr : li .u8 (zs z) = List.replicate z (.c (.int .u8 0)) := by rw [zs, li, List.map_replicate]
      refine round_of ⟨k + 1, o3 ++ W.1 ++ zs z, behind, bad, by omega, by rw [hSk, ho3, hz]; simp only [List.append_assoc], by omega, by omega, ?_⟩ ?_
      · simp -dsimp -implicitDefEqProofs (disch := first | omega | (simp only [List.length_append, List.length_cons, List.length_nil, List.length_take, List.length_drop]; omega)) only [hs, hzn, l3, zs, ↓aPre, aPost, oneW, allOne, retV, retVA, simprocAttr]
      · simp -dsimp -implicitDefEqProofs (disch := first | omega | (simp only [List.length_append, List.length_cons, List.length_nil, List.length_take, List.length_drop]; omega)) only [hs, ↓aPre, aPost, oneW, allOne, retV, retVA, simprocAttr]
        omega
    rw [if_neg hw] at hSk
    have hwI : ¬ (W.1.length : Int) ≤ (wd large : Int) := by omega
    obtain ⟨p, hp⟩ : ∃ p, p = base + behind.length := ⟨_, rfl⟩
    have hbI2 : (base : Int) + (behind.length : Int) = (p : Int) := by omega
    rw [← hp] at hSk
    by_cases hov : 18446744073709551616 ≤ at_ + p
    · rw [if_pos hov] at hSk
      rw [hSk, if_pos (by decide)] at hR
      have ha := add_o at_ p (by omega) (by omega) (by omega)
      simp -dsimp -implicitDefEqProofs (disch := first | omega | (simp only [List.length_append, List.length_cons, List.length_nil, List.length_take, List.length_drop]; omega)) only [hs, hlen, eg, ↓aPre, aPost, oneW, allOne, retV, retVA, simprocAttr]
      refine call_giv g32 ?_
      simp -dsimp -implicitDefEqProofs (disch := first | omega | (simp only [List.length_append, List.length_cons, List.length_nil, List.length_take, List.length_drop]; omega)) only [hs, ↓aPre, aPost, oneW, allOne, retV, retVA, simprocAttr]
      refine call_mut m1 [(2000000, 5), (2000001, 15), (2000002, 13), (1000000, 100)] rfl rfl ?_ ?_
      · simp -dsimp -implicitDefEqProofs (disch := first | omega | (simp only [List.length_append, List.length_cons, List.length_nil, List.length_take, List.length_drop]; omega)) only [hs, ↓aPre, aPost, oneW, allOne, retV, retVA, simprocAttr]
      simp -dsimp -implicitDefEqProofs (disch := first | omega | (simp only [List.length_append, List.length_cons, List.length_nil, List.length_take, List.length_drop]; omega)) only [hs, ↓aPre, aPost, oneW, allOne, retV, retVA, simprocAttr]
      refine call_mut m2 [(2000000, 5), (2000001, 15), (2000002, 13), (1000000, 100)] rfl rfl ?_ ?_
      · simp -dsimp -implicitDefEqProofs (disch := first | omega | (simp only [List.length_append, List.length_cons, List.length_nil, List.length_take, List.length_drop]; omega)) only [hs, ↓aPre, aPost, oneW, allOne, retV, retVA, simprocAttr]
      simp -dsimp -implicitDefEqProofs (disch := first | omega | (simp only [List.length_append, List.length_cons, List.length_nil, List.length_take, List.length_drop]; omega)) only [hs, ↓aPre, aPost, oneW, allOne, retV, retVA, simprocAttr]
      refine call_mut m3 [(2000000, 5), (2000001, 15), (2000002, 13), (1000000, 100)] rfl rfl ?_ ?_
      · simp -dsimp -implicitDefEqProofs (disch := first | omega | (simp only [List.length_append, List.length_cons, List.length_nil, List.length_take, List.length_drop]; omega)) only [hs, ↓aPre, aPost, oneW, allOne, retV, retVA, simprocAttr]
      simp -dsimp -implicitDefEqProofs (disch := first | omega | (simp only [List.length_append, List.length_cons, List.length_nil, List.length_take, List.length_drop]; omega)) only [hs, hwI, l3, hbI2, ↓aPre, aPost, oneW, allOne, retV, retVA, simprocAttr]
      refine call_giv ha ?_
      simp -dsimp -implicitDefEqProofs (disch := first | omega | (simp only [List.length_append, List.length_cons, List.length_nil, List.length_take, List.length_drop]; omega)) only [hs, ↓aPre, aPost, oneW, allOne, retV, retVA, simprocAttr]
      exact post_le (by rw [hR]; repeat (first | exact leD.nil | exact leE.refl _ | exact leE.nil _ | refine leD.cons ?_ ?_ | refine leE.agg ?_))
    rw [if_neg hov] at hSk
    have ha := add_t at_ p (by omega) (by omega) (by omega)
    obtain ⟨q, hq⟩ : ∃ q, q = at_ + p := ⟨_, rfl⟩
    rw [show (at_ : Int) + (p : Int) = (q : Int) by omega] at ha
    rw [← hq] at hSk hov
    have hm2 : (W.1.length : Int).tmod 2 = ((W.1.length % 2 : Nat) : Int) := by rw [Int.tmod_eq_emod_of_nonneg (by omega)]; omega
    have hm3 : ((W.1.length % 2 : Nat) : Int).toNat = W.1.length % 2 := Int.toNat_natCast _
    obtain ⟨z, hz⟩ : ∃ z, z = W.1.length % 2 := ⟨_, rfl⟩
    rw [← hz] at hm2 hm3 hSk
    have l5 : (behind ++ W.1 ++ zs z).length = behind.length + W.1.length + z := by rw [List.length_append, List.length_append, zs, List.length_replicate]
    have hzr : li .u8 (zs z) = List.replicate z (.c (.int .u8 0)) := by rw [zs, li, List.map_replicate]
    by_cases hfi : q < 256 ^ wd large
    · have p4 := putL_len q (wd large) big
      have m4 := put_m q (wd large) big large first (if bad = true then 11 else 0) o3 (sized_wd large) (by omega) hfi (by omega)
      rw [l3] at m4
      have l4 : (o3 ++ putL q (wd large) big).length = out.length + 2 + 2 + wd large + wd large := by rw [List.length_append, l3, p4]
      rw [decide_eq_false (fun c => c hfi), Bool.or_false, ptS, if_pos hfi] at hSk
      simp -dsimp -implicitDefEqProofs (disch := first | omega | (simp only [List.length_append, List.length_cons, List.length_nil, List.length_take, List.length_drop]; omega)) only [hs, hlen, eg, ↓aPre, aPost, oneW, allOne, retV, retVA, simprocAttr]
      refine call_giv g32 ?_
      simp -dsimp -implicitDefEqProofs (disch := first | omega | (simp only [List.length_append, List.length_cons, List.length_nil, List.length_take, List.length_drop]; omega)) only [hs, ↓aPre, aPost, oneW, allOne, retV, retVA, simprocAttr]
      refine call_mut m1 [(2000000, 5), (2000001, 15), (2000002, 13), (1000000, 100)] rfl rfl ?_ ?_
      · simp -dsimp -implicitDefEqProofs (disch := first | omega | (simp only [List.length_append, List.length_cons, List.length_nil, List.length_take, List.length_drop]; omega)) only [hs, ↓aPre, aPost, oneW, allOne, retV, retVA, simprocAttr]
      simp -dsimp -implicitDefEqProofs (disch := first | omega | (simp only [List.length_append, List.length_cons, List.length_nil, List.length_take, List.length_drop]; omega)) only [hs, ↓aPre, aPost, oneW, allOne, retV, retVA, simprocAttr]
      refine call_mut m2 [(2000000, 5), (2000001, 15), (2000002, 13), (1000000, 100)] rfl rfl ?_ ?_
      · simp -dsimp -implicitDefEqProofs (disch := first | omega | (simp only [List.length_append, List.length_cons, List.length_nil, List.length_take, List.length_drop]; omega)) only [hs, ↓aPre, aPost, oneW, allOne, retV, retVA, simprocAttr]
      simp -dsimp -implicitDefEqProofs (disch := first | omega | (simp only [List.length_append, List.length_cons, List.length_nil, List.length_take, List.length_drop]; omega)) only [hs, ↓aPre, aPost, oneW, allOne, retV, retVA, simprocAttr]
      refine call_mut m3 [(2000000, 5), (2000001, 15), (2000002, 13), (1000000, 100)] rfl rfl ?_ ?_
      · simp -dsimp -implicitDefEqProofs (disch := first | omega | (simp only [List.length_append, List.length_cons, List.length_nil, List.length_take, List.length_drop]; omega)) only [hs, ↓aPre, aPost, oneW, allOne, retV, retVA, simprocAttr]
      simp -dsimp -implicitDefEqProofs (disch := first | omega | (simp only [List.length_append, List.length_cons, List.length_nil, List.length_take, List.length_drop]; omega)) only [hs, hwI, l3, hbI2, ↓aPre, aPost, oneW, allOne, retV, retVA, simprocAttr]
      refine call_giv ha ?_
      simp -dsimp -implicitDefEqProofs (disch := first | omega | (simp only [List.length_append, List.length_cons, List.length_nil, List.length_take, List.length_drop]; omega)) only [hs, ↓aPre, aPost, oneW, allOne, retV, retVA, simprocAttr]
      refine call_mut m4 [(2000000, 5), (2000001, 15), (2000002, 13), (1000000, 100)] rfl rfl ?_ ?_
      · simp -dsimp -implicitDefEqProofs (disch := first | omega | (simp only [List.length_append, List.length_cons, List.length_nil, List.length_take, List.length_drop]; omega)) only [hs, ↓aPre, aPost, oneW, allOne, retV, retVA, simprocAttr]
      simp -dsimp -implicitDefEqProofs (disch := first | omega | (simp only [List.length_append, List.length_cons, List.length_nil, List.length_take, List.length_drop]; omega)) only [hs, hm2, hm3, ↓aPre, aPost, oneW, allOne, retV, retVA, simprocAttr]
      refine round_of ⟨k + 1, o3 ++ putL q (wd large) big, behind ++ W.1 ++ zs z, bad, by omega, by rw [hSk, ho3]; simp only [List.append_assoc], by omega, by omega, ?_⟩ ?_
      · simp -dsimp -implicitDefEqProofs (disch := first | omega | (simp only [List.length_append, List.length_cons, List.length_nil, List.length_take, List.length_drop]; omega)) only [hs, l4, l5, zs, ↓aPre, aPost, oneW, allOne, retV, retVA, simprocAttr]
      · simp -dsimp -implicitDefEqProofs (disch := first | omega | (simp only [List.length_append, List.length_cons, List.length_nil, List.length_take, List.length_drop]; omega)) only [hs, ↓aPre, aPost, oneW, allOne, retV, retVA, simprocAttr]
        omega
    · have m4 := put_me q (wd large) big large first (if bad = true then 11 else 0) o3 (sized_wd large) (by omega) hfi (by omega)
      rw [l3] at m4
      rw [decide_eq_true hfi, Bool.or_true, ptS, if_neg hfi, List.append_nil] at hSk
      simp -dsimp -implicitDefEqProofs (disch := first | omega | (simp only [List.length_append, List.length_cons, List.length_nil, List.length_take, List.length_drop]; omega)) only [hs, hlen, eg, ↓aPre, aPost, oneW, allOne, retV, retVA, simprocAttr]
      refine call_giv g32 ?_
      simp -dsimp -implicitDefEqProofs (disch := first | omega | (simp only [List.length_append, List.length_cons, List.length_nil, List.length_take, List.length_drop]; omega)) only [hs, ↓aPre, aPost, oneW, allOne, retV, retVA, simprocAttr]
      refine call_mut m1 [(2000000, 5), (2000001, 15), (2000002, 13), (1000000, 100)] rfl rfl ?_ ?_
      · simp -dsimp -implicitDefEqProofs (disch := first | omega | (simp only [List.length_append, List.length_cons, List.length_nil, List.length_take, List.length_drop]; omega)) only [hs, ↓aPre, aPost, oneW, allOne, retV, retVA, simprocAttr]
      simp -dsimp -implicitDefEqProofs (disch := first | omega | (simp only [List.length_append, List.length_cons, List.length_nil, List.length_take, List.length_drop]; omega)) only [hs, ↓aPre, aPost, oneW, allOne, retV, retVA, simprocAttr]
      refine call_mut m2 [(2000000, 5), (2000001, 15), (2000002, 13), (1000000, 100)] rfl rfl ?_ ?_
      · simp -dsimp -implicitDefEqProofs (disch := first | omega | (simp only [List.length_append, List.length_cons, List.length_nil, List.length_take, List.length_drop]; omega)) only [hs, ↓aPre, aPost, oneW, allOne, retV, retVA, simprocAttr]
      simp -dsimp -implicitDefEqProofs (disch := first | omega | (simp only [List.length_append, List.length_cons, List.length_nil, List.length_take, List.length_drop]; omega)) only [hs, ↓aPre, aPost, oneW, allOne, retV, retVA, simprocAttr]
      refine call_mut m3 [(2000000, 5), (2000001, 15), (2000002, 13), (1000000, 100)] rfl rfl ?_ ?_
      · simp -dsimp -implicitDefEqProofs (disch := first | omega | (simp only [List.length_append, List.length_cons, List.length_nil, List.length_take, List.length_drop]; omega)) only [hs, ↓aPre, aPost, oneW, allOne, retV, retVA, simprocAttr]
      simp -dsimp -implicitDefEqProofs (disch := first | omega | (simp only [List.length_append, List.length_cons, List.length_nil, List.length_take, List.length_drop]; omega)) only [hs, hwI, l3, hbI2, ↓aPre, aPost, oneW, allOne, retV, retVA, simprocAttr]
      refine call_giv ha ?_
      simp -dsimp -implicitDefEqProofs (disch := first | omega | (simp only [List.length_append, List.length_cons, List.length_nil, List.length_take, List.length_drop]; omega)) only [hs, ↓aPre, aPost, oneW, allOne, retV, retVA, simprocAttr]
      refine call_mut m4 [(2000000, 5), (2000001, 15), (2000002, 13), (1000000, 100)] rfl rfl ?_ ?_
      · simp -dsimp -implicitDefEqProofs (disch := first | omega | (simp only [List.length_append, List.length_cons, List.length_nil, List.length_take, List.length_drop]; omega)) only [hs, ↓aPre, aPost, oneW, allOne, retV, retVA, simprocAttr]
      simp -dsimp -implicitDefEqProofs (disch := first | omega | (simp only [List.length_append, List.length_cons, List.length_nil, List.length_take, List.length_drop]; omega)) only [hs, hm2, hm3, ↓aPre, aPost, oneW, allOne, retV, retVA, simprocAttr]
      refine round_of ⟨k + 1, o3, behind ++ W.1 ++ zs z, true, by omega, by rw [hSk, ho3]; simp only [List.append_assoc], by omega, by omega, ?_⟩ ?_
      · simp -dsimp -implicitDefEqProofs (disch := first | omega | (simp only [List.length_append, List.length_cons, List.length_nil, List.length_take, List.length_drop]; omega)) only [hs, l3, l5, zs, ↓aPre, aPost, oneW, allOne, retV, retVA, simprocAttr]
      · simp -dsimp -implicitDefEqProofs (disch := first | omega | (simp only [List.length_append, List.length_cons, List.length_nil, List.length_take, List.length_drop]; omega)) only [hs, ↓aPre, aPost, oneW, allOne, retV, retVA, simprocAttr]
        omega
  · obtain rfl : k = l.length := by omega
    rw [List.drop_length, wrS] at hSk
    rw [hSk, if_neg (fun c => c rfl)] at hR
    dsimp only at hR
    have htl1 : (li .u8 out).length = out.length := by simp [li]
    by_cases hfi : next < 256 ^ wd large
    · have p4 := putL_len next (wd large) big
      have m4 := put_m next (wd large) big large first (if bad = true then 11 else 0) out (sized_wd large) hnx hfi (by omega)
      have l4 : (out ++ putL next (wd large) big).length = out.length + wd large := by rw [List.length_append, p4]
      cases bad
      · rw [if_neg (fun c => c.elim (by decide) (fun c => c hfi))] at hR
        have l5 : (out ++ putL next (wd large) big ++ behind).length = out.length + wd large + behind.length := by rw [List.length_append, l4]
        have htk : (li .u8 (out ++ putL next (wd large) big ++ behind)).take (out.length + wd large + behind.length) = li .u8 (out ++ putL next (wd large) big ++ behind) := take_all (by simp only [li, List.length_map]; omega)
        rw [if_neg (by decide)] at m4
        simp -dsimp -implicitDefEqProofs (disch := first | omega | (simp only [List.length_append, List.length_cons, List.length_nil, List.length_take, List.length_drop]; omega)) only [hs, ↓aPre, aPost, oneW, allOne, retV, retVA, simprocAttr]
        refine call_mut m4 [(2000000, 5), (2000001, 15), (2000002, 13), (1000000, 100)] rfl rfl ?_ ?_
        · simp -dsimp -implicitDefEqProofs (disch := first | omega | (simp only [List.length_append, List.length_cons, List.length_nil, List.length_take, List.length_drop]; omega)) only [hs, ↓aPre, aPost, oneW, allOne, retV, retVA, simprocAttr]
        simp -dsimp -implicitDefEqProofs (disch := first | omega | (simp only [List.length_append, List.length_cons, List.length_nil, List.length_take, List.length_drop]; omega)) only [hs, l4, l5, htk, ↓aPre, aPost, oneW, allOne, retV, retVA, simprocAttr]
        exact post_eq (by rw [hR])
      · rw [if_pos (.inl rfl)] at hR
        rw [if_pos rfl] at m4
        simp -dsimp -implicitDefEqProofs (disch := first | omega | (simp only [List.length_append, List.length_cons, List.length_nil, List.length_take, List.length_drop]; omega)) only [hs, ↓aPre, aPost, oneW, allOne, retV, retVA, simprocAttr]
        refine call_mut m4 [(2000000, 5), (2000001, 15), (2000002, 13), (1000000, 100)] rfl rfl ?_ ?_
        · simp -dsimp -implicitDefEqProofs (disch := first | omega | (simp only [List.length_append, List.length_cons, List.length_nil, List.length_take, List.length_drop]; omega)) only [hs, ↓aPre, aPost, oneW, allOne, retV, retVA, simprocAttr]
        simp -dsimp -implicitDefEqProofs (disch := first | omega | (simp only [List.length_append, List.length_cons, List.length_nil, List.length_take, List.length_drop]; omega)) only [hs, ↓aPre, aPost, oneW, allOne, retV, retVA, simprocAttr]
        exact post_le (by rw [hR]; repeat (first | exact leD.nil | exact leE.refl _ | exact leE.nil _ | refine leD.cons ?_ ?_ | refine leE.agg ?_))
    · have m4 := put_me next (wd large) big large first (if bad = true then 11 else 0) out (sized_wd large) hnx hfi (by omega)
      rw [if_pos (.inr hfi)] at hR
      simp -dsimp -implicitDefEqProofs (disch := first | omega | (simp only [List.length_append, List.length_cons, List.length_nil, List.length_take, List.length_drop]; omega)) only [hs, ↓aPre, aPost, oneW, allOne, retV, retVA, simprocAttr]
      refine call_mut m4 [(2000000, 5), (2000001, 15), (2000002, 13), (1000000, 100)] rfl rfl ?_ ?_
      · simp -dsimp -implicitDefEqProofs (disch := first | omega | (simp only [List.length_append, List.length_cons, List.length_nil, List.length_take, List.length_drop]; omega)) only [hs, ↓aPre, aPost, oneW, allOne, retV, retVA, simprocAttr]
      simp -dsimp -implicitDefEqProofs (disch := first | omega | (simp only [List.length_append, List.length_cons, List.length_nil, List.length_take, List.length_drop]; omega)) only [hs, ↓aPre, aPost, oneW, allOne, retV, retVA, simprocAttr]
      exact post_le (by rw [hR]; repeat (first | exact leD.nil | exact leE.refl _ | exact leE.nil _ | refine leD.cons ?_ ?_ | refine leE.agg ?_))
end Go.Proofs.Ytkdkhngdilhneaa
