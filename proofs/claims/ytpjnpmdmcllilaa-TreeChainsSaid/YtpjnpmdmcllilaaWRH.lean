/- The head of a file, read: the cases. No condition but what each says. -/
import Derived.Test.YtpjnpmdmcllilaaWNum
set_option linter.unusedSimpArgs false
set_option linter.unusedVariables false
set_option maxRecDepth 8000
set_option maxHeartbeats 4000000
namespace Go.Proofs.Ytpjnpmdmcllilaa
open Go.Eng Go.RowKit
def hD (big wide : Bool) (at_ : Int) : D := .agg [.c (.bool big), .c (.bool wide), .c (.int .u64 at_)]
def gk (b : List Int) (p n : Nat) (big : Bool) : Int := gvK ((b.drop p).take n) big n
theorem gk_b {b : List Int} (hB : Bytes b) (p n : Nat) (big : Bool) (hn : n ≤ 8) : 0 ≤ gk b p n big ∧ gk b p n big < 18446744073709551616 := by
  have := gvK_b ((hB.drop p).take n) big n
  have := pow256 hn
  unfold gk
  omega
theorem take2 {b : List Int} (h : 4 ≤ b.length) : b.take 2 = [b.getD 0 0, b.getD 1 0] := by
  match b, h with
  | x :: y :: _ :: _ :: _, _ => rfl
theorem bytes2 {x y : Int} (hx : 0 ≤ x ∧ x < 256) (hy : 0 ≤ y ∧ y < 256) : Bytes [x, y] := fun z hz => by
  simp at hz
  rcases hz with rfl | rfl
  · exact hx
  · exact hy
theorem get_k (b : List Int) (p n : Nat) (big : Bool) (hn : sizedP (n : Int)) (hl : b.length ≤ 100000) (hB : Bytes b) (h : p + n ≤ b.length) : Giv Try.prog 26 [.lst 1 (li .u8 b), .c (.int .u64 p), .c (.int .i64 n), .c (.bool big)] (retV [.c (.int .u64 (gk b p n big)), .c (.int .i64 0)]) := by
  have := get_t b p n big hn (by omega) hB (by rw [Int.toNat_natCast]; exact h)
  rw [Int.toNat_natCast] at this
  exact this
end Go.Proofs.Ytpjnpmdmcllilaa
