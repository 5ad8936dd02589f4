/-
  How many: the library's count by masks, digit by digit.
-/
import Derived.Test.YtjmegicopdbkdaaDoorBits2
set_option maxHeartbeats 1000000
set_option maxRecDepth 10000
namespace Go.Proofs.YtjmegicopdbkdaaDoor
open Go Go.RowKit Pl

namespace Pop
/-- A byte, n times. -/
def rep (m : Nat) : Nat → Nat
  | 0 => 0
  | n + 1 => m + 256 * rep m n

theorem and_split (x y : Nat) : x &&& y = (x % 256 &&& y % 256) + 256 * (x / 256 &&& y / 256) := by
  have h1 : (x &&& y) % 256 = x % 256 &&& y % 256 := Nat.and_mod_two_pow (n := 8)
  have h2 : (x &&& y) / 256 = x / 256 &&& y / 256 := Nat.and_div_two_pow (n := 8)
  rw [← h1, ← h2]
  omega
theorem and_rep (x m n : Nat) (hm : m < 256) : x &&& rep m (n + 1) = (x % 256 &&& m) + 256 * (x / 256 &&& rep m n) := by
  rw [and_split]
  have h1 : rep m (n + 1) % 256 = m := by simp only [rep]; omega
  have h2 : rep m (n + 1) / 256 = rep m n := by simp only [rep]; omega
  rw [h1, h2]

def g1 (v : Nat) : Nat := (v / 2 &&& 85) + (v &&& 85)
def g2 (v : Nat) : Nat := (v / 4 &&& 51) + (v &&& 51)
def pop8 (v : Nat) : Nat := v % 2 + v / 2 % 2 + v / 4 % 2 + v / 8 % 2 + v / 16 % 2 + v / 32 % 2 + v / 64 % 2 + v / 128 % 2

theorem t1 : ∀ v : Fin 512, ((v.val / 2 % 256 &&& 85) + (v.val % 256 &&& 85)) = g1 (v.val % 256) := by decide +kernel
theorem t2 : ∀ v : Fin 1024, ((v.val / 4 % 256 &&& 51) + (v.val % 256 &&& 51)) = g2 (v.val % 256) := by decide +kernel
theorem g1_le : ∀ v : Fin 256, g1 v.val < 256 := by decide +kernel
theorem g2_le : ∀ v : Fin 256, g2 (g1 v.val) ≤ 68 ∧ g2 (g1 v.val) % 16 ≤ 4 := by decide +kernel
theorem t3 : ∀ v : Fin 256, ∀ z : Fin 5, (g2 (g1 v.val) / 16 + g2 (g1 v.val) + 16 * z.val &&& 15) = pop8 v.val := by decide +kernel

def s1 (n x : Nat) : Nat := (x / 2 &&& rep 85 n) + (x &&& rep 85 n)
def s2 (n x : Nat) : Nat := (x / 4 &&& rep 51 n) + (x &&& rep 51 n)
def s3 (n x : Nat) : Nat := (x / 16 + x) &&& rep 15 n

theorem s1_succ (n x : Nat) : s1 (n + 1) x = g1 (x % 256) + 256 * s1 n (x / 256) := by
  unfold s1
  rw [and_rep _ _ _ (by decide), and_rep _ _ _ (by decide)]
  have h := t1 ⟨x % 512, by omega⟩
  simp only at h
  have e1 : x % 512 / 2 % 256 = x / 2 % 256 := by omega
  have e2 : x % 512 % 256 = x % 256 := by omega
  rw [e1, e2] at h
  have e3 : x / 2 / 256 = x / 256 / 2 := by omega
  rw [e3]
  omega
theorem s2_succ (n x : Nat) : s2 (n + 1) x = g2 (x % 256) + 256 * s2 n (x / 256) := by
  unfold s2
  rw [and_rep _ _ _ (by decide), and_rep _ _ _ (by decide)]
  have h := t2 ⟨x % 1024, by omega⟩
  simp only at h
  have e1 : x % 1024 / 4 % 256 = x / 4 % 256 := by omega
  have e2 : x % 1024 % 256 = x % 256 := by omega
  rw [e1, e2] at h
  have e3 : x / 4 / 256 = x / 256 / 4 := by omega
  rw [e3]
  omega
theorem s1_div (n x : Nat) : s1 (n + 1) x % 256 = g1 (x % 256) ∧ s1 (n + 1) x / 256 = s1 n (x / 256) := by
  rw [s1_succ]
  have := g1_le ⟨x % 256, by omega⟩
  simp only at this
  omega
theorem s2_low (n x : Nat) : s2 n (s1 n x) % 16 ≤ 4 := by
  cases n with
  | zero => simp [s2, rep]
  | succ n =>
    obtain ⟨h1, h2⟩ := s1_div n x
    rw [s2_succ, h1]
    have := (g2_le ⟨x % 256, by omega⟩).2
    simp only at this
    omega
def sum3 (n x : Nat) : Nat := s3 n (s2 n (s1 n x))
theorem sum3_succ (n x : Nat) : sum3 (n + 1) x = pop8 (x % 256) + 256 * sum3 n (x / 256) := by
  unfold sum3
  obtain ⟨h1, h2⟩ := s1_div n x
  have e : s2 (n + 1) (s1 (n + 1) x) = g2 (g1 (x % 256)) + 256 * s2 n (s1 n (x / 256)) := by rw [s2_succ, h1, h2]
  rw [e]
  have hg := g2_le ⟨x % 256, by omega⟩
  simp only at hg
  have hz := s2_low n (x / 256)
  have ht := t3 ⟨x % 256, by omega⟩ ⟨s2 n (s1 n (x / 256)) % 16, by omega⟩
  simp only at ht
  generalize g2 (g1 (x % 256)) = a at *
  generalize s2 n (s1 n (x / 256)) = z at *
  unfold s3
  rw [and_rep _ _ _ (by decide)]
  have e1 : ((a + 256 * z) / 16 + (a + 256 * z)) % 256 = a / 16 + a + 16 * (z % 16) := by omega
  have e2 : ((a + 256 * z) / 16 + (a + 256 * z)) / 256 = z / 16 + z := by omega
  rw [e1, e2, ht]
theorem sum3_zero (x : Nat) : sum3 0 x = 0 := by simp [sum3, s3, rep]

/-- How many of the lowest n bits are set. -/
def cnt (n x : Nat) : Nat := (upto x n).length
theorem cnt_succ (n x : Nat) : cnt (n + 1) x = x % 2 + cnt n (x / 2) := by
  unfold cnt upto
  rw [List.range_succ_eq_map, List.filter_cons, List.filter_map]
  have e : (x.testBit ∘ Nat.succ) = (x / 2).testBit := by
    funext i
    simp [Nat.testBit_succ]
  rw [e]
  have h0 : x.testBit 0 = decide (x % 2 = 1) := Nat.testBit_zero x
  rw [h0]
  by_cases h : x % 2 = 1
  · simp [h]; omega
  · have : x % 2 = 0 := by omega
    simp [this]
theorem cnt_zero (x : Nat) : cnt 0 x = 0 := by simp [cnt, upto]
theorem cnt_8 (n x : Nat) : cnt (n + 8) x = pop8 (x % 256) + cnt n (x / 256) := by
  have e : x / 2 / 2 / 2 / 2 / 2 / 2 / 2 / 2 = x / 256 := by omega
  show cnt (n + 7 + 1) x = _
  rw [cnt_succ, show n + 7 = n + 6 + 1 from rfl, cnt_succ, show n + 6 = n + 5 + 1 from rfl, cnt_succ, show n + 5 = n + 4 + 1 from rfl, cnt_succ, show n + 4 = n + 3 + 1 from rfl, cnt_succ, show n + 3 = n + 2 + 1 from rfl, cnt_succ, show n + 2 = n + 1 + 1 from rfl, cnt_succ, cnt_succ, e]
  unfold pop8
  omega
theorem pop8_le (v : Nat) : pop8 v ≤ 8 := by unfold pop8; omega

/-- The digits of the sum, and how many there are. -/
theorem whole (x : Nat) : ∃ p0 p1 p2 p3 p4 p5 p6 p7 : Nat, p0 ≤ 8 ∧ p1 ≤ 8 ∧ p2 ≤ 8 ∧ p3 ≤ 8 ∧ p4 ≤ 8 ∧ p5 ≤ 8 ∧ p6 ≤ 8 ∧ p7 ≤ 8 ∧
    sum3 8 x = p0 + 256 * (p1 + 256 * (p2 + 256 * (p3 + 256 * (p4 + 256 * (p5 + 256 * (p6 + 256 * p7)))))) ∧ (elems x).length = p0 + p1 + p2 + p3 + p4 + p5 + p6 + p7 := by
  refine ⟨pop8 (x % 256), pop8 (x / 256 % 256), pop8 (x / 256 / 256 % 256), pop8 (x / 256 / 256 / 256 % 256), pop8 (x / 256 / 256 / 256 / 256 % 256), pop8 (x / 256 / 256 / 256 / 256 / 256 % 256), pop8 (x / 256 / 256 / 256 / 256 / 256 / 256 % 256), pop8 (x / 256 / 256 / 256 / 256 / 256 / 256 / 256 % 256),
    pop8_le _, pop8_le _, pop8_le _, pop8_le _, pop8_le _, pop8_le _, pop8_le _, pop8_le _, ?_, ?_⟩
  · simp only [sum3_succ, sum3_zero, Nat.mul_zero, Nat.add_zero]
  · show cnt 64 x = _
    rw [show 64 = 56 + 8 from rfl, cnt_8, show 56 = 48 + 8 from rfl, cnt_8, show 48 = 40 + 8 from rfl, cnt_8, show 40 = 32 + 8 from rfl, cnt_8, show 32 = 24 + 8 from rfl, cnt_8, show 24 = 16 + 8 from rfl, cnt_8, show 16 = 8 + 8 from rfl, cnt_8, show 8 = 0 + 8 from rfl, cnt_8, cnt_zero]
    omega
theorem r85 : rep 85 8 = 6148914691236517205 := by decide
theorem r51 : rep 51 8 = 3689348814741910323 := by decide
theorem r15 : rep 15 8 = 1085102592571150095 := by decide
end Pop

theorem ones_1 {b : Nat} (hb : b < 2 ^ 64) : IntKind.u64.wrap (bits BinOp.and IntKind.u64 ((b : Int) / 2) 6148914691236517205 + bits BinOp.and IntKind.u64 (b : Int) 6148914691236517205) = ((Pop.s1 8 b : Nat) : Int) ∧ Pop.s1 8 b < 2 ^ 64 := by
  have e2 : (b : Int) / 2 = ((b / 2 : Nat) : Int) := by omega
  have h1 := u64_and_nat (b / 2) 6148914691236517205 (by omega) (by decide)
  have h2 := u64_and_nat b 6148914691236517205 hb (by decide)
  have l1 : b / 2 &&& 6148914691236517205 ≤ 6148914691236517205 := Nat.and_le_right
  have l2 : b &&& 6148914691236517205 ≤ 6148914691236517205 := Nat.and_le_right
  have e : Pop.s1 8 b = (b / 2 &&& 6148914691236517205) + (b &&& 6148914691236517205) := by unfold Pop.s1; rw [Pop.r85]
  rw [e2]
  erw [h1, h2]
  rw [IntKind.wrap_u64, e]
  omega
theorem ones_2 {b : Nat} (hb : b < 2 ^ 64) : IntKind.u64.wrap (bits BinOp.and IntKind.u64 ((b : Int) / 4) 3689348814741910323 + bits BinOp.and IntKind.u64 (b : Int) 3689348814741910323) = ((Pop.s2 8 b : Nat) : Int) ∧ Pop.s2 8 b ≤ 7378697629483820646 := by
  have e2 : (b : Int) / 4 = ((b / 4 : Nat) : Int) := by omega
  have h1 := u64_and_nat (b / 4) 3689348814741910323 (by omega) (by decide)
  have h2 := u64_and_nat b 3689348814741910323 hb (by decide)
  have l1 : b / 4 &&& 3689348814741910323 ≤ 3689348814741910323 := Nat.and_le_right
  have l2 : b &&& 3689348814741910323 ≤ 3689348814741910323 := Nat.and_le_right
  have e : Pop.s2 8 b = (b / 4 &&& 3689348814741910323) + (b &&& 3689348814741910323) := by unfold Pop.s2; rw [Pop.r51]
  rw [e2]
  erw [h1, h2]
  rw [IntKind.wrap_u64, e]
  omega
theorem ones_3 {b : Nat} (hb : b ≤ 7378697629483820646) : bits BinOp.and IntKind.u64 (IntKind.u64.wrap ((b : Int) / 16 + (b : Int))) 1085102592571150095 = ((Pop.s3 8 b : Nat) : Int) := by
  have e2 : IntKind.u64.wrap ((b : Int) / 16 + (b : Int)) = ((b / 16 + b : Nat) : Int) := by rw [IntKind.wrap_u64]; omega
  have h1 := u64_and_nat (b / 16 + b) 1085102592571150095 (by omega) (by decide)
  have e : Pop.s3 8 b = (b / 16 + b) &&& 1085102592571150095 := by unfold Pop.s3; rw [Pop.r15]
  rw [e2, e]
  exact h1
theorem sh_8 {s lo t : Nat} (h : s = lo + 256 * t) (hl : lo < 256) (hb : s + t < 2 ^ 64) : IntKind.u64.wrap ((s : Int) + (s : Int) / 256) = ((s + t : Nat) : Int) := by
  rw [IntKind.wrap_u64]; omega
theorem sh_16 {s lo t : Nat} (h : s = lo + 65536 * t) (hl : lo < 65536) (hb : s + t < 2 ^ 64) : IntKind.u64.wrap ((s : Int) + (s : Int) / 65536) = ((s + t : Nat) : Int) := by
  rw [IntKind.wrap_u64]; omega
theorem sh_32 {s lo t : Nat} (h : s = lo + 4294967296 * t) (hl : lo < 4294967296) (hb : s + t < 2 ^ 64) : IntKind.u64.wrap ((s : Int) + (s : Int) / 4294967296) = ((s + t : Nat) : Int) := by
  rw [IntKind.wrap_u64]; omega
theorem mod_low {x lo t : Nat} (h : x = lo + 256 * t) (hl : lo < 128) : x % 128 = lo := by omega
theorem ones_4 {s p0 p1 p2 p3 p4 p5 p6 p7 : Nat} (h0 : p0 ≤ 8) (h1 : p1 ≤ 8) (h2 : p2 ≤ 8) (h3 : p3 ≤ 8) (h4 : p4 ≤ 8) (h5 : p5 ≤ 8) (h6 : p6 ≤ 8) (h7 : p7 ≤ 8)
    (hs : s = p0 + 256 * (p1 + 256 * (p2 + 256 * (p3 + 256 * (p4 + 256 * (p5 + 256 * (p6 + 256 * p7))))))) :
    ∃ x : Nat, IntKind.u64.wrap (IntKind.u64.wrap (IntKind.u64.wrap ((s : Int) + (s : Int) / 256) + IntKind.u64.wrap ((s : Int) + (s : Int) / 256) / 65536) + IntKind.u64.wrap (IntKind.u64.wrap ((s : Int) + (s : Int) / 256) + IntKind.u64.wrap ((s : Int) + (s : Int) / 256) / 65536) / 4294967296) = (x : Int) ∧ x < 2 ^ 63 ∧ x % 128 = p0 + p1 + p2 + p3 + p4 + p5 + p6 + p7 := by
  rw [sh_8 hs (by omega) (by omega)]
  have e1 : s + (p1 + 256 * (p2 + 256 * (p3 + 256 * (p4 + 256 * (p5 + 256 * (p6 + 256 * p7)))))) = (p0 + p1) + 256 * (p1 + p2) + 65536 * ((p2 + p3) + 256 * ((p3 + p4) + 256 * ((p4 + p5) + 256 * ((p5 + p6) + 256 * ((p6 + p7) + 256 * p7))))) := by omega
  rw [sh_16 e1 (by omega) (by omega)]
  have e2 : s + (p1 + 256 * (p2 + 256 * (p3 + 256 * (p4 + 256 * (p5 + 256 * (p6 + 256 * p7)))))) + ((p2 + p3) + 256 * ((p3 + p4) + 256 * ((p4 + p5) + 256 * ((p5 + p6) + 256 * ((p6 + p7) + 256 * p7))))) = (p0 + p1 + p2 + p3) + 256 * ((p1 + p2 + p3 + p4) + 256 * ((p2 + p3 + p4 + p5) + 256 * (p3 + p4 + p5 + p6))) + 4294967296 * ((p4 + p5 + p6 + p7) + 256 * ((p5 + p6 + p7) + 256 * ((p6 + p7) + 256 * p7))) := by omega
  rw [sh_32 e2 (by omega) (by omega)]
  refine ⟨_, rfl, by omega, ?_⟩
  refine mod_low (t := (p1 + p2 + p3 + p4) + 256 * ((p2 + p3 + p4 + p5) + 256 * (p3 + p4 + p5 + p6)) + 16777216 * ((p4 + p5 + p6 + p7) + 256 * ((p5 + p6 + p7) + 256 * ((p6 + p7) + 256 * p7))) + ((p5 + p6 + p7) + 256 * ((p6 + p7) + 256 * p7))) ?_ (by omega)
  omega
theorem and_127 {x : Nat} (h : x < 2 ^ 63) : bits BinOp.and IntKind.i64 (wrap64 (x : Int)) 127 = ((x % 128 : Nat) : Int) := by
  have e : wrap64 (x : Int) = (x : Int) := by unfold wrap64; omega
  rw [e]
  have ha : x &&& 127 = x % 128 := Nat.and_two_pow_sub_one_eq_mod x 7
  have hi : IntKind.i64.wrap ((x % 128 : Nat) : Int) = ((x % 128 : Nat) : Int) := by
    have h8 : x % 128 < 128 := Nat.mod_lt _ (by decide)
    generalize x % 128 = y at *
    simp only [IntKind.wrap, IntKind.signed, IntKind.bits]
    simp
    omega
  show IntKind.i64.wrap ((BitVec.ofInt 64 (x : Int) &&& BitVec.ofInt 64 ((127 : Nat) : Int)).toNat : Int) = _
  rw [BitVec.toNat_and, ofInt_u64 x (by omega), ofInt_u64 127 (by decide), ha, hi]

theorem ones_any (b : Nat) (w : World) (hb : b < 2 ^ 64) :
    Calls Tryd.prog 92 #[.int .u64 b] w fun e w' => e = .returned (.int .i64 ((elems b).length : Nat)) ∧ w = w' := by
  go_enter Tryd.func92, Tryd.ntmps92
  go_wp2
  go_ret
  refine ⟨ret_i64 ?_, rfl⟩
  obtain ⟨h1, l1⟩ := ones_1 hb
  obtain ⟨h2, l2⟩ := ones_2 l1
  have h3 := ones_3 l2
  rw [h1, h2, h3]
  obtain ⟨p0, p1, p2, p3, p4, p5, p6, p7, q0, q1, q2, q3, q4, q5, q6, q7, hs, hl⟩ := Pop.whole b
  obtain ⟨x, hx, hx1, hx2⟩ := ones_4 q0 q1 q2 q3 q4 q5 q6 q7 hs
  rw [hl, ← hx2, ← and_127 hx1, ← hx]
  rfl
theorem count_any (b : Nat) (w : World) (hb : b < 2 ^ 64) :
    Calls Tryd.prog 85 #[.int .u64 b] w fun e w' => e = .returned (.int .i64 ((elems b).length : Nat)) ∧ w = w' := by
  have H := Lib.hid hb
  clear hb
  go_enter Tryd.func85, Tryd.ntmps85
  go_wp2_with (go_at_call 92; refine (ones_any b _ H.out).mono ?_; rintro e w' ⟨rfl, rfl⟩)
  go_ret
  exact ⟨rfl, rfl⟩
end Go.Proofs.YtjmegicopdbkdaaDoor
