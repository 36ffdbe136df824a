/- L1: CourierTexts: the plain law: numbers in bytes (own work). -/
import Derived.Test.YtkfopceebbebjaaDoorT2
import Derived.Laws.BitsLemmas
namespace Go.Proofs.YtkfopceebbebjaaDoor
set_option linter.unusedVariables false
set_option linter.unusedSimpArgs false

theorem wrapS {x : Int} (h1 : -9223372036854775808 ≤ x) (h2 : x ≤ 9223372036854775807) : IntKind.i64.wrap x = x := by rw [IntKind.wrap_i64]; omega
theorem wrapU (n : Int) : IntKind.u64.wrap n = n % 18446744073709551616 := by simp [IntKind.wrap, IntKind.bits, IntKind.signed]
theorem wrapUs {n : Int} (h0 : 0 ≤ n) (h1 : n < 18446744073709551616) : IntKind.u64.wrap n = n := by rw [wrapU]; omega
/-- A number in so many bytes, the least first; and back. -/
def leB : Nat → Nat → List UInt8
  | _, 0 => []
  | n, m + 1 => UInt8.ofNat (n % 256) :: leB (n / 256) m
def valB : List UInt8 → Nat
  | [] => 0
  | b :: r => b.toNat + 256 * valB r
theorem leB_len (n m : Nat) : (leB n m).length = m := by
  induction m generalizing n with
  | zero => rfl
  | succ m ih => simp [leB, ih]
theorem valB_leB (n m : Nat) : valB (leB n m) = n % 256 ^ m := by
  induction m generalizing n with
  | zero => simp [leB, valB, Nat.mod_one]
  | succ m ih =>
    simp only [leB, valB, ih]
    rw [Nat.pow_succ, Nat.mul_comm (256 ^ m) 256, Nat.mod_mul]
    have : (UInt8.ofNat (n % 256)).toNat = n % 256 := by simp
    rw [this]
theorem valB_lt (l : List UInt8) : valB l < 256 ^ l.length := by
  induction l with
  | nil => simp [valB]
  | cons b r ih =>
    simp only [valB, List.length_cons, Nat.pow_succ]
    have := b.toNat_lt
    omega
theorem valB_append (a b : List UInt8) : valB (a ++ b) = valB a + 256 ^ a.length * valB b := by
  induction a with
  | nil => simp [valB]
  | cons x a ih =>
    simp only [List.cons_append, valB, ih, List.length_cons, Nat.pow_succ, Nat.mul_add]
    rw [Nat.mul_comm (256 ^ a.length) 256, Nat.mul_assoc]; omega
theorem leB_snoc (n m : Nat) : leB n (m + 1) = leB n m ++ [UInt8.ofNat (n / 256 ^ m % 256)] := by
  induction m generalizing n with
  | zero => simp [leB]
  | succ m ih =>
    rw [leB, ih (n / 256)]
    simp only [leB, List.cons_append]
    rw [Nat.div_div_eq_div_mul, Nat.pow_succ, Nat.mul_comm 256]
theorem leB_mod (n m : Nat) : leB (n % 256 ^ m) m = leB n m := by
  induction m generalizing n with
  | zero => rfl
  | succ m ih =>
    simp only [leB]
    have e1 : n % 256 ^ (m + 1) % 256 = n % 256 := Nat.mod_mod_of_dvd _ ⟨256 ^ m, by rw [Nat.pow_succ, Nat.mul_comm]⟩
    have e2 : n % 256 ^ (m + 1) / 256 = n / 256 % 256 ^ m := by rw [Nat.pow_succ, Nat.mul_comm, Nat.mod_mul_right_div_self]
    rw [e1, e2, ih]
theorem pow8 (i : Nat) : (2 : Nat) ^ (8 * i) = 256 ^ i := by rw [Nat.pow_mul]

/-! ### the program's Wide -/
theorem ishr_u64 (n i : Nat) (hi : i ≤ 8) : ishr .u64 (n : Int) (8 * (i : Int)) = ((n / 256 ^ i : Nat) : Int) := by
  unfold ishr
  have e : min (8 * (i : Int)).toNat IntKind.u64.bits = 8 * i := by
    have : (8 * (i : Int)).toNat = 8 * i := by omega
    rw [this]; simp [IntKind.bits]; omega
  rw [e, Int.fdiv_eq_ediv_of_nonneg _ (by exact Int.le_of_lt (Int.pow_pos (by decide)))]
  rw [← pow8, Int.natCast_ediv, Int.natCast_pow]
  rfl
theorem wide_loop (n m : Nat) (hm : m ≤ 8) : ∀ (d i k : Nat) (xs : List Int), i + d = m → xs.length = i → d < k → ofInts xs = leB n i →
    octet_Wide.l1 k (n : Int) (m : Int) (i : Int) (xs ++ List.replicate d 0) = some (leB n m, 0)
  | 0, i, k + 1, xs, h1, h2, h3, h4 => by
    have : i = m := by omega
    subst this
    rw [octet_Wide.l1, if_neg (by simp)]
    simp [h4]
  | d + 1, i, k + 1, xs, h1, h2, h3, h4 => by
    rw [octet_Wide.l1, if_pos (by simp; omega), wrapS (by omega) (by omega), if_pos (by omega), if_pos (by simp; omega), wrapS (by omega) (by omega), ishr_u64 n i (by omega)]
    rw [show (i : Int) + 1 = ((i + 1 : Nat) : Int) by omega]
    have e : (xs ++ List.replicate (d + 1) 0).set (Int.toNat (i : Int)) (IntKind.u8.wrap ((n / 256 ^ i : Nat) : Int)) = (xs ++ [IntKind.u8.wrap ((n / 256 ^ i : Nat) : Int)]) ++ List.replicate d 0 := by
      rw [Int.toNat_natCast, List.set_append_right _ _ (by omega), h2, Nat.sub_self, List.replicate_succ, List.set_cons_zero, List.append_assoc]; rfl
    rw [e]
    refine wide_loop n m hm d (i + 1) k _ (by omega) (by simp [h2]) (by omega) ?_
    rw [leB_snoc, ← h4]
    unfold ofInts
    rw [List.map_append, IntKind.wrap_u8]
    congr 1
theorem wide_ok (k n m : Nat) (hm : m ≤ 8) (hn : n < 256 ^ m) (hk : m + 2 ≤ k) : octet_Wide.f k (n : Int) (m : Int) = some (leB n m, 0) := by
  obtain ⟨k, rfl⟩ : ∃ j, k = j + 1 := ⟨k - 1, by omega⟩
  have hl := wide_loop n m hm m 0 k [] (by omega) rfl (by omega) rfl
  have e : List.replicate (Int.toNat (m : Int)) (0 : Int) = [] ++ List.replicate m 0 := by simp
  have j0 : octet_Wide.j0 (k + 1) (n : Int) (m : Int) false = some (leB n m, 0) := by
    rw [octet_Wide.j0, if_neg (by simp), if_pos ⟨by omega, by omega, by omega⟩, e]
    exact hl
  unfold octet_Wide.f
  rw [if_neg (by simp; omega)]
  by_cases h8 : (m : Int) < 8
  · rw [if_pos h8, wrapS (by omega) (by omega), if_pos (by omega), ishr_u64 n m hm, Nat.div_eq_of_lt hn]
    exact j0
  · rw [if_neg h8]; exact j0
/-- A number's text. -/
def num (n : Int) : List UInt8 := leB n.toNat 8
theorem number_ok {k : Nat} {n : Int} (h0 : 0 ≤ n) (h1 : n ≤ 1099511627776) (hk : 10 ≤ k) : courier_number.f k n = some (num n) := by
  unfold courier_number.f num
  rw [wrapUs h0 (by omega)]
  have := wide_ok k n.toNat 8 (by omega) (by omega) (by omega)
  rw [show ((n.toNat : Nat) : Int) = n by omega] at this
  show (octet_Wide.f k n ((8 : Nat) : Int)).bind _ = _
  rw [this]
  rfl
/-! ### the reference's -/
theorem refwide_loop (m : Nat) (hm : m ≤ 8) : ∀ (d i k n : Nat) (xs : List Int), i + d = m → xs.length = i → d < k → n < 18446744073709551616 →
    consignorref01_Wide.l0 k (m : Int) (n : Int) xs (i : Int) = some (ofInts xs ++ leB n d)
  | 0, i, k + 1, n, xs, h1, h2, h3, h4 => by
    rw [consignorref01_Wide.l0, if_neg (by omega)]
    simp [leB]
  | d + 1, i, k + 1, n, xs, h1, h2, h3, h4 => by
    rw [consignorref01_Wide.l0, if_pos (by omega), if_pos (by simp; omega), wrapS (by omega) (by omega)]
    rw [show (i : Int) + 1 = ((i + 1 : Nat) : Int) by omega]
    have e1 : IntKind.u64.wrap (Int.tdiv (n : Int) 256) = ((n / 256 : Nat) : Int) := by
      rw [Int.tdiv_eq_ediv_of_nonneg (by omega), wrapUs (by omega) (by omega)]; omega
    have e2 : IntKind.u8.wrap (Int.tmod (n : Int) 256) = ((n % 256 : Nat) : Int) := by
      rw [Int.tmod_eq_emod_of_nonneg (by omega), IntKind.wrap_u8]; omega
    rw [e1, e2, refwide_loop m hm d (i + 1) k (n / 256) _ (by omega) (by simp [h2]) (by omega) (by omega)]
    simp only [ofInts, leB, List.map_append, List.map_cons, List.map_nil, List.append_assoc, List.singleton_append, Int.toNat_natCast]
theorem refwide_ok (k n m : Nat) (hm : m ≤ 8) (hn : n < 18446744073709551616) (hk : m + 1 ≤ k) : consignorref01_Wide.f k (n : Int) (m : Int) = some (leB n m) := by
  have := refwide_loop m hm m 0 k n [] (by omega) rfl (by omega) hn
  simpa [consignorref01_Wide.f, ofInts] using this
theorem refnum_ok {k : Nat} {n : Int} (h0 : 0 ≤ n) (h1 : n ≤ 1099511627776) (hk : 10 ≤ k) : consignorref21_wide.f k n = some (num n) := by
  unfold consignorref21_wide.f num
  rw [wrapUs h0 (by omega)]
  have := refwide_ok k n.toNat 8 (by omega) (by omega) (by omega)
  rw [show ((n.toNat : Nat) : Int) = n by omega] at this
  show (consignorref01_Wide.f k n ((8 : Nat) : Int)).bind _ = _
  rw [this]
  rfl
end Go.Proofs.YtkfopceebbebjaaDoor
