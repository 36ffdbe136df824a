/- L2: CourierTexts: the plain law: texts that are bound, and taken apart (own work). -/
import Derived.Test.YtkfopceebbebjaaDoorL1
import Derived.Laws.Entries
namespace Go.Proofs.YtkfopceebbebjaaDoor
set_option linter.unusedVariables false
set_option linter.unusedSimpArgs false

/-! ### Whole -/
theorem or_step (x b i : Nat) (hx : x < 256 ^ i) (hb : b < 256) (hi : i < 8) :
    ibits .or .u64 (x : Int) (ishl .u64 (IntKind.u64.wrap (b : Int)) (8 * (i : Int))) = ((x + 256 ^ i * b : Nat) : Int) := by
  have hp : (256 : Nat) ^ i * 256 ≤ 256 ^ 8 := by rw [← Nat.pow_succ]; exact Nat.pow_le_pow_right (by decide) (by omega)
  have hle : 256 ^ i * b + 256 ^ i ≤ 256 ^ i * 256 := by
    have := Nat.mul_le_mul_left (256 ^ i) (show b + 1 ≤ 256 by omega)
    rw [Nat.mul_add] at this; omega
  have h64 : (256 : Nat) ^ 8 = 18446744073709551616 := by decide
  have hs : ishl .u64 (IntKind.u64.wrap (b : Int)) (8 * (i : Int)) = ((256 ^ i * b : Nat) : Int) := by
    unfold ishl
    have e : min (8 * (i : Int)).toNat IntKind.u64.bits = 8 * i := by
      have : (8 * (i : Int)).toNat = 8 * i := by omega
      rw [this]; simp [IntKind.bits]; omega
    rw [e, wrapUs (n := (b : Int)) (by omega) (by omega)]
    have e2 : (b : Int) * 2 ^ (8 * i) = ((256 ^ i * b : Nat) : Int) := by
      rw [← pow8, Int.natCast_mul, Int.natCast_pow, Int.mul_comm]; rfl
    rw [e2, wrapUs (by omega) (by omega)]
  rw [hs]
  have h64' : (2 : Nat) ^ 64 = 18446744073709551616 := by decide
  have hb2 := (bits_nat .u64 64 (by simp [IntKind.bits]) (fun n h0 h1 => wrapUs h0 (by omega)) x (256 ^ i * b) (by omega) (by omega)).2
  have hor : x ||| (256 ^ i * b) = x + 256 ^ i * b := by
    rw [Nat.or_comm, ← pow8]
    rw [← Nat.two_pow_add_eq_or_of_lt (by rw [pow8]; exact hx) b, Nat.add_comm]
  rw [hor] at hb2
  exact hb2
theorem whole_loop (s : List UInt8) (h8 : s.length ≤ 8) : ∀ (d i k : Nat), i + d = s.length → d < k → octet_Whole.l0 k s ((valB (s.take i) : Nat) : Int) (i : Int) = some ((valB s : Int), 0)
  | 0, i, k + 1, h1, h2 => by
    rw [octet_Whole.l0, if_neg (by omega), List.take_of_length_le (by omega)]
  | d + 1, i, k + 1, h1, h2 => by
    have hlt : i < s.length := by omega
    rw [octet_Whole.l0, if_pos (by omega), if_pos (by omega), if_pos (by omega), wrapS (by omega) (by omega), if_pos (by omega), wrapS (by omega) (by omega)]
    rw [show (i : Int) + 1 = ((i + 1 : Nat) : Int) by omega]
    have hx := valB_lt (s.take i)
    rw [List.length_take, Nat.min_eq_left (by omega)] at hx
    have hb : (s.getD (Int.toNat (i : Int)) 0).toNat < 256 := UInt8.toNat_lt _
    rw [or_step _ _ i hx hb (by omega)]
    have e : valB (s.take i) + 256 ^ i * (s.getD (Int.toNat (i : Int)) 0).toNat = valB (s.take (i + 1)) := by
      rw [List.take_succ_eq_append_getElem hlt, valB_append, List.length_take, Nat.min_eq_left (by omega)]
      simp [valB, List.getD, hlt]
    rw [e]
    exact whole_loop s h8 d (i + 1) k (by omega) (by omega)
theorem whole_ok (k : Nat) (s : List UInt8) (h8 : s.length ≤ 8) (hk : s.length < k) : octet_Whole.f k s = some ((valB s : Int), 0) := by
  unfold octet_Whole.f
  rw [if_neg (by omega)]
  exact whole_loop s h8 s.length 0 k (by omega) hk

/-! ### Bind -/
def bindS : List (List UInt8) → List UInt8
  | [] => []
  | p :: r => leB p.length 2 ++ p ++ bindS r
theorem bind_loop (ps : List (List UInt8)) (hps : ∀ p ∈ ps, p.length ≤ 4096) (hpl : ps.length ≤ 64) : ∀ (d i k : Nat) (acc : List UInt8), i + d = ps.length → d + 5 ≤ k → acc.length + d * 4098 ≤ 140737488355328 →
    octet_Bind.l0 k ps (i : Int) acc = some (acc ++ bindS (ps.drop i), 0)
  | 0, i, k + 1, acc, h1, h2, h3 => by
    rw [octet_Bind.l0, if_neg (by omega), List.drop_of_length_le (by omega)]
    simp [bindS]
  | d + 1, i, k + 1, acc, h1, h2, h3 => by
    have hlt : i < ps.length := by omega
    have hp := hps _ (List.getElem_mem hlt)
    rw [octet_Bind.l0, if_pos (by omega), if_pos (by omega), Int.toNat_natCast, List.getElem?_eq_getElem hlt, Option.bind_some, if_neg (by omega), wrapUs (by omega) (by omega)]
    rw [show (octet_Wide.f k (ps[i].length : Int) 2) = some (leB ps[i].length 2, 0) from wide_ok k ps[i].length 2 (by omega) (by omega) (by omega), Option.bind_some]
    have hl := leB_len ps[i].length 2
    rw [if_pos (by simp only [hl]; omega), if_pos (by simp only [List.length_append, hl]; omega), wrapS (by omega) (by omega), show (i : Int) + 1 = ((i + 1 : Nat) : Int) by omega]
    rw [bind_loop ps hps hpl d (i + 1) k _ (by omega) (by omega) (by simp only [List.length_append, hl]; omega)]
    rw [List.drop_eq_getElem_cons hlt]
    simp [bindS]
theorem bind_ok (k : Nat) (ps : List (List UInt8)) (hps : ∀ p ∈ ps, p.length ≤ 4096) (hl : ps.length ≤ 64) (hk : ps.length + 5 ≤ k) : octet_Bind.f k ps = some (bindS ps, 0) := by
  unfold octet_Bind.f
  rw [if_neg (by omega)]
  have := bind_loop ps hps hl ps.length 0 k [] (by omega) hk (by simp; omega)
  simpa using this
theorem refbind_loop (ps : List (List UInt8)) (hps : ∀ p ∈ ps, p.length ≤ 4096) (hpl : ps.length ≤ 64) : ∀ (d i k : Nat) (acc : List UInt8), i + d = ps.length → d + 5 ≤ k → acc.length + d * 4098 ≤ 140737488355328 →
    consignorref01_Bind.l0 k ps acc (i : Int) = some (acc ++ bindS (ps.drop i))
  | 0, i, k + 1, acc, h1, h2, h3 => by
    rw [consignorref01_Bind.l0, if_neg (by omega), List.drop_of_length_le (by omega)]
    simp [bindS]
  | d + 1, i, k + 1, acc, h1, h2, h3 => by
    have hlt : i < ps.length := by omega
    have hp := hps _ (List.getElem_mem hlt)
    rw [consignorref01_Bind.l0, if_pos (by omega), if_pos (by omega), Int.toNat_natCast, List.getElem?_eq_getElem hlt, Option.bind_some, wrapUs (by omega) (by omega)]
    rw [show (consignorref01_Wide.f k (ps[i].length : Int) 2) = some (leB ps[i].length 2) from refwide_ok k ps[i].length 2 (by omega) (by omega) (by omega), Option.bind_some]
    have hl := leB_len ps[i].length 2
    rw [if_pos (by simp only [hl]; omega), if_pos (by simp only [List.length_append, hl]; omega), wrapS (by omega) (by omega), show (i : Int) + 1 = ((i + 1 : Nat) : Int) by omega]
    rw [refbind_loop ps hps hpl d (i + 1) k _ (by omega) (by omega) (by simp only [List.length_append, hl]; omega)]
    rw [List.drop_eq_getElem_cons hlt]
    simp [bindS]
theorem refbind_ok (k : Nat) (ps : List (List UInt8)) (hps : ∀ p ∈ ps, p.length ≤ 4096) (hl : ps.length ≤ 64) (hk : ps.length + 5 ≤ k) : consignorref01_Bind.f k ps = some (bindS ps) := by
  unfold consignorref01_Bind.f
  have := refbind_loop ps hps hl ps.length 0 k [] (by omega) hk (by simp; omega)
  simpa using this

/-! ### take and Loose -/
def takeS (s : List UInt8) (no : Int) : List UInt8 × List UInt8 × Dy :=
  if s.length < 2 then ([], [], eAt no 3)
  else if 4096 < valB (s.take 2) ∨ 64 < no then ([], [], eAt no 2)
  else if (s.drop 2).length < valB (s.take 2) then ([], [], eAt no 3)
  else ((s.drop 2).take (valB (s.take 2)), (s.drop 2).drop (valB (s.take 2)), .nil)
theorem take_ok (k : Nat) (s : List UInt8) (no : Int) (hs : s.length ≤ 1000000) (hk : 4 ≤ k) : octet_take.f k s no = some (takeS s no) := by
  unfold octet_take.f takeS
  have e0 : ∀ {α : Type} (l : List α), l.take (Int.toNat (l.length : Int)) = l := fun l => by rw [Int.toNat_natCast, List.take_length]
  by_cases h2 : s.length < 2
  · rw [if_pos (by omega), if_pos h2]; rfl
  · have e1 : (s.take (Int.toNat 2)).drop (Int.toNat 0) = s.take 2 := rfl
    have e2 : Int.toNat 2 = 2 := rfl
    have hw := whole_ok k (s.take 2) (by simp; omega) (by simp; omega)
    rw [if_neg (by omega), if_neg h2, if_pos (by omega), if_pos (by omega), e1, hw, Option.bind_some, if_pos (by omega)]
    by_cases h3 : 4096 < valB (s.take 2) ∨ 64 < no
    · rw [if_pos (by simp only [Bool.or_eq_true, decide_eq_true_eq]; omega), if_pos h3]; rfl
    · rw [if_neg (by simp only [Bool.or_eq_true, decide_eq_true_eq]; omega), if_neg h3]
      simp only [e2, Int.toNat_natCast, List.take_length]
      rw [wrapUs (by omega) (by simp; omega)]
      by_cases h4 : (s.drop 2).length < valB (s.take 2)
      · rw [if_pos (by omega), if_pos h4]; rfl
      · rw [if_neg (by omega), if_neg h4, if_pos (by omega), if_pos (by omega), if_pos (by omega), if_pos (by omega)]; rfl
theorem takeS_cases (s : List UInt8) (no : Int) : (∃ n, takeS s no = ([], [], eAt no n) ∧ (n = 3 ∨ n = 2)) ∨ ∃ p r, takeS s no = (p, r, .nil) ∧ r.length + 2 ≤ s.length := by
  unfold takeS
  split
  · exact .inl ⟨3, rfl, .inl rfl⟩
  · split
    · exact .inl ⟨2, rfl, .inr rfl⟩
    · split
      · exact .inl ⟨3, rfl, .inl rfl⟩
      · exact .inr ⟨_, _, rfl, by simp; omega⟩
theorem takeS_bind (p r : List UInt8) (no : Int) (hp : p.length ≤ 4096) (hn : no ≤ 64) : takeS (leB p.length 2 ++ p ++ r) no = (p, r, .nil) := by
  have hl := leB_len p.length 2
  have e1 : (leB p.length 2 ++ p ++ r).take 2 = leB p.length 2 := by
    rw [List.append_assoc, List.take_append_of_le_length (by omega), List.take_of_length_le (by omega)]
  have e2 : (leB p.length 2 ++ p ++ r).drop 2 = p ++ r := by
    rw [List.append_assoc, List.drop_append_of_le_length (by omega), List.drop_of_length_le (by omega), List.nil_append]
  have e3 : valB (leB p.length 2) = p.length := by rw [valB_leB]; omega
  unfold takeS
  rw [e1, e2, e3, if_neg (by simp [hl]), if_neg (by omega), if_neg (by simp)]
  simp
theorem eNum_ok (k : Nat) (no n : Int) (h : n = 3 ∨ n = 2) : octet_number.f k (eAt no n) = some n := by
  rcases h with rfl | rfl <;> simp [octet_number.f, eNum2, eNum3]
theorem loose_total : ∀ (n k : Nat) (s : List UInt8) (acc : List (List UInt8)), s.length ≤ n → n + 5 ≤ k → acc.length + s.length ≤ 1000000 → ∃ r, octet_Loose.l0 k s acc = some r
  | n, k + 1, s, acc, h1, h2, h3 => by
    rw [octet_Loose.l0]
    by_cases hs : s = []
    · exact ⟨_, by rw [if_pos (by simp [hs])]⟩
    · rw [if_neg (by simpa using hs)]
      rw [take_ok k s _ (by omega) (by omega), Option.bind_some]
      rcases takeS_cases s (IntKind.i64.wrap ((acc.length : Int) + 1)) with ⟨e, he, hn⟩ | ⟨p, r, he, hr⟩
      · rw [he]
        refine ⟨([], e), ?_⟩
        rw [if_neg (by simp [Dy.isNil])]
        simp only [eNum_ok _ _ _ hn, Option.bind_some]
      · rw [he, if_pos (show Dy.isNil Dy.nil = true from rfl), if_pos (by simp; omega)]
        match n, h1, h2 with
        | 0, h1, h2 => exact absurd (List.eq_nil_of_length_eq_zero (by omega)) hs
        | n + 1, h1, h2 => exact loose_total n k r _ (by omega) (by omega) (by simp; omega)
theorem bindS_len (ps : List (List UInt8)) (h : ∀ p ∈ ps, p.length ≤ 4096) : (bindS ps).length ≤ ps.length * 4098 := by
  induction ps with
  | nil => simp [bindS]
  | cons p r ih =>
    have h1 := h p (by simp)
    have h2 := ih (fun q hq => h q (by simp [hq]))
    simp only [bindS, List.length_append, List.length_cons, leB_len]
    omega
theorem loose_bind : ∀ (ps : List (List UInt8)) (k : Nat) (acc : List (List UInt8)), (∀ p ∈ ps, p.length ≤ 4096) → ps.length + 5 ≤ k → acc.length + ps.length ≤ 64 → octet_Loose.l0 k (bindS ps) acc = some (acc ++ ps, 0)
  | [], k + 1, acc, h1, h2, h3 => by
    rw [octet_Loose.l0, if_pos (by simp [bindS])]; simp
  | p :: ps, k + 1, acc, h1, h2, h3 => by
    simp only [List.length_cons] at h2 h3
    have hb := bindS_len (p :: ps) h1
    simp only [List.length_cons] at hb
    rw [octet_Loose.l0, if_neg (by simp [bindS, leB]), take_ok k _ _ (by omega) (by omega), Option.bind_some]
    have hp := h1 p (by simp)
    rw [wrapS (by omega) (by omega)]
    rw [show takeS (bindS (p :: ps)) ((acc.length : Int) + 1) = (p, bindS ps, .nil) from takeS_bind p (bindS ps) _ hp (by omega)]
    rw [if_pos (show Dy.isNil Dy.nil = true from rfl), if_pos (by simp; omega)]
    rw [loose_bind ps k _ (fun q hq => h1 q (by simp [hq])) (by omega) (by simp; omega)]
    simp
end Go.Proofs.YtkfopceebbebjaaDoor
