/- SP2: the scripts' plain law: words read (own work). -/
import Derived.Test.YtlaifpbickdpkaaDoorSP1
namespace Go.Proofs.YtlaifpbickdpkaaDoor
set_option linter.unusedVariables false
set_option linter.unusedSimpArgs false
open Go.Lib (decDigits itoa)

/-! ### numbers -/
def nstep (n : Int) (c : UInt8) : Int := 10 * n + (if (c.toNat : Int) - 48 < 0 then 0 else (c.toNat : Int) - 48)
def numV (w : List UInt8) : Int := (w.take 14).foldl nstep 0
theorem lim14 (t : List UInt8) : (if (14 : Int) < (t.length : Int) then (14 : Int) else (t.length : Int)) = ((t.take 14).length : Int) := by
  rw [List.length_take]; split <;> omega
theorem num_l1 (a : List (List UInt8)) (l5 : List Int) (x6 : Int) (t : List UInt8) (h5 : l5.length ≤ 1000) : ∀ (m j k : Nat) (n : Int), j + m = (t.take 14).length → 0 ≤ n → n + 23 ≤ 23 * 10 ^ j → m < k →
    script_numbers.l1 k a l5 x6 t n (j : Int) = script_numbers.l0 (k - (m + 1)) a (l5 ++ [((t.take 14).drop j).foldl nstep n]) (IntKind.i64.wrap (x6 + 1))
  | 0, j, k + 1, n, h, h0, hn, hk => by
    rw [script_numbers.l1, lim14, if_neg (by omega), if_pos (by simp; omega), List.drop_of_length_le (by omega)]; rfl
  | m + 1, j, k + 1, n, h, h0, hn, hk => by
    have hlt : j < (t.take 14).length := by omega
    have h14 : (t.take 14).length ≤ 14 := by rw [List.length_take]; omega
    have hlt' : j < t.length := by rw [List.length_take] at hlt; omega
    have hB : n ≤ 230000000000000 := by
      have h1 : (10 : Nat) ^ j ≤ 10 ^ 13 := Nat.pow_le_pow_right (by omega) (by omega)
      have h2 : (10 : Int) ^ j = ((10 ^ j : Nat) : Int) := by simp
      rw [h2] at hn
      generalize (10 : Nat) ^ j = P at h1 hn
      omega
    have hN : nstep n (t.take 14)[j] + 23 ≤ 23 * 10 ^ (j + 1) := by
      have h8 := (t.take 14)[j].toNat_lt
      rw [Int.pow_succ]
      generalize (10 : Int) ^ j = P at hn
      unfold nstep; split <;> omega
    have hb : t.getD j 0 = (t.take 14)[j] := by simp [List.getD, hlt']
    have h8 := (t.take 14)[j].toNat_lt
    have hs : IntKind.i64.wrap (IntKind.i64.wrap (10 * n) + (if IntKind.i64.wrap (IntKind.i64.wrap ((t.getD (Int.toNat (j : Int)) 0).toNat : Int) - 48) < 0 then 0 else IntKind.i64.wrap (IntKind.i64.wrap ((t.getD (Int.toNat (j : Int)) 0).toNat : Int) - 48))) = nstep n (t.take 14)[j] := by
      rw [Int.toNat_natCast, hb]
      unfold nstep
      generalize (t.take 14)[j].toNat = c at h8
      rw [wrapS (x := (c : Int)) (by omega) (by omega), wrapS (x := (c : Int) - 48) (by omega) (by omega), wrapS (x := 10 * n) (by omega) (by omega)]
      rw [wrapS (by split <;> omega) (by split <;> omega)]
    rw [script_numbers.l1, lim14, if_pos (by omega), if_pos (by omega), if_pos (by omega), hs, wrapS (by omega) (by omega), show (j : Int) + 1 = ((j + 1 : Nat) : Int) by omega,
      num_l1 a l5 x6 t h5 m (j + 1) k _ (by omega) (by unfold nstep; split <;> omega) hN (by omega), List.drop_eq_getElem_cons hlt, List.foldl_cons, show k + 1 - (m + 1 + 1) = k - (m + 1) by omega]
theorem num_l0 (a : List (List UInt8)) (ha : a.length ≤ 100) : ∀ (m j k : Nat) (acc : List Int), j + m = a.length → acc.length = j → 16 * m < k → script_numbers.l0 k a acc (j : Int) = some (acc ++ (a.drop j).map numV)
  | 0, j, k + 1, acc, h, hc, hk => by rw [script_numbers.l0, if_neg (by omega), List.drop_of_length_le (by omega)]; simp
  | m + 1, j, k + 1, acc, h, hc, hk => by
    have hlt : j < a.length := by omega
    have h14 : (a[j].take 14).length ≤ 14 := by rw [List.length_take]; omega
    rw [script_numbers.l0, if_pos (by omega), if_pos (by omega), Int.toNat_natCast, List.getElem?_eq_getElem hlt, Option.bind_some, show (0 : Int) = ((0 : Nat) : Int) from rfl,
      num_l1 a acc (j : Int) a[j] (by omega) (a[j].take 14).length 0 k _ (by omega) (by omega) (by simp) (by omega), wrapS (by omega) (by omega), show (j : Int) + 1 = ((j + 1 : Nat) : Int) by omega,
      num_l0 a ha m (j + 1) _ _ (by omega) (by simp; omega) (by omega), List.drop_eq_getElem_cons hlt, List.map_cons, List.drop_zero]
    simp [numV]
theorem numbers_ok (k : Nat) (a : List (List UInt8)) (ha : a.length ≤ 100) (hk : 1600 < k) : script_numbers.f k a = some (a.map numV) := by
  have := num_l0 a ha a.length 0 k [] (by omega) rfl (by omega)
  simpa [script_numbers.f] using this
theorem dec_len_lt : ∀ (m n : Nat), n < 10 ^ (m + 1) → (decDigits n).length ≤ m + 1
  | 0, n, h => by rw [Lib.decDigits_one (by omega)]; simp
  | m + 1, n, h => by
    by_cases h10 : n < 10
    · rw [Lib.decDigits_one h10]; simp
    · have := dec_len_lt m (n / 10) (by rw [Nat.pow_succ] at h; omega)
      rw [dec_big h10]; simp; omega
theorem dec_fold (n : Nat) : (decDigits n).foldl nstep 0 = (n : Int) := by
  induction n using Nat.strongRecOn with
  | _ n ih =>
    have key : ∀ m : Fin 10, nstep 0 (UInt8.ofNat (48 + m.val)) = (m.val : Int) := by decide
    have key2 : ∀ (x : Int) (m : Nat), m < 10 → nstep x (UInt8.ofNat (48 + m)) = 10 * x + (m : Int) := fun x m h => by
      have := key ⟨m, h⟩
      unfold nstep at this ⊢
      simp only at this
      omega
    by_cases h : n < 10
    · rw [Lib.decDigits_one h]
      show nstep 0 _ = _
      rw [key2 0 n h]; omega
    · rw [dec_big h, List.foldl_append, ih (n / 10) (by omega)]
      show nstep _ _ = _
      rw [key2 _ _ (Nat.mod_lt _ (by omega))]; omega
theorem numV_itoa (n : Int) (h : in40 n = true) : numV (itoa n) = n := by
  obtain ⟨h0, h1⟩ := in40_iff.1 h
  obtain ⟨u, rfl⟩ : ∃ u : Nat, n = (u : Int) := ⟨n.toNat, by omega⟩
  rw [Lib.itoa_nonneg]
  unfold numV
  rw [List.take_of_length_le (Nat.le_trans (dec_len_lt 13 u (Nat.lt_of_le_of_lt (show u ≤ 1099511627776 by omega) (by decide))) (by omega)), dec_fold]

/-! ### bytes -/
theorem hexS_at : ∀ (t : List UInt8) (i : Nat) (h : i < t.length), (hexS t).getD (2 * i) 0 = HD.getD (t[i].toNat / 16) 0 ∧ (hexS t).getD (2 * i + 1) 0 = HD.getD (t[i].toNat % 16) 0
  | b :: t, 0, h => by simp [hexS, hx]
  | b :: t, i + 1, h => by
    have := hexS_at t i (by simpa using h)
    rw [show hexS (b :: t) = HD.getD (b.toNat / 16) 0 :: HD.getD (b.toNat % 16) 0 :: hexS t from rfl, show 2 * (i + 1) = 2 * i + 1 + 1 by omega, List.getD_cons_succ, List.getD_cons_succ, List.getD_cons_succ, List.getD_cons_succ]
    exact this
theorem ix_HD : ∀ n : Fin 16, Lib.indexByte HD (HD.getD n.val 0) = (n.val : Int) := by decide
theorem ixb_bd (l : List UInt8) (c : UInt8) : -1 ≤ Lib.indexByte l c ∧ Lib.indexByte l c < (l.length : Int) := by
  induction l with
  | nil => exact ⟨by simp [Lib.indexByte], by simp [Lib.indexByte]⟩
  | cons b l ih =>
    unfold Lib.indexByte
    rw [List.length_cons]
    split
    · omega
    · split <;> omega
theorem ofInts_nat (t : List UInt8) : ofInts (t.map fun b => (b.toNat : Int)) = t := by
  induction t with
  | nil => rfl
  | cons b t ih =>
    simp only [ofInts, List.map_cons, List.map_map] at ih ⊢
    rw [ih]; simp
theorem By_loop (a : List UInt8) (ha : a.length ≤ 1000000) (he : a.length % 2 = 0) : ∀ (m i k : Nat) (xs : List Int), i + m = a.length / 2 → xs.length = a.length / 2 → m < k →
    ∃ r, octet_Bytes.l0 k a (i : Int) xs = some r ∧ ∀ t, a = hexS t → xs.take i = (t.take i).map (fun b => (b.toNat : Int)) → r = (t, 0)
  | 0, i, k + 1, xs, h, hx_, hk => by
    have e2 : Int.tdiv (a.length : Int) 2 = ((a.length / 2 : Nat) : Int) := rfl
    refine ⟨(ofInts xs, 0), by rw [octet_Bytes.l0, e2, wrapS (by omega) (by omega), Int.toNat_natCast, if_neg (by omega)], fun t ht hxs => ?_⟩
    have hl := hexS_len t
    rw [← ht] at hl
    rw [List.take_of_length_le (by omega), List.take_of_length_le (by omega)] at hxs
    rw [hxs, ofInts_nat]
  | m + 1, i, k + 1, xs, h, hx_, hk => by
    have e2 : Int.tdiv (a.length : Int) 2 = ((a.length / 2 : Nat) : Int) := rfl
    have w1 : IntKind.i64.wrap (2 * (i : Int)) = ((2 * i : Nat) : Int) := by rw [wrapS (by omega) (by omega)]; omega
    have w2 : IntKind.i64.wrap (((2 * i : Nat) : Int) + 1) = ((2 * i + 1 : Nat) : Int) := by rw [wrapS (by omega) (by omega)]; omega
    have bo : ∀ b : UInt8, byteOf (b.toNat : Int) = b := fun b => by simp [byteOf]
    rw [octet_Bytes.l0, e2, wrapS (x := ((a.length / 2 : Nat) : Int)) (by omega) (by omega), Int.toNat_natCast, w1, w2, Int.toNat_natCast, Int.toNat_natCast, if_pos (by omega), if_pos (by omega), if_pos (by omega)]
    unfold strings_IndexByte.f
    rw [bo, bo, Option.bind_some, if_pos (by omega), if_pos (by omega), Option.bind_some]
    have b1 := ixb_bd HD (a.getD (2 * i) 0)
    have b2 := ixb_bd HD (a.getD (2 * i + 1) 0)
    rw [show (HD.length : Int) = 16 from rfl] at b1 b2
    rw [show ([48, 49, 50, 51, 52, 53, 54, 55, 56, 57, 97, 98, 99, 100, 101, 102] : List UInt8) = HD from rfl]
    have hex : ∀ t, a = hexS t → ∃ h : i < t.length, Lib.indexByte HD (a.getD (2 * i) 0) = ((t[i].toNat / 16 : Nat) : Int) ∧ Lib.indexByte HD (a.getD (2 * i + 1) 0) = ((t[i].toNat % 16 : Nat) : Int) := fun t ht => by
      have hl := hexS_len t
      rw [← ht] at hl
      have hi : i < t.length := by omega
      have h8 := t[i].toNat_lt
      obtain ⟨q1, q2⟩ := hexS_at t i hi
      rw [ht, q1, q2]
      exact ⟨hi, ix_HD ⟨t[i].toNat / 16, by omega⟩, ix_HD ⟨t[i].toNat % 16, by omega⟩⟩
    by_cases hb : Lib.indexByte HD (a.getD (2 * i) 0) < 0 ∨ Lib.indexByte HD (a.getD (2 * i + 1) 0) < 0
    · rw [if_pos (by simpa using hb)]
      refine ⟨_, rfl, fun t ht _ => ?_⟩
      obtain ⟨_, q1, q2⟩ := hex t ht
      rw [q1, q2] at hb; omega
    · rw [if_neg (by simpa using hb), if_pos (by omega), wrapS (x := (i : Int) + 1) (by omega) (by omega), show (i : Int) + 1 = ((i + 1 : Nat) : Int) by omega]
      obtain ⟨r, hr, hp⟩ := By_loop a ha he m (i + 1) k (xs.set i (IntKind.u8.wrap (IntKind.i64.wrap (IntKind.i64.wrap (Lib.indexByte HD (a.getD (2 * i) 0) * 16) + Lib.indexByte HD (a.getD (2 * i + 1) 0))))) (by omega) (by simpa using hx_) (by omega)
      refine ⟨r, hr, fun t ht hxs => hp t ht ?_⟩
      obtain ⟨hi, q1, q2⟩ := hex t ht
      have h8 := t[i].toNat_lt
      rw [q1, q2]
      have ev : IntKind.u8.wrap (IntKind.i64.wrap (IntKind.i64.wrap (((t[i].toNat / 16 : Nat) : Int) * 16) + ((t[i].toNat % 16 : Nat) : Int))) = (t[i].toNat : Int) := by
        rw [wrapS (x := ((t[i].toNat / 16 : Nat) : Int) * 16) (by omega) (by omega), wrapS (by omega) (by omega)]
        simp [IntKind.wrap, IntKind.bits, IntKind.signed]; omega
      rw [ev, List.take_add_one, List.take_add_one, List.getElem?_eq_getElem hi, List.getElem?_set_self (by omega), List.take_set, List.set_eq_of_length_le (by simp; omega), hxs, List.map_append]
      rfl
theorem Bytes_ok (k : Nat) (a : List UInt8) (ha : a.length ≤ 1000000) (hk : a.length < k) : ∃ r, octet_Bytes.f k a = some r ∧ ∀ t, a = hexS t → r = (t, 0) := by
  unfold octet_Bytes.f
  have e1 : Int.tmod (a.length : Int) 2 = ((a.length % 2 : Nat) : Int) := rfl
  have e2 : Int.tdiv (a.length : Int) 2 = ((a.length / 2 : Nat) : Int) := rfl
  by_cases he : a.length % 2 = 0
  · rw [if_neg (by rw [e1, he]; simp), e2, wrapS (by omega) (by omega), if_pos (by omega), Int.toNat_natCast]
    obtain ⟨r, hr, hp⟩ := By_loop a ha he (a.length / 2) 0 k (List.replicate (a.length / 2) 0) (by omega) (by simp) (by omega)
    exact ⟨r, hr, fun t ht => hp t ht rfl⟩
  · rw [if_pos (by rw [e1]; simp; omega)]
    refine ⟨_, rfl, fun t ht => ?_⟩
    have hl := hexS_len t
    rw [← ht] at hl; omega
end Go.Proofs.YtlaifpbickdpkaaDoor
