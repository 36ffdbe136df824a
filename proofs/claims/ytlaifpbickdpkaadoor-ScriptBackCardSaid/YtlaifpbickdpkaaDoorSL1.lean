/- SL1: the scripts' plain law: what is cut, and which plans may be (own work). -/
import Derived.Test.YtlaifpbickdpkaaDoorT3
import Derived.Laws.BitsLemmas
namespace Go.Proofs.YtlaifpbickdpkaaDoor
set_option linter.unusedVariables false
set_option linter.unusedSimpArgs false

theorem wrapS {x : Int} (h1 : -9223372036854775808 ≤ x) (h2 : x ≤ 9223372036854775807) : IntKind.i64.wrap x = x := by rw [IntKind.wrap_i64]; omega
theorem i64ok_iff {x : Int} : i64ok x ↔ -9223372036854775808 ≤ x ∧ x ≤ 9223372036854775807 := by
  unfold i64ok
  simp [Lit.wf, IntKind.min, IntKind.max, IntKind.bits, IntKind.signed]
  try omega
theorem cutI {α : Type} (l : List α) (n : Int) (h : 0 ≤ n) : (l.take (Int.toNat (if n < (l.length : Int) then n else (l.length : Int)))).drop (Int.toNat 0) = l.take n.toNat := by
  rw [show Int.toNat 0 = 0 from rfl, List.drop_zero]
  split
  · rfl
  · rw [Int.toNat_natCast, List.take_length, List.take_of_length_le (by omega)]
theorem cut01 {α : Type} (l : List α) (n : Int) (h : 0 ≤ n) : (0 : Int) ≤ (if n < (l.length : Int) then n else (l.length : Int)) := by split <;> omega
theorem cut02 {α : Type} (l : List α) (n : Int) : (if n < (l.length : Int) then n else (l.length : Int)) ≤ (l.length : Int) := by split <;> omega

/-! ### few -/
def cutT (s : List UInt8) : List UInt8 := s.take 1002
def fewD (d : ApiDeed) : ApiDeed := ⟨d.Kind, d.Nums.take 9, (d.Texts.take 6).map cutT⟩
def fewP (p : ApiPlan) (n : Nat) : ApiPlan := ⟨p.Quota, p.Sectors, (p.Deeds.take n).map fewD⟩
theorem few_l2 (a0 : ApiPlan) (a1 x40 x41 x42 : Int) (l44 : List ApiDeed) (x45 x46 : Int) (l48 : List ApiDeed) (t : ApiDeed) (l137 : List Int) (h48 : l48.length ≤ 1000) :
    ∀ (m j k : Nat) (acc : List (List UInt8)), j + m = (t.Texts.take 6).length → acc.length = j → m < k →
      consignorlaw20_few.l2 k a0 a1 x40 x41 x42 l44 x45 x46 l48 t l137 (j : Int) acc = consignorlaw20_few.l0 (k - (m + 1)) a0 a1 (IntKind.i64.wrap (x40 + 1)) x41 x42 l44 x45 x46 (l48 ++ [⟨t.Kind, l137, acc ++ ((t.Texts.take 6).drop j).map cutT⟩])
  | 0, j, k + 1, acc, h, ha, hk => by
    rw [consignorlaw20_few.l2, cutI _ 6 (by omega), show Int.toNat 6 = 6 from rfl, if_neg (by omega), if_pos (by simp; omega), List.drop_of_length_le (by omega)]
    simp
  | m + 1, j, k + 1, acc, h, ha, hk => by
    have hlt : j < (t.Texts.take 6).length := by omega
    have h6 : (t.Texts.take 6).length ≤ 6 := by simp; omega
    rw [consignorlaw20_few.l2, cutI _ 6 (by omega), show Int.toNat 6 = 6 from rfl, if_pos (by omega), if_pos (by omega), Int.toNat_natCast, List.getElem?_eq_getElem hlt, Option.bind_some,
      if_pos (cut01 _ 1002 (by omega)), if_pos (cut02 _ 1002), cutI _ 1002 (by omega), show Int.toNat 1002 = 1002 from rfl, if_pos (by simp; omega), wrapS (by omega) (by omega), show (j : Int) + 1 = ((j + 1 : Nat) : Int) by omega,
      few_l2 a0 a1 x40 x41 x42 l44 x45 x46 l48 t l137 h48 m (j + 1) k _ (by omega) (by simp; omega) (by omega)]
    rw [List.drop_eq_getElem_cons hlt, show k + 1 - (m + 1 + 1) = k - (m + 1) by omega]
    simp [cutT]
theorem few_l1 (a0 : ApiPlan) (a1 x40 x41 x42 : Int) (l44 : List ApiDeed) (x45 x46 : Int) (l48 : List ApiDeed) (t : ApiDeed) (h48 : l48.length ≤ 1000) :
    ∀ (m j k : Nat) (acc : List Int), j + m = (t.Nums.take 9).length → acc.length = j → m + 8 < k →
      consignorlaw20_few.l1 k a0 a1 x40 x41 x42 l44 x45 x46 l48 t (j : Int) acc = consignorlaw20_few.l0 (k - (m + 1) - ((t.Texts.take 6).length + 1)) a0 a1 (IntKind.i64.wrap (x40 + 1)) x41 x42 l44 x45 x46 (l48 ++ [⟨t.Kind, acc ++ (t.Nums.take 9).drop j, (t.Texts.take 6).map cutT⟩])
  | 0, j, k + 1, acc, h, ha, hk => by
    have h6 : (t.Texts.take 6).length ≤ 6 := by simp; omega
    rw [consignorlaw20_few.l1, cutI _ 9 (by omega), show Int.toNat 9 = 9 from rfl, if_neg (by omega), if_pos (cut01 _ 6 (by omega)), if_pos (cut02 _ 6), show (0 : Int) = ((0 : Nat) : Int) from rfl,
      few_l2 a0 a1 x40 x41 x42 l44 x45 x46 l48 t acc h48 (t.Texts.take 6).length 0 k [] (by omega) rfl (by omega), show (t.Nums.take 9).drop j = [] from List.drop_of_length_le (by omega), List.drop_zero, List.append_nil, List.nil_append]
    rfl
  | m + 1, j, k + 1, acc, h, ha, hk => by
    have hlt : j < (t.Nums.take 9).length := by omega
    have h6 : (t.Nums.take 9).length ≤ 9 := by simp; omega
    rw [consignorlaw20_few.l1, cutI _ 9 (by omega), show Int.toNat 9 = 9 from rfl, if_pos (by omega), if_pos (by omega), Int.toNat_natCast, List.getElem?_eq_getElem hlt, Option.bind_some,
      if_pos (by simp; omega), wrapS (by omega) (by omega), show (j : Int) + 1 = ((j + 1 : Nat) : Int) by omega,
      few_l1 a0 a1 x40 x41 x42 l44 x45 x46 l48 t h48 m (j + 1) k _ (by omega) (by simp; omega) (by omega)]
    rw [List.drop_eq_getElem_cons hlt, show k + 1 - (m + 1 + 1) = k - (m + 1) by omega]
    simp
theorem few_l0 (a0 : ApiPlan) (n : Nat) (hn : n ≤ 1000) (x41 x42 : Int) (l44 : List ApiDeed) :
    ∀ (m j k : Nat) (acc : List ApiDeed), j + m = (a0.Deeds.take n).length → acc.length = j → 18 * m < k →
      consignorlaw20_few.l0 k a0 (n : Int) (j : Int) x41 x42 l44 a0.Quota a0.Sectors acc = some ⟨a0.Quota, a0.Sectors, acc ++ ((a0.Deeds.take n).drop j).map fewD⟩
  | 0, j, k + 1, acc, h, ha, hk => by
    rw [consignorlaw20_few.l0, cutI _ _ (by omega), Int.toNat_natCast, if_neg (by omega), List.drop_of_length_le (by omega)]
    simp
  | m + 1, j, k + 1, acc, h, ha, hk => by
    have hlt : j < (a0.Deeds.take n).length := by omega
    have hle : (a0.Deeds.take n).length ≤ n := by simp; omega
    rw [consignorlaw20_few.l0, cutI _ _ (by omega), Int.toNat_natCast, if_pos (by omega), if_pos (by omega), Int.toNat_natCast, List.getElem?_eq_getElem hlt, Option.bind_some]
    have h9 : ((a0.Deeds.take n)[j].Nums.take 9).length ≤ 9 := by rw [List.length_take]; omega
    have h6 : ((a0.Deeds.take n)[j].Texts.take 6).length ≤ 6 := by rw [List.length_take]; omega
    rw [if_pos (cut01 _ 9 (by omega)), if_pos (cut02 _ 9), show (0 : Int) = ((0 : Nat) : Int) from rfl,
      few_l1 a0 (n : Int) (j : Int) x41 x42 l44 a0.Quota a0.Sectors acc _ (by omega) ((a0.Deeds.take n)[j].Nums.take 9).length 0 k [] (by omega) rfl (by omega),
      wrapS (by omega) (by omega), show (j : Int) + 1 = ((j + 1 : Nat) : Int) by omega,
      few_l0 a0 n hn x41 x42 l44 m (j + 1) _ _ (by omega) (by simp; omega) (by omega)]
    rw [List.drop_eq_getElem_cons hlt]
    simp [fewD]
theorem few_ok (k : Nat) (p : ApiPlan) (n : Nat) (hn : n ≤ 1000) (hk : 18 * n < k) : consignorlaw20_few.f k p (n : Int) = some (fewP p n) := by
  have hle : (p.Deeds.take n).length ≤ n := by simp; omega
  unfold consignorlaw20_few.f
  rw [if_pos (cut01 _ _ (by omega)), if_pos (cut02 _ _)]
  have := few_l0 p n hn 0 0 [] (p.Deeds.take n).length 0 k [] (by omega) rfl (by omega)
  simpa [fewP] using this

/-! ### is there one? -/
theorem if_api_Deed (l : List ApiDeed) (p : ApiDeed → Option Bool) (P : ApiDeed → Bool) (hl : l.length ≤ 9223372036854775806) (hp : ∀ x ∈ l, p x = some (P x)) :
    ∀ (m j k : Nat), j + m = l.length → m < k → ∃ r, slices_IndexFunc_api_Deed.l0 k l p (j : Int) = some r ∧ decide (0 ≤ r) = (l.drop j).any P
  | 0, j, k + 1, h, hk => ⟨-1, by rw [slices_IndexFunc_api_Deed.l0, if_neg (by omega)], by rw [List.drop_of_length_le (by omega)]; rfl⟩
  | m + 1, j, k + 1, h, hk => by
    have hlt : j < l.length := by omega
    rw [slices_IndexFunc_api_Deed.l0, if_pos (by omega), if_pos (by omega), Int.toNat_natCast, List.getElem?_eq_getElem hlt, Option.bind_some, hp _ (List.getElem_mem hlt), Option.bind_some, List.drop_eq_getElem_cons hlt, List.any_cons]
    cases hb : P l[j] with
    | true => exact ⟨j, by rw [if_pos rfl], by simp⟩
    | false =>
      rw [if_neg (by simp), wrapS (by omega) (by omega), show (j : Int) + 1 = ((j + 1 : Nat) : Int) by omega, Bool.false_or]
      exact if_api_Deed l p P hl hp m (j + 1) k (by omega) (by omega)
theorem any_api_Deed (k : Nat) (l : List ApiDeed) (p : ApiDeed → Option Bool) (P : ApiDeed → Bool) (hl : l.length ≤ 9223372036854775806) (hk : l.length < k) (hp : ∀ x ∈ l, p x = some (P x)) : slices_ContainsFunc_api_Deed.f k l p = some (l.any P) := by
  obtain ⟨r, h1, h2⟩ := if_api_Deed l p P hl hp l.length 0 k (by omega) hk
  unfold slices_ContainsFunc_api_Deed.f slices_IndexFunc_api_Deed.f
  rw [show (0 : Int) = ((0 : Nat) : Int) from rfl, h1, Option.bind_some]
  rw [show ((0 : Nat) : Int) = 0 from rfl, h2, List.drop_zero]
theorem if_int_int (l : List Int) (p : Int → Option Bool) (P : Int → Bool) (hl : l.length ≤ 9223372036854775806) (hp : ∀ x ∈ l, p x = some (P x)) :
    ∀ (m j k : Nat), j + m = l.length → m < k → ∃ r, slices_IndexFunc_int_int.l0 k l p (j : Int) = some r ∧ decide (0 ≤ r) = (l.drop j).any P
  | 0, j, k + 1, h, hk => ⟨-1, by rw [slices_IndexFunc_int_int.l0, if_neg (by omega)], by rw [List.drop_of_length_le (by omega)]; rfl⟩
  | m + 1, j, k + 1, h, hk => by
    have hlt : j < l.length := by omega
    rw [slices_IndexFunc_int_int.l0, if_pos (by omega), if_pos (by omega), Int.toNat_natCast, List.getElem?_eq_getElem hlt, Option.bind_some, hp _ (List.getElem_mem hlt), Option.bind_some, List.drop_eq_getElem_cons hlt, List.any_cons]
    cases hb : P l[j] with
    | true => exact ⟨j, by rw [if_pos rfl], by simp⟩
    | false =>
      rw [if_neg (by simp), wrapS (by omega) (by omega), show (j : Int) + 1 = ((j + 1 : Nat) : Int) by omega, Bool.false_or]
      exact if_int_int l p P hl hp m (j + 1) k (by omega) (by omega)
theorem any_int_int (k : Nat) (l : List Int) (p : Int → Option Bool) (P : Int → Bool) (hl : l.length ≤ 9223372036854775806) (hk : l.length < k) (hp : ∀ x ∈ l, p x = some (P x)) : slices_ContainsFunc_int_int.f k l p = some (l.any P) := by
  obtain ⟨r, h1, h2⟩ := if_int_int l p P hl hp l.length 0 k (by omega) hk
  unfold slices_ContainsFunc_int_int.f slices_IndexFunc_int_int.f
  rw [show (0 : Int) = ((0 : Nat) : Int) from rfl, h1, Option.bind_some]
  rw [show ((0 : Nat) : Int) = 0 from rfl, h2, List.drop_zero]
theorem if_string_string (l : List (List UInt8)) (p : (List UInt8) → Option Bool) (P : (List UInt8) → Bool) (hl : l.length ≤ 9223372036854775806) (hp : ∀ x ∈ l, p x = some (P x)) :
    ∀ (m j k : Nat), j + m = l.length → m < k → ∃ r, slices_IndexFunc_string_string.l0 k l p (j : Int) = some r ∧ decide (0 ≤ r) = (l.drop j).any P
  | 0, j, k + 1, h, hk => ⟨-1, by rw [slices_IndexFunc_string_string.l0, if_neg (by omega)], by rw [List.drop_of_length_le (by omega)]; rfl⟩
  | m + 1, j, k + 1, h, hk => by
    have hlt : j < l.length := by omega
    rw [slices_IndexFunc_string_string.l0, if_pos (by omega), if_pos (by omega), Int.toNat_natCast, List.getElem?_eq_getElem hlt, Option.bind_some, hp _ (List.getElem_mem hlt), Option.bind_some, List.drop_eq_getElem_cons hlt, List.any_cons]
    cases hb : P l[j] with
    | true => exact ⟨j, by rw [if_pos rfl], by simp⟩
    | false =>
      rw [if_neg (by simp), wrapS (by omega) (by omega), show (j : Int) + 1 = ((j + 1 : Nat) : Int) by omega, Bool.false_or]
      exact if_string_string l p P hl hp m (j + 1) k (by omega) (by omega)
theorem any_string_string (k : Nat) (l : List (List UInt8)) (p : (List UInt8) → Option Bool) (P : (List UInt8) → Bool) (hl : l.length ≤ 9223372036854775806) (hk : l.length < k) (hp : ∀ x ∈ l, p x = some (P x)) : slices_ContainsFunc_string_string.f k l p = some (l.any P) := by
  obtain ⟨r, h1, h2⟩ := if_string_string l p P hl hp l.length 0 k (by omega) hk
  unfold slices_ContainsFunc_string_string.f slices_IndexFunc_string_string.f
  rw [show (0 : Int) = ((0 : Nat) : Int) from rfl, h1, Option.bind_some]
  rw [show ((0 : Nat) : Int) = 0 from rfl, h2, List.drop_zero]

/-! ### deeds that may be -/
def SH : List (Int × ScriptShape) := [(1, ⟨[98, 108, 111, 98], 1, 2⟩), (2, ⟨[112, 117, 116], 1, 2⟩), (3, ⟨[110, 97, 109, 101], 1, 3⟩), (4, ⟨[117, 110, 110, 97, 109, 101], 1, 2⟩), (5, ⟨[114, 117, 108, 101], 3, 4⟩), (6, ⟨[117, 110, 115, 101, 116], 1, 0⟩), (7, ⟨[102, 105, 114, 101], 1, 0⟩), (8, ⟨[116, 105, 99, 107], 1, 0⟩), (9, ⟨[115, 116, 101, 112], 2, 0⟩), (10, ⟨[115, 116, 111, 112], 1, 0⟩), (11, ⟨[97, 103, 97, 105, 110], 1, 0⟩), (12, ⟨[99, 114, 97, 115, 104], 7, 3⟩)]
theorem shapes_ok (k : Nat) : script_shapes.f k = some SH := rfl
def in40 (n : Int) : Bool := decide (0 ≤ n) && decide (n ≤ 1099511627776)
theorem in40_iff {n : Int} : in40 n = true ↔ 0 ≤ n ∧ n ≤ 1099511627776 := by simp [in40]
def fitT (s : List UInt8) : Bool := decide (s.length ≤ 1000)
def shape (x : Int) : ScriptShape := (mfind SH x).getD ⟨[], 0, 0⟩
def okD (d : ApiDeed) : Bool := (mfind SH d.Kind).isSome && ((d.Nums.length : Int) == (shape d.Kind).nums) && ((d.Texts.length : Int) == (shape d.Kind).texts) && d.Nums.all in40 && d.Texts.all fitT
theorem not_any {α : Type} (l : List α) (p q : α → Bool) (h : ∀ x, q x = !p x) : (!l.any q) = l.all p := by
  induction l with
  | nil => rfl
  | cons x l ih => rw [List.any_cons, List.all_cons, ← ih, h]; cases p x <;> simp
theorem right_ok (k : Nat) (d : ApiDeed) (hd : i64ok d.Kind) (h1 : d.Nums.length ≤ 1000) (h2 : d.Texts.length ≤ 1000) (hk : 1000 < k) : script_right.f k d = some (okD d) := by
  unfold script_right.f
  rw [shapes_ok, Option.bind_some, if_pos hd]
  rw [any_int_int k d.Nums _ (fun n => !in40 n) (by omega) (by omega) (fun n _ => by unfold script_right_c1.f; congr 1; simp only [in40, Bool.not_and]; congr 1 <;> (rw [← decide_not]; congr 1; apply propext; omega))]
  rw [any_string_string k d.Texts _ (fun s => !fitT s) (by omega) (by omega) (fun s _ => by unfold script_right_c2.f; congr 1; unfold fitT; rw [← decide_not]; congr 1; apply propext; omega)]
  simp only [Option.bind_some, not_any d.Texts fitT (fun s => !fitT s) (fun _ => rfl)]
  have e := not_any d.Nums in40 (fun n => !in40 n) (fun _ => rfl)
  unfold okD shape
  cases hc : (mfind SH d.Kind).isSome && ((d.Nums.length : Int) == ((mfind SH d.Kind).getD ⟨[], 0, 0⟩).nums) && ((d.Texts.length : Int) == ((mfind SH d.Kind).getD ⟨[], 0, 0⟩).texts) with
  | false => simp [hc]
  | true =>
    rw [if_pos rfl, ← e]
    cases d.Nums.any fun n => !in40 n <;> simp
end Go.Proofs.YtlaifpbickdpkaaDoor
