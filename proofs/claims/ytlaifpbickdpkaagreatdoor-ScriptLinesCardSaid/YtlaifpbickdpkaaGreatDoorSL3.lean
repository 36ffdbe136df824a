/- SL3: the scripts' plain law: the document's answer: which plans may be, a deed's line (own work). -/
import Derived.Test.YtlaifpbickdpkaaGreatDoorSL2
import Derived.Test.YtlaifpbickdpkaaGreatDoorT4
namespace Go.Proofs.YtlaifpbickdpkaaGreatDoor
set_option linter.unusedVariables false
set_option linter.unusedSimpArgs false
open Go.Lib (decDigits itoa)

theorem tabs : ∀ i : Fin 13, 1 ≤ i.val → mfind SH (i.val : Int) ≠ none ∧ consignorref20_nums.f 0 (i.val : Int) = some (shape (i.val : Int)).nums ∧ consignorref20_texts.f 0 (i.val : Int) = some (shape (i.val : Int)).texts ∧ consignorref20_word.f 0 (i.val : Int) = some (shape (i.val : Int)).word := by decide
theorem tab_at (k : Nat) {x : Int} (h1 : 1 ≤ x) (h2 : x ≤ 12) : (mfind SH x).isSome = true ∧ consignorref20_nums.f k x = some (shape x).nums ∧ consignorref20_texts.f k x = some (shape x).texts ∧ consignorref20_word.f k x = some (shape x).word := by
  obtain ⟨n, rfl⟩ : ∃ n : Nat, x = (n : Int) := ⟨x.toNat, by omega⟩
  obtain ⟨t1, t2, t3, t4⟩ := tabs ⟨n, by omega⟩ (show 1 ≤ n by omega)
  exact ⟨Option.isSome_iff_ne_none.2 t1, t2, t3, t4⟩
theorem Is_l2 (d : ApiDeed) (hl : d.Texts.length ≤ 1000) : ∀ (m j k : Nat), j + m = d.Texts.length → m < k → consignorref20_IsDeed.l2 k d (j : Int) = some ((d.Texts.drop j).all fitT)
  | 0, j, k + 1, h, hk => by rw [consignorref20_IsDeed.l2, if_neg (by omega), List.drop_of_length_le (by omega)]; rfl
  | m + 1, j, k + 1, h, hk => by
    have hlt : j < d.Texts.length := by omega
    rw [consignorref20_IsDeed.l2, if_pos (by omega), if_pos (by omega), Int.toNat_natCast, List.getElem?_eq_getElem hlt, Option.bind_some, List.drop_eq_getElem_cons hlt, List.all_cons]
    by_cases hf : (1000 : Int) < (d.Texts[j].length : Int)
    · rw [if_pos hf, show fitT d.Texts[j] = false by simp [fitT]; omega]; rfl
    · rw [if_neg hf, show fitT d.Texts[j] = true by simp [fitT]; omega, wrapS (by omega) (by omega), show (j : Int) + 1 = ((j + 1 : Nat) : Int) by omega, Is_l2 d hl m (j + 1) k (by omega) (by omega)]; rfl
theorem Is_l1 (d : ApiDeed) (hn : d.Nums.length ≤ 1000) (hl : d.Texts.length ≤ 1000) : ∀ (m j k : Nat), j + m = d.Nums.length → m + 1001 < k → consignorref20_IsDeed.l1 k d (j : Int) = some ((d.Nums.drop j).all in40 && d.Texts.all fitT)
  | 0, j, k + 1, h, hk => by
    rw [consignorref20_IsDeed.l1, if_neg (by omega), List.drop_of_length_le (by omega)]
    have := Is_l2 d hl d.Texts.length 0 k (by omega) (by omega)
    simpa using this
  | m + 1, j, k + 1, h, hk => by
    have hlt : j < d.Nums.length := by omega
    rw [consignorref20_IsDeed.l1, if_pos (by omega), if_pos (by omega), Int.toNat_natCast, List.getElem?_eq_getElem hlt, Option.bind_some, List.drop_eq_getElem_cons hlt, List.all_cons]
    by_cases hf : d.Nums[j] < 0 ∨ 1099511627776 < d.Nums[j]
    · rw [if_pos (by simpa using hf), show in40 d.Nums[j] = false by simp [in40]; omega]; rfl
    · rw [if_neg (by simpa using hf), show in40 d.Nums[j] = true by simp [in40]; omega, wrapS (by omega) (by omega), show (j : Int) + 1 = ((j + 1 : Nat) : Int) by omega, Is_l1 d hn hl m (j + 1) k (by omega) (by omega)]; rfl
theorem IsDeed_ok (k : Nat) (d : ApiDeed) (hn : d.Nums.length ≤ 1000) (hl : d.Texts.length ≤ 1000) (hk : 2010 < k) : consignorref20_IsDeed.f k d = some (okD d) := by
  unfold consignorref20_IsDeed.f
  obtain ⟨k, rfl⟩ : ∃ j, k = j + 1 := ⟨k - 1, by omega⟩
  by_cases hr : d.Kind < 1 ∨ 12 < d.Kind
  · rw [if_pos (by simpa using hr), consignorref20_IsDeed.j0, if_pos rfl]
    cases ho : okD d with
    | false => rfl
    | true => obtain ⟨s, h⟩ := okD_iff.1 ho; have := h.k; omega
  · obtain ⟨t1, t2, t3, t4⟩ := tab_at (k + 1) (x := d.Kind) (by omega) (by omega)
    rw [if_neg (by simpa using hr), t2, t3, Option.bind_some, Option.bind_some]
    unfold okD
    rw [t1]
    by_cases h1 : (d.Nums.length : Int) = (shape d.Kind).nums
    · rw [if_neg (by simp [h1]), consignorref20_IsDeed.j0]
      by_cases h2 : (d.Texts.length : Int) = (shape d.Kind).texts
      · rw [if_neg (by simp [h2])]
        have := Is_l1 d hn hl d.Nums.length 0 k (by omega) (by omega)
        rw [List.drop_zero] at this
        rw [show (0 : Int) = ((0 : Nat) : Int) from rfl, this]
        simp [h1, h2]
      · rw [if_pos (by simp [h2])]
        simp [h2]
    · rw [if_pos (by simp [h1]), consignorref20_IsDeed.j0, if_pos rfl]
      simp [h1]

/-! ### the document's line -/
def hI (t : Int) : Int := if t < 10 then IntKind.u8.wrap (48 + t) else IntKind.u8.wrap (IntKind.u8.wrap (97 + t) - 10)
theorem hI_ok : ∀ n : Fin 16, UInt8.ofNat (hI (n.val : Int)).toNat = HD.getD n.val 0 := by decide
theorem ofInts_append (a b : List Int) : ofInts (a ++ b) = ofInts a ++ ofInts b := by simp [ofInts]
theorem rHex_l1 (a : List UInt8) (j k : Nat) (hi lo : Nat) (l : List Int) (hh : hi < 16) (hl : lo < 16) (hlen : l.length ≤ 1000000)
    (e1 : IntKind.u8.wrap (Int.tdiv ((a.getD (Int.toNat (j : Int)) 0).toNat : Int) 16) = (hi : Int)) (e2 : Int.tmod ((a.getD (Int.toNat (j : Int)) 0).toNat : Int) 16 = (lo : Int)) :
    consignorref01_Hex.l1 (k + 3) a (j : Int) l 0 = consignorref01_Hex.l0 k a (l ++ [hI hi, hI lo]) (IntKind.i64.wrap ((j : Int) + 1)) := by
  have step : ∀ (t : Int) (q : Nat) (l : List Int) (x : Int), l.length ≤ 1000001 → 0 ≤ x → x < 2 → ([(hi : Int), (lo : Int)][Int.toNat x]?) = some t → consignorref01_Hex.l1 (q + 1) a (j : Int) l x = consignorref01_Hex.l1 q a (j : Int) (l ++ [hI t]) (IntKind.i64.wrap (x + 1)) := by
    intro t q l x hlen h0 h1 ht
    rw [consignorref01_Hex.l1, e1, e2, if_pos (by simp; omega), if_pos h0, ht, Option.bind_some]
    unfold hI
    by_cases h10 : t < 10
    · rw [if_pos h10, if_pos h10, if_pos (by simp; omega)]
    · rw [if_neg h10, if_neg h10, if_pos (by simp; omega)]
  rw [step (hi : Int) (k + 2) l 0 (by omega) (by omega) (by omega) rfl, show IntKind.i64.wrap (0 + 1) = 1 from rfl, step (lo : Int) (k + 1) _ 1 (by simp; omega) (by omega) (by omega) rfl, show IntKind.i64.wrap (1 + 1) = 2 from rfl, consignorref01_Hex.l1, if_neg (by simp)]
  simp
theorem rHex_l0 (a : List UInt8) (ha : a.length ≤ 10000) : ∀ (m j k : Nat) (l : List Int), j + m = a.length → l.length = 2 * j → 4 * m < k → consignorref01_Hex.l0 k a l (j : Int) = some (ofInts l ++ hexS (a.drop j))
  | 0, j, k + 1, l, h, hc, hk => by rw [consignorref01_Hex.l0, if_neg (by omega), List.drop_of_length_le (by omega)]; simp [hexS]
  | m + 1, j, k + 1, l, h, hc, hk => by
    have hlt : j < a.length := by omega
    have hb : a.getD j 0 = a[j] := by simp [List.getD, hlt]
    have hlt8 := a[j].toNat_lt
    obtain ⟨k, rfl⟩ : ∃ q, k = q + 3 := ⟨k - 3, by omega⟩
    rw [consignorref01_Hex.l0, if_pos (by omega), if_pos (by omega), if_pos (by omega), if_pos (by omega), if_pos (by omega),
      rHex_l1 a j k (a[j].toNat / 16) (a[j].toNat % 16) l (by omega) (by omega) (by omega) (by rw [Int.toNat_natCast, hb, show Int.tdiv (a[j].toNat : Int) 16 = ((a[j].toNat / 16 : Nat) : Int) from rfl]; simp [IntKind.wrap, IntKind.bits, IntKind.signed]; omega) (by rw [Int.toNat_natCast, hb]; rfl),
      wrapS (by omega) (by omega), show (j : Int) + 1 = ((j + 1 : Nat) : Int) by omega]
    have e := rHex_l0 a ha m (j + 1) k (l ++ [hI (a[j].toNat / 16 : Nat), hI (a[j].toNat % 16 : Nat)]) (by omega) (by simp; omega) (by omega)
    rw [e, List.drop_eq_getElem_cons hlt, ofInts_append]
    have k1 := hI_ok ⟨a[j].toNat / 16, by omega⟩
    have k2 := hI_ok ⟨a[j].toNat % 16, by omega⟩
    simp only at k1 k2
    simp only [hexS, List.flatMap_cons, hx, ofInts, List.map_cons, List.map_nil, k1, k2]
    simp
theorem rHex_ok (k : Nat) (a : List UInt8) (ha : a.length ≤ 10000) (hk : 4 * a.length < k) : consignorref01_Hex.f k a = some (hexS a) := by
  have e := rHex_l0 a ha a.length 0 k [] (by omega) rfl hk
  simpa [consignorref01_Hex.f, ofInts] using e
theorem Itoa_ok (k : Nat) (n : Int) (h : in40 n = true) : strconv_Itoa.f k n = some (itoa n) := by
  obtain ⟨h0, h1⟩ := in40_iff.1 h
  unfold strconv_Itoa.f
  rw [if_pos (by omega)]
theorem Line_l1 (d : ApiDeed) (ht : d.Texts.all fitT = true) (hn : d.Texts.length ≤ 1000) : ∀ (m j k : Nat) (acc : List UInt8), j + m = d.Texts.length → acc.length ≤ 1000000000 + 2002 * j → m + 4001 < k →
    consignorref20_Line.l1 k d acc (j : Int) = some (acc ++ (d.Texts.drop j).flatMap txtS)
  | 0, j, k + 1, acc, h, hc, hk => by
    rw [consignorref20_Line.l1, if_neg (by omega), List.drop_of_length_le (by omega)]; simp
  | m + 1, j, k + 1, acc, h, hc, hk => by
    have hlt : j < d.Texts.length := by omega
    have hf : d.Texts[j].length ≤ 1000 := by simpa [fitT] using List.all_eq_true.1 ht _ (List.getElem_mem hlt)
    have hh := hexS_len d.Texts[j]
    rw [consignorref20_Line.l1, if_pos (by omega), if_pos (by omega), Int.toNat_natCast, List.getElem?_eq_getElem hlt, Option.bind_some, if_pos (by simp; omega), rHex_ok k _ (by omega) (by omega), Option.bind_some, if_pos (by simp; omega),
      wrapS (by omega) (by omega), show (j : Int) + 1 = ((j + 1 : Nat) : Int) by omega, Line_l1 d ht hn m (j + 1) k _ (by omega) (by simp; omega) (by omega), List.drop_eq_getElem_cons hlt]
    simp only [List.flatMap_cons, txtS]
    simp
theorem Line_l0 (d : ApiDeed) (hs : d.Nums.all in40 = true) (ht : d.Texts.all fitT = true) (hn : d.Nums.length ≤ 1000) (hm : d.Texts.length ≤ 1000) : ∀ (m j k : Nat) (acc : List UInt8), j + m = d.Nums.length → acc.length ≤ 100000000 + 22 * j → m + 5010 < k →
    consignorref20_Line.l0 k d acc (j : Int) = some (acc ++ (d.Nums.drop j).flatMap numS ++ d.Texts.flatMap txtS)
  | 0, j, k + 1, acc, h, hc, hk => by
    rw [consignorref20_Line.l0, if_neg (by omega), show (0 : Int) = ((0 : Nat) : Int) from rfl, Line_l1 d ht hm d.Texts.length 0 k acc (by omega) (by omega) (by omega), List.drop_zero, show d.Nums.drop j = [] from List.drop_of_length_le (by omega)]; simp
  | m + 1, j, k + 1, acc, h, hc, hk => by
    have hlt : j < d.Nums.length := by omega
    have hi := List.all_eq_true.1 hs _ (List.getElem_mem hlt)
    have hh := itoa_len _ hi
    rw [consignorref20_Line.l0, if_pos (by omega), if_pos (by omega), Int.toNat_natCast, List.getElem?_eq_getElem hlt, Option.bind_some, if_pos (by simp; omega), Itoa_ok k _ hi, Option.bind_some, if_pos (by simp; omega),
      wrapS (by omega) (by omega), show (j : Int) + 1 = ((j + 1 : Nat) : Int) by omega, Line_l0 d hs ht hn hm m (j + 1) k _ (by omega) (by simp; omega) (by omega), List.drop_eq_getElem_cons hlt]
    simp only [List.flatMap_cons, numS]
    simp
theorem Line_ok (k : Nat) (d : ApiDeed) (h : okD d = true) (hk : 6100 < k) : consignorref20_Line.f k d = some (lineD d) := by
  obtain ⟨s, h⟩ := okD_iff.1 h
  obtain ⟨t1, t2, t3, t4⟩ := tab_at k h.k.1 h.k.2
  have hw := h.w
  have h7 := h.n7
  have h4 := h.t4
  unfold consignorref20_Line.f
  rw [t4, Option.bind_some, h.sh]
  have := Line_l0 d h.ns h.ts (by omega) (by omega) d.Nums.length 0 k s.word (by omega) (by omega) (by omega)
  simpa [lineD, bodyS, h.sh, List.append_assoc] using this
end Go.Proofs.YtlaifpbickdpkaaGreatDoor
