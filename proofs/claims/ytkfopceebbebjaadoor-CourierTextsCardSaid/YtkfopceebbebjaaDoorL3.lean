/- L3: CourierTexts: the plain law: asks and answers, and the law itself (own work). -/
import Derived.Test.YtkfopceebbebjaaDoorL2
namespace Go.Proofs.YtkfopceebbebjaaDoor
set_option linter.unusedVariables false
set_option linter.unusedSimpArgs false

def in40 (n : Int) : Bool := decide (0 ≤ n) && decide (n ≤ 1099511627776)
theorem in40_iff {n : Int} : in40 n = true ↔ 0 ≤ n ∧ n ≤ 1099511627776 := by simp [in40]
theorem within_loop (l : List Int) (hl : l.length ≤ 100) : ∀ (d i k : Nat), i + d = l.length → d < k → courier_within.l0 k l (i : Int) = some ((l.drop i).all in40)
  | 0, i, k + 1, h1, h2 => by
    rw [courier_within.l0, if_neg (by omega), List.drop_of_length_le (by omega)]; rfl
  | d + 1, i, k + 1, h1, h2 => by
    have hlt : i < l.length := by omega
    rw [courier_within.l0, if_pos (by omega), if_pos (by omega), Int.toNat_natCast, List.getElem?_eq_getElem hlt, Option.bind_some, List.drop_eq_getElem_cons hlt, List.all_cons]
    by_cases h : in40 l[i] = true
    · have := in40_iff.1 h
      rw [if_neg (by simp; omega), wrapS (by omega) (by omega), show (i : Int) + 1 = ((i + 1 : Nat) : Int) by omega, within_loop l hl d (i + 1) k (by omega) (by omega), h]
      rfl
    · have h' : in40 l[i] = false := by simpa using h
      rw [if_pos (by simp [in40] at h; simp; omega), h']
      rfl
theorem within_ok (k : Nat) (l : List Int) (hl : l.length ≤ 100) (hk : l.length < k) : courier_within.f k l = some (l.all in40) := by
  have := within_loop l hl l.length 0 k (by omega) hk
  simpa [courier_within.f] using this

/-! ### asks -/
def okAsk (a : ApiAsk) : Bool := [a.Id, a.Kind, a.Upload, a.Offset].all in40 && decide (a.Repo.length ≤ 128) && decide (a.Digest.length ≤ 128) && decide (a.Data.length ≤ 1000)
def partsAsk (a : ApiAsk) : List (List UInt8) := [[97, 115, 107], num a.Id, num a.Kind, num a.Upload, num a.Offset, a.Repo, a.Digest, a.Data]
theorem num_len (n : Int) : (num n).length = 8 := leB_len _ _
structure AskIn (a : ApiAsk) : Prop where
  i0 : 0 ≤ a.Id ∧ a.Id ≤ 1099511627776
  k0 : 0 ≤ a.Kind ∧ a.Kind ≤ 1099511627776
  u0 : 0 ≤ a.Upload ∧ a.Upload ≤ 1099511627776
  o0 : 0 ≤ a.Offset ∧ a.Offset ≤ 1099511627776
  r : a.Repo.length ≤ 128
  d : a.Digest.length ≤ 128
  t : a.Data.length ≤ 1000
theorem okAsk_iff {a : ApiAsk} : okAsk a = true ↔ AskIn a := by
  simp only [okAsk, List.all_cons, List.all_nil, Bool.and_true, Bool.and_eq_true, decide_eq_true_eq, in40_iff]
  constructor
  · rintro ⟨⟨⟨⟨h1, h2, h3, h4⟩, h5⟩, h6⟩, h7⟩; exact ⟨h1, h2, h3, h4, h5, h6, h7⟩
  · rintro ⟨h1, h2, h3, h4, h5, h6, h7⟩; exact ⟨⟨⟨⟨h1, h2, h3, h4⟩, h5⟩, h6⟩, h7⟩
theorem AskIn.parts {a : ApiAsk} (h : AskIn a) : ∀ p ∈ partsAsk a, p.length ≤ 4096 := by
  have := h.r; have := h.d; have := h.t
  simp only [partsAsk, List.mem_cons, List.not_mem_nil, or_false]
  rintro p (rfl | rfl | rfl | rfl | rfl | rfl | rfl | rfl) <;> first | omega | simp [num_len]
def textAsk (a : ApiAsk) : List UInt8 × Int := if okAsk a = true then (bindS (partsAsk a), 0) else ([], 1)
theorem Text_ok (k : Nat) (a : ApiAsk) (hk : 20 ≤ k) : courier_Text.f k a = some (textAsk a) := by
  unfold courier_Text.f textAsk
  rw [within_ok k _ (by simp) (by simp; omega), Option.bind_some]
  by_cases h : okAsk a = true
  · have hi := okAsk_iff.1 h
    have ha : [a.Id, a.Kind, a.Upload, a.Offset].all in40 = true := by
      simp only [okAsk, Bool.and_eq_true] at h; exact h.1.1.1
    have := hi.r; have := hi.d; have := hi.t
    rw [if_pos h, ha, if_neg (by simp; omega), number_ok hi.i0.1 hi.i0.2 (by omega), Option.bind_some, number_ok hi.k0.1 hi.k0.2 (by omega), Option.bind_some, number_ok hi.u0.1 hi.u0.2 (by omega), Option.bind_some, number_ok hi.o0.1 hi.o0.2 (by omega), Option.bind_some]
    have hb := bind_ok k (partsAsk a) hi.parts (by simp [partsAsk]) (by simp [partsAsk]; omega)
    unfold partsAsk at hb ⊢
    rw [hb]; rfl
  · rw [if_neg h, if_pos]
    simp only [okAsk, Bool.and_eq_true, decide_eq_true_eq] at h
    simp only [Bool.or_eq_true, Bool.not_eq_true', decide_eq_true_eq]
    by_cases ha : [a.Id, a.Kind, a.Upload, a.Offset].all in40 = true
    · simp only [ha, true_and] at h
      simp only [ha]
      omega
    · exact .inl (.inl (.inl (by simpa using ha)))
theorem IsAsk_ok (k : Nat) (a : ApiAsk) : consignorref21_IsAsk.f k a = some (okAsk a) := by
  unfold consignorref21_IsAsk.f consignorref21_in.f okAsk
  simp only [Option.bind_some]
  have e : ∀ n : Int, (decide (0 ≤ n) && decide (n ≤ 1099511627776)) = in40 n := fun _ => rfl
  have e2 : ∀ (l : List UInt8) (m : Nat), decide ((l.length : Int) ≤ (m : Int)) = decide (l.length ≤ m) := fun l m => by simp
  simp only [e]
  have e3 : decide ((a.Repo.length : Int) ≤ 128) = decide (a.Repo.length ≤ 128) := e2 a.Repo 128
  have e4 : decide ((a.Digest.length : Int) ≤ 128) = decide (a.Digest.length ≤ 128) := e2 a.Digest 128
  have e5 : decide ((a.Data.length : Int) ≤ 1000) = decide (a.Data.length ≤ 1000) := e2 a.Data 1000
  rw [e3, e4, e5]
  simp only [List.all_cons, List.all_nil, Bool.and_true]
  cases in40 a.Id <;> cases in40 a.Kind <;> cases in40 a.Upload <;> simp
theorem Ask_ok (k : Nat) (a : ApiAsk) (h : okAsk a = true) (hk : 20 ≤ k) : consignorref21_Ask.f k a = some (bindS (partsAsk a)) := by
  have hi := okAsk_iff.1 h
  unfold consignorref21_Ask.f
  rw [refnum_ok hi.i0.1 hi.i0.2 (by omega), Option.bind_some, refnum_ok hi.k0.1 hi.k0.2 (by omega), Option.bind_some, refnum_ok hi.u0.1 hi.u0.2 (by omega), Option.bind_some, refnum_ok hi.o0.1 hi.o0.2 (by omega), Option.bind_some]
  have hb := refbind_ok k (partsAsk a) hi.parts (by simp [partsAsk]) (by simp [partsAsk]; omega)
  unfold partsAsk at hb ⊢
  rw [hb]; rfl
/-! ### answers -/
def okAns (a : ApiAnswer) : Bool := [a.Id, a.N].all in40 && decide (0 ≤ a.Err) && decide (a.Err ≤ 255)
def partsAns (a : ApiAnswer) : List (List UInt8) := [[97, 110, 115, 119, 101, 114], num a.Id, num a.Err, num a.N]
structure AnsIn (a : ApiAnswer) : Prop where
  i0 : 0 ≤ a.Id ∧ a.Id ≤ 1099511627776
  n0 : 0 ≤ a.N ∧ a.N ≤ 1099511627776
  e0 : 0 ≤ a.Err ∧ a.Err ≤ 255
theorem okAns_iff {a : ApiAnswer} : okAns a = true ↔ AnsIn a := by
  simp only [okAns, List.all_cons, List.all_nil, Bool.and_true, Bool.and_eq_true, decide_eq_true_eq, in40_iff]
  constructor
  · rintro ⟨⟨⟨h1, h2⟩, h3⟩, h4⟩; exact ⟨h1, h2, h3, h4⟩
  · rintro ⟨h1, h2, h3, h4⟩; exact ⟨⟨⟨h1, h2⟩, h3⟩, h4⟩
theorem partsAns_le {a : ApiAnswer} : ∀ p ∈ partsAns a, p.length ≤ 4096 := by
  simp only [partsAns, List.mem_cons, List.not_mem_nil, or_false]
  rintro p (rfl | rfl | rfl | rfl) <;> simp [num_len]
def textAns (a : ApiAnswer) : List UInt8 × Int := if okAns a = true then (bindS (partsAns a), 0) else ([], 1)
theorem Reply_ok (k : Nat) (a : ApiAnswer) (hk : 20 ≤ k) : courier_Reply.f k a = some (textAns a) := by
  unfold courier_Reply.f textAns
  rw [within_ok k _ (by simp) (by simp; omega), Option.bind_some]
  by_cases h : okAns a = true
  · have hi := okAns_iff.1 h
    have ha : [a.Id, a.N].all in40 = true := by
      simp only [okAns, Bool.and_eq_true] at h; exact h.1.1
    have h0 := hi.e0
    rw [if_pos h, ha, if_neg (by simp; omega), number_ok hi.i0.1 hi.i0.2 (by omega), Option.bind_some, number_ok h0.1 (by omega) (by omega), Option.bind_some, number_ok hi.n0.1 hi.n0.2 (by omega), Option.bind_some]
    have hb := bind_ok k (partsAns a) partsAns_le (by simp [partsAns]) (by simp [partsAns]; omega)
    unfold partsAns at hb ⊢
    rw [hb]; rfl
  · rw [if_neg h, if_pos]
    simp only [okAns, Bool.and_eq_true, decide_eq_true_eq] at h
    simp only [Bool.or_eq_true, Bool.not_eq_true', decide_eq_true_eq]
    by_cases ha : [a.Id, a.N].all in40 = true
    · simp only [ha, true_and] at h
      simp only [ha]
      omega
    · exact .inl (.inl (by simpa using ha))
theorem IsAns_ok (k : Nat) (a : ApiAnswer) : consignorref21_IsAnswer.f k a = some (okAns a) := by
  unfold consignorref21_IsAnswer.f consignorref21_in.f okAns
  simp only [Option.bind_some]
  have e : ∀ n : Int, (decide (0 ≤ n) && decide (n ≤ 1099511627776)) = in40 n := fun _ => rfl
  simp only [e, List.all_cons, List.all_nil, Bool.and_true]
  cases in40 a.Id <;> simp
theorem Ans_ok (k : Nat) (a : ApiAnswer) (h : okAns a = true) (hk : 20 ≤ k) : consignorref21_Answer.f k a = some (bindS (partsAns a)) := by
  have hi := okAns_iff.1 h
  have h0 := hi.e0
  unfold consignorref21_Answer.f
  rw [refnum_ok hi.i0.1 hi.i0.2 (by omega), Option.bind_some, refnum_ok h0.1 (by omega) (by omega), Option.bind_some, refnum_ok hi.n0.1 hi.n0.2 (by omega), Option.bind_some]
  have hb := refbind_ok k (partsAns a) partsAns_le (by simp [partsAns]) (by simp [partsAns]; omega)
  unfold partsAns at hb ⊢
  rw [hb]; rfl
/-! ### reading -/
theorem valnum {n : Int} (h0 : 0 ≤ n) (h1 : n ≤ 1099511627776) : ((valB (num n) : Nat) : Int) = n := by
  unfold num
  rw [valB_leB]
  have : (256 : Nat) ^ 8 = 18446744073709551616 := by decide
  omega
theorem part_ok (k : Nat) (l : List (List UInt8)) (i : Nat) (hi : i < l.length) (hk : 10 ≤ k) : ∃ n, courier_parts_whole.f k l (i : Int) = some n ∧ (∀ m, l[i] = num m → 0 ≤ m → m ≤ 1099511627776 → n = m) := by
  unfold courier_parts_whole.f
  rw [if_pos (by omega), Int.toNat_natCast, List.getElem?_eq_getElem hi, Option.bind_some]
  by_cases h8 : l[i].length ≤ 8
  · rw [whole_ok k _ h8 (by omega), Option.bind_some]
    by_cases hb : (valB l[i] : Int) ≤ 1099511627776
    · rw [if_neg (by simp; omega)]
      refine ⟨_, rfl, fun m hm h0 h1 => ?_⟩
      rw [hm, valnum h0 h1, wrapS (by omega) (by omega)]
    · rw [if_pos (by simp; omega)]
      refine ⟨_, rfl, fun m hm h0 h1 => ?_⟩
      rw [hm, valnum h0 h1] at hb; omega
  · have : octet_Whole.f k l[i] = some (0, 2) := by unfold octet_Whole.f; rw [if_pos (by omega)]
    rw [this, Option.bind_some, if_pos (by simp)]
    refine ⟨_, rfl, fun m hm h0 h1 => ?_⟩
    rw [hm, num_len] at h8; omega
theorem Parse_ok (k : Nat) (s : List UInt8) (hs : s.length ≤ 10000) (hk : s.length + 30 ≤ k) : ∃ p e, courier_Parse.f k s = some (p, e) ∧ ((e = 0 ∧ okAsk p = true ∧ bindS (partsAsk p) = s) ∨ (e = 6 ∧ p = ⟨0, 0, [], [], 0, 0, []⟩)) := by
  unfold courier_Parse.f octet_Loose.f
  obtain ⟨⟨l, e⟩, hl⟩ := loose_total s.length k s [] (Nat.le_refl _) (by omega) (by simp; omega)
  rw [hl, Option.bind_some]
  by_cases h8 : l.length = 8
  · rw [if_neg (by simp [h8])]
    obtain ⟨n1, e1, _⟩ := part_ok k l 1 (by omega) (by omega)
    obtain ⟨n2, e2, _⟩ := part_ok k l 2 (by omega) (by omega)
    obtain ⟨n3, e3, _⟩ := part_ok k l 3 (by omega) (by omega)
    obtain ⟨n4, e4, _⟩ := part_ok k l 4 (by omega) (by omega)
    have g5 : l[Int.toNat 5]? = some (l[5]'(by omega)) := List.getElem?_eq_getElem (by omega)
    have g6 : l[Int.toNat 6]? = some (l[6]'(by omega)) := List.getElem?_eq_getElem (by omega)
    have g7 : l[Int.toNat 7]? = some (l[7]'(by omega)) := List.getElem?_eq_getElem (by omega)
    rw [show courier_parts_whole.f k l 1 = some n1 from e1, Option.bind_some, show courier_parts_whole.f k l 2 = some n2 from e2, Option.bind_some, show courier_parts_whole.f k l 3 = some n3 from e3, Option.bind_some, show courier_parts_whole.f k l 4 = some n4 from e4, Option.bind_some, g5, Option.bind_some, g6, Option.bind_some, g7, Option.bind_some, Text_ok k _ (by omega), Option.bind_some]
    generalize (⟨n1, n2, l[5], l[6], n3, n4, l[7]⟩ : ApiAsk) = a
    unfold textAsk
    by_cases ha : okAsk a = true
    · rw [if_pos ha]
      by_cases ht : bindS (partsAsk a) = s
      · rw [if_neg (by simp [ht])]; exact ⟨_, _, rfl, .inl ⟨rfl, ha, ht⟩⟩
      · rw [if_pos (by simp [ht])]; exact ⟨_, _, rfl, .inr ⟨rfl, rfl⟩⟩
    · rw [if_neg ha, if_pos (by simp)]; exact ⟨_, _, rfl, .inr ⟨rfl, rfl⟩⟩
  · rw [if_pos (by simp; omega)]; exact ⟨_, _, rfl, .inr ⟨rfl, rfl⟩⟩
theorem Parse_back (k : Nat) (a : ApiAsk) (ha : okAsk a = true) (hk : 30 ≤ k) : courier_Parse.f k (bindS (partsAsk a)) = some (a, 0) := by
  have hi := okAsk_iff.1 ha
  unfold courier_Parse.f octet_Loose.f
  have hl := loose_bind (partsAsk a) k [] hi.parts (by simp [partsAsk]; omega) (by simp [partsAsk])
  rw [hl, Option.bind_some, List.nil_append, if_neg (by simp [partsAsk])]
  have hp : ∀ i, i < 8 → i < (partsAsk a).length := fun i h => by simpa [partsAsk] using h
  obtain ⟨n1, e1, f1⟩ := part_ok k (partsAsk a) 1 (hp 1 (by omega)) (by omega)
  obtain ⟨n2, e2, f2⟩ := part_ok k (partsAsk a) 2 (hp 2 (by omega)) (by omega)
  obtain ⟨n3, e3, f3⟩ := part_ok k (partsAsk a) 3 (hp 3 (by omega)) (by omega)
  obtain ⟨n4, e4, f4⟩ := part_ok k (partsAsk a) 4 (hp 4 (by omega)) (by omega)
  have f1 := f1 _ rfl hi.i0.1 hi.i0.2
  have f2 := f2 _ rfl hi.k0.1 hi.k0.2
  have f3 := f3 _ rfl hi.u0.1 hi.u0.2
  have f4 := f4 _ rfl hi.o0.1 hi.o0.2
  subst f1; subst f2; subst f3; subst f4
  have g5 : (partsAsk a)[Int.toNat 5]? = some a.Repo := rfl
  have g6 : (partsAsk a)[Int.toNat 6]? = some a.Digest := rfl
  have g7 : (partsAsk a)[Int.toNat 7]? = some a.Data := rfl
  rw [show courier_parts_whole.f k (partsAsk a) 1 = some a.Id from e1, Option.bind_some, show courier_parts_whole.f k (partsAsk a) 2 = some a.Kind from e2, Option.bind_some, show courier_parts_whole.f k (partsAsk a) 3 = some a.Upload from e3, Option.bind_some, show courier_parts_whole.f k (partsAsk a) 4 = some a.Offset from e4, Option.bind_some, g5, Option.bind_some, g6, Option.bind_some, g7, Option.bind_some, Text_ok k _ (by omega), Option.bind_some]
  show (if (((textAsk a).2 != 0) || (!((textAsk a).1 == bindS (partsAsk a)))) = true then _ else some (a, 0)) = _
  unfold textAsk
  rw [if_pos ha, if_neg (by simp)]
theorem Read_ok (k : Nat) (s : List UInt8) (hs : s.length ≤ 10000) (hk : s.length + 30 ≤ k) : ∃ p e, courier_Read.f k s = some (p, e) ∧ ((e = 0 ∧ okAns p = true ∧ bindS (partsAns p) = s) ∨ (e = 6 ∧ p = ⟨0, 0, 0⟩)) := by
  unfold courier_Read.f octet_Loose.f
  obtain ⟨⟨l, e⟩, hl⟩ := loose_total s.length k s [] (Nat.le_refl _) (by omega) (by simp; omega)
  rw [hl, Option.bind_some]
  by_cases h8 : l.length = 4
  · rw [if_neg (by simp [h8])]
    obtain ⟨n1, e1, _⟩ := part_ok k l 1 (by omega) (by omega)
    obtain ⟨n2, e2, _⟩ := part_ok k l 2 (by omega) (by omega)
    obtain ⟨n3, e3, _⟩ := part_ok k l 3 (by omega) (by omega)
    rw [show courier_parts_whole.f k l 1 = some n1 from e1, Option.bind_some, show courier_parts_whole.f k l 2 = some n2 from e2, Option.bind_some, show courier_parts_whole.f k l 3 = some n3 from e3, Option.bind_some, Reply_ok k _ (by omega), Option.bind_some]
    generalize (⟨n1, n2, n3⟩ : ApiAnswer) = a
    unfold textAns
    by_cases ha : okAns a = true
    · rw [if_pos ha]
      by_cases ht : bindS (partsAns a) = s
      · rw [if_neg (by simp [ht])]; exact ⟨_, _, rfl, .inl ⟨rfl, ha, ht⟩⟩
      · rw [if_pos (by simp [ht])]; exact ⟨_, _, rfl, .inr ⟨rfl, rfl⟩⟩
    · rw [if_neg ha, if_pos (by simp)]; exact ⟨_, _, rfl, .inr ⟨rfl, rfl⟩⟩
  · rw [if_pos (by simp; omega)]; exact ⟨_, _, rfl, .inr ⟨rfl, rfl⟩⟩
theorem Read_back (k : Nat) (a : ApiAnswer) (ha : okAns a = true) (hk : 30 ≤ k) : courier_Read.f k (bindS (partsAns a)) = some (a, 0) := by
  have hi := okAns_iff.1 ha
  have h0 := hi.e0
  unfold courier_Read.f octet_Loose.f
  have hl := loose_bind (partsAns a) k [] partsAns_le (by simp [partsAns]; omega) (by simp [partsAns])
  rw [hl, Option.bind_some, List.nil_append, if_neg (by simp [partsAns])]
  have hp : ∀ i, i < 4 → i < (partsAns a).length := fun i h => by simpa [partsAns] using h
  obtain ⟨n1, e1, f1⟩ := part_ok k (partsAns a) 1 (hp 1 (by omega)) (by omega)
  obtain ⟨n2, e2, f2⟩ := part_ok k (partsAns a) 2 (hp 2 (by omega)) (by omega)
  obtain ⟨n3, e3, f3⟩ := part_ok k (partsAns a) 3 (hp 3 (by omega)) (by omega)
  have f1 := f1 _ rfl hi.i0.1 hi.i0.2
  have f2 := f2 _ rfl h0.1 (by omega)
  have f3 := f3 _ rfl hi.n0.1 hi.n0.2
  subst f1; subst f2; subst f3
  rw [show courier_parts_whole.f k (partsAns a) 1 = some a.Id from e1, Option.bind_some, show courier_parts_whole.f k (partsAns a) 2 = some a.Err from e2, Option.bind_some, show courier_parts_whole.f k (partsAns a) 3 = some a.N from e3, Option.bind_some, Reply_ok k _ (by omega), Option.bind_some]
  show (if (((textAns a).2 != 0) || (!((textAns a).1 == bindS (partsAns a)))) = true then _ else some (a, 0)) = _
  unfold textAns
  rw [if_pos ha, if_neg (by simp)]
end Go.Proofs.YtkfopceebbebjaaDoor
