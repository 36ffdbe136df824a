/- L4: CourierTexts: the law's own text on the plain functions (own work). -/
import Derived.Test.YtkfopceebbebjaaDoorL3
namespace Go.Proofs.YtkfopceebbebjaaDoor
set_option linter.unusedVariables false
set_option linter.unusedSimpArgs false

theorem cutAsk_ok (k : Nat) (a : ApiAsk) : ∃ t, consignorlaw21_cutAsk.f k a = some t := by
  unfold consignorlaw21_cutAsk.f
  rw [if_pos (by split <;> omega), if_pos (by split <;> omega), if_pos (by split <;> omega), if_pos (by split <;> omega), if_pos (by split <;> omega), if_pos (by split <;> omega)]
  exact ⟨_, rfl⟩
theorem alive_ok (k : Nat) (hk : 40 ≤ k) : consignorlaw21_alive.f k = some true := by
  unfold consignorlaw21_alive.f
  have ha : okAsk ⟨3, 1, [], [], 0, 0, []⟩ = true := by decide
  rw [Text_ok k _ (by omega), Option.bind_some]
  unfold textAsk
  rw [if_pos ha, Parse_back k _ ha (by omega), Option.bind_some]
  have hl : (bindS (partsAsk ⟨3, 1, [], [], 0, 0, []⟩)).length = 51 := by simp [bindS, partsAsk, leB_len, num_len]
  simp [hl]
section
variable (k : Nat) (b : ApiAnswer) (t : ApiAsk) (s : List UInt8)
theorem j4_ok (hk : 40 ≤ k) : consignorlaw21_CourierTexts.j4 k b (textAns b) = some true := by
  obtain ⟨k, rfl⟩ : ∃ j, k = j + 1 := ⟨k - 1, by omega⟩
  rw [consignorlaw21_CourierTexts.j4]
  unfold textAns
  by_cases h : okAns b = true
  · rw [if_pos h, if_pos (by rfl), Read_back k b h (by omega), Option.bind_some, if_neg (by simp)]
  · rw [if_neg h, if_neg (by simp)]
theorem j3_ok (hk : 41 ≤ k) : consignorlaw21_CourierTexts.j3 k b t (textAsk t) (textAns b) false = some true := by
  obtain ⟨k, rfl⟩ : ∃ j, k = j + 1 := ⟨k - 1, by omega⟩
  rw [consignorlaw21_CourierTexts.j3, if_neg (by simp)]
  by_cases h : okAsk t = true
  · have e : textAsk t = (bindS (partsAsk t), 0) := by unfold textAsk; rw [if_pos h]
    rw [e, if_pos (by rfl), Parse_back k t h (by omega), Option.bind_some, if_neg (by simp), j4_ok k b (by omega)]
  · have e : textAsk t = ([], 1) := by unfold textAsk; rw [if_neg h]
    rw [e, if_neg (by simp), j4_ok k b (by omega)]
def cutS (s : List UInt8) : List UInt8 := (s.take (Int.toNat (if 1500 < (s.length : Int) then 1500 else (s.length : Int)))).drop (Int.toNat 0)
theorem cutS_len (s : List UInt8) : (cutS s).length ≤ 1500 := by
  unfold cutS
  simp only [List.length_drop, List.length_take]
  split <;> simp <;> omega
theorem j2_ok (hk : 1600 ≤ k) (q : ApiAnswer) (h : Int) (hq : (h = 0 ∧ okAns q = true ∧ bindS (partsAns q) = cutS s) ∨ (h = 6 ∧ q = ⟨0, 0, 0⟩)) :
    consignorlaw21_CourierTexts.j2 k b s t (textAsk t) (textAns b) (q, h) false = some true := by
  obtain ⟨k, rfl⟩ : ∃ j, k = j + 1 := ⟨k - 1, by omega⟩
  have j3 := j3_ok k b t (by omega)
  rw [consignorlaw21_CourierTexts.j2, if_neg (by simp)]
  rcases hq with ⟨rfl, h1, h2⟩ | ⟨rfl, rfl⟩
  · rw [if_pos (by rfl), IsAns_ok, Option.bind_some, if_pos h1, Ans_ok k q h1 (by omega), Option.bind_some, if_pos (by rw [h2]; unfold cutS; simp), if_neg (by simp), j3]
  · rw [if_neg (by simp), if_pos (by simp), if_neg (by simp)]
    exact j3
theorem j1_ok (hk : 1601 ≤ k) (p : ApiAsk) (g : Int) (q : ApiAnswer) (h : Int) (hp : (g = 0 ∧ okAsk p = true ∧ bindS (partsAsk p) = cutS s) ∨ (g = 6 ∧ p = ⟨0, 0, [], [], 0, 0, []⟩)) (hq : (h = 0 ∧ okAns q = true ∧ bindS (partsAns q) = cutS s) ∨ (h = 6 ∧ q = ⟨0, 0, 0⟩)) :
    consignorlaw21_CourierTexts.j1 k b s t (textAsk t) (textAns b) (p, g) (q, h) false = some true := by
  obtain ⟨k, rfl⟩ : ∃ j, k = j + 1 := ⟨k - 1, by omega⟩
  have j2 := j2_ok k b t s (by omega) q h hq
  rw [consignorlaw21_CourierTexts.j1, if_neg (by simp)]
  rcases hp with ⟨rfl, h1, h2⟩ | ⟨rfl, rfl⟩
  · rw [if_pos (by rfl), IsAsk_ok, Option.bind_some, if_pos h1, Ask_ok k p h1 (by omega), Option.bind_some, if_pos (by rw [h2]; unfold cutS; simp), if_neg (by simp), j2]
  · rw [if_neg (by simp), if_pos (by simp), if_neg (by simp)]
    exact j2
theorem j0_ok (hk : 1602 ≤ k) (p : ApiAsk) (g : Int) (q : ApiAnswer) (h : Int) (hp : (g = 0 ∧ okAsk p = true ∧ bindS (partsAsk p) = cutS s) ∨ (g = 6 ∧ p = ⟨0, 0, [], [], 0, 0, []⟩)) (hq : (h = 0 ∧ okAns q = true ∧ bindS (partsAns q) = cutS s) ∨ (h = 6 ∧ q = ⟨0, 0, 0⟩)) :
    consignorlaw21_CourierTexts.j0 k b s t (textAsk t) (textAns b) (p, g) (q, h) false = some true := by
  obtain ⟨k, rfl⟩ : ∃ j, k = j + 1 := ⟨k - 1, by omega⟩
  have j1 := j1_ok k b t s (by omega) p g q h hp hq
  rw [consignorlaw21_CourierTexts.j0, if_neg (by simp), IsAns_ok, Option.bind_some]
  by_cases hb : okAns b = true
  · have e : textAns b = (bindS (partsAns b), 0) := by unfold textAns; rw [if_pos hb]
    rw [if_pos hb]
    rw [e] at j1 ⊢
    rw [if_neg (by simp), Ans_ok k b hb (by omega), Option.bind_some, if_pos (by simp), Option.bind_some, if_pos hb]
    exact j1
  · have e : textAns b = ([], 1) := by unfold textAns; rw [if_neg hb]
    rw [if_neg hb, Option.bind_some, if_neg hb]
    rw [e] at j1 ⊢
    rw [if_neg (by simp)]
    exact j1
end
theorem courierTexts_law (a : ApiAsk) (b : ApiAnswer) (s : List UInt8) : ∃ k, consignorlaw21_CourierTexts.f k a b s = some true := by
  refine ⟨2000, ?_⟩
  generalize hK : 2000 = k
  have hk : 1900 ≤ k := by omega
  clear hK
  obtain ⟨t, ht⟩ := cutAsk_ok k a
  have hlen := cutS_len s
  obtain ⟨p, g, hpe, hp⟩ := Parse_ok k (cutS s) (by omega) (by omega)
  obtain ⟨q, h, hqe, hq⟩ := Read_ok k (cutS s) (by omega) (by omega)
  have j0 := j0_ok k b t s (by omega) p g q h hp hq
  have al := alive_ok k (by omega)
  unfold consignorlaw21_CourierTexts.f
  rw [ht, Option.bind_some, if_pos (by split <;> omega), if_pos (by split <;> omega), Text_ok k t (by omega), Option.bind_some, Reply_ok k b (by omega), Option.bind_some]
  rw [show courier_Parse.f k ((s.take (Int.toNat (if 1500 < (s.length : Int) then 1500 else (s.length : Int)))).drop (Int.toNat 0)) = some (p, g) from hpe, Option.bind_some]
  rw [show courier_Read.f k ((s.take (Int.toNat (if 1500 < (s.length : Int) then 1500 else (s.length : Int)))).drop (Int.toNat 0)) = some (q, h) from hqe, Option.bind_some]
  simp only [IsAsk_ok, Option.bind_some, al]
  by_cases ha : okAsk t = true
  · have e : textAsk t = (bindS (partsAsk t), 0) := by unfold textAsk; rw [if_pos ha]
    rw [if_pos ha]
    rw [e] at j0 ⊢
    rw [if_neg (by simp), Ask_ok k t ha (by omega), Option.bind_some, if_pos (by simp), if_pos ha]
    exact j0
  · have e : textAsk t = ([], 1) := by unfold textAsk; rw [if_neg ha]
    rw [if_neg ha, if_neg ha]
    rw [e] at j0 ⊢
    rw [if_neg (by simp), if_pos (by simp)]
    exact j0
end Go.Proofs.YtkfopceebbebjaaDoor
