/- SL4: ScriptPrints: the plain law (own work). -/
import Derived.Test.YtlaifpbickdpkaaGreatDoorSL3
import Derived.Test.YtlaifpbickdpkaaGreatDoorT5
namespace Go.Proofs.YtlaifpbickdpkaaGreatDoor
set_option linter.unusedVariables false
set_option linter.unusedSimpArgs false
open Go.Lib (decDigits itoa)

theorem rRight_loop (p : ApiPlan) (hp : Small p) : ∀ (m j k : Nat), j + m = p.Deeds.length → m + 2100 < k → consignorref20_Right.l0 k p (j : Int) = some ((p.Deeds.drop j).all okD && (decide (p.Deeds.length ≤ 200) && okB p.Quota p.Sectors))
  | 0, j, k + 1, h, hk => by
    rw [consignorref20_Right.l0, if_neg (by omega), show p.Deeds.drop j = [] from List.drop_of_length_le (by omega)]
    by_cases hl : p.Deeds.length ≤ 200
    · rw [if_pos (by omega)]
      unfold consignorref20_Begins.f
      simp [hl, okB]
    · rw [if_neg (by omega)]; simp [hl]
  | m + 1, j, k + 1, h, hk => by
    have hlt : j < p.Deeds.length := by omega
    have hs := hp.2 _ (List.getElem_mem hlt)
    have hle := hp.1
    rw [consignorref20_Right.l0, if_pos (by omega), if_pos (by omega), Int.toNat_natCast, List.getElem?_eq_getElem hlt, Option.bind_some, IsDeed_ok k _ hs.2.1 hs.2.2 (by omega), Option.bind_some, List.drop_eq_getElem_cons hlt, List.all_cons]
    cases ho : okD p.Deeds[j] with
    | false => rw [if_neg (by simp)]; rfl
    | true => rw [if_pos rfl, wrapS (by omega) (by omega), show (j : Int) + 1 = ((j + 1 : Nat) : Int) by omega, rRight_loop p hp m (j + 1) k (by omega) (by omega), Bool.true_and]
theorem rRight_ok (k : Nat) (p : ApiPlan) (hp : Small p) (hk : 3200 < k) : consignorref20_Right.f k p = some (okP p) := by
  have hl := hp.1
  have := rRight_loop p hp p.Deeds.length 0 k (by omega) (by omega)
  unfold consignorref20_Right.f
  rw [show (0 : Int) = ((0 : Nat) : Int) from rfl, this, List.drop_zero]
  unfold okP
  congr 1
  cases p.Deeds.all okD <;> cases decide (p.Deeds.length ≤ 200) <;> cases okB p.Quota p.Sectors <;> rfl
theorem Text_loop (p : ApiPlan) (hd : p.Deeds.all okD = true) (hl : p.Deeds.length ≤ 1000) : ∀ (m j k : Nat) (acc : List UInt8), j + m = p.Deeds.length → acc.length ≤ 1000 + 10000 * j → m + 6200 < k →
    consignorref20_Text.l0 k p acc (j : Int) = some (acc ++ (p.Deeds.drop j).flatMap (fun d => lineD d ++ [10]))
  | 0, j, k + 1, acc, h, hc, hk => by
    rw [consignorref20_Text.l0, if_neg (by omega), List.drop_of_length_le (by omega)]; simp
  | m + 1, j, k + 1, acc, h, hc, hk => by
    have hlt : j < p.Deeds.length := by omega
    have ho := List.all_eq_true.1 hd _ (List.getElem_mem hlt)
    have hle := lineD_len ho
    rw [consignorref20_Text.l0, if_pos (by omega), if_pos (by omega), Int.toNat_natCast, List.getElem?_eq_getElem hlt, Option.bind_some, Line_ok k _ ho (by omega), Option.bind_some, if_pos (by omega), if_pos (by simp; omega),
      wrapS (by omega) (by omega), show (j : Int) + 1 = ((j + 1 : Nat) : Int) by omega, Text_loop p hd hl m (j + 1) k _ (by omega) (by simp; omega) (by omega), List.drop_eq_getElem_cons hlt]
    simp only [List.flatMap_cons]
    simp
theorem Text_ok (k : Nat) (p : ApiPlan) (h : okP p = true) (hk : 7300 < k) : consignorref20_Text.f k p = some (textP p) := by
  obtain ⟨h1, h2, h3⟩ := okP_iff.1 h
  obtain ⟨b0, b1, b2, b3⟩ := okB_iff.1 h1
  have i1 : in40 p.Quota = true := in40_iff.2 (by omega)
  have i2 : in40 p.Sectors = true := in40_iff.2 (by omega)
  have l1 := itoa_len _ i1
  have l2 := itoa_len _ i2
  unfold consignorref20_Text.f
  rw [Itoa_ok k _ i1, Option.bind_some, if_pos (by simp; omega), if_pos (by simp; omega), Itoa_ok k _ i2, Option.bind_some, if_pos (by simp; omega), if_pos (by simp; omega)]
  have := Text_loop p h3 (by omega) p.Deeds.length 0 k _ (by omega) (show (((([119, 111, 114, 108, 100, 32] : List UInt8) ++ itoa p.Quota) ++ ([32] : List UInt8)) ++ itoa p.Sectors ++ ([10] : List UInt8)).length ≤ 1000 + 10000 * 0 by simp; omega) (by omega)
  rw [show (0 : Int) = ((0 : Nat) : Int) from rfl, this]
  simp [textP, headS, bodyS, numS]
theorem scriptPrints_law (p : ApiPlan) (hp : ∀ d ∈ p.Deeds, i64ok d.Kind) : ∃ k, consignorlaw20_ScriptPrints.f k p = some true := by
  refine ⟨20000, ?_⟩
  have hs := small_few p 205 (by omega) hp
  have hP := Print_ok 20000 (.inl rfl) _ hs
  have hR := Right_ok 20000 (.inl rfl) _ hs
  have al := alive_ok
  generalize hK : 20000 = K at *
  have hk : 19999 < K := by omega
  obtain ⟨k, rfl⟩ : ∃ q, K = q + 1 := ⟨K - 1, by omega⟩
  unfold consignorlaw20_ScriptPrints.f
  rw [show (205 : Int) = ((205 : Nat) : Int) from rfl, few_ok (k + 1) p 205 (by omega) (by omega), Option.bind_some, hP, Option.bind_some, hR, Option.bind_some, rRight_ok (k + 1) _ hs (by omega), Option.bind_some, if_pos (by simp), al, Option.bind_some,
    consignorlaw20_ScriptPrints.j0, if_neg (by simp), rRight_ok k _ hs (by omega), Option.bind_some]
  cases ho : okP (fewP p 205) with
  | true => rw [if_pos rfl, if_pos rfl, if_pos (by simp), Text_ok k _ ho (by omega), Option.bind_some]; simp
  | false => simp
end Go.Proofs.YtlaifpbickdpkaaGreatDoor
