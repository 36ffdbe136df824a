/- SB1: ScriptBack: the plain law (own work). -/
import Derived.Test.YtlaifpbickdpkaaDoorSP5
import Derived.Test.YtlaifpbickdpkaaDoorT8
namespace Go.Proofs.YtlaifpbickdpkaaDoor
set_option linter.unusedVariables false
set_option linter.unusedSimpArgs false
open Go.Lib (decDigits itoa)

theorem Same_l0 (a : List (List UInt8)) (ha : a.length ≤ 1000) : ∀ (m j k : Nat), j + m = a.length → m < k → consignorref01_Same.l0 k a a (j : Int) = some true
  | 0, j, k + 1, h, hk => by rw [consignorref01_Same.l0, if_neg (by omega)]
  | m + 1, j, k + 1, h, hk => by
    have hlt : j < a.length := by omega
    rw [consignorref01_Same.l0, if_pos (by omega), if_pos (by omega), Int.toNat_natCast, List.getElem?_eq_getElem hlt, Option.bind_some, if_pos (by omega), Option.bind_some, if_pos (by simp), wrapS (by omega) (by omega), show (j : Int) + 1 = ((j + 1 : Nat) : Int) by omega,
      Same_l0 a ha m (j + 1) k (by omega) (by omega)]
theorem Same_ok (k : Nat) (a : List (List UInt8)) (ha : a.length ≤ 1000) (hk : 1000 < k) : consignorref01_Same.f k a a = some true := by
  unfold consignorref01_Same.f
  rw [if_neg (by simp)]
  exact Same_l0 a ha a.length 0 k (by omega) (by omega)
theorem Like_l2 (p : ApiPlan) (x33 q s : Int) (l : List ApiDeed) (t : ApiDeed) (hn : t.Nums.length ≤ 1000) : ∀ (m j k : Nat), j + m = t.Nums.length → m < k → consignorref20_Like.l2 k p x33 q s l q s l t t (j : Int) = consignorref20_Like.l0 (k - (m + 1)) p (IntKind.i64.wrap (x33 + 1)) q s l q s l
  | 0, j, k + 1, h, hk => by rw [consignorref20_Like.l2, if_neg (by omega)]; rfl
  | m + 1, j, k + 1, h, hk => by
    have hlt : j < t.Nums.length := by omega
    rw [consignorref20_Like.l2, if_pos (by omega), if_pos (by omega), Int.toNat_natCast, List.getElem?_eq_getElem hlt, Option.bind_some, if_pos (by omega), Option.bind_some, if_neg (by simp), wrapS (by omega) (by omega), show (j : Int) + 1 = ((j + 1 : Nat) : Int) by omega,
      Like_l2 p x33 q s l t hn m (j + 1) k (by omega) (by omega), show k + 1 - (m + 1 + 1) = k - (m + 1) by omega]
theorem Like_l0 (p : ApiPlan) (q s : Int) (hp : p.Deeds.length ≤ 1000) (hd : ∀ d ∈ p.Deeds, d.Nums.length ≤ 10 ∧ d.Texts.length ≤ 1000) : ∀ (m j k : Nat), j + m = p.Deeds.length → 13 * m + 1001 < k → consignorref20_Like.l0 k p (j : Int) q s p.Deeds q s p.Deeds = some true
  | 0, j, k + 1, h, hk => by rw [consignorref20_Like.l0, if_neg (by omega)]
  | m + 1, j, k + 1, h, hk => by
    have hlt : j < p.Deeds.length := by omega
    obtain ⟨h1, h2⟩ := hd _ (List.getElem_mem hlt)
    rw [consignorref20_Like.l0, if_pos (by omega), if_pos (by omega), Int.toNat_natCast, List.getElem?_eq_getElem hlt, Option.bind_some, if_pos (by omega), Option.bind_some, if_neg (by simp), Same_ok k _ h2 (by omega), Option.bind_some]
    obtain ⟨k, rfl⟩ : ∃ i, k = i + 1 := ⟨k - 1, by omega⟩
    rw [consignorref20_Like.j1, if_neg (by simp), show (0 : Int) = ((0 : Nat) : Int) from rfl, Like_l2 p (j : Int) q s p.Deeds _ (by omega) (p.Deeds[j].Nums.length) 0 k (by omega) (by omega), wrapS (by omega) (by omega), show (j : Int) + 1 = ((j + 1 : Nat) : Int) by omega,
      Like_l0 p q s hp hd m (j + 1) _ (by omega) (by omega)]
theorem Like_ok (k : Nat) (p : ApiPlan) (hp : p.Deeds.length ≤ 1000) (hd : ∀ d ∈ p.Deeds, d.Nums.length ≤ 10 ∧ d.Texts.length ≤ 1000) (hk : 15000 < k) : consignorref20_Like.f k p p = some true := by
  unfold consignorref20_Like.f
  rw [if_neg (by simp)]
  exact Like_l0 p _ _ hp hd p.Deeds.length 0 k (by omega) (by omega)
theorem okP_small {p : ApiPlan} (h : okP p = true) : Small p ∧ ∀ d ∈ p.Deeds, d.Nums.length ≤ 10 ∧ d.Texts.length ≤ 1000 := by
  obtain ⟨h1, h2, h3⟩ := okP_iff.1 h
  refine ⟨⟨by omega, fun d hd => ?_⟩, fun d hd => ?_⟩
  · obtain ⟨s, hs⟩ := okD_iff.1 (List.all_eq_true.1 h3 d hd)
    have := hs.k; have := hs.n7; have := hs.t4
    exact ⟨i64ok_iff.2 (by omega), by omega, by omega⟩
  · obtain ⟨s, hs⟩ := okD_iff.1 (List.all_eq_true.1 h3 d hd)
    have := hs.n7; have := hs.t4
    exact ⟨by omega, by omega⟩
theorem Back_j0 (k : Nat) (a : List UInt8) (hk : 40000 < k) : consignorlaw20_ScriptBack.j0 k a = some true := by
  obtain ⟨k, rfl⟩ : ∃ i, k = i + 1 := ⟨k - 1, by omega⟩
  rw [consignorlaw20_ScriptBack.j0, cutI _ 12000 (by omega), show Int.toNat 12000 = 12000 from rfl]
  have hl : (a.take 12000).length ≤ 12000 := by rw [List.length_take]; omega
  obtain ⟨r, hr, hc⟩ := Parse_ok k (a.take 12000) hl (by omega)
  rw [hr, Option.bind_some, alive_ok k (by omega)]
  rcases hc with ⟨c1, c2, c3⟩ | ⟨c1, c2⟩
  · obtain ⟨hs, _⟩ := okP_small c2
    rw [c1, if_neg (by simp), Print_ok k (by omega) _ hs, Option.bind_some, if_pos c2, Option.bind_some, if_pos (by rw [← c3]; simp), Right_ok k (by omega) _ hs, Option.bind_some, c2]
  · rw [c2, if_pos (by simp), Option.bind_some, if_pos rfl, c1, Like_ok k _ (by simp) (by simp) (by omega), Option.bind_some]
    obtain ⟨k, rfl⟩ : ∃ i, k = i + 1 := ⟨k - 1, by omega⟩
    rw [consignorlaw20_ScriptBack.j1]
theorem scriptBack_law (p : ApiPlan) (s : List UInt8) (hp : ∀ d ∈ p.Deeds, i64ok d.Kind) : ∃ k, consignorlaw20_ScriptBack.f k p s = some true := by
  refine ⟨50000, ?_⟩
  have hs := small_few p 205 (by omega) hp
  generalize hK : 50000 = k
  have hk : 49999 < k := by omega
  clear hK
  unfold consignorlaw20_ScriptBack.f
  rw [show (205 : Int) = ((205 : Nat) : Int) from rfl, few_ok k p 205 (by omega) (by omega), Option.bind_some, if_pos (cut01 _ 12000 (by omega)), if_pos (cut02 _ 12000), Print_ok k (by omega) _ hs, Option.bind_some, Back_j0 k s (by omega)]
  cases ho : okP (fewP p 205) with
  | false => rw [if_neg (by simp)]
  | true =>
    obtain ⟨_, hd⟩ := okP_small ho
    rw [if_pos rfl, if_pos (by simp), Parse_text k _ ho (by omega), Option.bind_some, if_neg (by simp), Like_ok k _ hs.1 hd (by omega), Option.bind_some, if_pos rfl]
end Go.Proofs.YtlaifpbickdpkaaDoor
