/- SL5: ScriptLines: the plain law (own work). -/
import Derived.Test.YtlaifpbickdpkaaGreatDoorSL3
import Derived.Test.YtlaifpbickdpkaaGreatDoorT6
namespace Go.Proofs.YtlaifpbickdpkaaGreatDoor
set_option linter.unusedVariables false
set_option linter.unusedSimpArgs false
open Go.Lib (decDigits itoa)

/-! ### a line's one end -/
theorem dec_no (n : Nat) : (10 : UInt8) ∉ decDigits n := by
  induction n using Nat.strongRecOn with
  | _ n ih =>
    have key : ∀ m : Fin 10, (10 : UInt8) ≠ UInt8.ofNat (48 + m.val) := by decide
    by_cases h : n < 10
    · rw [Lib.decDigits_one h]
      intro hm
      exact key ⟨n, h⟩ (List.mem_singleton.1 hm)
    · rw [dec_big h]
      intro hm
      rcases List.mem_append.1 hm with h1 | h1
      · exact ih (n / 10) (by omega) h1
      · exact key ⟨n % 10, Nat.mod_lt _ (by omega)⟩ (List.mem_singleton.1 h1)
theorem itoa_no (n : Int) (h : in40 n = true) : (10 : UInt8) ∉ itoa n := by
  obtain ⟨h0, h1⟩ := in40_iff.1 h
  obtain ⟨u, rfl⟩ : ∃ u : Nat, n = (u : Int) := ⟨n.toNat, by omega⟩
  rw [Lib.itoa_nonneg]; exact dec_no u
theorem hx_no (b : UInt8) : (10 : UInt8) ∉ hx b := by
  have key : ∀ m : Fin 16, (10 : UInt8) ≠ HD.getD m.val 0 := by decide
  have hb := b.toNat_lt
  intro hm
  unfold hx at hm
  rcases List.mem_cons.1 hm with h | h
  · exact key ⟨b.toNat / 16, by omega⟩ h
  · exact key ⟨b.toNat % 16, by omega⟩ (List.mem_singleton.1 h)
theorem hexS_no (s : List UInt8) : (10 : UInt8) ∉ hexS s := fun hm => by
  obtain ⟨b, _, h⟩ := List.mem_flatMap.1 hm
  exact hx_no b h
theorem bodyS_no {ns : List Int} {ts : List (List UInt8)} (h : ns.all in40 = true) : (10 : UInt8) ∉ bodyS ns ts := fun hm => by
  rcases List.mem_append.1 hm with h1 | h1
  · obtain ⟨n, hn, h2⟩ := List.mem_flatMap.1 h1
    rcases List.mem_cons.1 h2 with h3 | h3
    · exact absurd h3 (by decide)
    · exact itoa_no n (List.all_eq_true.1 h n hn) h3
  · obtain ⟨s, hs, h2⟩ := List.mem_flatMap.1 h1
    rcases List.mem_cons.1 h2 with h3 | h3
    · exact absurd h3 (by decide)
    · rcases List.mem_cons.1 h3 with h4 | h4
      · exact absurd h4 (by decide)
      · exact hexS_no s h4
theorem sh_no : ∀ p ∈ SH, (10 : UInt8) ∉ p.2.word := by decide
theorem lineD_no {d : ApiDeed} (h : okD d = true) : (10 : UInt8) ∉ lineD d := by
  obtain ⟨s, h⟩ := okD_iff.1 h
  unfold lineD
  rw [h.sh]
  intro hm
  rcases List.mem_append.1 hm with h1 | h1
  · exact sh_no _ (mfind_in h.m) h1
  · exact bodyS_no h.ns h1
theorem headS_no {p : ApiPlan} (h : okB p.Quota p.Sectors = true) : (10 : UInt8) ∉ headS p := by
  obtain ⟨h0, h1, h2, h3⟩ := okB_iff.1 h
  intro hm
  rcases List.mem_append.1 hm with h1 | h1
  · exact absurd h1 (by decide)
  · exact bodyS_no (by simp [in40]; omega) h1
theorem count_line {l : List UInt8} (h : (10 : UInt8) ∉ l) : (l ++ [10]).count 10 = 1 := by
  rw [List.count_append, List.count_eq_zero.2 h]; rfl
theorem textP_count {p : ApiPlan} (h : okP p = true) : (textP p).count 10 = p.Deeds.length + 1 := by
  obtain ⟨h1, h2, h3⟩ := okP_iff.1 h
  have key : ∀ l : List ApiDeed, l.all okD = true → (l.flatMap fun d => lineD d ++ [10]).count 10 = l.length := by
    intro l
    induction l with
    | nil => intro _; rfl
    | cons d l ih =>
      intro hl
      rw [List.all_cons, Bool.and_eq_true] at hl
      rw [List.flatMap_cons, List.count_append, count_line (lineD_no hl.1), ih hl.2, List.length_cons, Nat.add_comm]
  unfold textP
  rw [List.count_append, count_line (headS_no h1), key _ h3, Nat.add_comm]
theorem Count_ok (k : Nat) (a : List UInt8) (h : a.length ≤ 2000000) : strings_Count.f k a [10] = some (a.count 10 : Int) := by
  unfold strings_Count.f
  rw [if_pos ⟨by omega, by simp⟩]
  have : Lib.countB (bs a) (bs [10]) = a.count 10 := by
    have := Lib.count_one 10 a
    simpa [bs] using this
  rw [this]
theorem textP_more {p : ApiPlan} (d : ApiDeed) : textP ⟨p.Quota, p.Sectors, p.Deeds ++ [d]⟩ = textP p ++ lineD d ++ [10] := by
  simp [textP, headS]
theorem okP_more {p : ApiPlan} (d : ApiDeed) (h : okP p = true) : okP ⟨p.Quota, p.Sectors, p.Deeds ++ [d]⟩ = (okD d && !((p.Deeds.length : Int) == 200)) := by
  obtain ⟨h1, h2, h3⟩ := okP_iff.1 h
  unfold okP
  simp only [List.length_append, List.length_cons, List.length_nil, List.all_append, List.all_cons, List.all_nil, Bool.and_true, h1, h3, Bool.true_and]
  rw [Bool.and_comm]
  congr 1
  by_cases he : p.Deeds.length = 200
  · rw [he]; decide
  · rw [show decide (p.Deeds.length + (0 + 1) ≤ 200) = true by simp; omega]
    simp; omega
theorem scriptLines_law (p : ApiPlan) (d : ApiDeed) (hp : ∀ d ∈ p.Deeds, i64ok d.Kind) (hd : i64ok d.Kind) : ∃ k, consignorlaw20_ScriptLines.f k p d = some true := by
  refine ⟨20000, ?_⟩
  have hs := small_few p 205 (by omega) hp
  have hl : (fewP p 205).Deeds.length ≤ 205 := by simp [fewP]; omega
  have hsd : Small ⟨(fewP p 205).Quota, (fewP p 205).Sectors, (fewP p 205).Deeds ++ [fewD d]⟩ := ⟨by simp; omega, fun e he => by
    rcases List.mem_append.1 he with h1 | h1
    · exact hs.2 e h1
    · rw [List.mem_singleton.1 h1]; exact ⟨hd, by simp [fewD]; omega, by simp [fewD]; omega⟩⟩
  have hP := Print_ok 20000 (.inl rfl) _ hs
  have hQ := Print_ok 20000 (.inl rfl) _ hsd
  have al := alive_ok
  generalize hK : 20000 = K at *
  have hk : 19999 < K := by omega
  obtain ⟨k, rfl⟩ : ∃ q, K = q + 1 := ⟨K - 1, by omega⟩
  have hone : consignorlaw20_few.f (k + 1) ⟨0, 0, [d]⟩ ((1 : Nat) : Int) = some ⟨0, 0, [fewD d]⟩ := by rw [few_ok (k + 1) _ 1 (by omega) (by omega)]; rfl
  unfold consignorlaw20_ScriptLines.f
  rw [show (205 : Int) = ((205 : Nat) : Int) from rfl, few_ok (k + 1) p 205 (by omega) (by omega), Option.bind_some, show (1 : Int) = ((1 : Nat) : Int) from rfl, hone, Option.bind_some]
  rw [show ([fewD d] : List ApiDeed)[Int.toNat 0]? = some (fewD d) from rfl, Option.bind_some, hP, Option.bind_some]
  generalize fewP p 205 = P at *
  cases ho : okP P with
  | false => rw [if_pos (by simp), al, Option.bind_some]; simp
  | true =>
    have hlen := textP_len ho
    have hm := okP_more (fewD d) ho
    rw [if_neg (by simp), if_pos (by simp; omega), if_pos (by simp; omega), List.nil_append, hQ, Option.bind_some, if_pos rfl, Count_ok _ _ hlen, Option.bind_some, textP_count ho, if_neg (by rw [wrapS (by omega) (by omega)]; simp), al, Option.bind_some,
      consignorlaw20_ScriptLines.j0, if_neg (by simp), IsDeed_ok k _ (by simp [fewD]; omega) (by simp [fewD]; omega) (by omega), Option.bind_some, hm]
    cases hd1 : okD (fewD d) with
    | false => simp
    | true =>
      by_cases he : (P.Deeds.length : Int) = 200
      · simp [he]
      · have hle := lineD_len hd1
        rw [if_neg (by simp [he]), if_pos (by simp [he]), if_pos (by simp [he]), Line_ok k _ hd1 (by omega), Option.bind_some, if_pos (show (textP P).length + _ ≤ _ by omega), if_pos (by simp; omega)]
        simp [textP_more]
end Go.Proofs.YtlaifpbickdpkaaGreatDoor
