/- SP3: the scripts' plain law: the program's reading of a deed's line and of the first one (own work). -/
import Derived.Test.YtlaifpbickdpkaaDoorSP2
namespace Go.Proofs.YtlaifpbickdpkaaDoor
set_option linter.unusedVariables false
set_option linter.unusedSimpArgs false
open Go.Lib (decDigits itoa)

def txtW (t : List UInt8) : List UInt8 := 120 :: hexS t
theorem trim_x (w : List UInt8) : (Lib.trimPrefix w [120]).length ≤ w.length := by
  unfold Lib.trimPrefix; split <;> simp
theorem trim_txt (t : List UInt8) : Lib.trimPrefix (txtW t) [120] = hexS t := by
  unfold Lib.trimPrefix Lib.hasPrefix txtW
  rw [if_pos (by simp [List.isPrefixOf])]; rfl
theorem texts_l0 (a : List (List UInt8)) (ha : a.length ≤ 100) (hw : ∀ w ∈ a, w.length ≤ 1000000) (K : Nat) (hK : ∀ w ∈ a, w.length < K) : ∀ (m j k : Nat) (acc : List (List UInt8)), j + m = a.length → acc.length = j → m + K ≤ k → 0 < k → 0 < K →
    ∃ rs, script_texts.l0 k a acc (j : Int) = some (acc ++ rs) ∧ rs.length = m ∧ ∀ ts, a.drop j = ts.map txtW → rs = ts
  | 0, j, k + 1, acc, h, hc, hk, _, _ => ⟨[], by rw [script_texts.l0, if_neg (by omega)]; simp, rfl, fun ts ht => by
    rw [List.drop_of_length_le (by omega)] at ht
    cases ts with
    | nil => rfl
    | cons x r => cases ht⟩
  | m + 1, j, k + 1, acc, h, hc, hk, _, h0 => by
    have hlt : j < a.length := by omega
    have hm := List.getElem_mem hlt
    have h1 := hw _ hm
    have h2 := hK _ hm
    have h3 := trim_x a[j]
    obtain ⟨r, hr, hp⟩ := Bytes_ok k (Lib.trimPrefix a[j] [120]) (by omega) (by omega)
    obtain ⟨rs, hrs, hl, hps⟩ := texts_l0 a ha hw K hK m (j + 1) k (acc ++ [r.1]) (by omega) (by simp; omega) (by omega) (by omega) h0
    refine ⟨r.1 :: rs, ?_, by simp [hl], fun ts ht => ?_⟩
    · rw [script_texts.l0, if_pos (by omega), if_pos (by omega), Int.toNat_natCast, List.getElem?_eq_getElem hlt, Option.bind_some]
      unfold strings_CutPrefix.f
      rw [Option.bind_some, hr, Option.bind_some, if_pos (by simp; omega), wrapS (by omega) (by omega), show (j : Int) + 1 = ((j + 1 : Nat) : Int) by omega, hrs]
      simp
    · rw [List.drop_eq_getElem_cons hlt] at ht
      cases ts with
      | nil => cases ht
      | cons x ts =>
        rw [List.map_cons] at ht
        obtain ⟨e1, e2⟩ := List.cons.inj ht
        rw [hps ts e2, hp x (by rw [e1, trim_txt])]
theorem texts_ok (k : Nat) (a : List (List UInt8)) (ha : a.length ≤ 100) (N : Nat) (hN : N ≤ 1000000) (hw : ∀ w ∈ a, w.length ≤ N) (hk : N + 200 < k) :
    ∃ rs, script_texts.f k a = some rs ∧ rs.length = a.length ∧ ∀ ts, a = ts.map txtW → rs = ts := by
  obtain ⟨rs, h1, h2, h3⟩ := texts_l0 a ha (fun w h => Nat.le_trans (hw w h) hN) (N + 1) (fun w h => Nat.lt_succ_of_le (hw w h)) a.length 0 k [] (by omega) rfl (by omega) (by omega) (by omega)
  exact ⟨rs, by simpa [script_texts.f] using h1, h2, h3⟩

/-! ### a range in which one entry answers, or none -/
section
variable {T R : Type} {B : Int → T → Option (Option R)} {rest : Option R}
theorem mapRun_none {l : List (Int × T)} (h : ∀ p ∈ l, (mfind l p.1).bind (B p.1) = some none) : mapRun l B rest = rest := by
  unfold mapRun
  rw [if_pos (List.all_eq_true.2 fun p hp => by rw [h p hp]; rfl)]
  have e : (l.filterMap fun p => ((mfind l p.1).bind (B p.1)).getD none) = [] := by
    rw [List.filterMap_eq_nil_iff]
    intro p hp
    rw [h p hp]; rfl
  rw [e]
theorem mapRun_one {a b : List (Int × T)} {p : Int × T} {r : R} (hp : (mfind (a ++ p :: b) p.1).bind (B p.1) = some (some r)) (ha : ∀ q ∈ a, (mfind (a ++ p :: b) q.1).bind (B q.1) = some none) (hb : ∀ q ∈ b, (mfind (a ++ p :: b) q.1).bind (B q.1) = some none) : mapRun (a ++ p :: b) B rest = some r := by
  unfold mapRun
  rw [if_pos (List.all_eq_true.2 fun q hq => by
    rcases List.mem_append.1 hq with h | h
    · rw [ha q h]; rfl
    · rcases List.mem_cons.1 h with h | h
      · rw [h, hp]; rfl
      · rw [hb q h]; rfl)]
  have e1 : (a.filterMap fun p_1 => ((mfind (a ++ p :: b) p_1.1).bind (B p_1.1)).getD none) = [] := by
    rw [List.filterMap_eq_nil_iff]; intro q hq; rw [ha q hq]; rfl
  have e2 : (b.filterMap fun p_1 => ((mfind (a ++ p :: b) p_1.1).bind (B p_1.1)).getD none) = [] := by
    rw [List.filterMap_eq_nil_iff]; intro q hq; rw [hb q hq]; rfl
  rw [List.filterMap_append, List.filterMap_cons, e1, e2, hp]
  rfl
end
theorem sh_find : ∀ p ∈ SH, mfind SH p.1 = some p.2 := by
  intro p hp
  simp only [SH, List.mem_cons, List.not_mem_nil, or_false] at hp
  rcases hp with rfl | rfl | rfl | rfl | rfl | rfl | rfl | rfl | rfl | rfl | rfl | rfl <;> rfl
theorem sh_apart1 : ∀ p ∈ SH, ∀ q ∈ SH, p.2.word = q.2.word → p.1 = q.1 := by decide
theorem sh_apart {p q : Int × ScriptShape} (hp : p ∈ SH) (hq : q ∈ SH) (h : p.2.word = q.2.word) : p = q := by
  have e := sh_apart1 p hp q hq h
  have h1 := sh_find p hp
  rw [e, sh_find q hq] at h1
  exact Prod.ext e (Option.some.inj h1).symm
theorem sh_sp : ∀ p ∈ SH, (32 : UInt8) ∉ p.2.word := by decide
theorem sh_nn : ∀ p ∈ SH, 0 ≤ p.2.nums ∧ 0 ≤ p.2.texts := by decide

/-! ### a line's words -/
theorem dec_sp (n : Nat) : (32 : UInt8) ∉ decDigits n := by
  induction n using Nat.strongRecOn with
  | _ n ih =>
    have key : ∀ m : Fin 10, (32 : UInt8) ≠ UInt8.ofNat (48 + m.val) := by decide
    by_cases h : n < 10
    · rw [Lib.decDigits_one h]
      intro hm
      exact key ⟨n, h⟩ (List.mem_singleton.1 hm)
    · rw [dec_big h]
      intro hm
      rcases List.mem_append.1 hm with h1 | h1
      · exact ih (n / 10) (by omega) h1
      · exact key ⟨n % 10, Nat.mod_lt _ (by omega)⟩ (List.mem_singleton.1 h1)
theorem itoa_sp (n : Int) : (32 : UInt8) ∉ itoa n := by
  unfold Lib.itoa
  split
  · intro h
    rcases List.mem_cons.1 h with h | h
    · exact absurd h (by decide)
    · exact dec_sp _ h
  · exact dec_sp _
theorem txtW_sp (s : List UInt8) : (32 : UInt8) ∉ txtW s := fun hm => by
  have key : ∀ m : Fin 16, (32 : UInt8) ≠ HD.getD m.val 0 := by decide
  rcases List.mem_cons.1 hm with h | h
  · exact absurd h (by decide)
  · obtain ⟨b, _, h⟩ := List.mem_flatMap.1 h
    have hb := b.toNat_lt
    unfold hx at h
    rcases List.mem_cons.1 h with h | h
    · exact key ⟨b.toNat / 16, by omega⟩ h
    · exact key ⟨b.toNat % 16, by omega⟩ (List.mem_singleton.1 h)
theorem spl_body (w : List UInt8) (ns : List Int) (ts : List (List UInt8)) (hw : (32 : UInt8) ∉ w) : spl 32 (w ++ bodyS ns ts) = w :: (ns.map itoa ++ ts.map txtW) := by
  have e1 : w ++ bodyS ns ts = w ++ ns.flatMap (fun n => 32 :: itoa n) ++ ts.flatMap (fun t => 32 :: txtW t) := by
    unfold bodyS; rw [List.append_assoc]; rfl
  cases ts with
  | nil =>
    rw [e1, List.flatMap_nil, spl_words itoa itoa_sp w ns _ hw (.inl rfl)]
    simp
  | cons t ts =>
    have e2 : (t :: ts).flatMap (fun t => 32 :: txtW t) = 32 :: (txtW t ++ ts.flatMap (fun t => 32 :: txtW t) ++ []) := by simp
    rw [e1, e2, spl_words itoa itoa_sp w ns _ hw (.inr ⟨_, rfl⟩)]
    simp only
    rw [spl_words txtW txtW_sp (txtW t) ts [] (txtW_sp t) (.inl rfl)]
    simp
end Go.Proofs.YtlaifpbickdpkaaDoor
