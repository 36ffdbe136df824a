/- SP5: the scripts' plain law: a whole text read (own work). -/
import Derived.Test.YtlaifpbickdpkaaDoorSP4
namespace Go.Proofs.YtlaifpbickdpkaaDoor
set_option linter.unusedVariables false
set_option linter.unusedSimpArgs false
open Go.Lib (decDigits itoa)

theorem begin_ok (k : Nat) (row : List UInt8) (hr : row.length ≤ 1000000) (hk : 6000 < k) :
    ∃ r, script_begin.f k row = some r ∧ r.1.Deeds = [] ∧ (r.2 = true → okB r.1.Quota r.1.Sectors = true ∧ row = headS r.1) ∧ ∀ q s, okB q s = true → row = headS ⟨q, s, []⟩ → r = (⟨q, s, []⟩, true) := by
  have hwords : ∀ q s, okB q s = true → row = headS ⟨q, s, []⟩ → spl 32 row = [[119, 111, 114, 108, 100], itoa q, itoa s] := fun q s _ h => by
    rw [h]; unfold headS
    rw [spl_body _ _ _ (by decide)]; rfl
  unfold script_begin.f
  rw [Split_ok k row hr, Option.bind_some]
  obtain ⟨k, rfl⟩ : ∃ j, k = j + 1 := ⟨k - 1, by omega⟩
  have hne := spl_ne 32 row
  generalize spl 32 row = l at hwords hne
  by_cases h3 : l.length = 3
  · match l, h3 with
    | [w0, w1, w2], _ =>
      rw [if_neg (by simp), show [w0, w1, w2][Int.toNat 0]? = some w0 from rfl, Option.bind_some, script_begin.j0]
      by_cases hw : w0 = [119, 111, 114, 108, 100]
      · subst hw
        rw [if_neg (by simp), if_pos (by simp)]
        have e1 : ([[119, 111, 114, 108, 100], w1, w2].take (Int.toNat (([[119, 111, 114, 108, 100], w1, w2] : List (List UInt8)).length : Int))).drop (Int.toNat 1) = [w1, w2] := rfl
        rw [e1, numbers_ok k _ (by simp) (by omega), Option.bind_some]
        rw [show ([w1, w2].map numV)[Int.toNat 0]? = some (numV w1) from rfl, Option.bind_some, show ([w1, w2].map numV)[Int.toNat 1]? = some (numV w2) from rfl, Option.bind_some, begins_ok k (by omega), Option.bind_some]
        cases ho : okB (numV w1) (numV w2) with
        | false =>
          rw [if_neg (by simp)]
          refine ⟨_, rfl, rfl, (fun h => by cases h), fun q s hq hrow => ?_⟩
          have := hwords q s hq hrow
          simp only [List.cons.injEq, and_true, true_and] at this
          obtain ⟨b0, b1, b2, b3⟩ := okB_iff.1 hq
          rw [this.1, this.2, numV_itoa q (in40_iff.2 (by omega)), numV_itoa s (in40_iff.2 (by omega)), hq] at ho
          cases ho
        | true =>
          obtain ⟨b0, b1, b2, b3⟩ := okB_iff.1 ho
          rw [if_pos rfl, show ([[119, 111, 114, 108, 100], w1, w2] : List (List UInt8))[Int.toNat 0]? = some [119, 111, 114, 108, 100] from rfl, Option.bind_some,
            line_ok k _ _ _ (by simp) (by simp [in40]; omega) rfl (by simp) (by simp) (by omega), Option.bind_some, if_pos (by simp; omega)]
          refine ⟨_, rfl, rfl, fun h => ⟨ho, ?_⟩, fun q s hq hrow => ?_⟩
          · have h := (beq_iff_eq (α := List UInt8)).1 h
            exact (List.append_cancel_right h).symm
          · have := hwords q s hq hrow
            simp only [List.cons.injEq, and_true, true_and] at this
            obtain ⟨c0, c1, c2, c3⟩ := okB_iff.1 hq
            have n1 : numV w1 = q := by rw [this.1, numV_itoa q (in40_iff.2 (by omega))]
            have n2 : numV w2 = s := by rw [this.2, numV_itoa s (in40_iff.2 (by omega))]
            have : row = [119, 111, 114, 108, 100] ++ bodyS [q, s] [] := hrow
            rw [this, show [w1, w2].map numV = [numV w1, numV w2] from rfl, n1, n2]; simp
      · rw [if_pos (by simpa using hw)]
        exact ⟨_, rfl, rfl, (fun h => by cases h), fun q s hq hrow => absurd (List.cons.inj (hwords q s hq hrow)).1 hw⟩
  · rw [if_pos (by simp; omega), script_begin.j0, if_pos rfl]
    exact ⟨_, rfl, rfl, (fun h => by cases h), fun q s hq hrow => absurd (by rw [hwords q s hq hrow]; rfl) h3⟩

def flatD (ds : List ApiDeed) : List UInt8 := ds.flatMap fun d => lineD d ++ [10]
theorem flatD_cons (d : ApiDeed) (ds : List ApiDeed) : flatD (d :: ds) = lineD d ++ 10 :: flatD ds := by simp [flatD]
theorem dec_no (n : Nat) : (10 : UInt8) ∉ decDigits n := by
  induction n using Nat.strongRecOn with
  | _ n ih =>
    have key : ∀ m : Fin 10, (10 : UInt8) ≠ UInt8.ofNat (48 + m.val) := by decide
    by_cases h : n < 10
    · rw [Lib.decDigits_one h]
      intro hm
      exact key ⟨n, h⟩ (List.mem_singleton.1 hm)
    · rw [dec_big h]
      intro hm
      rcases List.mem_append.1 hm with h1 | h1
      · exact ih (n / 10) (by omega) h1
      · exact key ⟨n % 10, Nat.mod_lt _ (by omega)⟩ (List.mem_singleton.1 h1)
theorem itoa_no (n : Int) : (10 : UInt8) ∉ itoa n := by
  unfold Lib.itoa
  split
  · intro h
    rcases List.mem_cons.1 h with h | h
    · exact absurd h (by decide)
    · exact dec_no _ h
  · exact dec_no _
theorem hexS_no (s : List UInt8) : (10 : UInt8) ∉ hexS s := fun hm => by
  have key : ∀ m : Fin 16, (10 : UInt8) ≠ HD.getD m.val 0 := by decide
  obtain ⟨b, _, h⟩ := List.mem_flatMap.1 hm
  have hb := b.toNat_lt
  unfold hx at h
  rcases List.mem_cons.1 h with h | h
  · exact key ⟨b.toNat / 16, by omega⟩ h
  · exact key ⟨b.toNat % 16, by omega⟩ (List.mem_singleton.1 h)
theorem bodyS_no (ns : List Int) (ts : List (List UInt8)) : (10 : UInt8) ∉ bodyS ns ts := fun hm => by
  rcases List.mem_append.1 hm with h1 | h1
  · obtain ⟨n, _, h2⟩ := List.mem_flatMap.1 h1
    rcases List.mem_cons.1 h2 with h3 | h3
    · exact absurd h3 (by decide)
    · exact itoa_no n h3
  · obtain ⟨s, _, h2⟩ := List.mem_flatMap.1 h1
    rcases List.mem_cons.1 h2 with h3 | h3
    · exact absurd h3 (by decide)
    · rcases List.mem_cons.1 h3 with h4 | h4
      · exact absurd h4 (by decide)
      · exact hexS_no s h4
theorem sh_no : ∀ p ∈ SH, (10 : UInt8) ∉ p.2.word := by decide
theorem lineD_no {d : ApiDeed} (h : okD d = true) : (10 : UInt8) ∉ lineD d := by
  obtain ⟨s, h⟩ := okD_iff.1 h
  unfold lineD
  rw [h.sh]
  intro hm
  rcases List.mem_append.1 hm with h1 | h1
  · exact sh_no _ (mfind_in h.m) h1
  · exact bodyS_no _ _ h1
theorem headS_no (p : ApiPlan) : (10 : UInt8) ∉ headS p := fun hm => by
  rcases List.mem_append.1 hm with h1 | h1
  · exact absurd h1 (by decide)
  · exact bodyS_no _ _ h1
/-- What was printed, read. -/
theorem Parse_flat (t : ApiPlan × Bool) (ds : List ApiDeed) : ∀ (k : Nat) (no : Int) (acc : List ApiDeed), ds.all okD = true → acc.length + ds.length ≤ 200 → (flatD ds).length ≤ 4000000 → 0 ≤ no → no + ds.length ≤ 1000 → ds.length + 16000 < k →
    script_Parse.l0 k t (flatD ds) no acc = some (⟨t.1.Quota, t.1.Sectors, acc ++ ds⟩, 0, 0) := by
  induction ds with
  | nil =>
    intro k no acc _ _ _ _ _ hk
    obtain ⟨k, rfl⟩ : ∃ j, k = j + 1 := ⟨k - 1, by omega⟩
    rw [script_Parse.l0, if_pos (by rfl), List.append_nil]
  | cons d ds ih =>
    intro k no acc ho hl hn h0 h1 hk
    obtain ⟨k, rfl⟩ : ∃ j, k = j + 1 := ⟨k - 1, by omega⟩
    rw [List.all_cons, Bool.and_eq_true] at ho
    have hle := lineD_len ho.1
    simp only [List.length_cons] at hl h1 hk
    obtain ⟨r, hr, _, hp⟩ := deed_ok k (lineD d) (by omega) (by omega)
    have hr2 := hp d ho.1 rfl
    subst hr2
    have hn2 : (flatD ds).length ≤ 4000000 := by rw [flatD_cons, List.length_append, List.length_cons] at hn; omega
    have hcut : strings_Cut.f k (flatD (d :: ds)) [10] = some (lineD d, flatD ds, true) := by rw [Cut_ok k _ hn, flatD_cons, cut_hit _ _ (lineD_no ho.1)]
    have hne : ¬ (flatD (d :: ds) == []) = true := by rw [flatD_cons]; simp
    rw [script_Parse.l0, if_neg hne, hcut, Option.bind_some, hr, Option.bind_some, if_neg (by simp; omega), if_pos (by simp; omega), wrapS (by omega) (by omega)]
    rw [ih k (no + 1) (acc ++ [d]) ho.2 (by rw [List.length_append, List.length_cons, List.length_nil]; omega) hn2 (by omega) (by omega) (by omega), List.append_assoc]
    rfl
/-- Whatever is read. -/
theorem Parse_any (t : ApiPlan × Bool) : ∀ (n : Nat) (rest : List UInt8) (k : Nat) (no : Int) (acc : List ApiDeed), rest.length ≤ n → n ≤ 12000 → acc.length ≤ 200 → 0 ≤ no → no + n ≤ 20000 → n + 18000 < k →
    ∃ r, script_Parse.l0 k t rest no acc = some r ∧ ((r.2 = (0, 0) ∧ ∃ ds, r.1 = ⟨t.1.Quota, t.1.Sectors, acc ++ ds⟩ ∧ ds.all okD = true ∧ acc.length + ds.length ≤ 200 ∧ rest = flatD ds) ∨ (r.1 = ⟨0, 0, []⟩ ∧ r.2.1 = 250)) := by
  intro n
  induction n with
  | zero =>
    intro rest k no acc h _ ha _ _ hk
    obtain ⟨k, rfl⟩ : ∃ j, k = j + 1 := ⟨k - 1, by omega⟩
    have hnil : rest = [] := List.eq_nil_of_length_eq_zero (by omega)
    subst hnil
    exact ⟨(⟨t.1.Quota, t.1.Sectors, acc⟩, 0, 0), by rw [script_Parse.l0, if_pos (by rfl)], .inl ⟨rfl, [], by rw [List.append_nil], rfl, by simpa using ha, rfl⟩⟩
  | succ n ih =>
    intro rest k no acc h hn ha h0 h1 hk
    obtain ⟨k, rfl⟩ : ∃ j, k = j + 1 := ⟨k - 1, by omega⟩
    by_cases hnil : rest = []
    · subst hnil
      exact ⟨(⟨t.1.Quota, t.1.Sectors, acc⟩, 0, 0), by rw [script_Parse.l0, if_pos (by rfl)], .inl ⟨rfl, [], by rw [List.append_nil], rfl, by simpa using ha, rfl⟩⟩
    · rw [script_Parse.l0, if_neg (by simpa using hnil), Cut_ok k _ (by omega), Option.bind_some]
      rcases parted 10 rest with hno | ⟨x, y, rfl, hx_⟩
      · rw [cut_none hno]
        obtain ⟨r, hr, _, _⟩ := deed_ok k rest (by omega) (by omega)
        rw [hr, Option.bind_some, if_pos (by simp)]
        exact ⟨_, rfl, .inr ⟨rfl, rfl⟩⟩
      · simp only [List.length_append, List.length_cons] at h
        rw [cut_hit x y hx_]
        obtain ⟨r, hr, hp, _⟩ := deed_ok k x (by omega) (by omega)
        rw [hr, Option.bind_some]
        by_cases hok : r.2 = true ∧ (acc.length : Int) ≠ 200
        · obtain ⟨p1, p2⟩ := hp hok.1
          rw [if_neg (by simp [hok.1]; omega), if_pos (by simp; omega), wrapS (by omega) (by omega)]
          obtain ⟨q, hq, hc⟩ := ih y k (no + 1) (acc ++ [r.1]) (by omega) (by omega) (by simp; omega) (by omega) (by omega) (by omega)
          refine ⟨q, hq, ?_⟩
          rcases hc with ⟨c1, ds, c2, c3, c4, c5⟩ | hc
          · refine .inl ⟨c1, r.1 :: ds, by rw [c2]; simp, by rw [List.all_cons, p1, c3]; rfl, by simp at c4 ⊢; omega, by rw [flatD_cons, ← p2, c5]⟩
          · exact .inr hc
        · rw [if_pos]
          · exact ⟨_, rfl, .inr ⟨rfl, rfl⟩⟩
          · by_cases h2 : r.2 = true
            · have : (acc.length : Int) = 200 := by
                by_cases h3 : (acc.length : Int) = 200
                · exact h3
                · exact absurd ⟨h2, h3⟩ hok
              simp [this]
            · have h2' : r.2 = false := by simpa using h2
              simp [h2']
theorem textP_eq (p : ApiPlan) : textP p = headS p ++ 10 :: flatD p.Deeds := by simp [textP, flatD]
theorem Parse_text (k : Nat) (p : ApiPlan) (h : okP p = true) (hk : 17000 < k) : script_Parse.f k (textP p) = some (p, 0, 0) := by
  obtain ⟨h1, h2, h3⟩ := okP_iff.1 h
  have hh := headS_len h1
  have hlen := textP_len h
  obtain ⟨r, hr, _, _, hp⟩ := begin_ok k (headS p) (by omega) (by omega)
  have hr2 := hp p.Quota p.Sectors h1 rfl
  subst hr2
  unfold script_Parse.f
  rw [Cut_ok k _ (by omega), Option.bind_some, textP_eq, cut_hit _ _ (headS_no p), hr, Option.bind_some, if_neg (by simp)]
  have hf : (flatD p.Deeds).length ≤ 4000000 := by rw [textP_eq] at hlen; simp at hlen; omega
  rw [Parse_flat _ p.Deeds k 2 [] h3 (by simpa using h2) hf (by omega) (by omega) (by omega)]
  simp
theorem Parse_ok (k : Nat) (s : List UInt8) (hs : s.length ≤ 12000) (hk : 30001 < k) : ∃ r, script_Parse.f k s = some r ∧ ((r.2 = (0, 0) ∧ okP r.1 = true ∧ s = textP r.1) ∨ (r.1 = ⟨0, 0, []⟩ ∧ r.2.1 = 250)) := by
  unfold script_Parse.f
  rw [Cut_ok k _ (by omega), Option.bind_some]
  rcases parted 10 s with hno | ⟨x, y, rfl, hx_⟩
  · rw [cut_none hno]
    obtain ⟨r, hr, _⟩ := begin_ok k s (by omega) (by omega)
    rw [hr, Option.bind_some, if_pos (by simp)]
    exact ⟨_, rfl, .inr ⟨rfl, rfl⟩⟩
  · simp only [List.length_append, List.length_cons] at hs
    rw [cut_hit x y hx_]
    obtain ⟨r, hr, hd, hp, _⟩ := begin_ok k x (by omega) (by omega)
    rw [hr, Option.bind_some]
    cases h2 : r.2 with
    | false => rw [if_pos (by simp)]; exact ⟨_, rfl, .inr ⟨rfl, rfl⟩⟩
    | true =>
      obtain ⟨p1, p2⟩ := hp h2
      rw [if_neg (by simp), hd]
      obtain ⟨q, hq, hc⟩ := Parse_any r 12000 y k 2 [] (by omega) (by omega) (by simp) (by omega) (by omega) (by omega)
      refine ⟨q, hq, ?_⟩
      rcases hc with ⟨c1, ds, c2, c3, c4, c5⟩ | hc
      · have e : q.1 = ⟨r.1.Quota, r.1.Sectors, ds⟩ := by rw [c2]; rfl
        refine .inl ⟨c1, by rw [e]; exact okP_iff.2 ⟨p1, by simpa using c4, c3⟩, ?_⟩
        rw [e, textP_eq, p2, c5]; rfl
      · exact .inr hc
end Go.Proofs.YtlaifpbickdpkaaDoor
