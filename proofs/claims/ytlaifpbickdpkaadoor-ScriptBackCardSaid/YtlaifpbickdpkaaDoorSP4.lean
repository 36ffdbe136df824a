/- SP4: the scripts' plain law: the program's reading of lines (own work). -/
import Derived.Test.YtlaifpbickdpkaaDoorSP3
namespace Go.Proofs.YtlaifpbickdpkaaDoor
set_option linter.unusedVariables false
set_option linter.unusedSimpArgs false
open Go.Lib (decDigits itoa)

/-- What is done at a kind, where a deed's line is read. -/
def deedB (k : Nat) (a0 : List UInt8) (t7 : List (List UInt8)) (mx37 : Int) (ms38 : ScriptShape) : Option (Option (ApiDeed × Bool)) :=
  (t7[Int.toNat 0]?).bind fun t98 => (if ((!(ms38.word == t98)) || ((t7.length : Int) != (IntKind.i64.wrap ((IntKind.i64.wrap (1 + ms38.nums)) + ms38.texts)))) = true then (some none) else (if (1 : Int) ≤ (IntKind.i64.wrap (1 + ms38.nums)) then (if ((IntKind.i64.wrap (1 + ms38.nums)) : Int) ≤ (t7.length : Int) then ((script_numbers.f k ((t7.take (Int.toNat (IntKind.i64.wrap (1 + ms38.nums)))).drop (Int.toNat 1))).bind fun t1494 => (if (0 : Int) ≤ (IntKind.i64.wrap (1 + ms38.nums)) then (if ((IntKind.i64.wrap (1 + ms38.nums)) : Int) ≤ (t7.length : Int) then ((script_texts.f k ((t7.take (Int.toNat (t7.length : Int))).drop (Int.toNat (IntKind.i64.wrap (1 + ms38.nums))))).bind fun t1513 => ((script_right.f k (⟨mx37, t1494, t1513⟩ : ApiDeed)).bind fun t2051 => (if t2051 = true then ((script_line.f k ms38.word t1494 t1513).bind fun t2063 => (if a0.length + ([10] : List UInt8).length ≤ 9223372036854775807 then (some (some ((⟨mx37, t1494, t1513⟩ : ApiDeed), (t2063 == (a0 ++ ([10] : List UInt8)))))) else none)) else (some (some ((⟨mx37, t1494, t1513⟩ : ApiDeed), false)))))) else none) else none)) else none) else none))
theorem deed_is (k : Nat) (row : List UInt8) (hr : row.length ≤ 1000000) : script_deed.f k row = mapRun SH (deedB k row (spl 32 row)) (some (⟨0, [], []⟩, false)) := by
  unfold script_deed.f
  rw [Split_ok k row hr, Option.bind_some, shapes_ok, Option.bind_some]
  rfl
theorem deedB_no (k : Nat) (row w0 : List UInt8) (ws : List (List UInt8)) (x : Int) (s : ScriptShape) (h0 : 0 ≤ s.nums ∧ s.nums ≤ 7 ∧ 0 ≤ s.texts ∧ s.texts ≤ 4) (h : s.word ≠ w0 ∨ ((w0 :: ws).length : Int) ≠ 1 + s.nums + s.texts) : deedB k row (w0 :: ws) x s = some none := by
  unfold deedB
  rw [show (w0 :: ws)[Int.toNat 0]? = some w0 from rfl, Option.bind_some, wrapS (x := 1 + s.nums) (by omega) (by omega), wrapS (by omega) (by omega), if_pos]
  rw [Bool.or_eq_true]
  rcases h with h | h
  · left; simpa using h
  · right; simpa using h
theorem deedB_yes (k : Nat) (row w0 : List UInt8) (ws : List (List UInt8)) (x : Int) (s : ScriptShape) (hm : (x, s) ∈ SH) (hw : s.word = w0) (hl : ((w0 :: ws).length : Int) = 1 + s.nums + s.texts) (hr : row.length ≤ 1000000) (hb : ∀ w ∈ ws, w.length ≤ row.length) (hk : row.length + 5000 < k) :
    ∃ r, deedB k row (w0 :: ws) x s = some (some r) ∧ (r.2 = true → okD r.1 = true ∧ row = lineD r.1) ∧ ∀ d, okD d = true → d.Kind = x → ws = d.Nums.map itoa ++ d.Texts.map txtW → row = lineD d → r = (d, true) := by
  obtain ⟨q1, q2, q3, q4, q5⟩ := sh_small (x, s) hm
  obtain ⟨q6, q7⟩ := sh_nn (x, s) hm
  simp only at q1 q2 q3 q4 q5 q6 q7
  have hf : mfind SH x = some s := sh_find (x, s) hm
  have hsx : shape x = s := by unfold shape; rw [hf]; rfl
  obtain ⟨n, hn⟩ : ∃ n : Nat, s.nums = (n : Int) := ⟨s.nums.toNat, by omega⟩
  obtain ⟨t, ht⟩ := (⟨s.texts.toNat, by omega⟩ : ∃ t : Nat, s.texts = (t : Int))
  rw [hn, ht] at hl
  have hlen : ws.length = n + t := by simp at hl; omega
  have hi : IntKind.i64.wrap (1 + s.nums) = ((1 + n : Nat) : Int) := by rw [hn, wrapS (by omega) (by omega)]; omega
  unfold deedB
  rw [show (w0 :: ws)[Int.toNat 0]? = some w0 from rfl, Option.bind_some, hi, wrapS (by omega) (by omega), if_neg (by rw [ht]; simp [hw, hlen]; omega), if_pos (by omega), if_pos (by simp; omega), Int.toNat_natCast, Int.toNat_natCast]
  have e1 : ((w0 :: ws).take (1 + n)).drop (Int.toNat 1) = ws.take n := by rw [Nat.add_comm]; rfl
  have e2 : ((w0 :: ws).take (w0 :: ws).length).drop (1 + n) = ws.drop n := by rw [List.take_length, Nat.add_comm]; rfl
  rw [e1, e2, numbers_ok k _ (by simp; omega) (by omega), Option.bind_some, if_pos (by omega), if_pos (by simp; omega)]
  obtain ⟨rs, hrs, hrl, hrp⟩ := texts_ok k (ws.drop n) (by simp; omega) row.length hr (fun w h => hb w (List.mem_of_mem_drop h)) (by omega)
  rw [hrs, Option.bind_some]
  have hnl : ((ws.take n).map numV).length = n := by simp; omega
  have htl : rs.length = t := by rw [hrl]; simp; omega
  rw [right_ok k ⟨x, (ws.take n).map numV, rs⟩ (i64ok_iff.2 (show -9223372036854775808 ≤ x ∧ x ≤ 9223372036854775807 by omega)) (show ((ws.take n).map numV).length ≤ 1000 by omega) (show rs.length ≤ 1000 by omega) (by omega), Option.bind_some]
  cases ho : okD ⟨x, (ws.take n).map numV, rs⟩ with
  | false =>
    rw [if_neg (by simp)]
    refine ⟨_, rfl, (fun h => by cases h), fun d hd hx_ hws hrow => ?_⟩
    obtain ⟨s', hs'⟩ := okD_iff.1 hd
    have : s' = s := by have := hs'.m; rw [hx_, hf] at this; exact (Option.some.inj this).symm
    subst this
    have hdn : d.Nums.length = n := by have := hs'.n; omega
    have e3 : ws.take n = d.Nums.map itoa := by rw [hws, List.take_append_of_le_length (by simp; omega), List.take_of_length_le (by simp; omega)]
    have e4 : ws.drop n = d.Texts.map txtW := by rw [hws, List.drop_append_of_le_length (by simp; omega), List.drop_of_length_le (by simp; omega)]; rfl
    have e5 : (ws.take n).map numV = d.Nums := by
      rw [e3, List.map_map]
      conv => rhs; rw [← List.map_id d.Nums]
      exact List.map_congr_left fun z hz => numV_itoa z (List.all_eq_true.1 hs'.ns z hz)
    rw [e5, hrp _ e4, ← hx_, hd] at ho; cases ho
  | true =>
    obtain ⟨s', hs'⟩ := okD_iff.1 ho
    have hse : s' = s := by have := hs'.m; rw [show (⟨x, (ws.take n).map numV, rs⟩ : ApiDeed).Kind = x from rfl, hf] at this; exact (Option.some.inj this).symm
    rw [if_pos rfl, line_ok k s.word _ _ (by omega) hs'.ns hs'.ts (show ((ws.take n).map numV).length ≤ 1000 by omega) (show rs.length ≤ 1000 by omega) (by omega), Option.bind_some, if_pos (by simp; omega)]
    have el : lineD ⟨x, (ws.take n).map numV, rs⟩ = s.word ++ bodyS ((ws.take n).map numV) rs := by unfold lineD; rw [show shape (⟨x, (ws.take n).map numV, rs⟩ : ApiDeed).Kind = s from hsx]
    refine ⟨_, rfl, fun h => ⟨ho, ?_⟩, fun d hd hx_ hws hrow => ?_⟩
    · have h := (beq_iff_eq (α := List UInt8)).1 h
      rw [el]
      exact (List.append_cancel_right h).symm
    · obtain ⟨s2, hs2⟩ := okD_iff.1 hd
      have : s2 = s := by have := hs2.m; rw [hx_, hf] at this; exact (Option.some.inj this).symm
      subst this
      have hdn : d.Nums.length = n := by have := hs2.n; omega
      have e3 : ws.take n = d.Nums.map itoa := by rw [hws, List.take_append_of_le_length (by simp; omega), List.take_of_length_le (by simp; omega)]
      have e4 : ws.drop n = d.Texts.map txtW := by rw [hws, List.drop_append_of_le_length (by simp; omega), List.drop_of_length_le (by simp; omega)]; rfl
      have e5 : (ws.take n).map numV = d.Nums := by
        rw [e3, List.map_map]
        conv => rhs; rw [← List.map_id d.Nums]
        exact List.map_congr_left fun z hz => numV_itoa z (List.all_eq_true.1 hs2.ns z hz)
      have e6 := hrp _ e4
      have e7 : (⟨x, (ws.take n).map numV, rs⟩ : ApiDeed) = d := by rw [e5, e6, ← hx_]
      rw [e7]
      have : row = s2.word ++ bodyS ((ws.take n).map numV) rs := by rw [hrow, ← el, e7]
      rw [this, e5, e6]; simp
theorem sh_nd : (SH.map (·.1)).Nodup := by decide
theorem deed_ok (k : Nat) (row : List UInt8) (hr : row.length ≤ 1000000) (hk : row.length + 5000 < k) :
    ∃ r, script_deed.f k row = some r ∧ (r.2 = true → okD r.1 = true ∧ row = lineD r.1) ∧ ∀ d, okD d = true → row = lineD d → r = (d, true) := by
  rw [deed_is k row hr]
  have hmem : ∀ w ∈ spl 32 row, w.length ≤ row.length := fun w hw => spl_mem 32 hw
  have hwords : ∀ d, okD d = true → row = lineD d → spl 32 row = (shape d.Kind).word :: (d.Nums.map itoa ++ d.Texts.map txtW) := fun d hd hrow => by
    obtain ⟨s, hs⟩ := okD_iff.1 hd
    rw [hrow]; unfold lineD
    rw [spl_body _ _ _ (by rw [hs.sh]; exact sh_sp _ (mfind_in hs.m))]
  have hne := spl_ne 32 row
  generalize spl 32 row = l at hmem hwords hne
  cases l with
  | nil => exact absurd rfl hne
  | cons w0 ws =>
    have hb : ∀ p ∈ SH, 0 ≤ p.2.nums ∧ p.2.nums ≤ 7 ∧ 0 ≤ p.2.texts ∧ p.2.texts ≤ 4 := fun p hp => ⟨(sh_nn p hp).1, (sh_small p hp).2.2.2.1, (sh_nn p hp).2, (sh_small p hp).2.2.2.2⟩
    by_cases hm : ∃ p ∈ SH, p.2.word = w0 ∧ ((w0 :: ws).length : Int) = 1 + p.2.nums + p.2.texts
    · obtain ⟨p, hp, h1, h2⟩ := hm
      obtain ⟨r, hr1, hr2, hr3⟩ := deedB_yes k row w0 ws p.1 p.2 hp h1 h2 hr (fun w hw => hmem w (List.mem_cons_of_mem _ hw)) hk
      obtain ⟨a, b, hS⟩ := List.append_of_mem hp
      have hnd := sh_nd
      rw [hS, List.map_append, List.map_cons] at hnd
      have hother : ∀ q ∈ SH, q.1 ≠ p.1 → (mfind SH q.1).bind (deedB k row (w0 :: ws) q.1) = some none := fun q hq hne => by
        rw [sh_find q hq, Option.bind_some]
        exact deedB_no k row w0 ws q.1 q.2 (hb q hq) (.inl fun e => hne (by rw [sh_apart hq hp (e.trans h1.symm)]))
      have key : mapRun SH (deedB k row (w0 :: ws)) (some (⟨0, [], []⟩, false)) = some r := by
        have h3 : (mfind SH p.1).bind (deedB k row (w0 :: ws) p.1) = some (some r) := by rw [sh_find p hp, Option.bind_some, hr1]
        have ha : ∀ q ∈ a, (mfind SH q.1).bind (deedB k row (w0 :: ws) q.1) = some none := fun q hq => hother q (by rw [hS]; simp [hq]) fun e => by
          have := (List.nodup_append.1 hnd).2.2 q.1 (List.mem_map.2 ⟨q, hq, rfl⟩) p.1 List.mem_cons_self
          exact this e
        have hb' : ∀ q ∈ b, (mfind SH q.1).bind (deedB k row (w0 :: ws) q.1) = some none := fun q hq => hother q (by rw [hS]; simp [hq]) fun e => by
          have := (List.nodup_cons.1 (List.nodup_append.1 hnd).2.1).1
          exact this (by rw [← e]; exact List.mem_map.2 ⟨q, hq, rfl⟩)
        rw [hS] at h3 ha hb' ⊢
        exact mapRun_one h3 ha hb'
      refine ⟨r, key, hr2, fun d hd hrow => ?_⟩
      have hw := hwords d hd hrow
      obtain ⟨e1, e2⟩ := List.cons.inj hw
      obtain ⟨s, hs⟩ := okD_iff.1 hd
      have := sh_apart (mfind_in hs.m) hp (by show s.word = p.2.word; rw [h1, e1, hs.sh])
      exact hr3 d hd (by rw [← this]) e2 hrow
    · refine ⟨_, mapRun_none (fun p hp => ?_), (fun h => by cases h), fun d hd hrow => ?_⟩
      · rw [sh_find p hp, Option.bind_some]
        refine deedB_no k row w0 ws p.1 p.2 (hb p hp) ?_
        by_cases h1 : p.2.word = w0
        · exact .inr fun h2 => hm ⟨p, hp, h1, h2⟩
        · exact .inl h1
      · obtain ⟨e1, e2⟩ := List.cons.inj (hwords d hd hrow)
        obtain ⟨s, hs⟩ := okD_iff.1 hd
        refine absurd ⟨(d.Kind, s), mfind_in hs.m, by rw [e1, hs.sh], ?_⟩ hm
        have h1 := hs.n
        have h2 := hs.t
        rw [e2]
        simp only [List.length_cons, List.length_append, List.length_map]
        omega
end Go.Proofs.YtlaifpbickdpkaaDoor
