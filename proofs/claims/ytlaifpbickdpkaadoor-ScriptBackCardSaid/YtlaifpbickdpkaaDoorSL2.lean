/- SL2: the scripts' plain law: numbers and bytes as texts, lines, what is printed (own work). -/
import Derived.Test.YtlaifpbickdpkaaDoorSL1
import Derived.Test.YtlaifpbickdpkaaDoorSLg
import Derived.Lib.ItoaLen
import Derived.Lib.ItoaMem
namespace Go.Proofs.YtlaifpbickdpkaaDoor
set_option linter.unusedVariables false
set_option linter.unusedSimpArgs false
open Go.Lib (decDigits itoa)

/-! ### digits -/
theorem dec_len (n : Nat) (h : n ≤ 9223372036854775807) : (decDigits n).length ≤ 21 := by
  have := Lib.itoa_length_le (n : Int) (by omega) (by omega)
  rwa [Lib.itoa_nonneg] at this
theorem dig_one (n : Nat) : ofInts [IntKind.u8.wrap (IntKind.i64.wrap (48 + Int.tmod (n : Int) 10))] = [UInt8.ofNat (48 + n % 10)] := by
  rw [show Int.tmod (n : Int) 10 = ((n % 10 : Nat) : Int) from rfl, wrapS (by omega) (by omega)]
  have h : n % 10 < 10 := Nat.mod_lt _ (by omega)
  generalize n % 10 = m at h
  have key : ∀ m : Fin 10, ofInts [IntKind.u8.wrap (48 + ((m.val : Nat) : Int))] = [UInt8.ofNat (48 + m.val)] := by decide
  exact key ⟨m, h⟩
theorem dec_big {n : Nat} (h : ¬ n < 10) : decDigits n = decDigits (n / 10) ++ [UInt8.ofNat (48 + n % 10)] := by rw [decDigits, dif_neg h]
theorem digits_nat : ∀ (m k n : Nat), n < 10 ^ (m + 1) → m < k → n ≤ 9223372036854775807 → script_digits.f k (n : Int) = some (decDigits n)
  | 0, k + 1, n, h, hk, hn => by
    rw [script_digits.f, if_pos (by omega), dig_one, Lib.decDigits_one (by omega), Nat.mod_eq_of_lt (by omega)]
  | m + 1, k + 1, n, h, hk, hn => by
    rw [script_digits.f]
    by_cases h10 : n < 10
    · rw [if_pos (by omega), dig_one, Lib.decDigits_one h10, Nat.mod_eq_of_lt h10]
    · have hd : n / 10 < 10 ^ (m + 1) := by rw [Nat.pow_succ] at h; omega
      have hl := dec_len (n / 10) (by omega)
      rw [if_neg (by omega), show Int.tdiv (n : Int) 10 = ((n / 10 : Nat) : Int) from rfl, wrapS (by omega) (by omega), digits_nat m k (n / 10) hd (by omega) (by omega), Option.bind_some, dig_one, if_pos (by simp; omega), dec_big h10]
theorem digits_ok (k : Nat) (n : Int) (h : in40 n = true) (hk : 20 < k) : script_digits.f k n = some (itoa n) := by
  obtain ⟨h0, h1⟩ := in40_iff.1 h
  obtain ⟨u, rfl⟩ : ∃ u : Nat, n = (u : Int) := ⟨n.toNat, by omega⟩
  rw [Lib.itoa_nonneg]
  exact digits_nat 19 k u (Nat.lt_of_le_of_lt (show u ≤ 1099511627776 by omega) (by decide)) (by omega) (by omega)
theorem itoa_len (n : Int) (h : in40 n = true) : (itoa n).length ≤ 21 := by
  obtain ⟨h0, h1⟩ := in40_iff.1 h
  exact Lib.itoa_length_le n (by omega) (by omega)

/-! ### hex -/
def HD : List UInt8 := [48, 49, 50, 51, 52, 53, 54, 55, 56, 57, 97, 98, 99, 100, 101, 102]
def hx (b : UInt8) : List UInt8 := [HD.getD (b.toNat / 16) 0, HD.getD (b.toNat % 16) 0]
def hexS (s : List UInt8) : List UInt8 := s.flatMap hx
theorem hexS_len (s : List UInt8) : (hexS s).length = 2 * s.length := by
  induction s with
  | nil => rfl
  | cons b s ih => simp only [hexS, List.flatMap_cons, List.length_append] at *; rw [ih]; simp [hx]; omega
theorem hd_ok : ∀ n : Fin 16, i8ok ((HD.getD n.val 0).toNat : Int) ∧ byteOf ((HD.getD n.val 0).toNat : Int) = HD.getD n.val 0 := by decide
theorem Hex_loop (a : List UInt8) (ha : a.length ≤ 1000000) : ∀ (m j k : Nat) (acc : List UInt8), j + m = a.length → acc.length = 2 * j → m < k → octet_Hex.l0 k a (j : Int) acc = some (acc ++ hexS (a.drop j))
  | 0, j, k + 1, acc, h, hc, hk => by
    rw [octet_Hex.l0, if_neg (by omega), List.drop_of_length_le (by omega)]; simp [hexS]
  | m + 1, j, k + 1, acc, h, hc, hk => by
    have hlt : j < a.length := by omega
    have hb : a.getD j 0 = a[j] := by simp [List.getD, hlt]
    have hlt8 := a[j].toNat_lt
    rw [octet_Hex.l0, Int.toNat_natCast, hb]
    generalize hbv : a[j].toNat = b at *
    have e1 : IntKind.u8.wrap (Int.tdiv ((b : Nat) : Int) 16) = ((b / 16 : Nat) : Int) := by
      rw [show Int.tdiv (b : Int) 16 = ((b / 16 : Nat) : Int) from rfl]; simp [IntKind.wrap, IntKind.bits, IntKind.signed]; omega
    have e2 : Int.tmod ((b : Nat) : Int) 16 = ((b % 16 : Nat) : Int) := rfl
    have k1 := hd_ok ⟨b / 16, by omega⟩
    have k2 := hd_ok ⟨b % 16, by omega⟩
    simp only at k1 k2
    rw [e1, e2, Int.toNat_natCast, Int.toNat_natCast]
    rw [show ([48, 49, 50, 51, 52, 53, 54, 55, 56, 57, 97, 98, 99, 100, 101, 102] : List UInt8) = HD from rfl, k1.2, k2.2]
    have hl : (HD.length : Int) = 16 := rfl
    rw [hl, if_pos (by omega), if_pos (by omega), if_pos (by omega), if_pos (by omega), if_pos (by omega), if_pos ⟨k1.1, by omega⟩, if_pos (by omega), if_pos (by omega), if_pos (by omega), if_pos (by omega), if_pos ⟨k2.1, by simp; omega⟩,
      wrapS (by omega) (by omega), show (j : Int) + 1 = ((j + 1 : Nat) : Int) by omega, Hex_loop a ha m (j + 1) k _ (by omega) (by simp; omega) (by omega), List.drop_eq_getElem_cons hlt]
    simp only [hexS, List.flatMap_cons, hx, hbv]
    simp
theorem Hex_ok (k : Nat) (a : List UInt8) (ha : a.length ≤ 1000000) (hk : a.length < k) : octet_Hex.f k a = some (hexS a) := by
  have := Hex_loop a ha a.length 0 k [] (by omega) rfl hk
  simpa [octet_Hex.f] using this

/-! ### a line -/
def numS (n : Int) : List UInt8 := 32 :: itoa n
def txtS (s : List UInt8) : List UInt8 := 32 :: 120 :: hexS s
def bodyS (ns : List Int) (ts : List (List UInt8)) : List UInt8 := ns.flatMap numS ++ ts.flatMap txtS
theorem nums_len (ns : List Int) (h : ns.all in40 = true) : (ns.flatMap numS).length ≤ 22 * ns.length := by
  induction ns with
  | nil => simp
  | cons n ns ih =>
    rw [List.all_cons, Bool.and_eq_true] at h
    have := itoa_len n h.1
    simp only [List.flatMap_cons, List.length_append, numS, List.length_cons]
    have := ih h.2
    omega
theorem txts_len (ts : List (List UInt8)) (h : ts.all fitT = true) : (ts.flatMap txtS).length ≤ 2002 * ts.length := by
  induction ts with
  | nil => simp
  | cons s ts ih =>
    rw [List.all_cons, Bool.and_eq_true] at h
    have h1 : s.length ≤ 1000 := by simpa [fitT] using h.1
    simp only [List.flatMap_cons, List.length_append, txtS, List.length_cons, hexS_len]
    have := ih h.2
    omega
theorem line_l1 (ts : List (List UInt8)) (ht : ts.all fitT = true) (hn : ts.length ≤ 1000) : ∀ (m j k : Nat) (acc : List UInt8), j + m = ts.length → acc.length ≤ 1000000000 + 2002 * j → m + 1001 < k →
    script_line.l1 k ts acc (j : Int) = some (acc ++ (ts.drop j).flatMap txtS ++ [10])
  | 0, j, k + 1, acc, h, hc, hk => by
    rw [script_line.l1, if_neg (by omega), if_pos (by simp; omega), List.drop_of_length_le (by omega)]; simp
  | m + 1, j, k + 1, acc, h, hc, hk => by
    have hlt : j < ts.length := by omega
    have hf : ts[j].length ≤ 1000 := by simpa [fitT] using List.all_eq_true.1 ht _ (List.getElem_mem hlt)
    have hh := hexS_len ts[j]
    rw [script_line.l1, if_pos (by omega), if_pos (by omega), Int.toNat_natCast, List.getElem?_eq_getElem hlt, Option.bind_some, Hex_ok k _ (by omega) (by omega), Option.bind_some, if_pos (by simp; omega), if_pos (by simp; omega),
      wrapS (by omega) (by omega), show (j : Int) + 1 = ((j + 1 : Nat) : Int) by omega, line_l1 ts ht hn m (j + 1) k _ (by omega) (by simp; omega) (by omega), List.drop_eq_getElem_cons hlt]
    simp only [List.flatMap_cons, txtS]
    simp
theorem line_l0 (ns : List Int) (ts : List (List UInt8)) (hs : ns.all in40 = true) (ht : ts.all fitT = true) (hn : ns.length ≤ 1000) (hm : ts.length ≤ 1000) : ∀ (m j k : Nat) (acc : List UInt8), j + m = ns.length → acc.length ≤ 100000000 + 22 * j → m + 2010 < k →
    script_line.l0 k ns ts acc (j : Int) = some (acc ++ (ns.drop j).flatMap numS ++ ts.flatMap txtS ++ [10])
  | 0, j, k + 1, acc, h, hc, hk => by
    rw [script_line.l0, if_neg (by omega), show (0 : Int) = ((0 : Nat) : Int) from rfl, line_l1 ts ht hm ts.length 0 k acc (by omega) (by omega) (by omega), List.drop_zero, show ns.drop j = [] from List.drop_of_length_le (by omega)]; simp
  | m + 1, j, k + 1, acc, h, hc, hk => by
    have hlt : j < ns.length := by omega
    have hi := List.all_eq_true.1 hs _ (List.getElem_mem hlt)
    have hh := itoa_len _ hi
    rw [script_line.l0, if_pos (by omega), if_pos (by omega), Int.toNat_natCast, List.getElem?_eq_getElem hlt, Option.bind_some, digits_ok k _ hi (by omega), Option.bind_some, if_pos (by simp; omega), if_pos (by simp; omega),
      wrapS (by omega) (by omega), show (j : Int) + 1 = ((j + 1 : Nat) : Int) by omega, line_l0 ns ts hs ht hn hm m (j + 1) k _ (by omega) (by simp; omega) (by omega), List.drop_eq_getElem_cons hlt]
    simp only [List.flatMap_cons, numS]
    simp
theorem line_ok (k : Nat) (w : List UInt8) (ns : List Int) (ts : List (List UInt8)) (hw : w.length ≤ 100000000) (hs : ns.all in40 = true) (ht : ts.all fitT = true) (hn : ns.length ≤ 1000) (hm : ts.length ≤ 1000) (hk : 3011 < k) :
    script_line.f k w ns ts = some (w ++ bodyS ns ts ++ [10]) := by
  have := line_l0 ns ts hs ht hn hm ns.length 0 k w (by omega) (by omega) (by omega)
  simpa [script_line.f, bodyS, List.append_assoc] using this

/-! ### may a plan be? -/
def okB (q s : Int) : Bool := decide (0 ≤ q) && decide (q ≤ 1048576) && decide (4 ≤ s) && decide (s ≤ 64)
theorem fmt_ok (k : Nat) (hk : 3000 ≤ k) (s : Int) (h1 : 4 ≤ s) (h2 : s ≤ 64) : ∃ v, ledger_Format.f k s = some (v, 0) := by
  obtain ⟨n, rfl⟩ : ∃ n, k = n + 3000 := ⟨k - 3000, by omega⟩
  have := List.all_eq_true.1 (fmt_all n) (s - 4).toNat (List.mem_range.2 (by omega))
  rw [show (((s - 4).toNat : Nat) : Int) + 4 = s by omega] at this
  cases hf : ledger_Format.f (n + 3000) s with
  | none => rw [hf] at this; cases this
  | some r =>
    rw [hf] at this
    have e : r.2 = 0 := by simpa using this
    exact ⟨r.1, by rw [← e]⟩
theorem fmt_bad (k : Nat) (s : Int) (h : s < 4 ∨ 64 < s) : ∃ v, ledger_Format.f k s = some (v, 1) := by
  have e : disk_New.f k s = some (⟨[], []⟩, 1) := by unfold disk_New.f; rw [if_pos (by simpa using h)]
  exact ⟨_, by unfold ledger_Format.f; rw [e, Option.bind_some]; rfl⟩
theorem begins_ok (k : Nat) (hk : 3000 ≤ k) (p : ApiPlan) : script_begins.f k p = some (okB p.Quota p.Sectors) := by
  unfold script_begins.f control_New.f blob_New.f
  by_cases hq : p.Quota < 0 ∨ 1048576 < p.Quota
  · rw [if_pos (by simpa using hq)]
    simp [okB]
    omega
  · rw [if_neg (by simpa using hq)]
    simp only [Option.bind_some]
    rw [if_neg (by simp)]
    by_cases hs : p.Sectors < 4 ∨ 64 < p.Sectors
    · obtain ⟨v, hv⟩ := fmt_bad k p.Sectors hs
      unfold vault_Format.f
      rw [hv]
      simp [okB]
      omega
    · obtain ⟨v, hv⟩ := fmt_ok k hk p.Sectors (by omega) (by omega)
      unfold vault_Format.f
      rw [hv]
      have a1 : 0 ≤ p.Quota := by omega
      have a2 : p.Quota ≤ 1048576 := by omega
      have a3 : 4 ≤ p.Sectors := by omega
      have a4 : p.Sectors ≤ 64 := by omega
      have a5 : 0 ≤ p.Sectors := by omega
      have a6 : p.Sectors ≤ 1048576 := by omega
      simp [okB, a1, a2, a3, a4, a5, a6]
def okP (p : ApiPlan) : Bool := okB p.Quota p.Sectors && decide (p.Deeds.length ≤ 200) && p.Deeds.all okD
/-- What can be worked through. -/
def Small (p : ApiPlan) : Prop := p.Deeds.length ≤ 1000 ∧ ∀ d ∈ p.Deeds, i64ok d.Kind ∧ d.Nums.length ≤ 1000 ∧ d.Texts.length ≤ 1000
theorem Right_ok (k : Nat) (hk : 3000 ≤ k) (p : ApiPlan) (hp : Small p) : script_Right.f k p = some (okP p) := by
  unfold script_Right.f
  rw [begins_ok k hk, Option.bind_some]
  rw [any_api_Deed k p.Deeds _ (fun d => !okD d) (by have := hp.1; omega) (by have := hp.1; omega) (fun d hd => by unfold script_Right_c1.f; obtain ⟨h1, h2, h3⟩ := hp.2 d hd; rw [right_ok k d h1 h2 h3 (by omega)]; rfl)]
  simp only [Option.bind_some, not_any p.Deeds okD (fun d => !okD d) (fun _ => rfl)]
  unfold okP
  rw [show decide (p.Deeds.length ≤ 200) = decide ((p.Deeds.length : Int) ≤ 200) by congr 1; apply propext; omega]
  by_cases h : okB p.Quota p.Sectors = true ∧ (p.Deeds.length : Int) ≤ 200
  · rw [if_pos (by simpa using h)]; simp [h.1, h.2]
  · rw [if_neg (by simpa using h)]
    congr 1
    symm
    rw [Bool.and_eq_false_iff]
    left
    simpa using h
/-! ### what is printed -/
theorem mfind_in {T : Type} {l : List (Int × T)} {x : Int} {s : T} (h : mfind l x = some s) : (x, s) ∈ l := by
  obtain ⟨p, hp, rfl⟩ := Option.map_eq_some_iff.1 h
  have hx : p.1 = x := by simpa using List.find?_some (p := fun p : Int × T => p.1 == x) hp
  subst hx
  exact List.mem_of_find?_eq_some hp
theorem sh_small : ∀ p ∈ SH, 1 ≤ p.1 ∧ p.1 ≤ 12 ∧ p.2.word.length ≤ 6 ∧ p.2.nums ≤ 7 ∧ p.2.texts ≤ 4 := by decide
structure IsD (d : ApiDeed) (s : ScriptShape) : Prop where
  m : mfind SH d.Kind = some s
  sh : shape d.Kind = s
  n : (d.Nums.length : Int) = s.nums
  t : (d.Texts.length : Int) = s.texts
  ns : d.Nums.all in40 = true
  ts : d.Texts.all fitT = true
  k : 1 ≤ d.Kind ∧ d.Kind ≤ 12
  w : s.word.length ≤ 6
  n7 : d.Nums.length ≤ 7
  t4 : d.Texts.length ≤ 4
theorem okD_iff {d : ApiDeed} : okD d = true ↔ ∃ s, IsD d s := by
  constructor
  · intro h
    simp only [okD, Bool.and_eq_true, beq_iff_eq] at h
    obtain ⟨⟨⟨⟨h1, h2⟩, h3⟩, h4⟩, h5⟩ := h
    obtain ⟨s, hs⟩ := Option.isSome_iff_exists.1 h1
    have e : shape d.Kind = s := by unfold shape; rw [hs]; rfl
    rw [e] at h2 h3
    have hm : 1 ≤ d.Kind ∧ d.Kind ≤ 12 ∧ s.word.length ≤ 6 ∧ s.nums ≤ 7 ∧ s.texts ≤ 4 := sh_small (d.Kind, s) (mfind_in hs)
    exact ⟨s, hs, e, h2, h3, h4, h5, ⟨hm.1, hm.2.1⟩, hm.2.2.1, by have := hm.2.2.2.1; omega, by have := hm.2.2.2.2; omega⟩
  · rintro ⟨s, h⟩
    simp only [okD, Bool.and_eq_true, beq_iff_eq, h.m, h.sh, h.n, h.t, h.ns, h.ts, Option.isSome_some, and_self]
def lineD (d : ApiDeed) : List UInt8 := (shape d.Kind).word ++ bodyS d.Nums d.Texts
theorem lineD_len {d : ApiDeed} (h : okD d = true) : (lineD d).length ≤ 9000 := by
  obtain ⟨s, h⟩ := okD_iff.1 h
  have h1 := nums_len _ h.ns
  have h2 := txts_len _ h.ts
  have h3 := h.w
  have h4 := h.n7
  have h5 := h.t4
  unfold lineD bodyS
  rw [h.sh]
  simp only [List.length_append]
  omega
def headS (p : ApiPlan) : List UInt8 := [119, 111, 114, 108, 100] ++ bodyS [p.Quota, p.Sectors] []
/-- A plan's text. -/
def textP (p : ApiPlan) : List UInt8 := headS p ++ [10] ++ p.Deeds.flatMap fun d => lineD d ++ [10]
theorem okB_iff {q s : Int} : okB q s = true ↔ 0 ≤ q ∧ q ≤ 1048576 ∧ 4 ≤ s ∧ s ≤ 64 := by
  simp [okB, and_assoc]
theorem headS_len {p : ApiPlan} (h : okB p.Quota p.Sectors = true) : (headS p).length ≤ 100 := by
  obtain ⟨h0, h1, h2, h3⟩ := okB_iff.1 h
  have := nums_len [p.Quota, p.Sectors] (by simp [in40]; omega)
  unfold headS bodyS
  simp only [List.length_append, List.flatMap_nil, List.length_nil, List.length_cons] at *
  omega
theorem Print_loop (p : ApiPlan) (hd : p.Deeds.all okD = true) (hl : p.Deeds.length ≤ 1000) : ∀ (m j k : Nat) (acc : List UInt8), j + m = p.Deeds.length → acc.length ≤ 1000 + 10000 * j → m + 3100 < k →
    script_Print.l0 k p acc (j : Int) = some (acc ++ (p.Deeds.drop j).flatMap (fun d => lineD d ++ [10]), 0)
  | 0, j, k + 1, acc, h, hc, hk => by
    rw [script_Print.l0, if_neg (by omega), List.drop_of_length_le (by omega)]; simp
  | m + 1, j, k + 1, acc, h, hc, hk => by
    have hlt : j < p.Deeds.length := by omega
    have ho := List.all_eq_true.1 hd _ (List.getElem_mem hlt)
    have hle := lineD_len ho
    obtain ⟨s, hs⟩ := okD_iff.1 ho
    have hk1 := hs.k
    have hw := hs.w
    have h7 := hs.n7
    have h4 := hs.t4
    rw [script_Print.l0, if_pos (by omega), if_pos (by omega), Int.toNat_natCast, List.getElem?_eq_getElem hlt, Option.bind_some, shapes_ok, Option.bind_some, if_pos (i64ok_iff.2 (by omega))]
    have e : ((mfind SH p.Deeds[j].Kind).getD ⟨[], 0, 0⟩).word = s.word := by rw [hs.m]; rfl
    have e2 : lineD p.Deeds[j] = s.word ++ bodyS p.Deeds[j].Nums p.Deeds[j].Texts := by unfold lineD; rw [hs.sh]
    rw [e, line_ok k _ _ _ (by omega) hs.ns hs.ts (by omega) (by omega) (by omega), Option.bind_some, ← e2, if_pos (by simp; omega),
      wrapS (by omega) (by omega), show (j : Int) + 1 = ((j + 1 : Nat) : Int) by omega, Print_loop p hd hl m (j + 1) k _ (by omega) (by simp; omega) (by omega), List.drop_eq_getElem_cons hlt]
    simp only [List.flatMap_cons]
    simp
theorem okP_iff {p : ApiPlan} : okP p = true ↔ okB p.Quota p.Sectors = true ∧ p.Deeds.length ≤ 200 ∧ p.Deeds.all okD = true := by
  simp only [okP, Bool.and_eq_true, decide_eq_true_eq, and_assoc]
theorem Print_ok (k : Nat) (hk : 5000 ≤ k) (p : ApiPlan) (hp : Small p) : script_Print.f k p = some (if okP p = true then (textP p, 0) else ([], 1)) := by
  unfold script_Print.f
  rw [Right_ok k (by omega) p hp, Option.bind_some]
  by_cases h : okP p = true
  · obtain ⟨h1, h2, h3⟩ := okP_iff.1 h
    obtain ⟨b0, b1, b2, b3⟩ := okB_iff.1 h1
    have hlen := headS_len h1
    rw [if_pos h, if_pos h, line_ok k _ _ _ (by simp) (by simp [in40]; omega) (by simp) (by simp) (by simp) (by omega), Option.bind_some]
    have := Print_loop p h3 (by omega) p.Deeds.length 0 k (headS p ++ [10]) (by omega) (by simp; omega) (by omega)
    exact this
  · rw [if_neg h, if_neg h]
theorem textP_len {p : ApiPlan} (h : okP p = true) : (textP p).length ≤ 2000000 := by
  obtain ⟨h1, h2, h3⟩ := okP_iff.1 h
  have hh := headS_len h1
  have key : ∀ l : List ApiDeed, l.all okD = true → (l.flatMap fun d => lineD d ++ [10]).length ≤ 9001 * l.length := by
    intro l
    induction l with
    | nil => simp
    | cons d l ih =>
      intro hl
      rw [List.all_cons, Bool.and_eq_true] at hl
      have := lineD_len hl.1
      have := ih hl.2
      simp only [List.flatMap_cons, List.length_append, List.length_cons, List.length_nil]
      omega
  have := key _ h3
  unfold textP
  simp only [List.length_append, List.length_cons, List.length_nil]
  omega
theorem small_few (p : ApiPlan) (n : Nat) (hn : n ≤ 1000) (h : ∀ d ∈ p.Deeds, i64ok d.Kind) : Small (fewP p n) := by
  refine ⟨by simp [fewP]; omega, fun d hd => ?_⟩
  obtain ⟨e, he, rfl⟩ := List.mem_map.1 hd
  exact ⟨h e (List.mem_of_mem_take he), by simp [fewD]; omega, by simp [fewD]; omega⟩
theorem alive_ok (k : Nat) (hk : 3000 ≤ k) : consignorlaw20_alive.f k = some true := by
  obtain ⟨n, rfl⟩ : ∃ n, k = n + 3000 := ⟨k - 3000, by omega⟩
  exact alive_all n
end Go.Proofs.YtlaifpbickdpkaaDoor
