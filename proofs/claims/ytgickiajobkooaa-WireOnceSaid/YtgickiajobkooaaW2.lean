/- WireOnce is proved as stated: whatever the messages and the ways they are taken, the law answers true and what came in reads as it did; no condition. (The loops' plain law, and the end; own work.) -/
import Derived.Test.YtgickiajobkooaaW1
import Derived.Test.YtgickiajobkooaaH1
namespace Go.Proofs.Ytgickiajobkooaa
set_option linter.unusedVariables false

abbrev cntId (fl : List ApiMsg) (x : Int) : Nat := fl.countP (fun m => m.Id == x)
structure Inv (n : Int) (D : DM) (fl : List ApiMsg) (L : DM) (b : Nat) : Prop where
  n0 : 0 ≤ n
  n1 : n ≤ 20
  len : fl.length ≤ 32
  msg : ∀ m ∈ fl, 1 ≤ m.Id ∧ m.Id ≤ n ∧ m.To = Int.tmod (m.Id - 1) 64 ∧ m.Body = mstr D m.Id ∧ m.Body.length ≤ 100 ∧ m.At = 0
  cnt : ∀ x, mint L x = (cntId fl x : Int)
  ti : TI L
  sz : Maps.size L ≤ b
theorem Inv.good {n : Int} {D : DM} {fl : List ApiMsg} {L : DM} {b : Nat} (h : Inv n D fl L b) : ∀ m ∈ fl, good n m := by
  intro m hm
  obtain ⟨h1, h2, h3, h4, h5, h6⟩ := h.msg m hm
  have := h.n1
  rw [Int.tmod_eq_emod_of_nonneg (by omega)] at h3
  exact ⟨h1, h2, by omega, by omega, by omega, h6⟩
theorem cnt_le (fl : List ApiMsg) (x : Int) : cntId fl x ≤ fl.length := List.countP_le_length
theorem cut_at {fl : List ApiMsg} {i : Nat} {m : ApiMsg} (hm : fl[i]? = some m) : fl = fl.take i ++ m :: fl.drop (i + 1) := by
  obtain ⟨hi, rfl⟩ := List.getElem?_eq_some_iff.1 hm
  rw [← List.drop_eq_getElem_cons hi, List.take_append_drop]
theorem cnt_at {fl : List ApiMsg} {i : Nat} {m : ApiMsg} (hm : fl[i]? = some m) (x : Int) : cntId fl x = cntId (fl.take i ++ fl.drop (i + 1)) x + (if m.Id = x then 1 else 0) := by
  have e : cntId fl x = cntId (fl.take i ++ m :: fl.drop (i + 1)) x := congrArg (cntId · x) (cut_at hm)
  rw [e]
  simp only [cntId, List.countP_append, List.countP_cons]
  by_cases hx : m.Id = x
  · simp [hx]; omega
  · simp [hx]
theorem Inv.rem {n : Int} {D : DM} {fl : List ApiMsg} {L : DM} {b i : Nat} {m : ApiMsg} (h : Inv n D fl L b) (hm : fl[i]? = some m) : Inv n D (fl.take i ++ fl.drop (i + 1)) (mputi L m.Id (mint L m.Id - 1)) (b + 1) := by
  refine ⟨h.n0, h.n1, ?_, fun m' hm' => ?_, fun x => ?_, h.ti.put _ _, Nat.le_trans (size_put_le h.ti.tidy _ _) (by have := h.sz; omega)⟩
  · have := h.len; simp; omega
  · refine h.msg m' ?_
    rcases List.mem_append.1 hm' with h1 | h1
    · exact List.mem_of_mem_take h1
    · exact List.mem_of_mem_drop h1
  · have h1 := cnt_at hm x
    by_cases hx : m.Id = x
    · subst hx
      rw [mint_put_same h.ti.tidy.isMap, h.cnt]
      rw [if_pos rfl] at h1; omega
    · rw [mint_put_other _ (Ne.symm hx), h.cnt]
      rw [if_neg hx] at h1; omega
theorem Inv.dup {n : Int} {D : DM} {fl : List ApiMsg} {L : DM} {b i : Nat} {m : ApiMsg} (h : Inv n D fl L b) (hm : fl[i]? = some m) (hl : fl.length < 32) : Inv n D (fl ++ [m]) (mputi L m.Id (mint L m.Id + 1)) (b + 1) := by
  refine ⟨h.n0, h.n1, by simp; omega, fun m' hm' => ?_, fun x => ?_, h.ti.put _ _, Nat.le_trans (size_put_le h.ti.tidy _ _) (by have := h.sz; omega)⟩
  · rcases List.mem_append.1 hm' with h1 | h1
    · exact h.msg m' h1
    · rw [List.mem_singleton.1 h1]; exact h.msg m (List.mem_of_getElem? hm)
  · have h1 : cntId (fl ++ [m]) x = cntId fl x + (if m.Id = x then 1 else 0) := by
      simp only [cntId, List.countP_append, List.countP_cons, List.countP_nil]
      by_cases hx : m.Id = x <;> simp [hx]
    by_cases hx : m.Id = x
    · subst hx
      rw [mint_put_same h.ti.tidy.isMap, h.cnt, h1, if_pos rfl]; omega
    · rw [mint_put_other _ (Ne.symm hx), h.cnt, h1, if_neg hx]; omega

/-! ### the last loop -/
theorem l4_ok {fl : List ApiMsg} {last : Int} (hl : fl.length ≤ 32) (h0 : 0 ≤ last) (h1 : last ≤ 20) (hg : ∀ m ∈ fl, good last m) : ∀ (n i k : Nat) (L : DM) (b : Nat), fl.length - i = n → n + 45 ≤ k → (∀ x, mint L x = (cntId (fl.drop i) x : Int)) → TI L → Maps.size L ≤ b → b + n ≤ 1000 →
    consignorlaw13_WireOnce.l4 k fl last 0 (i : Int) L = some true
  | n, i, 0, L, b, _, hk, _, _, _, _ => by omega
  | 0, i, k + 1, L, b, hn, hk, hc, ht, hs, hb => by
    rw [consignorlaw13_WireOnce.l4, if_neg (by omega)]
    have hd : fl.drop i = [] := List.drop_eq_nil_of_le (by omega)
    rw [if_pos (ht.all0 (fun x => by rw [hc, hd]; rfl)), alive_ok (by omega)]
    simp only [Option.bind_some, if_true]
    rw [right_ok (by omega) hl h0 (by omega) hg]
    rfl
  | n + 1, i, k + 1, L, b, hn, hk, hc, ht, hs, hb => by
    have hi : i < fl.length := by omega
    have hdrop : fl.drop i = fl[i] :: fl.drop (i + 1) := List.drop_eq_getElem_cons hi
    have hgi := hg _ (List.getElem_mem hi)
    obtain ⟨g1, g2, _⟩ := hgi
    have hle : cntId (fl.drop i) fl[i].Id ≤ 32 := Nat.le_trans (cnt_le _ _) (by simp; omega)
    rw [consignorlaw13_WireOnce.l4, if_pos (by omega), if_pos (by omega), Int.toNat_natCast, List.getElem?_eq_getElem hi]
    simp only [Option.bind_some]
    have hw : IntKind.i64.wrap (mint L fl[i].Id - 1) = mint L fl[i].Id - 1 := wrapS (by rw [hc]; omega) (by rw [hc]; omega)
    rw [if_pos (i64mk (by omega) (by omega)), hw, if_pos ⟨i64mk (by omega) (by omega), i64mk (by rw [hc]; omega) (by rw [hc]; omega), by omega⟩, wrapS (by omega) (by omega)]
    refine l4_ok hl h0 h1 hg n (i + 1) k _ (b + 1) (by omega) (by omega) (fun x => ?_) (ht.put _ _) (Nat.le_trans (size_put_le ht.tidy _ _) (by omega)) (by omega)
    have h2 : cntId (fl.drop i) x = cntId (fl.drop (i + 1)) x + (if fl[i].Id = x then 1 else 0) := by
      rw [hdrop]
      simp only [cntId, List.countP_cons]
      by_cases hx : fl[i].Id = x <;> simp [hx]
    by_cases hx : fl[i].Id = x
    · rw [← hx, mint_put_same ht.tidy.isMap, hc, hx, h2, if_pos hx]; omega
    · rw [mint_put_other _ (Ne.symm hx), hc, h2, if_neg hx]; omega

/-! ### the middle loop -/
theorem idxr {t : Int} (ht : i64ok t) {len : Nat} (h0 : 0 < len) (h1 : len ≤ 32) : ∃ r : Nat, r < len ∧ Int.tmod (IntKind.i64.wrap ((Int.tmod (IntKind.i64.wrap (Int.tdiv t 3)) (len : Int)) + (len : Int))) (len : Int) = (r : Int) := by
  have a1 := Int.tmod_lt_of_pos (IntKind.i64.wrap (Int.tdiv t 3)) (b := (len : Int)) (by omega)
  have a2 := Int.lt_tmod_of_pos (IntKind.i64.wrap (Int.tdiv t 3)) (b := (len : Int)) (by omega)
  rw [wrapS (x := _ + (len : Int)) (by omega) (by omega)]
  have b1 := Int.tmod_lt_of_pos (Int.tmod (IntKind.i64.wrap (Int.tdiv t 3)) (len : Int) + (len : Int)) (b := (len : Int)) (by omega)
  have b2 := Int.tmod_nonneg (a := Int.tmod (IntKind.i64.wrap (Int.tdiv t 3)) (len : Int) + (len : Int)) (len : Int) (by omega)
  exact ⟨Int.toNat _, by omega, (Int.toNat_of_nonneg b2).symm⟩
theorem l3_ok {a1 : List Int} (ha : ∀ x ∈ a1, i64ok x) {D : DM} {last : Int} : ∀ (n j k : Nat) (fl : List ApiMsg) (L : DM), 60 - j = n → j ≤ 60 → n + 150 ≤ k → Inv last D fl L (20 + j) →
    consignorlaw13_WireOnce.l3 k a1 D (j : Int) fl last 0 L = some true
  | n, j, 0, fl, L, _, _, hk, _ => by omega
  | n, j, k + 1, fl, L, hn, hj, hk, hI => by
    have out : consignorlaw13_WireOnce.j2 k fl last 0 L = some true := by
      obtain ⟨k, rfl⟩ : ∃ q, k = q + 1 := ⟨k - 1, by omega⟩
      rw [consignorlaw13_WireOnce.j2]
      exact l4_ok hI.len hI.n0 hI.n1 hI.good fl.length 0 k L (20 + j) (by omega) (by have := hI.len; omega) (by simpa using hI.cnt) hI.ti hI.sz (by have := hI.len; omega)
    rw [consignorlaw13_WireOnce.l3]
    by_cases hlt : (j : Int) < (a1.length : Int)
    · rw [if_pos hlt, if_pos (by omega), Int.toNat_natCast]
      have hja : j < a1.length := by omega
      rw [List.getElem?_eq_getElem hja]
      simp only [Option.bind_some]
      by_cases hst : ((decide (60 ≤ (j : Int))) || ((fl.length : Int) == 0)) = true
      · rw [if_pos hst]; exact out
      · rw [if_neg hst]
        simp only [Bool.or_eq_true, decide_eq_true_eq, beq_iff_eq, not_or] at hst
        obtain ⟨s1, s2⟩ := hst
        obtain ⟨n, rfl⟩ : ∃ q, n = q + 1 := ⟨n - 1, by omega⟩
        have hlen := hI.len
        have n0 := hI.n0
        have n1 := hI.n1
        have hgood := hI.good
        obtain ⟨r, hr, er⟩ := idxr (ha _ (List.getElem_mem hja)) (len := fl.length) (by omega) hlen
        simp only [er]
        rw [if_pos s2, if_pos s2, if_pos (by omega), Int.toNat_natCast, List.getElem?_eq_getElem hr]
        simp only [Option.bind_some]
        have hm : fl[r]? = some fl[r] := List.getElem?_eq_getElem hr
        obtain ⟨g1, g2, g3, g4, g5, g6⟩ := hI.msg _ (List.getElem_mem hr)
        have hcl := Nat.le_trans (cnt_le fl fl[r].Id) hlen
        have hcp : 0 < cntId fl fl[r].Id := List.countP_pos_iff.2 ⟨fl[r], List.getElem_mem hr, by simp⟩
        have hc := hI.cnt fl[r].Id
        have hsz := hI.sz
        have wj : IntKind.i64.wrap ((j : Int) + 1) = ((j + 1 : Nat) : Int) := wrapS (by omega) (by omega)
        have w1 : IntKind.i64.wrap (mint L fl[r].Id - 1) = mint L fl[r].Id - 1 := wrapS (by omega) (by omega)
        have w2 : IntKind.i64.wrap (mint L fl[r].Id + 1) = mint L fl[r].Id + 1 := wrapS (by omega) (by omega)
        have w3 : IntKind.i64.wrap (fl[r].Id - 1) = fl[r].Id - 1 := wrapS (by omega) (by omega)
        have ok1 : i64ok fl[r].Id := i64mk (by omega) (by omega)
        have ok2 : i64ok (mint L fl[r].Id - 1) := i64mk (by omega) (by omega)
        have ok3 : i64ok (mint L fl[r].Id + 1) := i64mk (by omega) (by omega)
        have again := hI.rem hm
        simp only [wj, w1, w2, w3]
        split
        · rw [take_ok (by omega) hlen n0 (by omega) hgood hr hm]
          simp only [Option.bind_some]
          rw [if_neg (by simp)]
          try rw [if_pos ok1]
          rw [if_neg (by rw [← g4]; simp)]
          try rw [if_pos ok1]
          rw [if_neg (by omega), if_neg (by rw [← g3]; simp)]
          try rw [if_pos ok1]
          rw [if_pos ⟨ok1, ok2, by omega⟩]
          exact l3_ok ha n (j + 1) k _ _ (by omega) (by omega) (by omega) again
        · split
          · by_cases hfull : fl.length = 32
            · rw [twice_full (by omega) hfull n0 (by omega) hgood hr]
              simp only [Option.bind_some]
              rw [if_neg (by simp)]
              exact l3_ok ha n (j + 1) k _ _ (by omega) (by omega) (by omega) { hI with sz := by omega }
            · rw [twice_ok (by omega) (by omega) n0 (by omega) hgood hr hm]
              simp only [Option.bind_some]
              rw [if_pos (by simp)]
              try rw [if_pos ok1]
              rw [if_pos ⟨ok1, ok3, by omega⟩]
              exact l3_ok ha n (j + 1) k _ _ (by omega) (by omega) (by omega) (hI.dup hm (by omega))
          · rw [lose_ok (by omega) hlen n0 (by omega) hgood hr hm]
            simp only [Option.bind_some]
            rw [if_neg (by simp)]
            try rw [if_pos ok1]
            rw [if_pos ⟨ok1, ok2, by omega⟩]
            exact l3_ok ha n (j + 1) k _ _ (by omega) (by omega) (by omega) again
    · rw [if_neg hlt]; exact out
/-! ### the first loop -/
theorem ok_one1 : i64ok 1 := by show (Lit.int .i64 1).wf = true; rfl
theorem l1_ok {a0 : List (List UInt8)} {a1 : List Int} (ha : ∀ x ∈ a1, i64ok x) : ∀ (k n i : Nat) (fl : List ApiMsg) (D L : DM), 20 - i = n → i ≤ 20 → n + 250 ≤ k → Inv (i : Int) D fl L i → fl.length = i → Maps.Tidy D → Maps.size D ≤ i →
    consignorlaw13_WireOnce.l1 k a0 a1 (i : Int) fl (i : Int) 0 D L = some true := by
  intro k
  induction k with
  | zero => intro n i fl D L _ _ hk; omega
  | succ k ih =>
    intro n i fl D L hn hi hk hI hl hD hDs
    have out : consignorlaw13_WireOnce.j0 k a1 fl (i : Int) 0 D L = some true := by
      obtain ⟨k, rfl⟩ : ∃ q, k = q + 1 := ⟨k - 1, by omega⟩
      rw [consignorlaw13_WireOnce.j0]
      exact l3_ok ha 60 0 k fl L (by omega) (by omega) (by omega) { hI with sz := by have := hI.sz; omega }
    rw [consignorlaw13_WireOnce.l1]
    by_cases hlt : (i : Int) < (a0.length : Int)
    · rw [if_pos hlt, if_pos (by omega), Int.toNat_natCast]
      have hia : i < a0.length := by omega
      rw [List.getElem?_eq_getElem hia]
      simp only [Option.bind_some]
      by_cases hst : 20 ≤ (i : Int)
      · rw [if_pos hst]; exact out
      · rw [if_neg hst]
        obtain ⟨n, rfl⟩ : ∃ q, n = q + 1 := ⟨n - 1, by omega⟩
        have hM0 : 0 ≤ (if 100 < (a0[i].length : Int) then 100 else (a0[i].length : Int)) := by split <;> omega
        have hM1 : (if 100 < (a0[i].length : Int) then 100 else (a0[i].length : Int)) ≤ (a0[i].length : Int) := by split <;> omega
        have hM2 : (if 100 < (a0[i].length : Int) then 100 else (a0[i].length : Int)) ≤ 100 := by split <;> omega
        rw [if_pos hM0, if_pos hM1]
        generalize (if 100 < (a0[i].length : Int) then 100 else (a0[i].length : Int)) = M at hM0 hM1 hM2 ⊢
        have hb : ((a0[i].take (Int.toNat M)).drop (Int.toNat 0)).length ≤ 100 := by simp; omega
        generalize ((a0[i].take (Int.toNat M)).drop (Int.toNat 0)) = body at hb ⊢
        have ht : 0 ≤ Int.tmod (i : Int) 64 := Int.tmod_nonneg _ (by omega)
        have ht2 : Int.tmod (i : Int) 64 < 64 := Int.tmod_lt_of_pos _ (by omega)
        obtain ⟨J, hJ⟩ : ∃ J : Int, J = (i : Int) + 1 := ⟨_, rfl⟩
        have hsend : wire_Send.f k ⟨fl, (i : Int), 0⟩ (Int.tmod (i : Int) 64) body = some (⟨fl ++ [⟨J, Int.tmod (i : Int) 64, body, 0⟩], J, 0⟩, J, 0) := by
          rw [hJ]; exact send_ok (by omega) (by omega) (by omega) (by omega) hI.good ht ht2 (by omega)
        have hwj : IntKind.i64.wrap ((i : Int) + 1) = J := by rw [hJ]; exact wrapS (by omega) (by omega)
        rw [hsend]
        simp only [Option.bind_some]
        have hz : mint L J = 0 := by
          rw [hI.cnt]
          have : cntId fl J = 0 := List.countP_eq_zero.2 fun m hm => by
            have := (hI.msg m hm).2.1
            simp; omega
          rw [this]; rfl
        have ok1 : i64ok J := i64mk (by omega) (by omega)
        have hsz := hI.sz
        rw [if_neg (by simp), if_pos ok1, if_neg (by rw [hz]; simp), if_pos ⟨ok1, by omega, by omega⟩, if_pos ⟨ok1, ok_one1, by omega⟩, hwj]
        have hcnt : ∀ x, mint (mputi L J 1) x = (cntId (fl ++ [⟨J, Int.tmod (i : Int) 64, body, 0⟩]) x : Int) := by
          intro x
          have h1 : cntId (fl ++ [⟨J, Int.tmod (i : Int) 64, body, 0⟩]) x = cntId fl x + (if J = x then 1 else 0) := by
            simp only [cntId, List.countP_append, List.countP_cons, List.countP_nil]
            by_cases hx : J = x <;> simp [hx]
          by_cases hx : J = x
          · have h0 := hI.cnt x
            rw [← hx] at h0
            rw [hz] at h0
            rw [h1, if_pos hx, ← hx, mint_put_same hI.ti.tidy.isMap]; omega
          · rw [mint_put_other _ (Ne.symm hx), hI.cnt, h1, if_neg hx]; omega
        have hmsg : ∀ m ∈ fl ++ [(⟨J, Int.tmod (i : Int) 64, body, 0⟩ : ApiMsg)], 1 ≤ m.Id ∧ m.Id ≤ J ∧ m.To = Int.tmod (m.Id - 1) 64 ∧ m.Body = mstr (mputs D J body) m.Id ∧ m.Body.length ≤ 100 ∧ m.At = 0 := by
          intro m hm
          rcases List.mem_append.1 hm with h1 | h1
          · obtain ⟨g1, g2, g3, g4, g5, g6⟩ := hI.msg m h1
            exact ⟨g1, by omega, g3, by rw [mstr_put_other _ (by omega)]; exact g4, g5, g6⟩
          · rw [List.mem_singleton.1 h1]
            refine ⟨?_, Int.le_refl _, ?_, ?_, hb, rfl⟩
            · show 1 ≤ J
              omega
            · show Int.tmod (i : Int) 64 = Int.tmod (J - 1) 64
              rw [hJ, Int.add_sub_cancel]
            · exact (mstr_put_same hD.isMap _ _).symm
        have hD' : Maps.Tidy (mputs D J body) := hD.put (kl _) _
        have hDs' : Maps.size (mputs D J body) ≤ i + 1 := Nat.le_trans (size_put_le hD _ _) (by omega)
        have hL' : Maps.size (mputi L J 1) ≤ i + 1 := Nat.le_trans (size_put_le hI.ti.tidy _ _) (by omega)
        have hL2 := hI.ti.put J 1
        have hlen' : (fl ++ [(⟨J, Int.tmod (i : Int) 64, body, 0⟩ : ApiMsg)]).length = i + 1 := by simp; omega
        generalize fl ++ [(⟨J, Int.tmod (i : Int) 64, body, 0⟩ : ApiMsg)] = fl' at hcnt hmsg hlen' ⊢
        generalize mputs D J body = D' at hmsg hD' hDs' ⊢
        generalize mputi L J 1 = L' at hcnt hL' hL2 ⊢
        have hJ2 : J = ((i + 1 : Nat) : Int) := by omega
        have hJ0 : 0 ≤ J := by omega
        have hJ1 : J ≤ 20 := by omega
        have hfl : fl'.length ≤ 32 := by omega
        have inv : Inv J D' fl' L' (i + 1) := ⟨hJ0, hJ1, hfl, hmsg, hcnt, hL2, hL'⟩
        have e1 : 20 - (i + 1) = n := by omega
        have e2 : i + 1 ≤ 20 := by omega
        have e3 : n + 250 ≤ k := by omega
        clear hJ hz ok1 hcnt hmsg out hM0 hM1 hM2 hI
        rw [hJ2] at inv ⊢
        exact ih n (i + 1) fl' D' L' e1 e2 e3 inv hlen' hD' hDs'
    · rw [if_neg hlt]; exact out
theorem law : Law := by
  intro a0 a1 ha
  refine ⟨300, ?_⟩
  unfold consignorlaw13_WireOnce.f
  exact l1_ok (a0 := a0) ha 300 20 0 [] (.map []) (.map []) (by omega) (by omega) (by omega) ⟨by omega, by omega, by simp, by simp, fun x => rfl, TI.empty, Nat.le_refl _⟩ rfl Maps.tidy_empty (Nat.le_refl _)
theorem wireOnce_holds : Rows.WireOnceSaid := wireOnce_of law
end Go.Proofs.Ytgickiajobkooaa
#print axioms Go.Proofs.Ytgickiajobkooaa.wireOnce_holds
