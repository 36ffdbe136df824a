/- W1: WireOnce: the plain law: maps and the functions of the wire (own work). -/
import Derived.Test.YtgickiajobkooaaT1
import Derived.Laws.BitsLemmas
namespace Go.Proofs.Ytgickiajobkooaa
set_option linter.unusedVariables false

theorem wrapS {x : Int} (h1 : -9223372036854775808 ≤ x) (h2 : x ≤ 9223372036854775807) : IntKind.i64.wrap x = x := by rw [IntKind.wrap_i64]; omega
theorem i64ok_iff (x : Int) : i64ok x ↔ -9223372036854775808 ≤ x ∧ x ≤ 9223372036854775807 := by
  show (decide _ && decide _) = true ↔ _
  rw [Bool.and_eq_true, decide_eq_true_eq, decide_eq_true_eq]
  exact Iff.rfl
theorem i64mk {x : Int} (h1 : -9223372036854775808 ≤ x) (h2 : x ≤ 9223372036854775807) : i64ok x := (i64ok_iff x).2 ⟨h1, h2⟩

/-! ### maps -/
theorem mem_ins (x p : Lit × DM) : ∀ l, p ∈ DataW.insert x l ↔ p = x ∨ p ∈ l
  | [] => by simp [DataW.insert]
  | y :: r => by
    unfold DataW.insert
    split
    · simp
    · rw [List.mem_cons, mem_ins x p r, List.mem_cons]
      constructor
      · rintro (h | h | h) <;> simp [h]
      · rintro (h | h | h) <;> simp [h]
structure TI (D : DM) : Prop where
  tidy : Maps.Tidy D
  ints : ∀ p ∈ entriesOf D, ∃ x c, p = (.int .i64 x, .lit (.int .i64 c))
theorem TI.empty : TI (.map []) := ⟨Maps.tidy_empty, by simp [entriesOf]⟩
theorem kl (x : Int) : WideAt.IsKeyLit (.int .i64 x) := trivial
theorem key_ne {x y : Int} (h : x ≠ y) : Lit.int .i64 x ≠ Lit.int .i64 y := fun e => h (by injection e)
theorem mint_put_same {D : DM} (h : Maps.IsMap D) (x c : Int) : mint (mputi D x c) x = c := by
  unfold mint mputi; rw [Maps.atKey_put_same h (kl x)]
theorem mint_put_other {D : DM} {x y : Int} (c : Int) (h : y ≠ x) : mint (mputi D x c) y = mint D y := by
  unfold mint mputi; rw [Maps.atKey_put_other (key_ne h)]
theorem mstr_put_same {D : DM} (h : Maps.IsMap D) (x : Int) (s : List UInt8) : mstr (mputs D x s) x = s := by
  unfold mstr mputs; rw [Maps.atKey_put_same h (kl x)]
theorem mstr_put_other {D : DM} {x y : Int} (s : List UInt8) (h : y ≠ x) : mstr (mputs D x s) y = mstr D y := by
  unfold mstr mputs; rw [Maps.atKey_put_other (key_ne h)]
theorem TI.put {D : DM} (h : TI D) (x c : Int) : TI (mputi D x c) := by
  refine ⟨h.tidy.put (kl x) _, fun p hp => ?_⟩
  obtain ⟨es, rfl, hpw⟩ := h.tidy
  have hp' : p ∈ DataW.insert (.int .i64 x, .lit (.int .i64 c)) (es.filter fun q => !q.1.sameKey (.int .i64 x)) := hp
  rcases (mem_ins _ _ _).1 hp' with rfl | hq
  · exact ⟨_, _, rfl⟩
  · exact h.ints p (List.mem_filter.1 hq).1
theorem size_put_le {D : DM} (h : Maps.Tidy D) (k : Lit) (d : DM) : Maps.size (D.put k d) ≤ Maps.size D + 1 := by
  rw [Maps.size_put h]; split <;> omega
theorem TI.all0 {D : DM} (h : TI D) (h0 : ∀ x, mint D x = 0) : mall0 D = true := by
  obtain ⟨es, rfl, hpw⟩ := h.tidy
  unfold mall0
  rw [List.all_eq_true]
  intro p hp
  obtain ⟨x, c, rfl⟩ := h.ints p hp
  have hx := h0 x
  unfold mint at hx
  have hf : es.find? (fun q => q.1.sameKey (.int .i64 x)) = some (.int .i64 x, .lit (.int .i64 c)) := by
    cases hq : es.find? (fun q => q.1.sameKey (.int .i64 x)) with
    | none =>
      have := List.find?_eq_none.1 hq _ hp
      rw [show (Lit.int .i64 x).sameKey (.int .i64 x) = true from WideAt.sameKey_self (kl x)] at this
      exact absurd rfl this
    | some q =>
      have hqm := List.mem_of_find?_eq_some hq
      have hqk := WideAt.sameKey_eq (List.find?_some (p := fun q : Lit × DM => q.1.sameKey (.int .i64 x)) hq)
      have key : ∀ l : List (Lit × DM), l.Pairwise (fun p q => p.1 ≠ q.1) → (Lit.int .i64 x, (.lit (.int .i64 c) : DM)) ∈ l → q ∈ l → q = (.int .i64 x, .lit (.int .i64 c)) := by
        intro l
        induction l with
        | nil => intro _ h; simp at h
        | cons y l ih =>
          intro hpw hp hq
          obtain ⟨h1, h2⟩ := List.pairwise_cons.1 hpw
          rcases List.mem_cons.1 hp with e1 | hp2
          · rcases List.mem_cons.1 hq with e2 | hq2
            · rw [e2, e1]
            · exact absurd (e1 ▸ hqk.symm) (h1 q hq2)
          · rcases List.mem_cons.1 hq with e2 | hq2
            · exact absurd (e2 ▸ hqk) (h1 _ hp2)
            · exact ih h2 hp2 hq2
      rw [key es hpw hp hqm]
  simp only [DataW.atKey, hf] at hx
  simp [hx]

/-! ### the wire -/
def good (last : Int) (m : ApiMsg) : Prop := 1 ≤ m.Id ∧ m.Id ≤ last ∧ 0 ≤ m.To ∧ m.To < 64 ∧ m.Body.length ≤ 4096 ∧ m.At = 0
theorem c1_ok {k : Nat} {fl : List ApiMsg} {last : Int} {m : ApiMsg} (h : good last m) : wire_Right_c1.f k m ⟨fl, last, 0⟩ = some false := by
  obtain ⟨h1, h2, h3, h4, h5, h6⟩ := h
  unfold wire_Right_c1.f
  simp only [Option.some.injEq, Bool.or_eq_false_iff, decide_eq_false_iff_not]
  refine ⟨⟨⟨⟨⟨⟨?_, ?_⟩, ?_⟩, ?_⟩, ?_⟩, ?_⟩, ?_⟩ <;> omega
theorem idx_none {p : ApiMsg → Option Bool} {fl : List ApiMsg} (hp : ∀ m ∈ fl, p m = some false) (hl : fl.length ≤ 1000) : ∀ (n i k : Nat), fl.length - i = n → n < k → slices_IndexFunc_api_Msg.l0 k fl p (i : Int) = some (-1)
  | n, i, 0, _, h => by omega
  | 0, i, k + 1, hn, _ => by
    unfold slices_IndexFunc_api_Msg.l0
    rw [if_neg (by omega)]
  | n + 1, i, k + 1, hn, hk => by
    have hi : i < fl.length := by omega
    unfold slices_IndexFunc_api_Msg.l0
    rw [if_pos (by omega), if_pos (by omega), Int.toNat_natCast, List.getElem?_eq_getElem hi]
    simp only [Option.bind_some, hp _ (List.getElem_mem hi), Bool.false_eq_true, if_false]
    rw [wrapS (by omega) (by omega)]
    exact idx_none hp hl n (i + 1) k (by omega) (by omega)
theorem right_ok {k : Nat} {fl : List ApiMsg} {last : Int} (hk : 40 ≤ k) (hl : fl.length ≤ 32) (h0 : 0 ≤ last) (h1 : last ≤ 1099511627776) (hg : ∀ m ∈ fl, good last m) : wire_Right.f k ⟨fl, last, 0⟩ = some true := by
  unfold wire_Right.f
  have e : ((((decide ((fl.length : Int) ≤ 32) && decide (0 ≤ last)) && decide (last ≤ 1099511627776)) && decide ((0 : Int) ≤ 0)) && decide ((0 : Int) ≤ 1099511627776)) = true := by
    simp only [Bool.and_eq_true, decide_eq_true_eq]; omega
  rw [if_pos e]
  unfold slices_ContainsFunc_api_Msg.f slices_IndexFunc_api_Msg.f
  have := idx_none (p := fun x => wire_Right_c1.f k x ⟨fl, last, 0⟩) (fl := fl) (fun m hm => c1_ok (hg m hm)) (by omega) fl.length 0 k (by omega) (by omega)
  rw [show ((0 : Nat) : Int) = 0 from rfl] at this
  rw [this]
  rfl
theorem send_ok {k : Nat} {fl : List ApiMsg} {last to : Int} {body : List UInt8} (hk : 40 ≤ k) (hl : fl.length < 32) (h0 : 0 ≤ last) (h1 : last < 1099511627776) (hg : ∀ m ∈ fl, good last m) (ht : 0 ≤ to) (ht2 : to < 64) (hb : body.length ≤ 4096) :
    wire_Send.f k ⟨fl, last, 0⟩ to body = some (⟨fl ++ [⟨last + 1, to, body, 0⟩], last + 1, 0⟩, last + 1, 0) := by
  unfold wire_Send.f
  rw [right_ok hk (by omega) h0 (by omega) hg]
  simp only [Option.bind_some]
  rw [if_neg (by simp; omega), if_neg (by omega), if_neg (by simp; omega), wrapS (by omega) (by omega)]
  unfold slices_Clip_api_Msg.f
  simp only [Option.bind_some]
  rw [if_pos (by simp; omega)]
theorem there_ok {k : Nat} {fl : List ApiMsg} {last : Int} {i : Nat} (hk : 40 ≤ k) (hl : fl.length ≤ 32) (h0 : 0 ≤ last) (h1 : last ≤ 1099511627776) (hg : ∀ m ∈ fl, good last m) (hi : i < fl.length) : wire_there.f k ⟨fl, last, 0⟩ (i : Int) = some 0 := by
  unfold wire_there.f
  rw [right_ok hk hl h0 h1 hg]
  simp only [Option.bind_some, if_true]
  rw [if_neg (by simp; omega)]
theorem take_ok {k : Nat} {fl : List ApiMsg} {last : Int} {i : Nat} {m : ApiMsg} (hk : 40 ≤ k) (hl : fl.length ≤ 32) (h0 : 0 ≤ last) (h1 : last ≤ 1099511627776) (hg : ∀ m ∈ fl, good last m) (hi : i < fl.length) (hm : fl[i]? = some m) :
    wire_Take.f k ⟨fl, last, 0⟩ (i : Int) = some (⟨fl.take i ++ fl.drop (i + 1), last, 0⟩, m, 0) := by
  unfold wire_Take.f
  rw [there_ok hk hl h0 h1 hg hi]
  simp only [Option.bind_some]
  rw [if_neg (by simp), if_pos (by omega), Int.toNat_natCast, hm]
  simp only [Option.bind_some]
  unfold wire_without_api_Msg.f slices_Clone_api_Msg.f slices_Delete_api_Msg.f
  rw [if_pos (by omega)]
  simp only [Option.bind_some]
  rw [wrapS (by omega) (by omega), if_pos (by omega)]
  simp only [Option.bind_some]
  rfl
theorem twice_ok {k : Nat} {fl : List ApiMsg} {last : Int} {i : Nat} {m : ApiMsg} (hk : 40 ≤ k) (hl : fl.length < 32) (h0 : 0 ≤ last) (h1 : last ≤ 1099511627776) (hg : ∀ m ∈ fl, good last m) (hi : i < fl.length) (hm : fl[i]? = some m) :
    wire_Twice.f k ⟨fl, last, 0⟩ (i : Int) = some (⟨fl ++ [m], last, 0⟩, 0) := by
  unfold wire_Twice.f
  rw [there_ok hk (by omega) h0 h1 hg hi]
  simp only [Option.bind_some]
  rw [if_neg (by simp), if_neg (by simp; omega)]
  unfold slices_Clip_api_Msg.f
  simp only [Option.bind_some]
  rw [if_pos (by omega), Int.toNat_natCast, hm]
  simp only [Option.bind_some]
  rw [if_pos (by simp; omega)]
theorem twice_full {k : Nat} {fl : List ApiMsg} {last : Int} {i : Nat} (hk : 40 ≤ k) (hl : fl.length = 32) (h0 : 0 ≤ last) (h1 : last ≤ 1099511627776) (hg : ∀ m ∈ fl, good last m) (hi : i < fl.length) :
    wire_Twice.f k ⟨fl, last, 0⟩ (i : Int) = some (⟨[], 0, 0⟩, 13) := by
  unfold wire_Twice.f
  rw [there_ok hk (by omega) h0 h1 hg hi]
  simp only [Option.bind_some]
  rw [if_neg (by simp), if_pos (by simp; omega)]
theorem lose_ok {k : Nat} {fl : List ApiMsg} {last : Int} {i : Nat} {m : ApiMsg} (hk : 40 ≤ k) (hl : fl.length ≤ 32) (h0 : 0 ≤ last) (h1 : last ≤ 1099511627776) (hg : ∀ m ∈ fl, good last m) (hi : i < fl.length) (hm : fl[i]? = some m) :
    wire_Lose.f k ⟨fl, last, 0⟩ (i : Int) = some (⟨fl.take i ++ fl.drop (i + 1), last, 0⟩, 0) := by
  unfold wire_Lose.f
  rw [take_ok hk hl h0 h1 hg hi hm]
  rfl
theorem alive_ok {k : Nat} (hk : 40 ≤ k) : consignorlaw13_alive.f k = some true := by
  unfold consignorlaw13_alive.f
  rw [send_ok (fl := []) hk (by simp) (by omega) (by omega) (by simp) (by omega) (by omega) (by simp)]
  simp only [Option.bind_some]
  have := take_ok (k := k) (fl := [] ++ [⟨0 + 1, 3, [120], 0⟩]) (last := 0 + 1) (i := 0) (m := ⟨0 + 1, 3, [120], 0⟩) hk (by simp) (by omega) (by omega) (by simp [good]) (by simp) rfl
  rw [show ((0 : Nat) : Int) = 0 from rfl] at this
  rw [this]
  rfl
end Go.Proofs.Ytgickiajobkooaa
