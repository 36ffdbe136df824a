import Derived.Test.YtkfopceebbebjaaDoorEr2
namespace Go.Proofs.YtkfopceebbebjaaDoor
open Go.RowKit
set_option linter.unusedVariables false
set_option linter.unusedSimpArgs false
/-- errors.errorType reads as the program's text lays it. -/
def Gl (w : World) (hw : Hw) : Prop := Live w hw 0 0 [.iface 94 (.agg #[.pointer (some ⟨1, 59, none⟩)])]
theorem Gl.ext {w w' : World} {hw hw' : Hw} (e : Ext w hw w' hw') (h : Gl w hw) : Gl w' hw' := Live.ext e h
theorem number_nil (w : World) : Calls Tryd.prog 26 #[.nilIface] w fun e w' => e = .returned (.int .i64 0) ∧ Below w.heap.size w w' := by
  go_enter Tryd.func26, Tryd.ntmps26
  go_wp2
  go_ret
  exact ⟨rfl, (Below.refl _ _).alloc (Nat.le_refl _) _⟩
set_option maxHeartbeats 2000000 in
theorem number_short (no : Int) (w : World) : Calls Tryd.prog 26 #[.iface 72 (.agg #[.int .i64 no, .iface 74 (.agg #[.int .i64 3])])] w fun e w' => e = .returned (.int .i64 3) ∧ Below w.heap.size w w' := by
  go_enter Tryd.func26, Tryd.ntmps26
  go_wp2_with (first | (go_at_call 31; refine (is_short no _).mono ?_; rintro e w' ⟨rfl, rfl⟩) | go_in)
  go_ret
  exact ⟨rfl, ((Below.refl _ _).alloc (Nat.le_refl _) _).alloc (by simp) _⟩
set_option maxHeartbeats 2000000 in
theorem number_long (no : Int) (w : World) (hg : w.cell? ⟨0, 0, none⟩ = some (.iface 94 (.agg #[.pointer (some ⟨1, 59, none⟩)]))) : Calls Tryd.prog 26 #[.iface 72 (.agg #[.int .i64 no, .iface 74 (.agg #[.int .i64 2])])] w fun e w' => e = .returned (.int .i64 2) ∧ Below w.heap.size w w' := by
  have hlt : 0 < w.heap.size := by
    rcases Nat.eq_zero_or_pos w.heap.size with h0 | h
    · simp [World.cell?, h0] at hg
    · exact h
  have hg2 : ((w.alloc (.cells #[.int .i64 0] 74)).alloc (.cells #[.int .i64 no, .iface 74 (.agg #[.int .i64 2])] 72)).cell? ⟨0, 0, none⟩ = some (.iface 94 (.agg #[.pointer (some ⟨1, 59, none⟩)])) := by
    rw [World.cell?_alloc_lt _ _ ⟨0, 0, none⟩ (by simp), World.cell?_alloc_lt _ _ ⟨0, 0, none⟩ hlt]; exact hg
  have ht2 : ((w.alloc (.cells #[.int .i64 0] 74)).alloc (.cells #[.int .i64 no, .iface 74 (.agg #[.int .i64 2])] 72)).cell? ⟨w.heap.size, 0, none⟩ = some (.int .i64 0) := by simp
  have hf2 : ((w.alloc (.cells #[.int .i64 0] 74)).alloc (.cells #[.int .i64 no, .iface 74 (.agg #[.int .i64 2])] 72)).frozen? ⟨w.heap.size, 0, none⟩ = false := by simp
  go_enter Tryd.func26, Tryd.ntmps26
  go_wp2_with (first | (go_at_call 31; refine (is_long no _).mono ?_; rintro e w' ⟨rfl, rfl⟩) | (go_at_call 32; refine (as_long ⟨w.heap.size, 0, none⟩ no _ _ hg2 ht2 hf2).mono ?_; rintro e w' ⟨rfl, rfl⟩) | go_in)
  go_ret
  exact ⟨rfl, ((((((((Below.refl _ _).alloc (Nat.le_refl _) _).alloc (by simp <;> omega) _).alloc (by simp <;> omega) _).alloc (by simp <;> omega) _).alloc (by simp <;> omega) _).alloc (by simp <;> omega) _).alloc (by simp <;> omega) _)⟩
abbrev eAt (no n : Int) : Dy := Dy.mk 72 (Value.agg #[.int .i64 no, .iface 74 (.agg #[.int .i64 n])])
def eNum3 : List Value → Option Int
  | [.int .i64 n] => if n = 3 then some 3 else if n = 2 then some 2 else none
  | _ => none
def eNum2 : List Value → Option Int
  | [.int .i64 _, .iface t (.agg ds)] => if t = 74 then eNum3 ds.toList else none
  | _ => none
def octet_number.f (k : Nat) : Dy → Option Int
  | .nil => some 0
  | .mk t (.agg cs) => if t = 72 then eNum2 cs.toList else none
  | _ => none
theorem eNum3_some {l : List Value} {r : Int} (h : eNum3 l = some r) : l = [.int .i64 r] ∧ (r = 3 ∨ r = 2) := by
  unfold eNum3 at h
  split at h
  · split at h
    · rename_i hn; have := Option.some.inj h; subst this; subst hn; exact ⟨rfl, .inl rfl⟩
    · split at h
      · rename_i hn; have := Option.some.inj h; subst this; subst hn; exact ⟨rfl, .inr rfl⟩
      · cases h
  · cases h
theorem octet_number_some {k : Nat} {d : Dy} {r : Int} (h : octet_number.f k d = some r) : (d = .nil ∧ r = 0) ∨ ∃ no, d = eAt no r ∧ (r = 3 ∨ r = 2) := by
  unfold octet_number.f at h
  split at h
  · exact .inl ⟨rfl, (Option.some.inj h).symm⟩
  · rename_i t cs
    split at h
    · rename_i ht
      unfold eNum2 at h
      split at h
      · rename_i no u ds hl
        split at h
        · rename_i hu
          obtain ⟨h1, h2⟩ := eNum3_some h
          refine .inr ⟨no, ?_, h2⟩
          have e1 : ds = #[.int .i64 r] := by rw [← h1]
          have e2 : cs = #[.int .i64 no, .iface u (.agg ds)] := by rw [← hl]
          rw [e2, e1, ht, hu]
        · cases h
      · cases h
    · cases h
  · cases h
theorem octet_number.ok (k : Nat) {w0 : World} {hw0 : Hw} (wf : Hwf w0 hw0) (a0 : Dy) (gl : Gl w0 hw0) (r : Int) (h : octet_number.f k a0 = some r) :
    Calls Tryd.prog 26 #[Dy.val a0] w0 fun e w' => ∃ (hw' : Hw), e = .returned (.int .i64 r) ∧ Stp none w0 hw0 w' hw' := by
  have fin : ∀ {e w' n}, (e = Ending.returned (.int .i64 n) ∧ Below w0.heap.size w0 w') → n = r → ∃ (hw' : Hw), e = .returned (.int .i64 r) ∧ Stp none w0 hw0 w' hw' := by
    rintro e w' n ⟨rfl, hb⟩ rfl
    exact ⟨hw0, rfl, Stp.mk_same ⟨hb.os, hb.tape, hb.output, hb.size, fun k hk _ => hb.block k hk⟩ wf (by simp)⟩
  rcases octet_number_some h with ⟨rfl, rfl⟩ | ⟨no, rfl, rfl | rfl⟩
  · exact (number_nil w0).mono fun e w' hh => fin hh rfl
  · exact (number_short no w0).mono fun e w' hh => fin hh rfl
  · exact (number_long no w0 (by have := gl.2 0 _ rfl; simpa using this)).mono fun e w' hh => fin hh rfl
end Go.Proofs.YtkfopceebbebjaaDoor
