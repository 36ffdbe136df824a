/- SP1: the scripts' plain law: texts cut and split (own work). -/
import Derived.Test.YtlaifpbickdpkaaDoorSL2
namespace Go.Proofs.YtlaifpbickdpkaaDoor
set_option linter.unusedVariables false
set_option linter.unusedSimpArgs false
open Go.Lib (decDigits itoa)

/-! ### where a byte stands first -/
theorem ix_ne {b c : UInt8} (l : List UInt8) (h : b ≠ c) : Lib.index (b :: l) [c] = if Lib.index l [c] == -1 then -1 else Lib.index l [c] + 1 := by
  have hp : ([c] : List UInt8).isPrefixOf (b :: l) = false := by simp [List.isPrefixOf, Ne.symm h]
  rw [Lib.index, hp]; simp
theorem ix_eq (c : UInt8) (l : List UInt8) : Lib.index (c :: l) [c] = 0 := by
  rw [Lib.index]; simp [List.isPrefixOf]
theorem ix_none {c : UInt8} : ∀ {l : List UInt8}, c ∉ l → Lib.index l [c] = -1
  | [], _ => by simp [Lib.index]
  | b :: l, h => by
    rw [ix_ne l (fun e => h (by rw [e]; exact List.mem_cons_self)), ix_none (fun e => h (List.mem_cons_of_mem _ e))]; rfl
theorem ix_hit {c : UInt8} (y : List UInt8) : ∀ {x : List UInt8}, c ∉ x → Lib.index (x ++ c :: y) [c] = (x.length : Int)
  | [], _ => ix_eq c y
  | b :: x, h => by
    rw [List.cons_append, ix_ne _ (fun e => h (by rw [e]; exact List.mem_cons_self)), ix_hit y (fun e => h (List.mem_cons_of_mem _ e)), if_neg (by simp)]
    simp
theorem parted (c : UInt8) : ∀ l : List UInt8, c ∉ l ∨ ∃ x y, l = x ++ c :: y ∧ c ∉ x
  | [] => .inl (by simp)
  | b :: l => by
    by_cases h : b = c
    · exact .inr ⟨[], l, by rw [h]; rfl, by simp⟩
    · rcases parted c l with h1 | ⟨x, y, rfl, h1⟩
      · exact .inl (by simp [Ne.symm h, h1])
      · exact .inr ⟨b :: x, y, rfl, by simp [Ne.symm h, h1]⟩
theorem cut_none {c : UInt8} {l : List UInt8} (h : c ∉ l) : Lib.cut l [c] = (l, [], false) := by
  unfold Lib.cut; rw [ix_none h, if_neg (by decide)]
theorem cut_hit {c : UInt8} (x y : List UInt8) (h : c ∉ x) : Lib.cut (x ++ c :: y) [c] = (x, y, true) := by
  unfold Lib.cut
  rw [ix_hit y h, if_pos (by omega)]
  simp

/-! ### a text's words -/
def spl (c : UInt8) : List UInt8 → List (List UInt8)
  | [] => [[]]
  | b :: l => if b = c then [] :: spl c l else match spl c l with
    | w :: ws => (b :: w) :: ws
    | [] => [[b]]
theorem spl_none {c : UInt8} : ∀ {l : List UInt8}, c ∉ l → spl c l = [l]
  | [], _ => rfl
  | b :: l, h => by
    rw [spl, if_neg (fun e => h (by rw [e]; exact List.mem_cons_self)), spl_none (fun e => h (List.mem_cons_of_mem _ e))]
theorem spl_hit {c : UInt8} (y : List UInt8) : ∀ {x : List UInt8}, c ∉ x → spl c (x ++ c :: y) = x :: spl c y
  | [], _ => by rw [List.nil_append, spl, if_pos rfl]
  | b :: x, h => by
    rw [List.cons_append, spl, if_neg (fun e => h (by rw [e]; exact List.mem_cons_self)), spl_hit y (fun e => h (List.mem_cons_of_mem _ e))]
def joinC (c : UInt8) : List (List UInt8) → List UInt8
  | [] => []
  | [w] => w
  | w :: ws => w ++ c :: joinC c ws
theorem spl_ne (c : UInt8) (l : List UInt8) : spl c l ≠ [] := by
  cases l with
  | nil => simp [spl]
  | cons b l => unfold spl; split <;> (try split) <;> simp
theorem joinC_cons {c : UInt8} {w : List UInt8} {ws : List (List UInt8)} (h : ws ≠ []) : joinC c (w :: ws) = w ++ c :: joinC c ws := by
  cases ws with
  | nil => exact absurd rfl h
  | cons a r => rfl
theorem join_spl (c : UInt8) : ∀ l : List UInt8, joinC c (spl c l) = l
  | [] => rfl
  | b :: l => by
    have ih := join_spl c l
    unfold spl
    by_cases h : b = c
    · rw [if_pos h, joinC_cons (spl_ne c l), ih, h]; rfl
    · rw [if_neg h]
      have hn := spl_ne c l
      cases hs : spl c l with
      | nil => exact absurd hs hn
      | cons w ws =>
        rw [hs] at ih
        cases ws with
        | nil => have e : w = l := ih; rw [← e]; rfl
        | cons a r => rw [joinC_cons (by simp)] at ih ⊢; rw [← ih]; rfl
theorem spl_len (c : UInt8) : ∀ l : List UInt8, (spl c l).length ≤ l.length + 1
  | [] => by simp [spl]
  | b :: l => by
    have ih := spl_len c l
    unfold spl
    split
    · simp; omega
    · have hn := spl_ne c l
      cases hs : spl c l with
      | nil => exact absurd hs hn
      | cons w ws => rw [hs] at ih; simp at ih ⊢; omega
theorem spl_mem (c : UInt8) {w : List UInt8} : ∀ {l : List UInt8}, w ∈ spl c l → w.length ≤ l.length
  | [], h => by simp [spl] at h; subst h; simp
  | b :: l, h => by
    unfold spl at h
    split at h
    · rcases List.mem_cons.1 h with e | h
      · subst e; simp
      · have := spl_mem c h; simp; omega
    · have hn := spl_ne c l
      cases hs : spl c l with
      | nil => exact absurd hs hn
      | cons v vs =>
        rw [hs] at h
        have hv := spl_mem c (w := v) (l := l) (by rw [hs]; exact List.mem_cons_self)
        rcases List.mem_cons.1 h with e | h
        · subst e; simp; omega
        · have := spl_mem c (w := w) (l := l) (by rw [hs]; exact List.mem_cons_of_mem _ h); simp; omega
/-- A word, and others each behind a mark. -/
theorem spl_words {α : Type} {c : UInt8} (f : α → List UInt8) (hf : ∀ x, c ∉ f x) : ∀ (w : List UInt8) (xs : List α) (r : List UInt8), c ∉ w → (r = [] ∨ ∃ z, r = c :: z) →
    spl c (w ++ xs.flatMap (fun x => c :: f x) ++ r) = w :: (xs.map f ++ (match r with | [] => [] | _ :: z => spl c z))
  | w, [], r, hw, hr => by
    rcases hr with rfl | ⟨z, rfl⟩
    · simp [spl_none hw]
    · simp [spl_hit z hw]
  | w, x :: xs, r, hw, hr => by
    have e : w ++ (x :: xs).flatMap (fun x => c :: f x) ++ r = w ++ c :: (f x ++ xs.flatMap (fun x => c :: f x) ++ r) := by simp
    rw [e, spl_hit _ hw, spl_words f hf (f x) xs r (hf x) hr]
    rfl
theorem splitB_spl (c : UInt8) : ∀ (n : Nat) (l : List UInt8), l.count c = n → (Lib.splitB (bs [c]) 0 n (bs l)).map (fun x => x.data.toList) = spl c l
  | 0, l, h => by
    rw [Lib.splitB_zero, spl_none (List.count_eq_zero.1 h)]
    simp [bs]
  | n + 1, l, h => by
    rcases parted c l with h1 | ⟨x, y, rfl, h1⟩
    · rw [List.count_eq_zero.2 h1] at h; cases h
    · have hi : Lib.indexB (bs (x ++ c :: y)) (bs [c]) = (x.length : Int) := by
        show Lib.index (bs (x ++ c :: y)).data.toList (bs [c]).data.toList = _
        rw [bs_dl, bs_dl]; exact ix_hit y h1
      unfold Lib.splitB
      rw [hi, if_neg (by simp), List.map_cons, bs_extract, bs_extract, spl_hit y h1]
      have hc : y.count c = n := by
        rw [List.count_append, List.count_eq_zero.2 h1, List.count_cons_self] at h; omega
      have e1 : ((x ++ c :: y).take ((x.length : Int).toNat + 0)).drop 0 = x := by simp
      have e2 : ((x ++ c :: y).take (bs (x ++ c :: y)).size).drop ((x.length : Int).toNat + (bs [c]).size) = y := by
        rw [bs_size, bs_size, List.take_length]; simp
      rw [e1, e2, splitB_spl c n y hc, bs_dl]
theorem Split_ok (k : Nat) (l : List UInt8) (h : l.length ≤ 1000000) : strings_Split.f k l [32] = some (spl 32 l) := by
  unfold strings_Split.f
  rw [if_pos ⟨by omega, by simp⟩]
  have hc : Lib.countB (bs l) (bs [32]) = l.count 32 := by
    show Lib.count (bs l).data.toList (bs [32]).data.toList = _
    rw [bs_dl, bs_dl]; exact Lib.count_one 32 l
  rw [hc, splitB_spl 32 _ l rfl]
theorem Cut_ok (k : Nat) (l : List UInt8) (h : l.length ≤ 4000000) : strings_Cut.f k l [10] = some (Lib.cut l [10]) := by
  unfold strings_Cut.f; rw [if_pos (by omega)]
end Go.Proofs.YtlaifpbickdpkaaDoor
