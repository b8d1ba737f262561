/- Plain law: what the planning loop answers: each package once, none before one that it needs; or one that waits. -/
import Derived.Test.YtllgcnckaodjkaaDoorPlanP2
set_option linter.unusedVariables false
namespace Go.Proofs.YtllgcnckaodjkaaDoor.Q
open Go.RowKit Go.Proofs.YtllgcnckaodjkaaDoor.Plain Go.Proofs.YtllgcnckaodjkaaDoorW.PrintWords Go.Lib

theorem waitB_iff (ps : PackL) (nd : List ByteArray) (l : List Nat) : waitB ps nd l = true ↔ ∃ j ∈ l, nmP ps j ∈ nd := by
  unfold waitB
  rw [List.any_eq_true]
  exact ⟨fun ⟨j, h1, h2⟩ => ⟨j, h1, (memB_iff _ _).1 h2⟩, fun ⟨j, h1, h2⟩ => ⟨j, h1, (memB_iff _ _).2 h2⟩⟩
theorem waitB_not {ps : PackL} {nd : List ByteArray} {l : List Nat} (h : waitB ps nd l = false) : ∀ j ∈ l, ¬ nmP ps j ∈ nd := by
  intro j hj hn
  rw [(waitB_iff ps nd l).2 ⟨j, hj, hn⟩] at h
  cases h
theorem free_some {ps : PackL} {l : List Nat} {k : Nat} (h : firstFree ps l = some k) : ∃ hk : k < l.length, waitB ps (ndP ps l[k]) l = false ∧ ∀ j, (hj : j < k) → waitB ps (ndP ps (l[j]'(by omega))) l = true := by
  unfold firstFree at h
  rw [List.findIdx?_eq_some_iff_getElem] at h
  obtain ⟨hk, h1, h2⟩ := h
  refine ⟨hk, by simpa using h1, fun j hj => by simpa using h2 j hj⟩
theorem free_none {ps : PackL} {l : List Nat} (h : firstFree ps l = none) : ∀ i ∈ l, waitB ps (ndP ps i) l = true := by
  unfold firstFree at h
  rw [List.findIdx?_eq_none_iff] at h
  intro i hi
  simpa using h i hi
theorem getD_get {α : Type} (l : List α) (z : α) (i : Nat) (h : i < l.length) : l.getD i z = l[i] := by simp [List.getD_eq_getElem?_getD, h]
theorem erase_perm {α : Type} : ∀ (l : List α) (k : Nat) (hk : k < l.length), (l[k] :: l.eraseIdx k).Perm l
  | x :: l, 0, _ => List.Perm.refl _
  | x :: l, k + 1, hk => (List.Perm.swap x _ _).trans (List.Perm.cons x (erase_perm l k (Nat.lt_of_succ_lt_succ hk)))
  | [], _, hk => absurd hk (Nat.not_lt_zero _)
theorem erase_map {α β : Type} (f : α → β) : ∀ (l : List α) (k : Nat), (l.map f).eraseIdx k = (l.eraseIdx k).map f
  | [], _ => rfl
  | x :: l, 0 => rfl
  | x :: l, k + 1 => congrArg (f x :: ·) (erase_map f l k)
/-- none before one that it needs -/
def FreeOrd (ps : PackL) (t : List Nat) : Prop := ∀ a x b, t = a ++ x :: b → ∀ y ∈ x :: b, ¬ nmP ps y ∈ ndP ps x
theorem go_inl (ps : PackL) : ∀ (f : Nat) (l out res : List Nat), l.length = f → orderGo ps f l out = .inl res → ∃ t, res = out ++ t ∧ t.Perm l ∧ FreeOrd ps t
  | 0, l, out, res, hl, h => by
    obtain rfl := List.length_eq_zero_iff.1 hl
    rw [orderGo] at h
    cases h
    exact ⟨[], by simp, List.Perm.refl _, fun a x b e => by simp at e⟩
  | f + 1, l, out, res, hl, h => by
    rw [orderGo] at h
    cases hf : firstFree ps l with
    | none => rw [hf] at h; cases h
    | some k =>
      rw [hf] at h
      simp only at h
      obtain ⟨hk, hw, _⟩ := free_some hf
      rw [getD_get l 0 k hk] at h
      obtain ⟨t, e, hp, hfr⟩ := go_inl ps f (l.eraseIdx k) (out ++ [l[k]]) res (by rw [List.length_eraseIdx, if_pos hk]; omega) h
      have hp2 : (l[k] :: t).Perm l := (List.Perm.cons _ hp).trans (erase_perm l k hk)
      refine ⟨l[k] :: t, by rw [e]; simp, hp2, ?_⟩
      intro a x b ht y hy
      cases a with
      | nil =>
        simp only [List.nil_append, List.cons.injEq] at ht
        obtain ⟨rfl, rfl⟩ := ht
        exact waitB_not hw y (hp2.mem_iff.1 hy)
      | cons a0 a =>
        simp only [List.cons_append, List.cons.injEq] at ht
        exact hfr a x b ht.2 y hy
theorem go_inr (ps : PackL) : ∀ (f : Nat) (l out : List Nat) (nm : ByteArray), l.length = f → orderGo ps f l out = .inr nm → ∃ x ∈ l, nm = nmP ps x ∧ ndP ps x ≠ []
  | 0, l, out, nm, hl, h => by rw [orderGo] at h; cases h
  | f + 1, l, out, nm, hl, h => by
    rw [orderGo] at h
    cases hf : firstFree ps l with
    | none =>
      rw [hf] at h
      have h0 : 0 < l.length := by omega
      simp only [Sum.inr.injEq] at h
      rw [getD_get l 0 0 h0] at h
      obtain ⟨j, _, hj⟩ := (waitB_iff _ _ _).1 (free_none hf _ (List.getElem_mem h0))
      exact ⟨l[0], List.getElem_mem h0, h.symm, List.ne_nil_of_mem hj⟩
    | some k =>
      rw [hf] at h
      simp only at h
      obtain ⟨hk, _⟩ := free_some hf
      obtain ⟨x, hx, h1, h2⟩ := go_inr ps f (l.eraseIdx k) _ nm (by rw [List.length_eraseIdx, if_pos hk]; omega) h
      exact ⟨x, List.mem_of_mem_eraseIdx hx, h1, h2⟩
theorem sortL_len (ps : PackL) : (sortL ps).length = ps.length := by rw [(sortL_perm ps).length_eq, List.length_range]
theorem planned_cases (ps : PackL) : (∃ out, planned ps = (ints out, 0, ⟨#[]⟩) ∧ orderGo ps ps.length (sortL ps) [] = .inl out ∧ out.Perm (List.range ps.length) ∧ FreeOrd ps out) ∨ (∃ x, x < ps.length ∧ planned ps = ([], 71, nmP ps x) ∧ orderGo ps ps.length (sortL ps) [] = .inr (nmP ps x) ∧ ndP ps x ≠ []) := by
  unfold planned
  cases h : orderGo ps ps.length (sortL ps) [] with
  | inl out =>
    obtain ⟨t, e, hp, hf⟩ := go_inl ps _ _ _ _ (sortL_len ps) h
    simp only [List.nil_append] at e
    subst e
    exact .inl ⟨_, rfl, rfl, hp.trans (sortL_perm ps), hf⟩
  | inr nm =>
    obtain ⟨x, hx, rfl, hn⟩ := go_inr ps _ _ _ _ (sortL_len ps) h
    exact .inr ⟨x, List.mem_range.1 ((sortL_perm ps).mem_iff.1 hx), rfl, rfl, hn⟩
theorem order_cases (th : List ByteArray) (ps : PackL) :
    (AllRight th ps ∧ ∃ out, orderP th ps = (ints out, 0, ⟨#[]⟩) ∧ out.Perm (List.range ps.length) ∧ FreeOrd ps out) ∨
    (AllRight th ps ∧ ∃ x, x < ps.length ∧ orderP th ps = ([], 71, nmP ps x) ∧ ndP ps x ≠ []) ∨
    (¬ AllRight th ps ∧ ∃ c nm, orderP th ps = ([], c, nm) ∧ c ≠ 0 ∧ c ≠ 71) := by
  unfold orderP
  rcases first_code th ps with ⟨e, hr⟩ | ⟨hc, hr⟩
  · rw [e, if_pos rfl]
    rcases planned_cases ps with ⟨out, h1, _, h2, h3⟩ | ⟨x, hx, h1, _, h2⟩
    · exact .inl ⟨hr, out, h1, h2, h3⟩
    · exact .inr (.inl ⟨hr, x, hx, h1, h2⟩)
  · have h0 : (firstP th ps).1 ≠ 0 := by rcases hc with h | h | h <;> rw [h] <;> decide
    rw [if_neg h0]
    exact .inr (.inr ⟨hr, _, _, rfl, h0, by rcases hc with h | h | h <;> rw [h] <;> decide⟩)
end Go.Proofs.YtllgcnckaodjkaaDoor.Q
