/- Plain laws of the printed functions of the reference's names: Is, Class. -/
import Derived.Test.YtllgcnckaodjkaaDoorQC
import Derived.Test.YtllgcnckaodjkaaDoorPure1
namespace Go.Proofs.YtllgcnckaodjkaaDoor.Q
open Go.RowKit Go.Proofs.YtllgcnckaodjkaaDoor.Plain Go.Proofs.YtllgcnckaodjkaaDoorW.PrintWords

theorem rsmall_f (c : UInt8) : monticuleref06_small.f (c.toNat : Int) = some (smallB c) := by
  unfold monticuleref06_small.f smallB
  by_cases h : 97 ≤ c.toNat
  · rw [if_pos (by omega)]
    simp only [h, decide_true, Bool.true_and]
    exact congrArg some (decide_eq_decide.2 (by omega))
  · rw [if_neg (by omega)]
    simp [h]
theorem rletter_f (c : UInt8) : monticuleref06_letter.f (c.toNat : Int) = some (letterB c) := by
  unfold monticuleref06_letter.f letterB
  rw [rsmall_f]
  cases h : smallB c
  · simp only [Option.bind_some, Bool.false_eq_true, if_false, Bool.false_or, largeB]
    by_cases h2 : 65 ≤ c.toNat
    · rw [if_pos (by omega)]
      simp only [h2, decide_true, Bool.true_and]
      exact congrArg some (decide_eq_decide.2 (by omega))
    · rw [if_neg (by omega)]
      simp [h2]
  · rfl
theorem ris_at (s : ByteArray) (hs : s.size ≤ 40) (h1 : 1 ≤ s.size) (h0 : letterB (s.data.toList.getD 0 0) = true) (d : Nat) : ∀ (k i : Nat), s.size - i = d → i ≤ s.size → d < k → (∀ j, j < i → okB j (s.data.toList.getD j 0) = true) →
    monticuleref06_Is.l0 k s (i : Int) = some (isName s.data.toList) := by
  induction d with
  | zero =>
    intro k i hd hi hk hn
    obtain ⟨k, rfl⟩ : ∃ m, k = m + 1 := ⟨k - 1, by omega⟩
    simp only [monticuleref06_Is.l0]
    rw [if_neg (by omega), isName_all _ (fun j hj => hn j (by rw [list_len] at hj; omega)), list_len]
    simp [hs, h1]
  | succ d ih =>
    intro k i hd hi hk hn
    obtain ⟨k, rfl⟩ : ∃ m, k = m + 1 := ⟨k - 1, by omega⟩
    simp only [monticuleref06_Is.l0]
    rw [if_pos (by omega), if_pos (by omega), bt_byte s i (by omega), rletter_f]
    have hok : okB i (s.data.toList.getD i 0) = (letterB (s.data.toList.getD i 0) || digitB (s.data.toList.getD i 0)) := by
      by_cases e : i = 0
      · subst e
        unfold okB
        rw [h0]
        simp
      · simp [okB, e]
    have go : okB i (s.data.toList.getD i 0) = true → monticuleref06_Is.l0 k s (wrap64 ((i : Int) + 1)) = some (isName s.data.toList) := fun hg => by
      rw [w64 i (by omega)]
      exact ih k (i + 1) (by omega) (by omega) (by omega) (fun j hj => by
        by_cases e : j = i
        · subst e; exact hg
        · exact hn j (by omega))
    have bad : okB i (s.data.toList.getD i 0) = false → some false = some (isName s.data.toList) := fun hb => by
      rw [isName_bad _ i (by rw [list_len]; omega) hb]
    generalize s.data.toList.getD i 0 = c at *
    cases hl : letterB c
    · simp only [Option.bind_some, Bool.false_eq_true, if_false]
      rw [hl, Bool.false_or] at hok
      by_cases a : (c.toNat : Int) < 48
      · rw [if_pos a]
        exact bad (by rw [hok, digitB]; simp; omega)
      · rw [if_neg a]
        by_cases b : (c.toNat : Int) > 57
        · rw [if_pos b]
          exact bad (by rw [hok, digitB]; simp; omega)
        · rw [if_neg b]
          exact go (by rw [hok, digitB]; simp; omega)
    · simp only [Option.bind_some, if_true]
      exact go (by rw [hok, hl]; rfl)
theorem isName_short (l : List UInt8) (h : ¬ 1 ≤ l.length) : isName l = false := by simp [isName, h]
theorem isName_long (l : List UInt8) (h : ¬ l.length ≤ 40) : isName l = false := by simp [isName, h]
theorem ris_ok (k : Nat) (s : ByteArray) (hk : 42 < k) : monticuleref06_Is.f k s = some (isName s.data.toList) := by
  obtain ⟨k, rfl⟩ : ∃ m, k = m + 1 := ⟨k - 1, by omega⟩
  unfold monticuleref06_Is.f
  by_cases h1 : (s.size : Int) < 1
  · rw [if_pos h1, isName_short _ (by rw [list_len]; omega)]
    simp [monticuleref06_Is.j0]
  · rw [if_neg h1]
    by_cases h2 : (s.size : Int) > 40
    · rw [if_pos h2, isName_long _ (by rw [list_len]; omega)]
      simp [monticuleref06_Is.j0]
    · rw [if_neg h2, if_pos (by omega), show (0 : Int) = ((0 : Nat) : Int) from rfl, bt_byte s 0 (by omega), rletter_f]
      simp only [Option.bind_some, monticuleref06_Is.j0]
      cases h0 : letterB (s.data.toList.getD 0 0)
      · rw [isName_bad _ 0 (by rw [list_len]; omega) (by unfold okB; rw [h0]; rfl)]
        rfl
      · simp only [Bool.not_true, Bool.false_eq_true, if_false]
        exact ris_at s (by omega) (by omega) h0 s.size k 0 (by omega) (by omega) (by omega) (fun j hj => by omega)
theorem isName_head (l : List UInt8) (h : isName l = true) : letterB (l.getD 0 0) = true := by
  unfold isName at h
  rw [Bool.and_eq_true, Bool.and_eq_true, List.all_eq_true] at h
  have h1 := of_decide_eq_true h.1.1
  have := h.2 0 (List.mem_range.2 (by omega))
  simpa [okB] using this
theorem head_large (l : List UInt8) (h : isName l = true) : largeB (headB l) = !smallB (headB l) := by
  have h2 := isName_head l h
  unfold headB
  generalize l.getD 0 0 = c at *
  unfold letterB at h2
  cases hs : smallB c
  · rw [hs, Bool.false_or] at h2
    rw [h2]
    rfl
  · unfold smallB at hs
    unfold largeB
    simp at hs ⊢
    omega
theorem rclass_ok (k : Nat) (s : ByteArray) (hk : 42 < k) : monticuleref06_Class.f k s = some (classN s) := by
  unfold monticuleref06_Class.f classN
  rw [ris_ok k s hk]
  cases h : isName s.data.toList
  · rfl
  · have hp := isName_pos s h
    simp only [Option.bind_some, if_true, Bool.true_and]
    rw [if_pos (by omega), show (0 : Int) = ((0 : Nat) : Int) from rfl, bt_byte s 0 hp, rsmall_f, head_large _ h]
    rfl
end Go.Proofs.YtllgcnckaodjkaaDoor.Q
