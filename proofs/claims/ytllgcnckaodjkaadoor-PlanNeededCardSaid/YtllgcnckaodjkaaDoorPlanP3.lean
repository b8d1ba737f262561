/- Plain law: who needs a package, and whether all needs are there: plan.Needed, plan.Closed and the reference agree (PlanNeeded). -/
import Derived.Test.YtllgcnckaodjkaaDoorPlanP2
import Derived.Test.YtllgcnckaodjkaaDoorMClosed
import Derived.Test.YtllgcnckaodjkaaDoorQ8
set_option linter.unusedVariables false
namespace Go.Proofs.YtllgcnckaodjkaaDoor.Q
open Go.RowKit Go.Proofs.YtllgcnckaodjkaaDoor.Plain Go.Proofs.YtllgcnckaodjkaaDoorW.PrintWords Go.Lib

def neededL (l : LoadL) (name : ByteArray) : List ByteArray := (l.filter fun x => memB x.f2 name).map fun x => x.f0
theorem rdL_at (l : LoadL) (i : Nat) (h : i < l.length) : rd_T42 l (i : Int) = l[i] := by simp [rd_T42, List.getD_eq_getElem?_getD, h]
theorem neededL_cons (x : S42) (l : LoadL) (name : ByteArray) : neededL (x :: l) name = if memB x.f2 name = true then x.f0 :: neededL l name else neededL l name := by
  unfold neededL
  rw [List.filter_cons]
  split <;> rfl
def FewL (l : LoadL) : Prop := l.length ≤ 12 ∧ ∀ x ∈ l, x.f2.length ≤ 20
theorem needed_at (l : LoadL) (h : FewL l) (name : ByteArray) (d : Nat) : ∀ (k i : Nat) (acc : List ByteArray), l.length - i = d → i ≤ l.length → d + 30 < k → acc.length ≤ i →
    plan_Needed.l0 k name acc l (l.length : Int) (i : Int) = some (acc ++ neededL (l.drop i) name) := by
  have h12 := h.1
  induction d with
  | zero =>
    intro k i acc hd hi hk ha
    obtain ⟨k, rfl⟩ : ∃ m, k = m + 1 := ⟨k - 1, by omega⟩
    simp only [plan_Needed.l0]
    rw [if_neg (by omega), List.drop_eq_nil_of_le (by omega)]
    simp [neededL]
  | succ d ih =>
    intro k i acc hd hi hk ha
    obtain ⟨k, rfl⟩ : ∃ m, k = m + 1 := ⟨k - 1, by omega⟩
    have hlt : i < l.length := by omega
    have h20 := h.2 _ (List.getElem_mem hlt)
    simp only [plan_Needed.l0]
    rw [if_pos (by omega), if_pos (by omega), if_pos (by omega), rdL_at l i hlt, contains_ok _ _ _ (by omega) (by omega), Option.bind_some, List.drop_eq_getElem_cons hlt, neededL_cons, w64 i (by omega)]
    cases memB l[i].f2 name
    · rw [if_neg (by simp), if_neg (by simp)]
      exact ih k (i + 1) acc (by omega) (by omega) (by omega) (by omega)
    · rw [if_pos rfl, if_pos rfl, if_pos (by omega), ih k (i + 1) _ (by omega) (by omega) (by omega) (by rw [List.length_append, List.length_singleton]; omega)]
      simp
theorem rneeded_at (l : LoadL) (h : FewL l) (name : ByteArray) (d : Nat) : ∀ (k i : Nat) (acc : List ByteArray), l.length - i = d → i ≤ l.length → d + 30 < k → acc.length ≤ i →
    monticuleref28_Needed.l0 k l name acc (i : Int) = some (acc ++ neededL (l.drop i) name) := by
  have h12 := h.1
  induction d with
  | zero =>
    intro k i acc hd hi hk ha
    obtain ⟨k, rfl⟩ : ∃ m, k = m + 1 := ⟨k - 1, by omega⟩
    simp only [monticuleref28_Needed.l0]
    rw [if_neg (by omega), List.drop_eq_nil_of_le (by omega)]
    simp [neededL]
  | succ d ih =>
    intro k i acc hd hi hk ha
    obtain ⟨k, rfl⟩ : ∃ m, k = m + 1 := ⟨k - 1, by omega⟩
    have hlt : i < l.length := by omega
    have h20 := h.2 _ (List.getElem_mem hlt)
    simp only [monticuleref28_Needed.l0]
    rw [if_pos (by omega), if_pos (by omega), rdL_at l i hlt, rin_ok _ _ _ (by omega) (by omega), Option.bind_some, List.drop_eq_getElem_cons hlt, neededL_cons, w64 i (by omega)]
    cases memB l[i].f2 name
    · rw [if_neg (by simp), if_neg (by simp)]
      exact ih k (i + 1) acc (by omega) (by omega) (by omega) (by omega)
    · rw [if_pos rfl, if_pos rfl, if_pos (by omega), ih k (i + 1) _ (by omega) (by omega) (by omega) (by rw [List.length_append, List.length_singleton]; omega)]
      simp
theorem neededL_len (l : LoadL) (name : ByteArray) : (neededL l name).length ≤ l.length := by
  unfold neededL
  rw [List.length_map]
  exact List.length_filter_le _ _
theorem same_at (l : List ByteArray) (hl : l.length ≤ 1000) (d : Nat) : ∀ (k i : Nat), l.length - i = d → i ≤ l.length → d < k → monticuleref01_Same.l0 k l l (i : Int) = some true := by
  induction d with
  | zero =>
    intro k i hd hi hk
    obtain ⟨k, rfl⟩ : ∃ m, k = m + 1 := ⟨k - 1, by omega⟩
    simp only [monticuleref01_Same.l0]
    rw [if_neg (by omega)]
  | succ d ih =>
    intro k i hd hi hk
    obtain ⟨k, rfl⟩ : ∃ m, k = m + 1 := ⟨k - 1, by omega⟩
    simp only [monticuleref01_Same.l0]
    rw [if_pos (by omega), if_pos (by omega), if_pos (by omega), if_pos trivial, w64 i (by omega)]
    exact ih k (i + 1) (by omega) (by omega) (by omega)
theorem same_ok (k : Nat) (l : List ByteArray) (hl : l.length ≤ 1000) (hk : l.length < k) : monticuleref01_Same.f k l l = some true := by
  unfold monticuleref01_Same.f
  rw [if_pos rfl]
  exact same_at l hl l.length k 0 (by omega) (by omega) hk

/-! ### the reference's Closed -/
def namesL (l : LoadL) : List ByteArray := l.map fun x => x.f0
theorem closed_l2 (l : LoadL) (h : FewL l) (names : List ByteArray) (hn : names.length ≤ 12) (i : Nat) (hi : i < l.length) (d : Nat) : ∀ (k j : Nat), l[i].f2.length - j = d → j ≤ l[i].f2.length →
    monticuleref28_Closed.l2 (k + 20 + d + 1) l names (i : Int) (j : Int) = if (l[i].f2.drop j).all (memB names) = true then monticuleref28_Closed.l1 (k + 20) l names ((i + 1 : Nat) : Int) else some false := by
  have h12 := h.1
  have h20 := h.2 _ (List.getElem_mem hi)
  induction d with
  | zero =>
    intro k j hd hj
    obtain ⟨K, hK⟩ : ∃ K, k + 20 = K := ⟨_, rfl⟩
    rw [show k + 20 + 0 + 1 = K + 1 from by omega, hK]
    simp only [monticuleref28_Closed.l2]
    rw [if_pos (by omega), if_pos (by omega), rdL_at l i hi, if_neg (by omega), List.drop_eq_nil_of_le (by omega), w64 i (by omega)]
    rfl
  | succ d ih =>
    intro k j hd hj
    have hlt : j < l[i].f2.length := by omega
    have ih' := ih k (j + 1) (by omega) (by omega)
    obtain ⟨K, hK⟩ : ∃ K, k + 20 + d + 1 = K := ⟨_, rfl⟩
    rw [hK] at ih'
    rw [show k + 20 + (d + 1) + 1 = K + 1 from by omega]
    simp only [monticuleref28_Closed.l2]
    rw [if_pos (by omega), if_pos (by omega), rdL_at l i hi, if_pos (by omega), if_pos (by omega), rdOf_nat, rin_ok _ _ _ (by omega) (by omega), Option.bind_some, w64 j (by omega), ih', List.drop_eq_getElem_cons hlt, List.all_cons]
    have hx : l[i].f2.getD j ByteArray.empty = l[i].f2[j] := by simp [List.getD_eq_getElem?_getD, hlt]
    rw [hx]
    cases memB names l[i].f2[j]
    · rfl
    · rw [if_pos rfl, Bool.true_and]
theorem closed_l1 (l : LoadL) (h : FewL l) (names : List ByteArray) (hn : names.length ≤ 12) (d : Nat) : ∀ (k i : Nat), l.length - i = d → i ≤ l.length → d * 22 + 50 < k →
    monticuleref28_Closed.l1 k l names (i : Int) = some ((l.drop i).all fun x => x.f2.all (memB names)) := by
  have h12 := h.1
  induction d with
  | zero =>
    intro k i hd hi hk
    obtain ⟨k, rfl⟩ : ∃ m, k = m + 1 := ⟨k - 1, by omega⟩
    simp only [monticuleref28_Closed.l1]
    rw [if_neg (by omega), List.drop_eq_nil_of_le (by omega)]
    rfl
  | succ d ih =>
    intro k i hd hi hk
    have hlt : i < l.length := by omega
    have h20 := h.2 _ (List.getElem_mem hlt)
    obtain ⟨k, rfl⟩ : ∃ m, k = m + 20 + l[i].f2.length + 1 + 1 := ⟨k - 22 - l[i].f2.length, by omega⟩
    have h2 := closed_l2 l h names hn i hlt l[i].f2.length k 0 (by omega) (by omega)
    have ih' := ih (k + 20) (i + 1) (by omega) (by omega) (by omega)
    rw [ih'] at h2
    obtain ⟨K, hK⟩ : ∃ K, k + 20 + l[i].f2.length + 1 = K := ⟨_, rfl⟩
    rw [hK] at h2 ⊢
    simp only [monticuleref28_Closed.l1]
    rw [if_pos (by omega)]
    refine Eq.trans h2 ?_
    rw [List.drop_zero, List.drop_eq_getElem_cons hlt, List.all_cons]
    cases l[i].f2.all (memB names)
    · rfl
    · rw [if_pos rfl, Bool.true_and]
theorem closed_l0 (l : LoadL) (h : FewL l) (d : Nat) : ∀ (k i : Nat) (names : List ByteArray), l.length - i = d → i ≤ l.length → names = (namesL l).take i → d + l.length * 22 + 60 < k →
    monticuleref28_Closed.l0 k l names (i : Int) = some (l.all fun x => x.f2.all (memB (namesL l))) := by
  have h12 := h.1
  have hnl : (namesL l).length = l.length := by simp [namesL]
  induction d with
  | zero =>
    intro k i names hd hi hn hk
    obtain ⟨k, rfl⟩ : ∃ m, k = m + 1 := ⟨k - 1, by omega⟩
    obtain rfl : i = l.length := by omega
    rw [show l.length = (namesL l).length from hnl.symm, List.take_length] at hn
    subst hn
    simp only [monticuleref28_Closed.l0]
    rw [if_neg (by omega)]
    exact closed_l1 l h (namesL l) (by omega) l.length k 0 (by omega) (by omega) (by omega)
  | succ d ih =>
    intro k i names hd hi hn hk
    obtain ⟨k, rfl⟩ : ∃ m, k = m + 1 := ⟨k - 1, by omega⟩
    have hlt : i < l.length := by omega
    have hlen : names.length ≤ 12 := by rw [hn, List.length_take]; omega
    simp only [monticuleref28_Closed.l0]
    rw [if_pos (by omega), if_pos (by omega), if_pos (by omega), rdL_at l i hlt, w64 i (by omega)]
    refine ih k (i + 1) _ (by omega) (by omega) ?_ (by omega)
    rw [hn, List.take_add_one]
    simp [namesL, hlt]
theorem closed_same (l : LoadL) : closedP l = l.all fun x => x.f2.all (memB (namesL l)) := by
  have hh : ∀ n, hasN l n = memB (namesL l) n := by
    intro n
    rw [Bool.eq_iff_iff, memB_iff]
    unfold hasN namesL
    rw [List.any_eq_true, List.mem_map]
    simp only [decide_eq_true_eq]
  unfold closedP lackN
  rw [Bool.eq_iff_iff]
  simp only [hh]
  simp

theorem law_l0 (l : LoadL) (name : ByteArray) (hl : l.length ≤ 12) (L : Nat) (hL : L = 2000) (d : Nat) : ∀ (k i : Nat), l.length - i = d → i ≤ l.length → d + L < k → (∀ j, (hj : j < l.length) → j < i → l[j].f2.length ≤ 20) →
    monticulelaw28_PlanNeeded.l0 k l name (i : Int) = some true := by
  induction d with
  | zero =>
    intro k i hd hi hk h0
    obtain ⟨k, rfl⟩ : ∃ m, k = m + 1 := ⟨k - 1, by omega⟩
    have hf : FewL l := ⟨hl, fun x hx => by obtain ⟨j, hj, rfl⟩ := List.mem_iff_getElem.1 hx; exact h0 j hj (by omega)⟩
    have hnl := neededL_len l name
    have e1 : plan_Needed.f k l name = some (neededL l name) := by
      have := needed_at l hf name l.length k 0 [] (by omega) (by omega) (by omega) (by simp)
      simpa [plan_Needed.f] using this
    have e2 : monticuleref28_Needed.f k l name = some (neededL l name) := by
      have := rneeded_at l hf name l.length k 0 [] (by omega) (by omega) (by omega) (by simp)
      simpa [monticuleref28_Needed.f] using this
    have e3 : monticuleref28_Closed.f k l = some (closedP l) := by
      rw [closed_same]
      exact closed_l0 l hf l.length k 0 [] (by omega) (by omega) rfl (by omega)
    simp only [monticulelaw28_PlanNeeded.l0]
    rw [if_neg (by omega), e1, e2, e3, Option.bind_some, Option.bind_some, same_ok k _ (by omega) (by omega)]
    simp [plan_Closed.f]
  | succ d ih =>
    intro k i hd hi hk h0
    obtain ⟨k, rfl⟩ : ∃ m, k = m + 1 := ⟨k - 1, by omega⟩
    have hlt : i < l.length := by omega
    simp only [monticulelaw28_PlanNeeded.l0]
    obtain ⟨b, hb, hq⟩ := lfew_ok l[i].f2 k (by omega)
    rw [if_pos (by omega), if_pos (by omega), rdL_at l i hlt, hb, Option.bind_some]
    cases b
    · rfl
    · rw [if_pos rfl, w64 i (by omega)]
      refine ih k (i + 1) (by omega) (by omega) (by omega) (fun j hj hji => ?_)
      by_cases e : j = i
      · subst e; exact hq rfl
      · exact h0 j hj (by omega)
theorem needed_law (l : LoadL) (name : ByteArray) (k : Nat) (hk : 3000 < k) : monticulelaw28_PlanNeeded.f k l name = some true := by
  have hno : ∀ x, x = true ∨ l.length ≤ 12 → monticulelaw28_PlanNeeded.j0 k l name x = some true := by
    intro x hx
    obtain ⟨k, rfl⟩ : ∃ m, k = m + 1 := ⟨k - 1, by omega⟩
    simp only [monticulelaw28_PlanNeeded.j0]
    cases x
    · rw [if_neg (by simp)]
      exact law_l0 l name (hx.resolve_left (by simp)) 2000 rfl l.length k 0 (by omega) (by omega) (by have := hx.resolve_left (by simp); omega) (fun j hj h => absurd h (Nat.not_lt_zero _))
    · rw [if_pos rfl, awake_ok k (by omega)]
      rfl
  unfold monticulelaw28_PlanNeeded.f
  rw [awake_ok k (by omega), Option.bind_some, if_pos rfl]
  by_cases h : (l.length : Int) > 12
  · rw [if_pos h]; exact hno _ (.inl rfl)
  · rw [if_neg h]; exact hno _ (.inr (by omega))
end Go.Proofs.YtllgcnckaodjkaaDoor.Q
