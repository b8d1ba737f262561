/- Plain law: which packages are few; which are right; what plan.first and plan.Order answer to few packages. -/
import Derived.Test.YtllgcnckaodjkaaDoorPurePI
import Derived.Test.YtllgcnckaodjkaaDoorMOrd
set_option linter.unusedVariables false
namespace Go.Proofs.YtllgcnckaodjkaaDoor.Q
open Go.RowKit Go.Proofs.YtllgcnckaodjkaaDoor.Plain Go.Proofs.YtllgcnckaodjkaaDoorW.PrintWords Go.Lib

theorem mono_le {α : Type} {F : Nat → Option α} (h : ∀ k, LeO (F k) (F (k + 1))) {k k' : Nat} (hk : k ≤ k') {r : α} (hr : F k = some r) : F k' = some r := by
  induction hk with
  | refl => exact hr
  | step _ ih => exact h _ r ih
/-- a loop over a list that stops at the first that is not so -/
theorem loop_all {α : Type} (l : List α) (z : α) (F : Nat → Int → Option Bool) (g : Nat → α → Option Bool) (Q : α → Prop) (K : Nat)
    (hF : ∀ k i, F (k + 1) i = if i < (l.length : Int) then (if 0 ≤ i then (g k (l.getD i.toNat z)).bind fun t => (if t = true then F k (wrap64 (i + 1)) else some false) else none) else some true)
    (hg : ∀ k x, K ≤ k → ∃ b, g k x = some b ∧ (b = true → Q x)) (hl : l.length ≤ 9223372036854775806) (d : Nat) : ∀ (k i : Nat), l.length - i = d → i ≤ l.length → d + K < k →
    ∃ b, F k (i : Int) = some b ∧ (b = true → ∀ x ∈ l.drop i, Q x) := by
  induction d with
  | zero =>
    intro k i hd hi hk
    obtain ⟨k, rfl⟩ : ∃ m, k = m + 1 := ⟨k - 1, by omega⟩
    refine ⟨true, ?_, fun _ => by rw [List.drop_eq_nil_of_le (by omega)]; simp⟩
    rw [hF, if_neg (by omega)]
  | succ d ih =>
    intro k i hd hi hk
    obtain ⟨k, rfl⟩ : ∃ m, k = m + 1 := ⟨k - 1, by omega⟩
    have hlt : i < l.length := by omega
    rw [hF, if_pos (by omega), if_pos (by omega)]
    obtain ⟨b, hb, hq⟩ := hg k (l.getD i z) (by omega)
    rw [Int.toNat_natCast, hb]
    cases b
    · exact ⟨false, rfl, fun h => by cases h⟩
    · obtain ⟨b', hb', hq'⟩ := ih k (i + 1) (by omega) (by omega) (by omega)
      refine ⟨b', ?_, fun h x hx => ?_⟩
      · simp only [Option.bind_some, if_true]
        rw [w64 i (by omega)]
        exact hb'
      · rw [List.drop_eq_getElem_cons hlt] at hx
        rcases List.mem_cons.1 hx with rfl | hx
        · have := hq rfl
          rwa [List.getD_eq_getElem?_getD, List.getElem?_eq_getElem hlt] at this
        · exact hq' h x hx

def fewN (l : List ByteArray) : Prop := l.length ≤ 20
theorem lfew_ok (l : List ByteArray) (k : Nat) (hk : 40 < k) : ∃ b, monticulelaw28_few.f k l = some b ∧ (b = true → fewN l) := by
  unfold monticulelaw28_few.f
  by_cases h : (l.length : Int) > 20
  · exact ⟨false, by rw [if_pos h], fun h => by cases h⟩
  · rw [if_neg h]
    obtain ⟨b, hb, _⟩ := loop_all l ByteArray.empty (fun k i => monticulelaw28_few.l0 k l i) (fun _ x => some (!decide ((x.size : Int) > 60))) (fun _ => True) 0 (fun k i => by
        simp only [monticulelaw28_few.l0]
        show _ = ite _ (ite _ (Option.bind (some (!decide (((rdOf ByteArray.empty l i).size : Int) > 60))) _) _) _
        by_cases h : ((rdOf ByteArray.empty l i).size : Int) > 60
        · simp [h]
        · simp [h]) (fun k x _ => ⟨_, rfl, fun _ => trivial⟩) (by omega) l.length k 0 (by omega) (by omega) (by omega)
    exact ⟨b, hb, fun _ => by unfold fewN; omega⟩
def GoodD (d : S68) : Prop := d.f1.size ≤ 100 ∧ d.f4.size ≤ 600
theorem small07_ok (d : S68) (k : Nat) (hk : 40 < k) : ∃ b, monticuleref07_Small.f k d.f0 d.f1 d.f2 d.f3 d.f4 d.f5 = some b ∧ (b = true → GoodD d) := by
  have hj : ∀ x, d.f1.size ≤ 100 → d.f4.size ≤ 600 → d.f3.length ≤ 30 → ∃ b, monticuleref07_Small.j0 k x d.f0 d.f1 d.f2 d.f3 d.f4 d.f5 = some b ∧ (b = true → GoodD d) := by
    intro x h1 h4 h3
    obtain ⟨k, rfl⟩ : ∃ m, k = m + 1 := ⟨k - 1, by omega⟩
    cases x
    · obtain ⟨b, hb, _⟩ := loop_all d.f3 ByteArray.empty (fun k i => monticuleref07_Small.l0 k i d.f0 d.f1 d.f2 d.f3 d.f4 d.f5) (fun _ x => some (!decide ((x.size : Int) > 100))) (fun _ => True) 0 (fun k i => by
        simp only [monticuleref07_Small.l0]
        show _ = ite _ (ite _ (Option.bind (some (!decide (((rdOf ByteArray.empty d.f3 i).size : Int) > 100))) _) _) _
        by_cases h : ((rdOf ByteArray.empty d.f3 i).size : Int) > 100
        · simp [h]
        · simp [h]) (fun k x _ => ⟨_, rfl, fun _ => trivial⟩) (by omega) d.f3.length k 0 (by omega) (by omega) (by omega)
      refine ⟨b, ?_, fun _ => ⟨h1, h4⟩⟩
      simp only [monticuleref07_Small.j0]
      rw [if_neg (by simp)]
      exact hb
    · exact ⟨false, by simp [monticuleref07_Small.j0], fun h => by cases h⟩
  have hno : ∃ b, monticuleref07_Small.j0 k true d.f0 d.f1 d.f2 d.f3 d.f4 d.f5 = some b ∧ (b = true → GoodD d) := by
    obtain ⟨k, rfl⟩ : ∃ m, k = m + 1 := ⟨k - 1, by omega⟩
    exact ⟨false, by simp [monticuleref07_Small.j0], fun h => by cases h⟩
  unfold monticuleref07_Small.f
  by_cases h1 : (d.f1.size : Int) > 100
  · rw [if_pos h1]; exact hno
  rw [if_neg h1]
  by_cases h2 : (d.f2.size : Int) > 100
  · rw [if_pos h2]; exact hno
  rw [if_neg h2]
  by_cases h3 : (d.f3.length : Int) > 30
  · rw [if_pos h3]; exact hno
  rw [if_neg h3]
  by_cases h4 : (d.f4.size : Int) > 600
  · rw [if_pos h4]; exact hno
  rw [if_neg h4]
  exact hj _ (by omega) (by omega) (by omega)
def GoodDs (l : List S68) : Prop := l.length ≤ 12 ∧ ∀ d ∈ l, GoodD d
theorem few07_ok (l : List S68) (k : Nat) (hk : 60 < k) : ∃ b, monticuleref07_Few.f k l 12 = some b ∧ (b = true → GoodDs l) := by
  unfold monticuleref07_Few.f
  by_cases h : (l.length : Int) > 12
  · exact ⟨false, by rw [if_pos h], fun h => by cases h⟩
  · rw [if_neg h]
    obtain ⟨b, hb, hq⟩ := loop_all l z68 (fun k i => monticuleref07_Few.l0 k l i) (fun k x => monticuleref07_Small.f k x.f0 x.f1 x.f2 x.f3 x.f4 x.f5) GoodD 41 (fun k i => by simp only [monticuleref07_Few.l0]; rfl) (fun k x h => small07_ok x k (by omega)) (by omega) l.length k 0 (by omega) (by omega) (by omega)
    exact ⟨b, hb, fun hb => ⟨by omega, hq hb⟩⟩
structure GoodP (p : S34) : Prop where
  name : p.f0.size ≤ 100
  needs : p.f2.length ≤ 30
  defs : GoodDs p.f3
theorem small11_ok (p : S34) (k : Nat) (hk : 70 < k) : ∃ b, monticuleref11_Small.f k p.f0 p.f1 p.f2 p.f3 = some b ∧ (b = true → GoodP p) := by
  have hno : ∃ b, monticuleref11_Small.j0 k true p.f0 p.f1 p.f2 p.f3 = some b ∧ (b = true → GoodP p) := by
    obtain ⟨k, rfl⟩ : ∃ m, k = m + 1 := ⟨k - 1, by omega⟩
    exact ⟨false, by simp [monticuleref11_Small.j0], fun h => by cases h⟩
  unfold monticuleref11_Small.f
  by_cases h0 : (p.f0.size : Int) > 100
  · rw [if_pos h0]; exact hno
  rw [if_neg h0]
  by_cases h2 : (p.f2.length : Int) > 30
  · rw [if_pos h2]; exact hno
  rw [if_neg h2]
  obtain ⟨b, hb, hq⟩ := few07_ok p.f3 k (by omega)
  rw [hb, Option.bind_some]
  cases b
  · exact hno
  · obtain ⟨k, rfl⟩ : ∃ m, k = m + 1 := ⟨k - 1, by omega⟩
    obtain ⟨b, hb, _⟩ := loop_all p.f2 ByteArray.empty (fun k i => monticuleref11_Small.l0 k i p.f0 p.f1 p.f2 p.f3) (fun _ x => some (!decide ((x.size : Int) > 100))) (fun _ => True) 0 (fun k i => by
        simp only [monticuleref11_Small.l0]
        show _ = ite _ (ite _ (Option.bind (some (!decide (((rdOf ByteArray.empty p.f2 i).size : Int) > 100))) _) _) _
        by_cases h : ((rdOf ByteArray.empty p.f2 i).size : Int) > 100
        · simp [h]
        · simp [h]) (fun k x _ => ⟨_, rfl, fun _ => trivial⟩) (by omega) p.f2.length k 0 (by omega) (by omega) (by omega)
    refine ⟨b, ?_, fun _ => ⟨by omega, by omega, hq rfl⟩⟩
    simp only [monticuleref11_Small.j0]
    rw [if_neg (by simp)]
    exact hb
def GoodPs (most : Nat) (ps : PackL) : Prop := ps.length ≤ most ∧ ∀ p ∈ ps, GoodP p
theorem few28_ok (ps : PackL) (most k : Nat) (hm : most ≤ 20) (hk : 100 < k) : ∃ b, monticuleref28_Few.f k ps (most : Int) = some b ∧ (b = true → GoodPs most ps) := by
  unfold monticuleref28_Few.f
  by_cases h : (ps.length : Int) > (most : Int)
  · exact ⟨false, by rw [if_pos h], fun h => by cases h⟩
  · rw [if_neg h]
    obtain ⟨b, hb, hq⟩ := loop_all ps z34 (fun k i => monticuleref28_Few.l0 k ps i) (fun k x => monticuleref11_Small.f k x.f0 x.f1 x.f2 x.f3) GoodP 71 (fun k i => by simp only [monticuleref28_Few.l0]; rfl) (fun k x h => small11_ok x k (by omega)) (by omega) ps.length k 0 (by omega) (by omega) (by omega)
    exact ⟨b, hb, fun hb => ⟨by omega, hq hb⟩⟩

/-! ### which are right -/
theorem needs_at (l : List ByteArray) (own : ByteArray) (hl : l.length ≤ 9223372036854775806) (d : Nat) : ∀ (k i : Nat), l.length - i = d → i ≤ l.length → d < k → ∃ b, pack_needs.l0 k l own l (l.length : Int) (i : Int) = some b := by
  induction d with
  | zero =>
    intro k i hd hi hk
    obtain ⟨k, rfl⟩ : ∃ m, k = m + 1 := ⟨k - 1, by omega⟩
    simp only [pack_needs.l0]
    rw [if_neg (by omega)]
    exact ⟨_, rfl⟩
  | succ d ih =>
    intro k i hd hi hk
    obtain ⟨k, rfl⟩ : ∃ m, k = m + 1 := ⟨k - 1, by omega⟩
    simp only [pack_needs.l0]
    obtain ⟨b', hb'⟩ := ih k (i + 1) (by omega) (by omega) (by omega)
    rw [← w64 i (by omega)] at hb'
    rw [if_pos (by omega), if_pos (by omega), if_pos (by omega), class_ok, Option.bind_some]
    split
    · split
      · exact ⟨_, rfl⟩
      · split
        · rename_i h0
          have hw : wrap64 ((i : Int) - 1) = (i : Int) - 1 := by unfold wrap64; omega
          rw [hw, if_pos (by omega), if_pos (by omega)]
          split
          · exact ⟨_, hb'⟩
          · exact ⟨_, rfl⟩
        · exact ⟨_, hb'⟩
    · exact ⟨_, rfl⟩
theorem right_at (k : Nat) (p : S34) (hp : GoodP p) (d : Nat) : ∀ (k i : Nat) (x : ByteArray), p.f3.length - i = d → i ≤ p.f3.length → d + 61 < k → ∃ b, pack_Right.l0 k x p.f3 (p.f3.length : Int) (i : Int) p.f0 p.f1 p.f2 p.f3 = some b := by
  have h12 := hp.defs.1
  have h30 := hp.needs
  induction d with
  | zero =>
    intro k i x hd hi hk
    obtain ⟨k, rfl⟩ : ∃ m, k = m + 1 := ⟨k - 1, by omega⟩
    simp only [pack_Right.l0]
    obtain ⟨b, hb⟩ := needs_at p.f2 p.f0 (by omega) p.f2.length k 0 (by omega) (by omega) (by omega)
    have hb' : pack_needs.f k p.f2 p.f0 = some b := hb
    rw [if_neg (by omega), class_ok, Option.bind_some, hb']
    repeat' (split; skip)
    all_goals first | exact ⟨_, rfl⟩ | (cases b <;> exact ⟨_, rfl⟩)
  | succ d ih =>
    intro k i x hd hi hk
    obtain ⟨k, rfl⟩ : ∃ m, k = m + 1 := ⟨k - 1, by omega⟩
    simp only [pack_Right.l0]
    have hlt : i < p.f3.length := by omega
    have hmem : rd_T68 p.f3 (i : Int) ∈ p.f3 := by
      have : rd_T68 p.f3 (i : Int) = p.f3[i] := by simp [rd_T68, List.getD_eq_getElem?_getD, hlt]
      rw [this]; exact List.getElem_mem hlt
    have hg := hp.defs.2 _ hmem
    generalize rd_T68 p.f3 (i : Int) = D at *
    have hkey := key_ok k ⟨D.f0, D.f1, D.f2, D.f3, D.f4, D.f5⟩ (by have := hg.2; show D.f4.size < _; omega) (by have := hg.1; show D.f1.size ≤ _; omega) (by omega)
    rw [if_pos (by omega), if_pos (by omega), if_pos (by omega), hkey, Option.bind_some]
    split
    · rw [w64 i (by omega)]
      exact ih k (i + 1) _ (by omega) (by omega) (by omega)
    · exact ⟨_, rfl⟩
def rightP (p : S34) : Bool := (pack_Right.f 200 p.f0 p.f1 p.f2 p.f3).getD false
theorem rightP_ok (p : S34) (hp : GoodP p) (k : Nat) (hk : 200 ≤ k) : pack_Right.f k p.f0 p.f1 p.f2 p.f3 = some (rightP p) := by
  have h12 := hp.defs.1
  obtain ⟨b, hb⟩ := right_at 200 p hp p.f3.length 200 0 (⟨#[]⟩ : ByteArray) (by omega) (by omega) (by omega)
  have hb' : pack_Right.f 200 p.f0 p.f1 p.f2 p.f3 = some b := hb
  have hr : rightP p = b := by unfold rightP; rw [hb']; rfl
  rw [hr]
  exact mono_le (F := fun k => pack_Right.f k p.f0 p.f1 p.f2 p.f3) (fun k => pack_Right.mono _ _ _ _ k) hk hb'
end Go.Proofs.YtllgcnckaodjkaaDoor.Q
