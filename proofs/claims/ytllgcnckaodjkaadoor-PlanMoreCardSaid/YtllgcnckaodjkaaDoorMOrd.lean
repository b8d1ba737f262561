/- plan.Order as the printer's texts call it. -/
import Derived.Test.YtllgcnckaodjkaaDoorMPlan4
namespace Go.Proofs.YtllgcnckaodjkaaDoor.Q
open Go.RowKit Go.Proofs.YtllgcnckaodjkaaDoor.Plain Go.Proofs.YtllgcnckaodjkaaDoorW.PrintWords

/-- the packages' places, sorted by name -/
def leP (ps : PackL) (i j : Nat) : Bool := !bl (nmP ps j) (nmP ps i)
def sortL (ps : PackL) : List Nat := (List.range ps.length).mergeSort (leP ps)
theorem leP_trans (ps : PackL) (a b c : Nat) (h1 : leP ps a b = true) (h2 : leP ps b c = true) : leP ps a c = true := by
  unfold leP at *
  rw [Bool.not_eq_true'] at *
  rcases bl_tri h1 with h | h
  · rcases bl_tri h2 with h' | h'
    · exact bl_asym (bl_trans h h')
    · rw [h']; exact h1
  · rw [← h]; exact h2
theorem leP_total (ps : PackL) (a b : Nat) : (leP ps a b || leP ps b a) = true := by
  unfold leP
  cases h : bl (nmP ps b) (nmP ps a)
  · rfl
  · rw [bl_asym h]; rfl
theorem sortL_sorted (ps : PackL) : (sortL ps).Pairwise (fun a b => leP ps a b = true) := List.pairwise_mergeSort (leP_trans ps) (leP_total ps) _
theorem sortL_perm (ps : PackL) : (sortL ps).Perm (List.range ps.length) := List.mergeSort_perm _ _
def distinctP (ps : PackL) : Prop := ∀ i j, i < ps.length → j < ps.length → nmP ps i = nmP ps j → i = j
theorem sorted_unique {ps : PackL} {l : List Nat} (hd : distinctP ps) (hp : l.Perm (List.range ps.length)) (hs : sortedP ps l) : l = sortL ps := by
  refine List.Perm.eq_of_pairwise (le := fun a b => leP ps a b = true) ?_ ?_ (sortL_sorted ps) (hp.trans (sortL_perm ps).symm)
  · intro a b ha hb h1 h2
    unfold leP at h1 h2
    rw [Bool.not_eq_true'] at h1 h2
    refine hd a b (List.mem_range.1 (hp.mem_iff.1 ha)) (List.mem_range.1 ((sortL_perm ps).mem_iff.1 hb)) ?_
    rcases bl_tri h1 with h | h
    · rw [h2] at h; cases h
    · exact h.symm
  · rw [List.pairwise_iff_getElem]
    intro i j hi hj hij
    have := hs i j hij hj
    rw [List.getD_eq_getElem?_getD, List.getD_eq_getElem?_getD, List.getElem?_eq_getElem hi, List.getElem?_eq_getElem hj] at this
    unfold leP
    rw [Bool.not_eq_true']
    exact this

/-- what plan.Order returns where plan.first has found nothing -/
def planned (ps : PackL) : List Int × Int × ByteArray :=
  match orderGo ps ps.length (sortL ps) [] with
  | .inl out => (ints out, 0, ⟨#[]⟩)
  | .inr nm => ([], 71, nm)
def namesP (ps : PackL) : List ByteArray := ps.map fun p => p.f0
theorem distinct_of_nodup {ps : PackL} (h : (namesP ps).Nodup) : distinctP ps := by
  intro i j hi hj e
  have hg : ∀ k (hk : k < ps.length), nmP ps k = ps[k].f0 := by
    intro k hk
    simp [nmP, rd_T34, List.getD_eq_getElem?_getD, hk]
  rw [hg i hi, hg j hj] at e
  have hi' : i < (namesP ps).length := by simpa [namesP] using hi
  have hj' : j < (namesP ps).length := by simpa [namesP] using hj
  refine (List.getElem_inj (h₀ := hi') (h₁ := hj') h).1 ?_
  simpa [namesP] using e
def ordOf (ps : PackL) (c : Int) (nm : ByteArray) : Option (List Int × Int × ByteArray) :=
  if c = 0 then (if nm = ⟨#[]⟩ ∧ (namesP ps).Nodup then some (planned ps) else none) else some ([], c, nm)
def plan_Order.f (k : Nat) (l0 : List ByteArray) (l1 : PackL) : Option (List Int × Int × ByteArray) :=
  if l1.length ≤ 12 then (plan_first.f k l0 l1).bind fun cn => ordOf l1 cn.1 cn.2 else none
theorem plan_Order.mono : ∀ a0 a1 k, LeO (plan_Order.f k a0 a1) (plan_Order.f (k + 1) a0 a1) := by
  intro a0 a1 k r h
  unfold plan_Order.f at *
  split at h
  · rename_i hl
    rw [if_pos hl]
    cases hf : plan_first.f k a0 a1 with
    | none => rw [hf] at h; cases h
    | some cn =>
      rw [hf] at h
      rw [plan_first.mono a0 a1 k cn hf]
      exact h
  · cases h
theorem plan_Order.calls (k : Nat) (A0 : Option Addr) (c0 : Nat) (l0 : List ByteArray) (A1 : Option Addr) (c1 : Nat) (l1 : PackL) (r1 : List Int) (r2 : Int) (r3 : ByteArray) (w : World) (hr0 : Kd.C Kd.string w A0 l0.length l0) (hc0 : l0.length ≤ c0) (hr1 : Kd.C k34 w A1 l1.length l1) (hc1 : l1.length ≤ c1) (h : plan_Order.f k l0 l1 = some (r1, r2, r3)) :
    Calls Tryd.prog 10 #[.slice A0 l0.length c0, .slice A1 l1.length c1] w fun e w' => ∃ v0_ : Value, e = .returned (.tuple #[v0_, .int .i64 r2, .string r3]) ∧ Kd.R (Kd.int .i64) 3 w' w.heap.size (fun _ => True) v0_ r1 ∧ Below w.heap.size w w' := by
  unfold plan_Order.f at h
  split at h
  case isFalse => cases h
  rename_i hl
  cases hf : plan_first.f k l0 l1 with
  | none => rw [hf] at h; cases h
  | some cn =>
    obtain ⟨c, nm⟩ := cn
    rw [hf] at h
    replace h : ordOf l1 c nm = some (r1, r2, r3) := h
    unfold ordOf at h
    by_cases hc : c = 0
    · rw [if_pos hc] at h
      subst hc
      split at h
      case isFalse => cases h
      rename_i hd
      obtain ⟨rfl, hd⟩ := hd
      replace hd := distinct_of_nodup hd
      have h := Option.some.inj h
      rcases Nat.eq_zero_or_pos l1.length with h0 | hpos
      · obtain rfl := List.length_eq_zero_iff.1 h0
        have hp : planned [] = ([], 0, ⟨#[]⟩) := by
          have : sortL [] = [] := by simpa using (sortL_perm []).length_eq
          unfold planned
          rw [this]
          rfl
        rw [hp] at h
        cases h
        refine (order_nil w A0 A1 c0 c1 l0 k hr0 hc0 hf).mono ?_
        rintro e w' ⟨rfl, hb⟩
        exact ⟨_, rfl, Kd.R_nil _ _ _ _ _, hb⟩
      · refine (order_calls w A0 A1 c0 c1 l0 l1 k hr0 hc0 hr1 hc1 hf hl hpos).mono ?_
        rintro e w' ⟨l, hp, hs, ho⟩
        obtain rfl := sorted_unique hd hp hs
        unfold planned at h
        unfold OrderPost at ho
        split at ho
        · rename_i out he
          rw [he] at h
          cases h
          exact ho
        · rename_i nm he
          rw [he] at h
          cases h
          obtain ⟨rfl, hb⟩ := ho
          exact ⟨_, rfl, Kd.R_nil _ _ _ _ _, hb⟩
    · rw [if_neg hc] at h
      cases h
      refine (order_err w A0 A1 c0 c1 l0 l1 _ _ k hr0 hc0 hr1 hc1 hf hc).mono ?_
      rintro e w' ⟨rfl, hb⟩
      exact ⟨_, rfl, Kd.R_nil _ _ _ _ _, hb⟩
end Go.Proofs.YtllgcnckaodjkaaDoor.Q
