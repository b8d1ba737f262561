/- Plain law: it does not matter in which order packages come (PlanTurned). -/
import Derived.Test.YtllgcnckaodjkaaDoorPlanG
import Derived.Test.YtllgcnckaodjkaaDoorQ7
set_option linter.unusedVariables false
namespace Go.Proofs.YtllgcnckaodjkaaDoor.Q
open Go.RowKit Go.Proofs.YtllgcnckaodjkaaDoor.Plain Go.Proofs.YtllgcnckaodjkaaDoorW.PrintWords Go.Lib

/-! ### the planning loop, over packages in place of their numbers -/
def waitK (nd : List ByteArray) (L : PackL) : Bool := L.any fun q => memB nd q.f0
def goK : Nat → PackL → PackL → PackL ⊕ ByteArray
  | 0, _, out => .inl out
  | f + 1, L, out => match L.findIdx? fun p => !waitK p.f2 L with
    | none => .inr (L.getD 0 z34).f0
    | some k => goK f (L.eraseIdx k) (out ++ [L.getD k z34])
def pk (ps : PackL) (i : Nat) : S34 := rd_T34 ps (i : Int)
theorem waitK_map (ps : PackL) (nd : List ByteArray) (l : List Nat) : waitK nd (l.map (pk ps)) = waitB ps nd l := by
  unfold waitK waitB
  rw [List.any_map]
  rfl
def mapR (ps : PackL) : List Nat ⊕ ByteArray → PackL ⊕ ByteArray
  | .inl o => .inl (o.map (pk ps))
  | .inr nm => .inr nm
theorem go_map (ps : PackL) : ∀ (f : Nat) (l out : List Nat), l.length = f → goK f (l.map (pk ps)) (out.map (pk ps)) = mapR ps (orderGo ps f l out)
  | 0, l, out, hl => rfl
  | f + 1, l, out, hl => by
    rw [goK, orderGo]
    have hfree : ((l.map (pk ps)).findIdx? fun p => !waitK p.f2 (l.map (pk ps))) = firstFree ps l := by
      rw [List.findIdx?_map]
      unfold firstFree
      congr 1
      funext i
      show (!waitK (pk ps i).f2 (l.map (pk ps))) = _
      rw [waitK_map]
      rfl
    rw [hfree]
    cases hf : firstFree ps l with
    | none =>
      have h0 : 0 < l.length := by omega
      simp only
      rw [getD_get _ _ 0 (by simpa using h0), getD_get _ _ 0 h0, List.getElem_map]
      rfl
    | some k =>
      obtain ⟨hk, _⟩ := free_some hf
      simp only
      rw [getD_get _ _ k (by simpa using hk), getD_get _ _ k hk, erase_map, List.getElem_map]
      have := go_map ps f (l.eraseIdx k) (out ++ [l[k]]) (by rw [List.length_eraseIdx, if_pos hk]; omega)
      rw [List.map_append] at this
      exact this
theorem range_pk (ps : PackL) : (List.range ps.length).map (pk ps) = ps := by
  refine List.ext_getElem (by simp) (fun i h1 h2 => ?_)
  rw [List.getElem_map, List.getElem_range]
  exact rdP_at ps i h2
theorem name_inj {ps : PackL} (hn : (namesP ps).Nodup) {a b : S34} (ha : a ∈ ps) (hb : b ∈ ps) (e : a.f0 = b.f0) : a = b := by
  obtain ⟨i, hi, rfl⟩ := List.mem_iff_getElem.1 ha
  obtain ⟨j, hj, rfl⟩ := List.mem_iff_getElem.1 hb
  have := distinct_of_nodup hn i j hi hj (by unfold nmP; rw [rdP_at ps i hi, rdP_at ps j hj]; exact e)
  subst this
  rfl
theorem sorted_same {ps qs : PackL} (hp : qs.Perm ps) (hn : (namesP ps).Nodup) : (sortL qs).map (pk qs) = (sortL ps).map (pk ps) := by
  have h1 : ((sortL ps).map (pk ps)).Perm ps := by
    have := (sortL_perm ps).map (pk ps)
    rwa [range_pk] at this
  have h2 : ((sortL qs).map (pk qs)).Perm ps := by
    have := (sortL_perm qs).map (pk qs)
    rw [range_pk] at this
    exact this.trans hp
  refine List.Perm.eq_of_pairwise (le := fun (a b : S34) => (!bl b.f0 a.f0) = true) ?_ (List.pairwise_map.2 (sortL_sorted qs)) (List.pairwise_map.2 (sortL_sorted ps)) (h2.trans h1.symm)
  intro a b ha hb e1 e2
  refine name_inj hn (h2.mem_iff.1 ha) (h1.mem_iff.1 hb) ?_
  rw [Bool.not_eq_true'] at e1 e2
  rcases bl_tri e1 with h | h
  · rw [e2] at h; cases h
  · exact h.symm
theorem right_perm {th : List ByteArray} {ps qs : PackL} (hp : qs.Perm ps) (h : AllRight th ps) : AllRight th qs := by
  have hm := hp.map fun p => p.f0
  refine ⟨fun p h' => h.1 p (hp.mem_iff.1 h'), hm.nodup_iff.2 h.2.1, fun p h' n hn => ?_⟩
  rcases h.2.2 p (hp.mem_iff.1 h') n hn with a | a
  · exact .inl a
  · exact .inr (hm.mem_iff.2 a)
/-- both have a plan, of the same packages in the same order; or neither has one -/
theorem turned_cases {th : List ByteArray} {ps qs : PackL} (hp : qs.Perm ps) :
    (∃ out out' : List Nat, orderP th ps = (ints out, 0, ⟨#[]⟩) ∧ orderP th qs = (ints out', 0, ⟨#[]⟩) ∧ out.map (pk ps) = out'.map (pk qs) ∧ (∀ x ∈ out, x < ps.length) ∧ (∀ x ∈ out', x < qs.length)) ∨
    (∃ c nm c' nm', orderP th ps = ([], c, nm) ∧ orderP th qs = ([], c', nm') ∧ c ≠ 0 ∧ c' ≠ 0) := by
  by_cases hr : AllRight th ps
  · have hr' := right_perm hp hr
    have e1 : orderP th ps = planned ps := by
      rcases first_code th ps with ⟨e, _⟩ | ⟨_, h⟩
      · unfold orderP; rw [e, if_pos rfl]
      · exact absurd hr h
    have e2 : orderP th qs = planned qs := by
      rcases first_code th qs with ⟨e, _⟩ | ⟨_, h⟩
      · unfold orderP; rw [e, if_pos rfl]
      · exact absurd hr' h
    have m1 := go_map ps ps.length (sortL ps) [] (sortL_len ps)
    have m2 := go_map qs qs.length (sortL qs) [] (sortL_len qs)
    rw [sorted_same hp hr.2.1, hp.length_eq, List.map_nil] at m2
    rw [List.map_nil, m2] at m1
    rw [e1, e2]
    rcases planned_cases ps with ⟨out, p1, g1, hp1, _⟩ | ⟨x, hx, p1, g1, _⟩
    · rcases planned_cases qs with ⟨out', p2, g2, hp2, _⟩ | ⟨x', hx', p2, g2, _⟩
      · rw [g1] at m1
        rw [← hp.length_eq, g2] at m1
        refine .inl ⟨out, out', p1, p2, (Sum.inl.inj m1).symm, fun x hx => List.mem_range.1 (hp1.mem_iff.1 hx), fun x hx => List.mem_range.1 (hp2.mem_iff.1 hx)⟩
      · rw [g1] at m1
        rw [← hp.length_eq, g2] at m1
        cases m1
    · rcases planned_cases qs with ⟨out', p2, g2, hp2, _⟩ | ⟨x', hx', p2, g2, _⟩
      · rw [g1] at m1
        rw [← hp.length_eq, g2] at m1
        cases m1
      · exact .inr ⟨71, _, 71, _, p1, p2, by decide, by decide⟩
  · have hr' : ¬ AllRight th qs := fun h => hr (right_perm hp.symm h)
    rcases order_cases th ps with ⟨h, _⟩ | ⟨h, _⟩ | ⟨_, c, nm, e, h0, _⟩
    · exact absurd h hr
    · exact absurd h hr
    · rcases order_cases th qs with ⟨h, _⟩ | ⟨h, _⟩ | ⟨_, c', nm', e', h0', _⟩
      · exact absurd h hr'
      · exact absurd h hr'
      · exact .inr ⟨c, nm, c', nm', e, e', h0, h0'⟩

/-! ### the law -/
theorem rd_ints (l : List Nat) (i : Nat) (h : i < l.length) : rd (ints l) (i : Int) = ((l[i] : Nat) : Int) := by
  simp [rd, ints, List.getD_eq_getElem?_getD, h]
theorem ints_len (l : List Nat) : (ints l).length = l.length := by simp [ints]
theorem t_l1 (ps qs : PackL) (out out' : List Nat) (he : out.map (pk ps) = out'.map (pk qs)) (h1 : ∀ x ∈ out, x < ps.length) (h2 : ∀ x ∈ out', x < qs.length) (hl : out.length ≤ 1000) (d : Nat) : ∀ (k i : Nat), out.length - i = d → i ≤ out.length → d < k →
    monticulelaw28_PlanTurned.l1 k ps qs (ints out) (ints out') (i : Int) = some true := by
  have e1 := ints_len out
  have e2 := ints_len out'
  have hlen : out.length = out'.length := by
    have := congrArg List.length he
    simpa using this
  induction d with
  | zero =>
    intro k i hd hi hk
    obtain ⟨k, rfl⟩ : ∃ m, k = m + 1 := ⟨k - 1, by omega⟩
    simp only [monticulelaw28_PlanTurned.l1]
    rw [if_neg (by omega)]
  | succ d ih =>
    intro k i hd hi hk
    obtain ⟨k, rfl⟩ : ∃ m, k = m + 1 := ⟨k - 1, by omega⟩
    have hlt : i < out.length := by omega
    have hlt' : i < out'.length := by omega
    have b1 := h1 _ (List.getElem_mem hlt)
    have b2 := h2 _ (List.getElem_mem hlt')
    have heq : pk ps out[i] = pk qs out'[i] := by
      have h : (out.map (pk ps))[i]'(by simpa using hlt) = (out'.map (pk qs))[i]'(by simpa using hlt') := by simp only [he]
      rw [List.getElem_map, List.getElem_map] at h
      exact h
    have heq' : (rd_T34 ps ((out[i] : Nat) : Int)).f0 = (rd_T34 qs ((out'[i] : Nat) : Int)).f0 := congrArg (fun p => p.f0) heq
    simp only [monticulelaw28_PlanTurned.l1]
    rw [rd_ints out i hlt, rd_ints out' i hlt', if_pos (by omega), if_pos (by omega), if_pos (by omega), if_pos (by omega), if_pos (by omega), if_pos (by omega), if_pos (by omega), heq', if_pos rfl, w64 i (by omega)]
    exact ih k (i + 1) (by omega) (by omega) (by omega)
theorem t_end (th : List ByteArray) (ps qs : PackL) (hp : qs.Perm ps) (hg : GoodIn th ps) (k : Nat) (hk : 2000 < k) (x2 : Int) :
    monticulelaw28_PlanTurned.l0 (k + 1) th ps x2 qs (ps.length : Int) = some true := by
  have hg' : GoodIn th qs := ⟨hg.1, by rw [hp.length_eq]; exact hg.2.1, fun p h => hg.2.2 p (hp.mem_iff.1 h)⟩
  have h10 := hg.2.1
  simp only [monticulelaw28_PlanTurned.l0]
  rw [if_neg (by omega), order_ok th ps hg k (by omega), order_ok th qs hg' k (by omega), Option.bind_some, Option.bind_some]
  rcases turned_cases (th := th) hp with ⟨out, out', e1, e2, he, h1, h2⟩ | ⟨c, nm, c', nm', e1, e2, h0, h0'⟩
  · have hlen : out.length = out'.length := by
      have := congrArg List.length he
      simpa using this
    have hol : out.length ≤ 1000 ∨ 1000 < out.length := by omega
    have hsz : out.length ≤ ps.length := by
      rcases order_cases th ps with ⟨_, o, e, hp', _⟩ | ⟨_, x, _, e, _⟩ | ⟨_, c, nm, e, h0, _⟩
      · rw [e1] at e
        have := congrArg (fun z => z.1.length) e
        simp only [ints_len] at this
        have h3 := hp'.length_eq
        rw [List.length_range] at h3
        omega
      · rw [e1] at e
        have := congrArg (fun z => z.2.1) e
        simp at this
      · rw [e1] at e
        have := congrArg (fun z => z.2.1) e
        exact absurd this.symm h0
    obtain ⟨k, rfl⟩ : ∃ m, k = m + 1 := ⟨k - 1, by omega⟩
    have := t_l1 ps qs out out' he h1 h2 (by omega) out.length k 0 (by omega) (by omega) (by omega)
    rw [e1, e2]
    simp only [ints_len, hlen]
    rw [if_neg (by simp)]
    simp only [monticulelaw28_PlanTurned.j2]
    rw [if_neg (by simp)]
    exact this
  · rw [e1, e2]
    have hc : ((c == 0) != (c' == 0)) = false := by
      have a : (c == 0) = false := by simpa using h0
      have b : (c' == 0) = false := by simpa using h0'
      rw [a, b]; rfl
    obtain ⟨k, rfl⟩ : ∃ m, k = m + 1 + 1 := ⟨k - 2, by omega⟩
    simp only [hc]
    rw [if_neg (by simp)]
    simp only [monticulelaw28_PlanTurned.j2]
    rw [if_neg (by simp)]
    simp only [monticulelaw28_PlanTurned.l1]
    rw [if_neg (by simp)]
theorem rest_ok (a : Int) (n : Nat) (h0 : 0 < n) (hn : n ≤ 1000) : ∃ r : Nat, r < n ∧ monticuleref01_Rest.f a (n : Int) = some (r : Int) := by
  unfold monticuleref01_Rest.f
  rw [if_neg (by omega)]
  have h1 : (Int.tmod a (n : Int)).natAbs < n := by
    rw [Int.natAbs_tmod, Int.natAbs_natCast]
    exact Nat.mod_lt _ h0
  generalize Int.tmod a (n : Int) = t at *
  have hw : wrap64 (t + (n : Int)) = t + (n : Int) := by unfold wrap64; omega
  rw [hw, Int.tmod_eq_emod_of_nonneg (by omega)]
  refine ⟨((t + (n : Int)) % (n : Int)).toNat, ?_, ?_⟩
  · have := Int.emod_lt_of_pos (t + (n : Int)) (by omega : (0 : Int) < (n : Int))
    have := Int.emod_nonneg (t + (n : Int)) (by omega : (n : Int) ≠ 0)
    omega
  · have := Int.emod_nonneg (t + (n : Int)) (by omega : (n : Int) ≠ 0)
    congr 1
    omega
theorem mod_ok (n i r : Nat) (hi : i < n) (hr : r < n) (hn : n ≤ 1000) : Int.tmod (wrap64 ((i : Int) + (r : Int))) (n : Int) = ((if i + r < n then i + r else i + r - n : Nat) : Int) := by
  have hw : wrap64 ((i : Int) + (r : Int)) = ((i + r : Nat) : Int) := by unfold wrap64; omega
  rw [hw, Int.tmod_eq_emod_of_nonneg (by omega)]
  have : ((i + r : Nat) : Int) % (n : Int) = (((i + r) % n : Nat) : Int) := by omega
  rw [this]
  congr 1
  split
  · exact Nat.mod_eq_of_lt (by omega)
  · rw [Nat.mod_eq_sub_mod (by omega), Nat.mod_eq_of_lt (by omega)]
def turnL (ps : PackL) (r : Nat) : PackL := ps.drop r ++ ps.take r
theorem turn_perm (ps : PackL) (r : Nat) : (turnL ps r).Perm ps := by
  unfold turnL
  exact List.perm_append_comm.trans (by rw [List.take_append_drop])
theorem turn_at (ps : PackL) (i r : Nat) (hi : i < ps.length) (hr : r < ps.length) : (turnL ps r)[i]? = some (ps[(if i + r < ps.length then i + r else i + r - ps.length : Nat)]'(by split <;> omega)) := by
  unfold turnL
  by_cases h : i + r < ps.length
  · rw [List.getElem?_append_left (by rw [List.length_drop]; omega), List.getElem?_drop, List.getElem?_eq_getElem (by omega)]
    simp only [h, if_true]
    congr 2
    omega
  · rw [List.getElem?_append_right (by rw [List.length_drop]; omega), List.length_drop, List.getElem?_take_of_lt (by omega), List.getElem?_eq_getElem (by omega)]
    simp only [h, if_false]
    congr 2
    omega
theorem turn_step (ps : PackL) (i r : Nat) (hi : i < ps.length) (hr : r < ps.length) (hn : ps.length ≤ 1000) : ∃ (j : Nat) (hj : j < ps.length), (turnL ps r)[i]? = some ps[j] ∧ Int.tmod (wrap64 ((i : Int) + (r : Int))) (ps.length : Int) = (j : Int) :=
  ⟨_, by split <;> omega, turn_at ps i r hi hr, mod_ok ps.length i r hi hr hn⟩
theorem t_l0 (th : List ByteArray) (ps : PackL) (hg : GoodIn th ps) (a : Int) (r : Nat) (hr : r < ps.length) (hrest : monticuleref01_Rest.f a (ps.length : Int) = some (r : Int)) (d : Nat) : ∀ (k i : Nat), ps.length - i = d → i ≤ ps.length → 3000 + d < k →
    monticulelaw28_PlanTurned.l0 k th ps a ((turnL ps r).take i) (i : Int) = some true := by
  have h10 := hg.2.1
  have htl : (turnL ps r).length = ps.length := (turn_perm ps r).length_eq
  induction d with
  | zero =>
    intro k i hd hi hk
    obtain ⟨k, rfl⟩ : ∃ m, k = m + 1 := ⟨k - 1, by omega⟩
    obtain rfl : i = ps.length := by omega
    have : (turnL ps r).take ps.length = turnL ps r := by rw [← htl, List.take_length]
    rw [this]
    exact t_end th ps (turnL ps r) (turn_perm ps r) hg k (by omega) a
  | succ d ih =>
    intro k i hd hi hk
    obtain ⟨k, rfl⟩ : ∃ m, k = m + 1 := ⟨k - 1, by omega⟩
    have hlt : i < ps.length := by omega
    obtain ⟨j, hj, hat, hmod⟩ := turn_step ps i r hlt hr (by omega)
    simp only [monticulelaw28_PlanTurned.l0]
    rw [if_pos (by omega), hrest, Option.bind_some, hmod, if_neg (by omega), if_pos (by omega), if_pos (by omega), if_pos (by rw [List.length_take]; omega), w64 i (by omega), rdP_at ps j hj]
    have ht : (turnL ps r).take (i + 1) = (turnL ps r).take i ++ [ps[j]] := by
      rw [List.take_add_one, hat]
      rfl
    have ih' := ih k (i + 1) (by omega) (by omega) (by omega)
    rw [ht] at ih'
    exact ih'
theorem turned_law (th : List ByteArray) (ps : PackL) (a : Int) (k : Nat) (hk : 19999 < k) : monticulelaw28_PlanTurned.f k th ps a = some true := by
  have hno : ∀ x, x = true ∨ GoodIn th ps → monticulelaw28_PlanTurned.j0 k th ps a x = some true := by
    intro x hx
    obtain ⟨k, rfl⟩ : ∃ m, k = m + 1 := ⟨k - 1, by omega⟩
    simp only [monticulelaw28_PlanTurned.j0]
    cases x
    · have hg := hx.resolve_left (by simp)
      have h10 := hg.2.1
      rw [if_neg (by simp)]
      rcases Nat.eq_zero_or_pos ps.length with h0 | hpos
      · obtain rfl := List.length_eq_zero_iff.1 h0
        obtain ⟨k, rfl⟩ : ∃ m, k = m + 1 := ⟨k - 1, by omega⟩
        exact t_end th [] [] (List.Perm.refl _) hg k (by omega) a
      · obtain ⟨r, hr, hrest⟩ := rest_ok a ps.length hpos (by omega)
        exact t_l0 th ps hg a r hr hrest ps.length k 0 (by omega) (by omega) (by omega)
    · rw [if_pos rfl, awake_ok k (by omega)]
      rfl
  unfold monticulelaw28_PlanTurned.f
  rw [awake_ok k (by omega), Option.bind_some, if_pos rfl]
  obtain ⟨b, hb, hq⟩ := lfew_ok th k (by omega)
  rw [hb, Option.bind_some]
  cases b
  · exact hno _ (.inl rfl)
  · obtain ⟨b', hb', hq'⟩ := few28_ok ps 8 k (by omega) (by omega)
    have hb2 : monticuleref28_Few.f k ps 8 = some b' := hb'
    rw [if_pos rfl, hb2, Option.bind_some]
    cases b'
    · exact hno _ (.inl rfl)
    · have h8 := hq' rfl
      have h20 := hq rfl
      exact hno _ (.inr ⟨by unfold fewN at h20; omega, by have := h8.1; omega, h8.2⟩)
end Go.Proofs.YtllgcnckaodjkaaDoor.Q
