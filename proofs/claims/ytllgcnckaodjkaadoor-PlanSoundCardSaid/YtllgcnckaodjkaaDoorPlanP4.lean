/- Plain law: a plan is sound: each package once, behind its needs; and where there is none, some need one another (PlanSound). -/
import Derived.Test.YtllgcnckaodjkaaDoorPlanG
import Derived.Test.YtllgcnckaodjkaaDoorQ6
set_option linter.unusedVariables false
namespace Go.Proofs.YtllgcnckaodjkaaDoor.Q
open Go.RowKit Go.Proofs.YtllgcnckaodjkaaDoor.Plain Go.Proofs.YtllgcnckaodjkaaDoorW.PrintWords Go.Lib

/-! ### the law, where there is a plan -/
section
variable (ps : PackL) (out : List Nat) (th : List ByteArray)
theorem rd_ints (l : List Nat) (i : Nat) (h : i < l.length) : rd (ints l) (i : Int) = ((l[i] : Nat) : Int) := by
  simp [rd, ints, List.getD_eq_getElem?_getD, h]
theorem ints_len (l : List Nat) : (ints l).length = l.length := by simp [ints]
def doneL (i : Nat) : List ByteArray := th ++ (out.take i).map (nmP ps)
theorem doneL_succ (i : Nat) (h : i < out.length) : doneL ps out th (i + 1) = doneL ps out th i ++ [nmP ps out[i]] := by
  unfold doneL
  rw [List.take_add_one, List.getElem?_eq_getElem h, List.map_append, List.append_assoc]
  rfl
theorem s_l4 (hn : out.Nodup) (h10 : out.length ≤ 10) (i : Nat) (hi : i < out.length) (X : List ByteArray) (hX : X.length ≤ 100) (f0 : ByteArray) (f1 : Int) (f2 : List ByteArray) (f3 : List S68) (d : Nat) : ∀ (k j : Nat), i - j = d → j ≤ i →
    monticulelaw28_PlanSound.l4 (k + d + 1) ps (ints out) X (i : Int) (j : Int) f0 f1 f2 f3 = monticulelaw28_PlanSound.l2 k ps (ints out) (X ++ [f0]) ((i + 1 : Nat) : Int) := by
  have hl := ints_len out
  induction d with
  | zero =>
    intro k j hd hj
    rw [show k + 0 + 1 = k + 1 from rfl]
    simp only [monticulelaw28_PlanSound.l4]
    rw [if_neg (by omega), if_pos (by omega), w64 i (by omega)]
  | succ d ih =>
    intro k j hd hj
    have ih' := ih k (j + 1) (by omega) (by omega)
    obtain ⟨K, hK⟩ : ∃ K, k + d + 1 = K := ⟨_, rfl⟩
    rw [hK] at ih'
    rw [show k + (d + 1) + 1 = K + 1 from by omega]
    simp only [monticulelaw28_PlanSound.l4]
    have hne : ¬ rd (ints out) (j : Int) = rd (ints out) (i : Int) := by
      rw [rd_ints out j (by omega), rd_ints out i hi]
      intro e
      have e2 : out[j]'(by omega) = out[i] := by omega
      have := (List.getElem_inj (h₀ := by omega) (h₁ := hi) hn).1 e2
      omega
    rw [if_pos (by omega), if_pos (by omega), if_pos (by omega), if_pos (by omega), if_pos (by omega), if_neg hne, w64 j (by omega)]
    exact ih'
theorem s_l3 (hn : out.Nodup) (h10 : out.length ≤ 10) (i : Nat) (hi : i < out.length) (X : List ByteArray) (hX : X.length ≤ 100) (f0 : ByteArray) (f1 : Int) (f2 : List ByteArray) (f3 : List S68) (h30 : f2.length ≤ 30) (hin : ∀ n ∈ f2, n ∈ X) (d : Nat) : ∀ (k j : Nat), 100 < k → f2.length - j = d → j ≤ f2.length →
    monticulelaw28_PlanSound.l3 (k + i + 1 + d + 1) ps (ints out) X (i : Int) (j : Int) f0 f1 f2 f3 = monticulelaw28_PlanSound.l2 k ps (ints out) (X ++ [f0]) ((i + 1 : Nat) : Int) := by
  induction d with
  | zero =>
    intro k j hk hd hj
    rw [show k + i + 1 + 0 + 1 = (k + i + 1) + 1 from rfl]
    have h4 := s_l4 ps out hn h10 i hi X hX f0 f1 f2 f3 i k 0 (by omega) (by omega)
    obtain ⟨K, hK⟩ : ∃ K, k + i + 1 = K := ⟨_, rfl⟩
    rw [hK] at h4 ⊢
    simp only [monticulelaw28_PlanSound.l3]
    rw [if_neg (by omega)]
    exact h4
  | succ d ih =>
    intro k j hk hd hj
    have hlt : j < f2.length := by omega
    have ih' := ih k (j + 1) hk (by omega) (by omega)
    obtain ⟨K, hK⟩ : ∃ K, k + i + 1 + d + 1 = K := ⟨_, rfl⟩
    rw [hK] at ih'
    rw [show k + i + 1 + (d + 1) + 1 = K + 1 from by omega]
    simp only [monticulelaw28_PlanSound.l3]
    have hx : f2.getD j ByteArray.empty = f2[j] := by simp [List.getD_eq_getElem?_getD, hlt]
    have hm : memB X f2[j] = true := (memB_iff _ _).2 (hin _ (List.getElem_mem hlt))
    rw [if_pos (by omega), if_pos (by omega), rdOf_nat, hx, rin_ok _ _ _ (by omega) (by omega), hm, Option.bind_some, if_pos rfl, w64 j (by omega)]
    exact ih'
theorem s_l2 (hps : GoodIn th ps) (hr : AllRight th ps) (hp : out.Perm (List.range ps.length)) (hf : FreeOrd ps out) (d : Nat) : ∀ (k i : Nat), out.length - i = d → i ≤ out.length → d * 60 + 200 < k →
    monticulelaw28_PlanSound.l2 k ps (ints out) (doneL ps out th i) (i : Int) = some true := by
  have hl := ints_len out
  have hlen : out.length = ps.length := by rw [hp.length_eq, List.length_range]
  have h10 := hps.2.1
  have hnd : out.Nodup := hp.nodup_iff.2 List.nodup_range
  have hlt0 : ∀ x ∈ out, x < ps.length := fun x hx => List.mem_range.1 (hp.mem_iff.1 hx)
  induction d with
  | zero =>
    intro k i hd hi hk
    obtain ⟨k, rfl⟩ : ∃ m, k = m + 1 := ⟨k - 1, by omega⟩
    simp only [monticulelaw28_PlanSound.l2]
    rw [if_neg (by omega), hl, hlen]
    simp
  | succ d ih =>
    intro k i hd hi hk
    have hlt : i < out.length := by omega
    have hx := hlt0 _ (List.getElem_mem hlt)
    have hrdP : rd_T34 ps ((out[i] : Nat) : Int) = ps[out[i]] := rdP_at ps _ hx
    have hg := hps.2.2 _ (List.getElem_mem hx)
    have hin : ∀ n ∈ ps[out[i]].f2, n ∈ doneL ps out th i := by
      intro n hn
      unfold doneL
      rw [List.mem_append]
      rcases hr.2.2 _ (List.getElem_mem hx) n hn with h | h
      · exact .inl h
      · right
        obtain ⟨q, hq, rfl⟩ := List.mem_map.1 h
        obtain ⟨y, hy, rfl⟩ := List.mem_iff_getElem.1 hq
        have hym : y ∈ out := hp.mem_iff.2 (List.mem_range.2 hy)
        rw [← List.take_append_drop i out, List.mem_append] at hym
        have hnm : nmP ps y = ps[y].f0 := by unfold nmP; rw [rdP_at ps y hy]
        rcases hym with h | h
        · exact List.mem_map.2 ⟨y, h, hnm⟩
        · rw [List.drop_eq_getElem_cons hlt] at h
          have e : out = out.take i ++ out[i] :: out.drop (i + 1) := by rw [← List.drop_eq_getElem_cons hlt, List.take_append_drop]
          exfalso
          refine hf _ _ _ e y h ?_
          unfold ndP
          rw [hnm, hrdP]
          exact hn
    have hdl : (doneL ps out th i).length ≤ 100 := by
      unfold doneL
      rw [List.length_append, List.length_map, List.length_take]
      have := hps.1
      omega
    have hds := doneL_succ ps out th i hlt
    have hnmi : nmP ps out[i] = ps[out[i]].f0 := by unfold nmP; rw [hrdP]
    have h30 := hg.needs
    obtain ⟨k, rfl⟩ : ∃ m, k = m + i + 1 + ps[out[i]].f2.length + 1 + 1 + 1 := ⟨k - (i + 4 + ps[out[i]].f2.length), by omega⟩
    have h3 := s_l3 ps out hnd (by omega) i hlt (doneL ps out th i) hdl ps[out[i]].f0 ps[out[i]].f1 ps[out[i]].f2 ps[out[i]].f3 h30 hin ps[out[i]].f2.length k 0 (by omega) (by omega) (by omega)
    have ih' := ih k (i + 1) (by omega) (by omega) (by omega)
    rw [hds, hnmi] at ih'
    rw [ih'] at h3
    obtain ⟨K, hK⟩ : ∃ K, k + i + 1 + ps[out[i]].f2.length + 1 = K := ⟨_, rfl⟩
    rw [hK] at h3 ⊢
    have h4 : monticulelaw28_PlanSound.j4 (K + 1) ps (ints out) (doneL ps out th i) (i : Int) false = some true := by
      simp only [monticulelaw28_PlanSound.j4]
      rw [rd_ints out i hlt, hrdP, if_neg (by simp), if_pos (by omega), if_pos (by omega), if_pos (by omega), if_pos (by omega)]
      exact h3
    simp only [monticulelaw28_PlanSound.l2]
    rw [rd_ints out i hlt, if_pos (by omega), if_pos (by omega), if_neg (by omega), if_neg (by omega)]
    by_cases h0 : (i : Int) > 0
    · rw [if_pos h0, hl, hlen]
      simpa using h4
    · rw [if_neg h0]
      exact h4
end

/-! ### the law, where packages wait for one another -/
theorem c_l1 (ps : PackL) (hps : ps.length ≤ 10) (hg : ∀ p ∈ ps, p.f2.length ≤ 30) (nm : ByteArray) (i9 : Int) (d : Nat) : ∀ (k j : Nat) (names : List ByteArray), 5000 < k → ps.length - j = d → j ≤ ps.length → names.length + 30 * d ≤ 4000 →
    ∃ names', monticulelaw28_PlanSound.l1 (k + d + 1) ps nm names i9 (j : Int) = monticulelaw28_PlanSound.l0 k ps nm names' (wrap64 (i9 + 1)) ∧ names.length ≤ names'.length ∧ names'.length ≤ names.length + 30 * d ∧ (∀ s ∈ names, s ∈ names') ∧ (∀ y, j ≤ y → y < ps.length → nmP ps y ∈ names → ndP ps y ≠ [] → names.length < names'.length) := by
  induction d with
  | zero =>
    intro k j names hk hd hj hn
    refine ⟨names, ?_, by omega, by omega, fun _ h => h, fun y h1 h2 => by omega⟩
    rw [show k + 0 + 1 = k + 1 from rfl]
    simp only [monticulelaw28_PlanSound.l1]
    rw [if_neg (by omega)]
  | succ d ih =>
    intro k j names hk hd hj hn
    have hlt : j < ps.length := by omega
    have h30 := hg _ (List.getElem_mem hlt)
    have hrd := rdP_at ps j hlt
    obtain ⟨K, hK⟩ : ∃ K, k + d + 1 = K := ⟨_, rfl⟩
    have hstep : monticulelaw28_PlanSound.l1 (K + 1) ps nm names i9 (j : Int) = if memB names ps[j].f0 = true then monticulelaw28_PlanSound.l1 K ps nm (names ++ ps[j].f2) i9 ((j + 1 : Nat) : Int) else monticulelaw28_PlanSound.l1 K ps nm names i9 ((j + 1 : Nat) : Int) := by
      simp only [monticulelaw28_PlanSound.l1]
      rw [if_pos (by omega), if_pos (by omega), hrd, rin_ok _ _ _ (by omega) (by omega), Option.bind_some, w64 j (by omega)]
      split
      · rw [if_pos (by omega)]
      · rfl
    rw [show k + (d + 1) + 1 = K + 1 from by omega, hstep]
    have hnm : nmP ps j = ps[j].f0 := by unfold nmP; rw [hrd]
    have hnd : ndP ps j = ps[j].f2 := by unfold ndP; rw [hrd]
    cases hm : memB names ps[j].f0
    · obtain ⟨names', e, h1, h2, h3, h4⟩ := ih k (j + 1) names hk (by omega) (by omega) (by omega)
      refine ⟨names', ?_, h1, by omega, h3, fun y ha hb hc hd' => ?_⟩
      · rw [if_neg (by simp), ← hK]; exact e
      · by_cases e : y = j
        · subst e
          rw [hnm] at hc
          rw [(memB_iff _ _).2 hc] at hm
          cases hm
        · exact h4 y (by omega) hb hc hd'
    · obtain ⟨names', e, h1, h2, h3, h4⟩ := ih k (j + 1) (names ++ ps[j].f2) hk (by omega) (by omega) (by rw [List.length_append]; omega)
      rw [List.length_append] at h1 h2
      refine ⟨names', ?_, by omega, by omega, fun s hs => h3 s (List.mem_append_left _ hs), fun y ha hb hc hd' => ?_⟩
      · rw [if_pos rfl, ← hK]; exact e
      · by_cases e : y = j
        · subst e
          rw [hnd] at hd'
          have : 0 < ps[y].f2.length := List.length_pos_iff.2 hd'
          omega
        · have := h4 y (by omega) hb (List.mem_append_left _ hc) hd'
          rw [List.length_append] at this
          omega
theorem c_l0 (ps : PackL) (hps : ps.length ≤ 10) (hg : ∀ p ∈ ps, p.f2.length ≤ 30) (nm : ByteArray) (y : Nat) (hy : y < ps.length) (hnm : nmP ps y = nm) (hnd : ndP ps y ≠ []) (d : Nat) : ∀ (k i : Nat) (names : List ByteArray), 10 - i = d → i ≤ 10 → d * 20 + 5100 < k → names.length ≤ 1 + 300 * i → nm ∈ names → (0 < i → 1 < names.length) →
    monticulelaw28_PlanSound.l0 k ps nm names (i : Int) = some true := by
  induction d with
  | zero =>
    intro k i names hd hi hk hl hm h1
    obtain ⟨k, rfl⟩ : ∃ m, k = m + 1 := ⟨k - 1, by omega⟩
    have h1' := h1 (by omega)
    simp only [monticulelaw28_PlanSound.l0]
    rw [if_neg (by omega), if_pos (by omega), rin_ok _ _ _ (by rw [List.length_drop]; omega) (by rw [List.length_drop]; omega), Option.bind_some]
    split
    · rfl
    · rw [decide_eq_true (by omega)]
  | succ d ih =>
    intro k i names hd hi hk hl hm h1
    obtain ⟨k, rfl⟩ : ∃ m, k = m + ps.length + 1 + 1 := ⟨k - (ps.length + 2), by omega⟩
    obtain ⟨names', e, ha, hb, hc, hd'⟩ := c_l1 ps hps hg nm (i : Int) ps.length k 0 names (by omega) (by omega) (by omega) (by omega)
    have hbig := hd' y (Nat.zero_le _) hy (hnm ▸ hm) hnd
    obtain ⟨K, hK⟩ : ∃ K, k + ps.length + 1 = K := ⟨_, rfl⟩
    rw [hK] at e ⊢
    simp only [monticulelaw28_PlanSound.l0]
    rw [if_pos (by omega)]
    refine Eq.trans e ?_
    rw [w64 i (by omega)]
    have : 0 < names.length := List.length_pos_of_mem hm
    exact ih k (i + 1) names' (by omega) (by omega) (by omega) (by omega) (hc _ hm) (fun _ => by omega)

theorem sound_law (th : List ByteArray) (ps : PackL) (k : Nat) (hk : 19999 < k) : monticulelaw28_PlanSound.f k th ps = some true := by
  have hno : ∀ x, x = true ∨ GoodIn th ps → monticulelaw28_PlanSound.j0 k th ps x = some true := by
    intro x hx
    obtain ⟨k, rfl⟩ : ∃ m, k = m + 1 := ⟨k - 1, by omega⟩
    simp only [monticulelaw28_PlanSound.j0]
    cases x
    · have hg := hx.resolve_left (by simp)
      have h10 := hg.2.1
      rw [if_neg (by simp), order_ok th ps hg k (by omega), Option.bind_some]
      rcases order_cases th ps with ⟨hr, out, e, hp, hf⟩ | ⟨hr, y, hy, e, hnd⟩ | ⟨hr, c, nm, e, h0, h71⟩
      · rw [e]
        simp only
        rw [if_neg (by decide), if_pos trivial, Option.bind_some, if_pos (by have := hg.1; simp; omega)]
        have := s_l2 ps out th hg hr hp hf out.length k 0 (by omega) (by omega) (by have := hp.length_eq; rw [List.length_range] at this; omega)
        simpa [doneL] using this
      · rw [e]
        simp only
        rw [if_pos trivial]
        exact c_l0 ps h10 (fun p hp => (hg.2.2 p hp).needs) (nmP ps y) y hy rfl hnd 10 k 0 [nmP ps y] (by omega) (by omega) (by omega) (by simp) (by simp) (fun h => absurd h (by decide))
      · rw [e]
        simp only
        rw [if_neg h71, if_neg h0]
        rfl
    · rw [if_pos rfl, awake_ok k (by omega)]
      rfl
  unfold monticulelaw28_PlanSound.f
  rw [awake_ok k (by omega), Option.bind_some, if_pos rfl]
  obtain ⟨b, hb, hq⟩ := lfew_ok th k (by omega)
  rw [hb, Option.bind_some]
  cases b
  · exact hno _ (.inl rfl)
  · obtain ⟨b', hb', hq'⟩ := few28_ok ps 8 k (by omega) (by omega)
    have hb2 : monticuleref28_Few.f k ps 8 = some b' := hb'
    rw [if_pos rfl, hb2, Option.bind_some]
    cases b'
    · exact hno _ (.inl rfl)
    · have h8 := hq' rfl
      have h20 := hq rfl
      exact hno _ (.inr ⟨by unfold fewN at h20; omega, by have := h8.1; omega, h8.2⟩)
end Go.Proofs.YtllgcnckaodjkaaDoor.Q
