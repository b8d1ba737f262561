/- Plain law: what plan.first and plan.Order answer to few packages. -/
import Derived.Test.YtllgcnckaodjkaaDoorPlanP1
import Derived.Test.YtllgcnckaodjkaaDoorQ5
set_option linter.unusedVariables false
namespace Go.Proofs.YtllgcnckaodjkaaDoor.Q
open Go.RowKit Go.Proofs.YtllgcnckaodjkaaDoor.Plain Go.Proofs.YtllgcnckaodjkaaDoorW.PrintWords Go.Lib

def dupGo : PackL → List ByteArray → Option (Int × ByteArray)
  | [], _ => none
  | p :: r, names => if rightP p = true then (if memB names p.f0 = true then some (45, p.f0) else dupGo r (names ++ [p.f0])) else some (2, p.f0)
def needFind (th names : List ByteArray) (nd : List ByteArray) : Option ByteArray := nd.find? fun n => !memB th n && !memB names n
def needGo (th names : List ByteArray) : PackL → Int × ByteArray
  | [] => (0, ⟨#[]⟩)
  | p :: r => match needFind th names p.f2 with
    | some n => (73, n)
    | none => needGo th names r
def firstP (th : List ByteArray) (ps : PackL) : Int × ByteArray := (dupGo ps []).getD (needGo th (namesP ps) ps)

theorem rdP_at (ps : PackL) (i : Nat) (h : i < ps.length) : rd_T34 ps (i : Int) = ps[i] := by simp [rd_T34, List.getD_eq_getElem?_getD, h]
theorem l2_ok (th names : List ByteArray) (ps : PackL) (hth : th.length ≤ 50) (hn : names.length ≤ 50) (i : Nat) (nd : List ByteArray) (hnd : nd.length ≤ 1000) (d : Nat) : ∀ (k j : Nat), nd.length - j = d → j ≤ nd.length →
    plan_first.l2 (k + 60 + d + 1) th names ps (ps.length : Int) (i : Int) nd (nd.length : Int) (j : Int) = match needFind th names (nd.drop j) with
      | some n => some (73, n)
      | none => plan_first.l1 (k + 60) th names ps (ps.length : Int) (wrap64 ((i : Int) + 1)) := by
  induction d with
  | zero =>
    intro k j hd hj
    obtain ⟨K, hK⟩ : ∃ K, k + 60 = K := ⟨_, rfl⟩
    rw [show k + 60 + 0 + 1 = K + 1 from by omega, hK]
    simp only [plan_first.l2]
    rw [if_neg (by omega), List.drop_eq_nil_of_le (by omega)]
    rfl
  | succ d ih =>
    intro k j hd hj
    have hlt : j < nd.length := by omega
    have ih' := ih k (j + 1) (by omega) (by omega)
    obtain ⟨K, hK⟩ : ∃ K, k + 60 + d + 1 = K := ⟨_, rfl⟩
    rw [hK] at ih'
    rw [show k + 60 + (d + 1) + 1 = K + 1 from by omega]
    simp only [plan_first.l2]
    rw [if_pos (by omega), if_pos (by omega), if_pos (by omega), rdOf_nat, contains_ok _ th _ (by omega) (by omega), contains_ok _ names _ (by omega) (by omega), w64 j (by omega), ih']
    have hx : nd.getD j ByteArray.empty = nd[j] := by simp [List.getD_eq_getElem?_getD, hlt]
    rw [List.drop_eq_getElem_cons hlt, ← hx]
    generalize nd.getD j ByteArray.empty = x
    simp only [Option.bind_some, needFind, List.find?_cons]
    cases memB th x <;> cases memB names x <;> rfl
theorem l1_ok (th names : List ByteArray) (ps : PackL) (hth : th.length ≤ 50) (hn : names.length ≤ 50) (hps : ps.length ≤ 50) (hg : ∀ p ∈ ps, p.f2.length ≤ 30) (d : Nat) : ∀ (k i : Nat), ps.length - i = d → i ≤ ps.length → d * 32 + 100 < k →
    plan_first.l1 k th names ps (ps.length : Int) (i : Int) = some (needGo th names (ps.drop i)) := by
  induction d with
  | zero =>
    intro k i hd hi hk
    obtain ⟨k, rfl⟩ : ∃ m, k = m + 1 := ⟨k - 1, by omega⟩
    simp only [plan_first.l1]
    rw [if_neg (by omega), List.drop_eq_nil_of_le (by omega)]
    rfl
  | succ d ih =>
    intro k i hd hi hk
    have hlt : i < ps.length := by omega
    have hl30 := hg _ (List.getElem_mem hlt)
    obtain ⟨k, rfl⟩ : ∃ m, k = m + 60 + ps[i].f2.length + 1 + 1 := ⟨k - 62 - ps[i].f2.length, by omega⟩
    simp only [plan_first.l1]
    rw [if_pos (by omega), if_pos (by omega), if_pos (by omega), rdP_at ps i hlt]
    have h2 := l2_ok th names ps hth hn i ps[i].f2 (by omega) ps[i].f2.length k 0 (by omega) (by omega)
    refine Eq.trans h2 ?_
    rw [List.drop_zero, List.drop_eq_getElem_cons hlt, needGo]
    cases needFind th names ps[i].f2 with
    | some n => rfl
    | none =>
      show plan_first.l1 _ _ _ _ _ _ = _
      rw [w64 i (by omega)]
      exact ih _ (i + 1) (by omega) (by omega) (by omega)
theorem l0_ok (th : List ByteArray) (ps : PackL) (hth : th.length ≤ 50) (hps : ps.length ≤ 50) (hg : ∀ p ∈ ps, GoodP p) (d : Nat) : ∀ (k i : Nat) (names : List ByteArray), ps.length - i = d → i ≤ ps.length → names = (namesP ps).take i → d + ps.length * 32 + 300 < k →
    plan_first.l0 k th ps names ps (ps.length : Int) (i : Int) = some ((dupGo (ps.drop i) names).getD (needGo th (namesP ps) ps)) := by
  have hnl : (namesP ps).length = ps.length := by simp [namesP]
  induction d with
  | zero =>
    intro k i names hd hi hn hk
    obtain ⟨k, rfl⟩ : ∃ m, k = m + 1 := ⟨k - 1, by omega⟩
    obtain rfl : i = ps.length := by omega
    rw [show ps.length = (namesP ps).length from hnl.symm, List.take_length] at hn
    subst hn
    simp only [plan_first.l0]
    rw [if_neg (by omega), List.drop_length]
    exact l1_ok th (namesP ps) ps hth (by omega) hps (fun p hp => (hg p hp).needs) ps.length k 0 (by omega) (by omega) (by omega)
  | succ d ih =>
    intro k i names hd hi hn hk
    obtain ⟨k, rfl⟩ : ∃ m, k = m + 1 := ⟨k - 1, by omega⟩
    have hlt : i < ps.length := by omega
    have hlen : names.length ≤ 50 := by rw [hn, List.length_take]; omega
    simp only [plan_first.l0]
    rw [if_pos (by omega), if_pos (by omega), if_pos (by omega), rdP_at ps i hlt, rightP_ok _ (hg _ (List.getElem_mem hlt)) k (by omega), Option.bind_some, contains_ok _ names _ (by omega) (by omega), Option.bind_some, List.drop_eq_getElem_cons hlt, dupGo]
    cases rightP ps[i]
    · rfl
    · cases hm : memB names ps[i].f0
      · rw [if_pos rfl, if_neg (by simp), if_pos (by omega), w64 i (by omega), if_pos rfl, if_neg (by simp)]
        refine ih k (i + 1) _ (by omega) (by omega) ?_ (by omega)
        rw [hn, List.take_add_one]
        simp [namesP, hlt]
      · rfl
def GoodIn (th : List ByteArray) (ps : PackL) : Prop := th.length ≤ 50 ∧ ps.length ≤ 10 ∧ ∀ p ∈ ps, GoodP p
theorem first_ok (th : List ByteArray) (ps : PackL) (h : GoodIn th ps) (k : Nat) (hk : 1000 < k) : plan_first.f k th ps = some (firstP th ps) :=
  l0_ok th ps h.1 (by have := h.2.1; omega) h.2.2 ps.length k 0 [] (by omega) (by omega) rfl (by have := h.2.1; omega)

/-! ### what the answer says -/
theorem dup_none : ∀ (l : PackL) (names : List ByteArray), names.Nodup → (dupGo l names = none ↔ (∀ p ∈ l, rightP p = true) ∧ (names ++ namesP l).Nodup)
  | [], names, hn => by simp [dupGo, namesP, hn]
  | p :: r, names, hn => by
    rw [dupGo]
    cases hr : rightP p
    · simp [hr]
    · cases hm : memB names p.f0
      · have hnm : ¬ p.f0 ∈ names := fun h => by rw [(memB_iff _ _).2 h] at hm; cases hm
        have hn2 : (names ++ [p.f0]).Nodup := by
          rw [List.nodup_append]
          refine ⟨hn, by simp, ?_⟩
          intro a ha b hb e
          rw [List.mem_singleton.1 hb] at e
          exact hnm (e ▸ ha)
        have ih := dup_none r (names ++ [p.f0]) hn2
        rw [if_pos rfl, if_neg (by simp), ih]
        simp [namesP, hr]
      · have hin := (memB_iff _ _).1 hm
        rw [if_pos rfl, if_pos rfl]
        refine ⟨fun h => by simp at h, fun h => ?_⟩
        have h2 := h.2
        rw [List.nodup_append] at h2
        exact absurd rfl (h2.2.2 _ hin p.f0 (by simp [namesP]))
theorem dup_code : ∀ (l : PackL) (names : List ByteArray) (c : Int) (nm : ByteArray), dupGo l names = some (c, nm) → c = 2 ∨ c = 45
  | [], _, _, _, h => by simp [dupGo] at h
  | p :: r, names, c, nm, h => by
    rw [dupGo] at h
    split at h
    · split at h
      · cases h; exact .inr rfl
      · exact dup_code r _ c nm h
    · cases h; exact .inl rfl
def Needed0 (th names : List ByteArray) (ps : PackL) : Prop := ∀ p ∈ ps, ∀ n ∈ p.f2, n ∈ th ∨ n ∈ names
theorem needFind_none (th names nd : List ByteArray) : needFind th names nd = none ↔ ∀ n ∈ nd, n ∈ th ∨ n ∈ names := by
  unfold needFind
  rw [List.find?_eq_none]
  refine ⟨fun h n hn => ?_, fun h n hn => ?_⟩
  · have := h n hn
    cases h1 : memB th n
    · cases h2 : memB names n
      · rw [h1, h2] at this; simp at this
      · exact .inr ((memB_iff _ _).1 h2)
    · exact .inl ((memB_iff _ _).1 h1)
  · rcases h n hn with h | h
    · rw [(memB_iff _ _).2 h]; simp
    · rw [(memB_iff _ _).2 h]; simp
theorem need_code (th names : List ByteArray) : ∀ (l : PackL), (needGo th names l = (0, ⟨#[]⟩) ∧ Needed0 th names l) ∨ (∃ n, needGo th names l = (73, n) ∧ ¬ Needed0 th names l)
  | [] => .inl ⟨rfl, fun p hp => by cases hp⟩
  | p :: r => by
    rw [needGo]
    cases hf : needFind th names p.f2 with
    | some n =>
      refine .inr ⟨n, rfl, fun h => ?_⟩
      rw [(needFind_none _ _ _).2 (h p (List.mem_cons_self ..))] at hf
      cases hf
    | none =>
      have h0 := (needFind_none _ _ _).1 hf
      rcases need_code th names r with ⟨e, h⟩ | ⟨n, e, h⟩
      · exact .inl ⟨e, fun q hq => (List.mem_cons.1 hq).elim (fun e => e ▸ h0) (fun hq => h q hq)⟩
      · exact .inr ⟨n, e, fun h' => h (fun q hq => h' q (List.mem_cons_of_mem _ hq))⟩
/-- nothing is wrong -/
def AllRight (th : List ByteArray) (ps : PackL) : Prop := (∀ p ∈ ps, rightP p = true) ∧ (namesP ps).Nodup ∧ Needed0 th (namesP ps) ps
theorem first_code (th : List ByteArray) (ps : PackL) : (firstP th ps = (0, ⟨#[]⟩) ∧ AllRight th ps) ∨ (((firstP th ps).1 = 2 ∨ (firstP th ps).1 = 45 ∨ (firstP th ps).1 = 73) ∧ ¬ AllRight th ps) := by
  unfold firstP
  cases hd : dupGo ps [] with
  | some cn =>
    refine .inr ⟨?_, fun h => ?_⟩
    · rcases dup_code ps [] cn.1 cn.2 (by rw [hd]) with h | h
      · exact .inl h
      · exact .inr (.inl h)
    · rw [(dup_none ps [] (by simp)).2 ⟨h.1, by simpa using h.2.1⟩] at hd
      cases hd
  | none =>
    have h2 := (dup_none ps [] (by simp)).1 hd
    rcases need_code th (namesP ps) ps with ⟨e, h⟩ | ⟨n, e, h⟩
    · exact .inl ⟨e, h2.1, by simpa using h2.2, h⟩
    · refine .inr ⟨.inr (.inr ?_), fun h' => h h'.2.2⟩
      show (needGo th (namesP ps) ps).1 = 73
      rw [e]
def orderP (th : List ByteArray) (ps : PackL) : List Int × Int × ByteArray := if (firstP th ps).1 = 0 then planned ps else ([], (firstP th ps).1, (firstP th ps).2)
theorem order_ok (th : List ByteArray) (ps : PackL) (h : GoodIn th ps) (k : Nat) (hk : 1000 < k) : plan_Order.f k th ps = some (orderP th ps) := by
  unfold plan_Order.f
  rw [if_pos (by have := h.2.1; omega), first_ok th ps h k hk, Option.bind_some]
  unfold ordOf orderP
  rcases first_code th ps with ⟨e, hr⟩ | ⟨hc, _⟩
  · rw [e]
    simp only [if_true]
    rw [if_pos ⟨trivial, hr.2.1⟩]
  · have : (firstP th ps).1 ≠ 0 := by rcases hc with h | h | h <;> rw [h] <;> decide
    rw [if_neg this, if_neg this]

/-! ### the document's example -/
def exP : PackL := [(⟨(⟨#[66]⟩ : ByteArray), 1, (([(⟨#[65]⟩ : ByteArray)] : List ByteArray)), ([] : List (S68))⟩ : S34), (⟨(⟨#[65]⟩ : ByteArray), 1, ([] : List ByteArray), ([] : List (S68))⟩ : S34)]
theorem exP_good : GoodIn [] exP := by
  refine ⟨by simp, by decide, fun p hp => ?_⟩
  have h : p = exP[0] ∨ p = exP[1] := by simpa [exP] using hp
  rcases h with rfl | rfl
  · exact ⟨by decide, by decide, by decide, fun d hd => by cases hd⟩
  · exact ⟨by decide, by decide, by decide, fun d hd => by cases hd⟩
theorem exP_sort : sortL exP = [1, 0] := by
  refine (sorted_unique (distinct_of_nodup (by decide +kernel)) ?_ ?_).symm
  · exact List.Perm.swap _ _ _
  · intro i j hij hj
    have : j < 2 := hj
    obtain ⟨rfl, rfl⟩ : i = 0 ∧ j = 1 := by omega
    decide +kernel
theorem exP_order : orderP [] exP = ([1, 0], 0, ⟨#[]⟩) := by
  unfold orderP
  rw [if_pos (by decide +kernel)]
  unfold planned
  rw [exP_sort]
  decide +kernel
theorem awake_ok (k : Nat) (hk : 1000 < k) : monticulelaw28_awake.f k = some true := by
  unfold monticulelaw28_awake.f
  have := order_ok [] exP exP_good k hk
  rw [exP_order] at this
  unfold exP at this
  rw [this]
  rfl
end Go.Proofs.YtllgcnckaodjkaaDoor.Q
