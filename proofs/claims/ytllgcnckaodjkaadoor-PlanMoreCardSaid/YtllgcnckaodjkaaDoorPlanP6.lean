/- Plain law: with one more package that nobody needs, and that needs none, the others are planned in the same order (PlanMore). -/
import Derived.Test.YtllgcnckaodjkaaDoorPlanG
import Derived.Test.YtllgcnckaodjkaaDoorPurePC
import Derived.Test.YtllgcnckaodjkaaDoorQ9
set_option linter.unusedVariables false
namespace Go.Proofs.YtllgcnckaodjkaaDoor.Q
open Go.RowKit Go.Proofs.YtllgcnckaodjkaaDoor.Plain Go.Proofs.YtllgcnckaodjkaaDoorW.PrintWords Go.Lib

def newP (name : ByteArray) : S34 := ⟨name, 1, [], []⟩
def moreL (ps : PackL) (name : ByteArray) : PackL := ps ++ [newP name]
/-- nobody has that name, nobody needs it -/
def NoOne (ps : PackL) (name : ByteArray) : Prop := ∀ p ∈ ps, p.f0 ≠ name ∧ ¬ name ∈ p.f2
theorem right_new_at (k : Nat) (name : ByteArray) : pack_Right.f (k + 1 + 1) name 1 [] [] = some (classN name) := by
  unfold pack_Right.f
  simp only [pack_Right.l0, pack_needs.f, pack_needs.l0]
  rw [if_neg (by simp), class_ok, Option.bind_some]
  cases classN name
  · rfl
  · simp
theorem right_new (name : ByteArray) : rightP (newP name) = classN name := by
  have h : pack_Right.f 200 name 1 [] [] = some (classN name) := right_new_at 198 name
  show (pack_Right.f 200 name 1 [] []).getD false = _
  rw [h]
  rfl
theorem more_lt (ps : PackL) (name : ByteArray) (i : Nat) (h : i < ps.length) : rd_T34 (moreL ps name) (i : Int) = ps[i] := by
  rw [rdP_at (moreL ps name) i (by unfold moreL; rw [List.length_append]; omega)]
  unfold moreL
  rw [List.getElem_append_left h]
theorem more_new (ps : PackL) (name : ByteArray) : rd_T34 (moreL ps name) (ps.length : Int) = newP name := by
  rw [rdP_at (moreL ps name) ps.length (by unfold moreL; rw [List.length_append, List.length_singleton]; omega)]
  simp [moreL]
theorem nm_lt (ps : PackL) (name : ByteArray) (i : Nat) (h : i < ps.length) : nmP (moreL ps name) i = nmP ps i := by
  unfold nmP; rw [more_lt ps name i h, rdP_at ps i h]
theorem nd_lt (ps : PackL) (name : ByteArray) (i : Nat) (h : i < ps.length) : ndP (moreL ps name) i = ndP ps i := by
  unfold ndP; rw [more_lt ps name i h, rdP_at ps i h]
theorem nm_new (ps : PackL) (name : ByteArray) : nmP (moreL ps name) ps.length = name := by
  unfold nmP; rw [more_new]; rfl
theorem nd_new (ps : PackL) (name : ByteArray) : ndP (moreL ps name) ps.length = [] := by
  unfold ndP; rw [more_new]; rfl
theorem more_len (ps : PackL) (name : ByteArray) : (moreL ps name).length = ps.length + 1 := by simp [moreL]

/-! ### what plan.first says -/
theorem dup_app (q : S34) : ∀ (l : PackL) (names : List ByteArray), dupGo (l ++ [q]) names = match dupGo l names with
    | some e => some e
    | none => dupGo [q] (names ++ namesP l)
  | [], names => by simp [dupGo, namesP]
  | p :: l, names => by
    rw [List.cons_append, dupGo, dupGo]
    split
    · split
      · rfl
      · rw [dup_app q l]
        simp [namesP]
    · rfl
theorem need_more (th : List ByteArray) (names : List ByteArray) (name : ByteArray) : ∀ (l : PackL), (∀ p ∈ l, ¬ name ∈ p.f2) → needGo th (names ++ [name]) (l ++ [newP name]) = needGo th names l
  | [], _ => rfl
  | p :: l, h => by
    have hp := h p (List.mem_cons_self ..)
    have hf : needFind th (names ++ [name]) p.f2 = needFind th names p.f2 := by
      unfold needFind
      have hc : ∀ n ∈ p.f2, (!memB th n && !memB (names ++ [name]) n) = (!memB th n && !memB names n) := by
        intro n hn
        have : memB (names ++ [name]) n = memB names n := by
          rw [Bool.eq_iff_iff, memB_iff, memB_iff, List.mem_append, List.mem_singleton]
          exact ⟨fun h => h.resolve_right (fun e => hp (e ▸ hn)), .inl⟩
        rw [this]
      generalize p.f2 = L at hc
      clear hp h
      induction L with
      | nil => rfl
      | cons a L ih =>
        rw [List.find?_cons, List.find?_cons, hc a (List.mem_cons_self ..), ih (fun n hn => hc n (List.mem_cons_of_mem _ hn))]
    rw [List.cons_append, needGo, needGo, hf, need_more th names name l (fun q hq => h q (List.mem_cons_of_mem _ hq))]
theorem names_more (ps : PackL) (name : ByteArray) : namesP (moreL ps name) = namesP ps ++ [name] := by simp [namesP, moreL, newP]
theorem first_more (th : List ByteArray) (ps : PackL) (name : ByteArray) (hn : NoOne ps name) (hc : classN name = true) : firstP th (moreL ps name) = firstP th ps := by
  have hm : memB (namesP ps) name = false := memB_not _ _ (fun h => by
    obtain ⟨p, hp, e⟩ := List.mem_map.1 h
    exact (hn p hp).1 e)
  unfold firstP
  rw [names_more]
  unfold moreL
  rw [dup_app, need_more th (namesP ps) name ps (fun p hp => (hn p hp).2)]
  cases dupGo ps [] with
  | some e => rfl
  | none =>
    simp only [List.nil_append, dupGo]
    rw [right_new, hc, if_pos rfl]
    show (if memB (namesP ps) name = true then _ else _ : Option _).getD _ = _
    rw [hm]
    rfl
theorem first_bad (th : List ByteArray) (ps : PackL) (name : ByteArray) (hc : classN name = false) : ((firstP th (moreL ps name)).1 ≠ 0 ∧ (firstP th ps).1 ≠ 0) ∨ firstP th (moreL ps name) = (2, name) := by
  unfold firstP
  rw [names_more]
  unfold moreL
  rw [dup_app]
  cases hd : dupGo ps [] with
  | some e =>
    left
    rcases dup_code ps [] e.1 e.2 (by rw [hd]) with h | h
    · exact ⟨by show e.1 ≠ 0; rw [h]; decide, by show e.1 ≠ 0; rw [h]; decide⟩
    · exact ⟨by show e.1 ≠ 0; rw [h]; decide, by show e.1 ≠ 0; rw [h]; decide⟩
  | none =>
    right
    simp only [List.nil_append, dupGo]
    rw [right_new, hc, if_neg (by simp)]
    rfl

/-! ### the loop -/
def RelM (n : Nat) : List Nat ⊕ ByteArray → List Nat ⊕ ByteArray → Prop
  | .inl o, .inl o' => o'.filter (fun i => i != n) = o
  | .inr _, .inr _ => True
  | _, _ => False
theorem find_congr {α : Type} (p q : α → Bool) : ∀ (l : List α), (∀ x ∈ l, p x = q x) → l.findIdx? p = l.findIdx? q
  | [], _ => rfl
  | a :: l, h => by
    rw [List.findIdx?_cons, List.findIdx?_cons, h a (List.mem_cons_self ..), find_congr p q l (fun x hx => h x (List.mem_cons_of_mem _ hx))]
theorem wait_more (ps : PackL) (name : ByteArray) (hn : NoOne ps name) (x : Nat) (hx : x < ps.length) (A B : List Nat) (hl : ∀ i ∈ A ++ B, i < ps.length) : waitB (moreL ps name) (ndP (moreL ps name) x) (A ++ ps.length :: B) = waitB ps (ndP ps x) (A ++ B) := by
  rw [nd_lt ps name x hx, Bool.eq_iff_iff, waitB_iff, waitB_iff]
  constructor
  · rintro ⟨j, hj, h⟩
    rcases List.mem_append.1 hj with hj | hj
    · have hlt := hl j (List.mem_append_left _ hj)
      exact ⟨j, List.mem_append_left _ hj, by rwa [nm_lt ps name j hlt] at h⟩
    · rcases List.mem_cons.1 hj with rfl | hj
      · rw [nm_new] at h
        have : ndP ps x = ps[x].f2 := by unfold ndP; rw [rdP_at ps x hx]
        rw [this] at h
        exact absurd h (hn _ (List.getElem_mem hx)).2
      · have hlt := hl j (List.mem_append_right _ hj)
        exact ⟨j, List.mem_append_right _ hj, by rwa [nm_lt ps name j hlt] at h⟩
  · rintro ⟨j, hj, h⟩
    have hlt := hl j hj
    refine ⟨j, ?_, by rw [nm_lt ps name j hlt]; exact h⟩
    rcases List.mem_append.1 hj with hj | hj
    · exact List.mem_append_left _ hj
    · exact List.mem_append_right _ (List.mem_cons_of_mem _ hj)
theorem wait_same (ps : PackL) (name : ByteArray) (x : Nat) (hx : x < ps.length) (l : List Nat) (hl : ∀ i ∈ l, i < ps.length) : waitB (moreL ps name) (ndP (moreL ps name) x) l = waitB ps (ndP ps x) l := by
  rw [nd_lt ps name x hx, Bool.eq_iff_iff, waitB_iff, waitB_iff]
  exact ⟨fun ⟨j, hj, h⟩ => ⟨j, hj, by rwa [nm_lt ps name j (hl j hj)] at h⟩, fun ⟨j, hj, h⟩ => ⟨j, hj, by rw [nm_lt ps name j (hl j hj)]; exact h⟩⟩
theorem go_same (ps : PackL) (name : ByteArray) : ∀ (f : Nat) (l out out' : List Nat), l.length = f → (∀ i ∈ l, i < ps.length) → out'.filter (fun i => i != ps.length) = out → RelM ps.length (orderGo ps f l out) (orderGo (moreL ps name) f l out')
  | 0, l, out, out', _, _, h => h
  | f + 1, l, out, out', hl, hb, h => by
    rw [orderGo, orderGo]
    have hff : firstFree (moreL ps name) l = firstFree ps l := by
      unfold firstFree
      refine find_congr _ _ l (fun x hx => ?_)
      rw [wait_same ps name x (hb x hx) l hb]
    rw [hff]
    cases hf : firstFree ps l with
    | none => exact trivial
    | some k =>
      obtain ⟨hk, _⟩ := free_some hf
      simp only
      rw [getD_get l 0 k hk]
      have hlt := hb _ (List.getElem_mem hk)
      refine go_same ps name f (l.eraseIdx k) _ _ (by rw [List.length_eraseIdx, if_pos hk]; omega) (fun i hi => hb i (List.mem_of_mem_eraseIdx hi)) ?_
      rw [List.filter_append, h]
      have : (l[k] != ps.length) = true := by simp; omega
      simp [this]
theorem go_more (ps : PackL) (name : ByteArray) (hn : NoOne ps name) : ∀ (f : Nat) (A B out out' : List Nat), (A ++ B).length = f → (∀ i ∈ A ++ B, i < ps.length) → out'.filter (fun i => i != ps.length) = out → RelM ps.length (orderGo ps f (A ++ B) out) (orderGo (moreL ps name) (f + 1) (A ++ ps.length :: B) out') := by
  intro f
  induction f with
  | zero =>
    intro A B out out' hl hb h
    have h0 := List.length_eq_zero_iff.1 hl
    obtain ⟨rfl, rfl⟩ := List.append_eq_nil_iff.1 h0
    rw [orderGo, orderGo]
    have hff : firstFree (moreL ps name) ([] ++ ps.length :: []) = some 0 := by
      unfold firstFree
      simp only [List.nil_append, List.findIdx?_cons]
      rw [nd_new]
      have : waitB (moreL ps name) [] [ps.length] = false := by simp [waitB, memB]
      rw [this]
      rfl
    rw [hff]
    simp only
    rw [orderGo]
    show (out' ++ _).filter _ = out
    rw [List.filter_append, h]
    simp
  | succ f ih =>
    intro A B out out' hl hb h
    conv => arg 3; rw [orderGo]
    have hwn : waitB (moreL ps name) (ndP (moreL ps name) ps.length) (A ++ ps.length :: B) = false := by
      rw [nd_new, ← Bool.not_eq_true, waitB_iff]
      rintro ⟨j, _, hj⟩
      cases hj
    cases hf : firstFree (moreL ps name) (A ++ ps.length :: B) with
    | none =>
      have := free_none hf ps.length (by simp)
      rw [hwn] at this
      cases this
    | some j =>
      obtain ⟨hj, hw, hbef⟩ := free_some hf
      simp only
      rw [getD_get _ 0 j hj]
      rcases Nat.lt_trichotomy j A.length with hlt | heq | hgt
      · have ej : (A ++ ps.length :: B)[j] = A[j] := List.getElem_append_left hlt
        have hAj : A[j] ∈ A ++ B := List.mem_append_left _ (List.getElem_mem hlt)
        have hff : firstFree ps (A ++ B) = some j := by
          have e1 : (A ++ B).getD j 0 = A[j] := by rw [getD_get _ 0 j (by rw [List.length_append]; omega), List.getElem_append_left hlt]
          refine firstFree_some (by rw [List.length_append]; omega) (fun i hi => ?_) ?_
          · have e2 : (A ++ B).getD i 0 = A[i] := by rw [getD_get _ 0 i (by rw [List.length_append]; omega), List.getElem_append_left (by omega)]
            have h3 := hbef i hi
            have e3 : (A ++ ps.length :: B)[i]'(by omega) = A[i] := List.getElem_append_left (by omega)
            rw [e3, wait_more ps name hn _ (hb _ (List.mem_append_left _ (List.getElem_mem (by omega)))) A B hb] at h3
            rw [e2]
            exact h3
          · rw [ej, wait_more ps name hn _ (hb _ hAj) A B hb] at hw
            rw [e1]
            exact hw
        rw [orderGo, hff]
        simp only
        rw [ej, getD_get _ 0 j (by rw [List.length_append]; omega), List.getElem_append_left hlt, List.eraseIdx_append_of_lt_length hlt, List.eraseIdx_append_of_lt_length hlt]
        refine ih (A.eraseIdx j) B _ _ ?_ (fun i hi => hb i ?_) ?_
        · rw [List.length_append] at hl ⊢
          rw [List.length_eraseIdx, if_pos hlt]
          omega
        · rcases List.mem_append.1 hi with hi | hi
          · exact List.mem_append_left _ (List.mem_of_mem_eraseIdx hi)
          · exact List.mem_append_right _ hi
        · rw [List.filter_append, h]
          have hx := hb _ hAj
          have : (A[j] != ps.length) = true := by simp; omega
          simp [this]
      · subst heq
        have e1 : (A ++ ps.length :: B)[A.length] = ps.length := by simp
        have e2 : (A ++ ps.length :: B).eraseIdx A.length = A ++ B := by
          rw [List.eraseIdx_append, if_neg (by omega), Nat.sub_self]
          rfl
        rw [e1, e2]
        refine go_same ps name (f + 1) (A ++ B) out _ hl hb ?_
        rw [List.filter_append, h]
        simp
      · have := hbef A.length hgt
        have e1 : (A ++ ps.length :: B)[A.length]'(by omega) = ps.length := by simp
        rw [e1, hwn] at this
        cases this
theorem sort_more (ps : PackL) (name : ByteArray) (hnd : (namesP ps).Nodup) : ∃ A B, sortL (moreL ps name) = A ++ ps.length :: B ∧ A ++ B = sortL ps := by
  have hp := sortL_perm (moreL ps name)
  rw [more_len, List.range_succ] at hp
  have hmem : ps.length ∈ sortL (moreL ps name) := hp.mem_iff.2 (by simp)
  obtain ⟨A, B, e⟩ := List.append_of_mem hmem
  refine ⟨A, B, e, ?_⟩
  rw [e] at hp
  have hp2 : (A ++ B).Perm (List.range ps.length) := List.Perm.cons_inv ((List.perm_middle.symm.trans hp).trans List.perm_append_comm)
  have hlt : ∀ i ∈ A ++ B, i < ps.length := fun i hi => List.mem_range.1 (hp2.mem_iff.1 hi)
  have hs := sortL_sorted (moreL ps name)
  rw [e] at hs
  have hs2 : (A ++ B).Pairwise (fun a b => leP (moreL ps name) a b = true) := hs.sublist (List.Sublist.append_left (List.sublist_cons_self _ _) _)
  have hs3 : (A ++ B).Pairwise (fun a b => leP ps a b = true) := hs2.imp_of_mem (fun {a b} ha hb h => by
    unfold leP at h ⊢
    rwa [nm_lt ps name a (hlt a ha), nm_lt ps name b (hlt b hb)] at h)
  refine List.Perm.eq_of_pairwise (le := fun a b => leP ps a b = true) ?_ hs3 (sortL_sorted ps) (hp2.trans (sortL_perm ps).symm)
  intro a b ha hb h1 h2
  unfold leP at h1 h2
  rw [Bool.not_eq_true'] at h1 h2
  refine distinct_of_nodup hnd a b (hlt a ha) (List.mem_range.1 ((sortL_perm ps).mem_iff.1 hb)) ?_
  rcases bl_tri h1 with h | h
  · rw [h2] at h; cases h
  · exact h.symm
theorem plan_rel (ps : PackL) (name : ByteArray) (hn : NoOne ps name) (hnd : (namesP ps).Nodup) : RelM ps.length (orderGo ps ps.length (sortL ps) []) (orderGo (moreL ps name) (moreL ps name).length (sortL (moreL ps name)) []) := by
  obtain ⟨A, B, e, e2⟩ := sort_more ps name hnd
  have hl := sortL_len ps
  rw [e, ← e2, more_len]
  refine go_more ps name hn ps.length A B [] [] (by rw [e2]; exact hl) (fun i hi => ?_) rfl
  rw [e2] at hi
  exact List.mem_range.1 ((sortL_perm ps).mem_iff.1 hi)

/-! ### the law -/
theorem rd_ints (l : List Nat) (i : Nat) (h : i < l.length) : rd (ints l) (i : Int) = ((l[i] : Nat) : Int) := by
  simp [rd, ints, List.getD_eq_getElem?_getD, h]
theorem ints_len (l : List Nat) : (ints l).length = l.length := by simp [ints]
theorem m_l1 (ps : PackL) (o o' : List Nat) (ho : o'.length = o.length + 1) (hb : o'.length ≤ 1000) (d : Nat) : ∀ (k i j : Nat), o'.length - i = d → i ≤ o'.length → j ≤ o.length → d < k → o.drop j = (o'.drop i).filter (fun x => x != ps.length) →
    plMore.l1 k ps (ints o) (ints o') (j : Int) (i : Int) = some true := by
  have e1 := ints_len o
  have e2 := ints_len o'
  induction d with
  | zero =>
    intro k i j hd hi hj hk he
    obtain ⟨k, rfl⟩ : ∃ m, k = m + 1 := ⟨k - 1, by omega⟩
    rw [List.drop_eq_nil_of_le (by omega : o'.length ≤ i)] at he
    have hj2 : o.length ≤ j := by
      have := congrArg List.length he
      rw [List.length_drop] at this
      simp at this
      omega
    have hw : wrap64 ((o.length : Int) + 1) = ((o.length + 1 : Nat) : Int) := w64 _ (by omega)
    simp only [plMore.l1]
    rw [if_neg (by omega), if_pos (by omega), e1, e2, hw, ho]
    simp
  | succ d ih =>
    intro k i j hd hi hj hk he
    obtain ⟨k, rfl⟩ : ∃ m, k = m + 1 := ⟨k - 1, by omega⟩
    have hlt : i < o'.length := by omega
    rw [List.drop_eq_getElem_cons hlt, List.filter_cons] at he
    simp only [plMore.l1]
    rw [if_pos (by omega), if_pos (by omega), rd_ints o' i hlt, w64 i (by omega)]
    by_cases hx : o'[i] = ps.length
    · rw [if_pos (by omega)]
      rw [if_neg (by simp [hx])] at he
      exact ih k (i + 1) j (by omega) (by omega) hj (by omega) he
    · rw [if_pos (by simpa using hx)] at he
      have hjl : j < o.length := by
        have := congrArg List.length he
        rw [List.length_drop, List.length_cons] at this
        omega
      rw [List.drop_eq_getElem_cons hjl] at he
      have h1 := (List.cons.inj he).1
      have h2 := (List.cons.inj he).2
      rw [if_neg (by omega), if_neg (by omega), if_pos (by omega), if_pos (by omega), rd_ints o j hjl, if_pos (by omega), w64 j (by omega)]
      exact ih k (i + 1) (j + 1) (by omega) (by omega) (by omega) (by omega) h2
theorem m_end (th : List ByteArray) (ps : PackL) (name : ByteArray) (hg : GoodIn th ps) (h8 : ps.length ≤ 8) (hs : name.size ≤ 60) (hn : NoOne ps name) (k : Nat) (hk : 2000 < k) : plMore.l0 (k + 1) th ps name (ps.length : Int) = some true := by
  have hgm : GoodIn th (moreL ps name) := by
    refine ⟨hg.1, by rw [more_len]; omega, fun p hp => ?_⟩
    rcases List.mem_append.1 hp with h | h
    · exact hg.2.2 p h
    · rw [List.mem_singleton.1 h]
      exact ⟨by show name.size ≤ 100; omega, by simp [newP], by simp [newP], fun d hd => by cases hd⟩
  have hom : plan_Order.f k th (ps ++ [(⟨name, 1, ([] : List ByteArray), ([] : List (S68))⟩ : S34)]) = some (orderP th (moreL ps name)) := order_ok th (moreL ps name) hgm k (by omega)
  simp only [plMore.l0]
  rw [if_neg (by omega), order_ok th ps hg k (by omega)]
  simp only [Option.bind_some, List.nil_append]
  rw [if_pos (by show 0 + ps.length < _; omega), if_pos (by omega), hom, Option.bind_some, rclass_ok k name (by omega), Option.bind_some]
  cases hc : classN name
  · rw [if_neg (by simp)]
    rcases first_bad th ps name hc with ⟨h1, h2⟩ | h
    · have e1 : (orderP th ps).2.1 ≠ 0 := by unfold orderP; rw [if_neg h2]; exact h2
      have e2 : (orderP th (moreL ps name)).2.1 ≠ 0 := by unfold orderP; rw [if_neg h1]; exact h1
      rw [if_neg e1, if_neg e2]
    · have e2 : orderP th (moreL ps name) = ([], 2, name) := by unfold orderP; rw [h]; rfl
      rw [e2]
      simp
  · rw [if_pos rfl]
    have hfm := first_more th ps name hn hc
    obtain ⟨k, rfl⟩ : ∃ m, k = m + 1 := ⟨k - 1, by omega⟩
    rcases first_code th ps with ⟨e, hr⟩ | ⟨hcode, _⟩
    · have e1 : orderP th ps = planned ps := by unfold orderP; rw [e, if_pos rfl]
      have e2 : orderP th (moreL ps name) = planned (moreL ps name) := by unfold orderP; rw [hfm, e, if_pos rfl]
      have hrel := plan_rel ps name hn hr.2.1
      rw [e1, e2]
      rcases planned_cases ps with ⟨o, p1, g1, hp1, _⟩ | ⟨x, hx, p1, g1, _⟩
      · rcases planned_cases (moreL ps name) with ⟨o', p2, g2, hp2, _⟩ | ⟨x', hx', p2, g2, _⟩
        · rw [g1, g2] at hrel
          have l1 := hp1.length_eq
          have l2 := hp2.length_eq
          rw [List.length_range] at l1 l2
          rw [more_len] at l2
          rw [p1, p2]
          simp only [plMore.j2]
          exact m_l1 ps o o' (by omega) (by omega) o'.length k 0 0 (by omega) (by omega) (by omega) (by omega) (by simpa using hrel.symm)
        · rw [g1, g2] at hrel
          exact absurd hrel (by simp [RelM])
      · rcases planned_cases (moreL ps name) with ⟨o', p2, g2, hp2, _⟩ | ⟨x', hx', p2, g2, _⟩
        · rw [g1, g2] at hrel
          exact absurd hrel (by simp [RelM])
        · rw [p1, p2]
          simp [plMore.j2]
    · have h0 : (firstP th ps).1 ≠ 0 := by rcases hcode with h | h | h <;> rw [h] <;> decide
      have e1 : orderP th ps = ([], (firstP th ps).1, (firstP th ps).2) := by unfold orderP; rw [if_neg h0]
      have e2 : orderP th (moreL ps name) = ([], (firstP th ps).1, (firstP th ps).2) := by unfold orderP; rw [hfm, if_neg h0]
      rw [e1, e2]
      simp only
      rw [if_pos trivial]
      have : ((firstP th ps).1 != 0) = true := by simpa using h0
      rw [this]
      simp [plMore.j2]
theorem m_l0 (th : List ByteArray) (ps : PackL) (name : ByteArray) (hg : GoodIn th ps) (h8 : ps.length ≤ 8) (hs : name.size ≤ 60) (d : Nat) : ∀ (k i : Nat), ps.length - i = d → i ≤ ps.length → 3000 + d < k → (∀ j, (hj : j < ps.length) → j < i → ps[j].f0 ≠ name ∧ ¬ name ∈ ps[j].f2) →
    plMore.l0 k th ps name (i : Int) = some true := by
  induction d with
  | zero =>
    intro k i hd hi hk h0
    obtain ⟨k, rfl⟩ : ∃ m, k = m + 1 := ⟨k - 1, by omega⟩
    obtain rfl : i = ps.length := by omega
    exact m_end th ps name hg h8 hs (fun p hp => by obtain ⟨j, hj, rfl⟩ := List.mem_iff_getElem.1 hp; exact h0 j hj hj) k (by omega)
  | succ d ih =>
    intro k i hd hi hk h0
    obtain ⟨k, rfl⟩ : ∃ m, k = m + 1 := ⟨k - 1, by omega⟩
    have hlt : i < ps.length := by omega
    have h30 := (hg.2.2 _ (List.getElem_mem hlt)).needs
    simp only [plMore.l0]
    rw [if_pos (by omega), if_pos (by omega), rdP_at ps i hlt, rin_ok _ _ _ (by omega) (by omega), w64 i (by omega)]
    by_cases e : ps[i].f0 = name
    · rw [if_pos (by rw [e])]
    · rw [if_neg (fun h => e (tl_inj.1 h)), Option.bind_some]
      cases hm : memB ps[i].f2 name
      · rw [if_neg (by simp)]
        refine ih k (i + 1) (by omega) (by omega) (by omega) (fun j hj hji => ?_)
        by_cases e2 : j = i
        · subst e2
          exact ⟨e, fun h => by rw [(memB_iff _ _).2 h] at hm; cases hm⟩
        · exact h0 j hj (by omega)
      · rw [if_pos rfl]
theorem more_law (th : List ByteArray) (ps : PackL) (name : ByteArray) (k : Nat) (hk : 19999 < k) : plMore.f k th ps name = some true := by
  have hno : ∀ x, x = true ∨ (GoodIn th ps ∧ ps.length ≤ 8 ∧ name.size ≤ 60) → plMore.j0 k th ps name x = some true := by
    intro x hx
    obtain ⟨k, rfl⟩ : ∃ m, k = m + 1 := ⟨k - 1, by omega⟩
    simp only [plMore.j0]
    cases x
    · obtain ⟨hg, h8, hs⟩ := hx.resolve_left (by simp)
      rw [if_neg (by simp)]
      exact m_l0 th ps name hg h8 hs ps.length k 0 (by omega) (by omega) (by omega) (fun j hj h => absurd h (Nat.not_lt_zero _))
    · rw [if_pos rfl, awake_ok k (by omega)]
      rfl
  unfold plMore.f
  rw [awake_ok k (by omega), Option.bind_some, if_pos rfl]
  obtain ⟨b, hb, hq⟩ := lfew_ok th k (by omega)
  rw [hb, Option.bind_some]
  cases b
  · exact hno _ (.inl rfl)
  · obtain ⟨b', hb', hq'⟩ := few28_ok ps 7 k (by omega) (by omega)
    have hb2 : monticuleref28_Few.f k ps 7 = some b' := hb'
    rw [if_pos rfl, hb2, Option.bind_some]
    cases b'
    · exact hno _ (.inl rfl)
    · have h8 := hq' rfl
      have h20 := hq rfl
      rw [if_pos rfl]
      by_cases hs : (name.size : Int) > 60
      · rw [decide_eq_true hs]
        exact hno _ (.inl rfl)
      · exact hno _ (.inr ⟨⟨by unfold fewN at h20; omega, by have := h8.1; omega, h8.2⟩, by have := h8.1; omega, by omega⟩)
end Go.Proofs.YtllgcnckaodjkaaDoor.Q
