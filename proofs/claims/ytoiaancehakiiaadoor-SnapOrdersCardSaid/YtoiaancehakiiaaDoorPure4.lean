/- Plain law: which definitions are right, and their keys: the program's answer and the reference's are one function. -/
import Derived.Test.YtoiaancehakiiaaDoorPure3
import Derived.Test.YtoiaancehakiiaaDoorQ4
namespace Go.Proofs.YtoiaancehakiiaaDoor.Q
open Go.RowKit Go.Proofs.YtoiaancehakiiaaDoor.Plain Go.Proofs.YtoiaancehakiiaaDoorW.PrintWords Go.Lib

theorem dropWhile_all (p : UInt8 → Bool) : ∀ l : List UInt8, (∀ x ∈ l.dropWhile p, p x = true) → ∀ x ∈ l, p x = true
  | [], _, x, hx => by cases hx
  | a :: l, h, x, hx => by
    rw [List.dropWhile_cons] at h
    cases ha : p a
    · rw [ha, if_neg (by simp)] at h
      have := h a (by simp)
      rw [ha] at this
      exact absurd this (by simp)
    · rw [ha, if_pos rfl] at h
      rcases List.mem_cons.1 hx with e | hx
      · rw [e]; exact ha
      · exact dropWhile_all p l h x hx
theorem dropWhile_nil (p : UInt8 → Bool) (l : List UInt8) : l.dropWhile p = [] ↔ ∀ x ∈ l, p x = true := by
  constructor
  · intro h
    exact dropWhile_all p l (by rw [h]; intro x hx; cases hx)
  · intro h
    induction l with
    | nil => rfl
    | cons a l ih =>
      rw [List.dropWhile_cons, h a (by simp), if_pos rfl]
      exact ih (fun x hx => h x (by simp [hx]))
theorem len_zero (l : List ByteArray) : ((l.length : Int) == 0) = decide (l.length = 0) := by
  rw [Bool.eq_iff_iff, beq_iff_eq, decide_eq_true_eq]
  omega
theorem trimS_nil (l cs : List UInt8) : trimS l cs = [] ↔ ∀ x ∈ l, cs.contains x = true := by
  unfold trimS trimLeftS trimRightS
  rw [dropWhile_nil]
  constructor
  · intro h x hx
    exact dropWhile_all (cs.contains ·) l.reverse (fun y hy => h y (List.mem_reverse.2 hy)) x (List.mem_reverse.2 hx)
  · intro h x hx
    exact h x (List.mem_reverse.1 ((List.dropWhile_suffix (cs.contains ·)).subset (List.mem_reverse.1 hx)))
def allBin (s : ByteArray) (i : Nat) : Bool := (s.data.toList.take i).all (bins.contains ·)
theorem isBin_all (s : ByteArray) : isBin s.data.toList = ((decide (s.size = 1) || decide (s.size = 2)) && allBin s s.size) := by
  unfold isBin allBin
  rw [list_len, List.take_of_length_le (by rw [list_len]; omega)]
  congr 1
  rw [Bool.eq_iff_iff, decide_eq_true_eq, trimS_nil, List.all_eq_true]
def binsL : List ByteArray := bins.map fun b => ⟨#[b]⟩
theorem mem_bins (x : ByteArray) (c : UInt8) (h : x.data.toList = [c]) : memB binsL x = bins.contains c := by
  unfold memB binsL
  rw [h, List.any_map]
  rw [List.contains_eq_any_beq]
  congr 1
  funext b
  show ([b] == [c]) = (c == b)
  rw [Bool.eq_iff_iff, beq_iff_eq, beq_iff_eq]
  constructor
  · intro e
    injection e with e
    exact e.symm
  · intro e
    rw [e]
theorem allBin_succ (s : ByteArray) (i : Nat) (h : i < s.size) : allBin s (i + 1) = (allBin s i && memB binsL (s.extract i (i + 1))) := by
  have hl : i < s.data.toList.length := by rw [list_len]; exact h
  rw [mem_bins _ (s.data.toList[i]'hl) (by
    rw [extract_data, show i + 1 - i = 1 from by omega, List.drop_eq_getElem_cons hl]
    rfl)]
  unfold allBin
  rw [List.take_succ_eq_append_getElem hl, List.all_append]
  simp

theorem kw_ok (s : ByteArray) (h : s.size < 8796093022208) : monticuleref06_Keywords.f s = some (kwR s) := by
  unfold monticuleref06_Keywords.f
  rw [if_pos h]
theorem rkind_end (s : ByteArray) (h : s.size < 8796093022208) : ((monticuleref06_Keywords.f s).bind fun t => (if (t.length : Int) > 0 then (some (3 : Int)) else (some 0))) = some (if 0 < kwN s then 3 else 0) := by
  rw [kw_ok s h, kwN_length]
  simp only [Option.bind_some]
  by_cases e : 0 < (kwR s).length
  · rw [if_pos (by omega), if_pos e]
  · rw [if_neg (by omega), if_neg e]
theorem rkind_l0 (s : ByteArray) (hs : s.size ≤ 2) (d : Nat) : ∀ (k i : Nat), s.size - i = d → i ≤ s.size → d + 13 < k →
    monticuleref06_Kind.l0 k s (allBin s i) (i : Int) = some (if allBin s s.size = true then 2 else if 0 < kwN s then 3 else 0) := by
  induction d with
  | zero =>
    intro k i hd hi hk
    obtain ⟨k, rfl⟩ : ∃ m, k = m + 1 := ⟨k - 1, by omega⟩
    obtain rfl : i = s.size := by omega
    simp only [monticuleref06_Kind.l0]
    rw [if_neg (by omega)]
    by_cases e : allBin s s.size = true
    · rw [if_pos e, if_pos e]
    · rw [if_neg e, if_neg e]
      exact rkind_end s (by omega)
  | succ d ih =>
    intro k i hd hi hk
    obtain ⟨k, rfl⟩ : ∃ m, k = m + 1 := ⟨k - 1, by omega⟩
    simp only [monticuleref06_Kind.l0]
    rw [if_pos (by omega), w64 i (by omega)]
    have hn := ih k (i + 1) (by omega) (by omega) (by omega)
    rw [allBin_succ s i (by omega)] at hn
    cases e : allBin s i
    · rw [e, Bool.false_and] at hn
      rw [if_neg (by simp)]
      exact hn
    · rw [e, Bool.true_and] at hn
      rw [if_pos rfl, if_pos (by omega), if_pos (by omega), if_pos (by omega)]
      have hin := rin_ok k binsL (s.extract i (i + 1)) (by decide) (by simp [binsL, bins]; omega)
      simp only [Int.toNat_natCast]
      exact (congrArg (fun z => z.bind fun t => monticuleref06_Kind.l0 k s t ((i + 1 : Nat) : Int)) hin).trans hn
theorem rkind_ok (k : Nat) (s : ByteArray) (hs : s.size < 8796093022208) (hk : 60 < k) : monticuleref06_Kind.f k s = some (kindOf s) := by
  obtain ⟨k, rfl⟩ : ∃ m, k = m + 2 := ⟨k - 2, by omega⟩
  have hj1 : monticuleref06_Kind.j0 (k + 2) s false = some (if isBin s.data.toList = true then 2 else if 0 < kwN s then 3 else 0) := by
    simp only [monticuleref06_Kind.j0, Bool.false_eq_true, if_false]
    rw [isBin_all]
    by_cases h1 : s.size = 1
    · have hl := rkind_l0 s (by omega) s.size k 0 (by omega) (by omega) (by omega)
      rw [if_pos (by omega)]
      simp only [monticuleref06_Kind.j1, if_true]
      rw [show allBin s 0 = true from rfl] at hl
      simp only [h1, decide_true, Bool.true_or, Bool.true_and]
      rw [h1] at hl
      exact hl
    · rw [if_neg (by omega)]
      by_cases h2 : s.size = 2
      · have hl := rkind_l0 s (by omega) s.size k 0 (by omega) (by omega) (by omega)
        rw [show ((s.size : Int) == 2) = true from by rw [h2]; rfl]
        simp only [monticuleref06_Kind.j1, if_true]
        rw [show allBin s 0 = true from rfl] at hl
        simp only [h2, decide_true, Bool.or_true, Bool.true_and]
        rw [h2] at hl
        exact hl
      · rw [show ((s.size : Int) == 2) = false from by rw [beq_eq_false_iff_ne]; omega]
        simp only [monticuleref06_Kind.j1, Bool.false_eq_true, if_false]
        rw [rkind_end s hs]
        simp [h1, h2]
  have hfin : kindOf s = if isLower s.data.toList = true then 1 else (if isBin s.data.toList = true then 2 else if 0 < kwN s then 3 else 0) := rfl
  unfold monticuleref06_Kind.f
  rw [ris_ok _ s (by omega), hfin]
  unfold isLower
  cases h : isName s.data.toList
  · simp only [Option.bind_some, Bool.false_eq_true, if_false, Bool.false_and]
    exact hj1
  · have hp := isName_pos s h
    simp only [Option.bind_some, if_true, Bool.true_and]
    rw [if_pos (by omega), show (0 : Int) = ((0 : Nat) : Int) from rfl, bt_byte s 0 hp, rsmall_f]
    cases hsm : smallB (s.data.toList.getD 0 0)
    · simp only [Option.bind_some, Bool.false_eq_true, if_false]
      exact hj1
    · simp [monticuleref06_Kind.j0]

/-! ### definitions -/
structure DefV where
  kind : Int
  cls : ByteArray
  sup : ByteArray
  vars : List ByteArray
  sel : ByteArray
  src : ByteArray
def rightD (d : DefV) : Bool :=
  if d.kind = 1 then classN d.cls && (!memB alwaysL d.cls && (classN d.sup && (varsN d.vars && (decide (d.sel = ByteArray.empty) && decide (d.src = ByteArray.empty)))))
  else if d.kind = 2 then classN d.cls && (decide (kindOf d.sel ≠ 0) && (decide (d.src.size ≤ 4000) && (decide (d.sup = ByteArray.empty) && decide (d.vars.length = 0))))
  else false
def arrowB : ByteArray := ⟨#[62, 62]⟩
def keyD (d : DefV) : ByteArray := if rightD d = true then (if d.kind = 1 then d.cls else d.cls ++ arrowB ++ d.sel) else ByteArray.empty
theorem kind_ok (s : ByteArray) (h : s.size < 4294967281) : name_Kind.f s = some (kindOf s) := by
  unfold name_Kind.f
  rw [if_pos h]
theorem kindOf_ge (s : ByteArray) : kindOf s = 0 ∨ 0 < kindOf s := by
  unfold kindOf
  split
  · exact .inr (by decide)
  split
  · exact .inr (by decide)
  split
  · exact .inr (by decide)
  · exact .inl rfl
theorem right_ok (k : Nat) (d : DefV) (h : d.sel.size < 4294967281) (hk : 60 < k) : def_Right.f k d.kind d.cls d.sup d.vars d.sel d.src = some (rightD d) := by
  unfold def_Right.f rightD def_vars.f
  by_cases h1 : d.kind = 1
  · rw [if_pos h1, if_pos h1, class_ok, class_ok, always_ok k _ (by omega)]
    cases classN d.cls
    · rfl
    · cases memB alwaysL d.cls
      · cases classN d.sup
        · rfl
        · cases varsN d.vars
          · rfl
          · simp only [Option.bind_some, if_true, Bool.false_eq_true, if_false, Bool.true_and, Bool.not_false]
            by_cases e : d.sel = ByteArray.empty
            · rw [if_pos (tl_nil.2 e), tl_beq_nil]
              simp [e]
            · rw [if_neg (fun h => e (tl_nil.1 h))]
              simp [e]
      · rfl
  · rw [if_neg h1, if_neg h1]
    by_cases h2 : d.kind = 2
    · rw [if_pos h2, if_pos h2, class_ok, kind_ok _ h]
      cases classN d.cls
      · rfl
      · simp only [Option.bind_some, if_true, Bool.true_and]
        by_cases e : kindOf d.sel = 0
        · rw [if_pos e]
          simp [e]
        · rw [if_neg e]
          by_cases e2 : d.src.size ≤ 4000
          · rw [if_pos (by omega)]
            by_cases e3 : d.sup = ByteArray.empty
            · rw [if_pos (tl_nil.2 e3), len_zero]
              simp [e, e2, e3]
            · rw [if_neg (fun h => e3 (tl_nil.1 h))]
              simp [e3]
          · rw [if_neg (by omega)]
            simp [e2]
    · rw [if_neg h2, if_neg h2]

theorem rright_l0 (D : DefV) (hl : D.vars.length ≤ 9223372036854775807) (hc : classN D.cls = true) (h1 : D.kind = 1) (d : Nat) : ∀ (k i : Nat), D.vars.length - i = d → i ≤ D.vars.length → d + D.vars.length + 60 < k → (∀ j, j < i → varAt D.vars j = true) →
    monticuleref07_Right.l0 k (i : Int) D.kind D.cls D.sup D.vars D.sel D.src = some (rightD D) := by
  have hR : rightD D = (!memB alwaysL D.cls && (classN D.sup && (varsN D.vars && (decide (D.sel = ByteArray.empty) && decide (D.src = ByteArray.empty))))) := by
    unfold rightD
    rw [if_pos h1, hc, Bool.true_and]
  rw [hR]
  induction d with
  | zero =>
    intro k i hd hi hk hn
    obtain ⟨k, rfl⟩ : ∃ m, k = m + 1 := ⟨k - 1, by omega⟩
    simp only [monticuleref07_Right.l0]
    rw [if_neg (by omega), ralways_ok k _ (by omega), varsN_all _ (fun j hj => hn j (by omega)), rclass_ok k _ (by omega)]
    cases memB alwaysL D.cls
    · cases classN D.sup
      · rfl
      · simp only [Option.bind_some, if_true, Bool.false_eq_true, if_false, Bool.true_and, Bool.not_false]
        by_cases e0 : D.vars.length ≤ 20
        · rw [if_pos (by omega)]
          by_cases e : D.sel = ByteArray.empty
          · rw [if_pos (tl_nil.2 e), tl_beq_nil]
            simp [e, e0]
          · rw [if_neg (fun h => e (tl_nil.1 h))]
            simp [e]
        · rw [if_neg (by omega)]
          simp [e0]
    · rfl
  | succ d ih =>
    intro k i hd hi hk hn
    obtain ⟨k, rfl⟩ : ∃ m, k = m + 1 := ⟨k - 1, by omega⟩
    simp only [monticuleref07_Right.l0]
    rw [if_pos (by omega), if_pos (by omega), rdOf_nat, rvar_ok k _ (by omega)]
    have hva : varAt D.vars i = (varN (D.vars.getD i ByteArray.empty) && !memB (D.vars.take i) (D.vars.getD i ByteArray.empty)) := rfl
    have bad : varAt D.vars i = false → some false = some (!memB alwaysL D.cls && (classN D.sup && (varsN D.vars && (decide (D.sel = ByteArray.empty) && decide (D.src = ByteArray.empty))))) := fun hb => by
      rw [varsN_bad _ i (by omega) hb]
      simp
    cases hv : varN (D.vars.getD i ByteArray.empty)
    · rw [hv, Bool.false_and] at hva
      exact bad hva
    · simp only [Option.bind_some, if_true, Int.toNat_natCast]
      have hlt : (D.vars.take i).length ≤ D.vars.length := by rw [List.length_take]; omega
      rw [if_pos (by omega), rin_ok k _ _ (by omega) (by omega)]
      cases hm : memB (D.vars.take i) (D.vars.getD i ByteArray.empty)
      · rw [hv, hm] at hva
        simp only [Option.bind_some, Bool.false_eq_true, if_false]
        rw [w64 i (by omega)]
        exact ih k (i + 1) (by omega) (by omega) (by omega) (fun j hj => by
          by_cases e : j = i
          · subst e; exact hva
          · exact hn j (by omega))
      · rw [hv, hm] at hva
        exact bad hva
theorem rright_ok (k : Nat) (D : DefV) (hl : D.vars.length ≤ 9223372036854775807) (hs : D.sel.size < 4294967281) (hk : 2 * D.vars.length + 61 < k) : monticuleref07_Right.f k D.kind D.cls D.sup D.vars D.sel D.src = some (rightD D) := by
  unfold monticuleref07_Right.f
  rw [rclass_ok k _ (by omega)]
  cases hc : classN D.cls
  · simp only [Option.bind_some, Bool.false_eq_true, if_false]
    unfold rightD
    rw [hc]
    split
    · rfl
    · split <;> rfl
  · simp only [Option.bind_some, if_true]
    by_cases h1 : D.kind = 1
    · rw [if_pos h1]
      exact rright_l0 D hl hc h1 D.vars.length k 0 (by omega) (by omega) (by omega) (fun j hj => by omega)
    · rw [if_neg h1]
      unfold rightD
      rw [if_neg h1]
      by_cases h2 : D.kind = 2
      · rw [if_pos h2, if_pos h2, hc, rkind_ok k _ (by omega) (by omega), Bool.true_and]
        simp only [Option.bind_some]
        by_cases e : kindOf D.sel = 0
        · rw [if_neg (by omega)]
          simp [e]
        · have := kindOf_ge D.sel
          rw [if_pos (by omega)]
          by_cases e2 : D.src.size ≤ 4000
          · rw [if_pos (by omega)]
            by_cases e3 : D.sup = ByteArray.empty
            · rw [if_pos (tl_nil.2 e3), len_zero]
              simp [e, e2, e3]
            · rw [if_neg (fun h => e3 (tl_nil.1 h))]
              simp [e3]
          · rw [if_neg (by omega)]
            simp [e2]
      · rw [if_neg h2, if_neg h2]
theorem key_ok (k : Nat) (d : DefV) (h : d.sel.size < 4294967281) (hc : d.cls.size ≤ 4294967296) (hk : 60 < k) : def_Key.f k d.kind d.cls d.sup d.vars d.sel d.src = some (keyD d) := by
  unfold def_Key.f keyD
  rw [right_ok k d h hk]
  cases rightD d
  · rfl
  · simp only [Option.bind_some, if_true]
    by_cases h1 : d.kind = 1
    · rw [if_pos h1, if_pos h1]
    · rw [if_neg h1, if_neg h1, if_pos (by omega), if_pos (by
        rw [ByteArray.size_append]
        have : (⟨#[62, 62]⟩ : ByteArray).size = 2 := rfl
        omega)]
      rfl
theorem rkey_ok (k : Nat) (d : DefV) (hl : d.vars.length ≤ 9223372036854775807) (h : d.sel.size < 4294967281) (hc : d.cls.size ≤ 4294967296) (hk : 2 * d.vars.length + 61 < k) : monticuleref07_Key.f k d.kind d.cls d.sup d.vars d.sel d.src = some (keyD d) := by
  unfold monticuleref07_Key.f keyD
  rw [rright_ok k d hl h hk]
  cases rightD d
  · rfl
  · simp only [Option.bind_some, if_true]
    by_cases h1 : d.kind = 1
    · rw [if_pos h1, if_pos h1]
    · rw [if_neg h1, if_neg h1, if_pos (by omega), if_pos (by
        rw [ByteArray.size_append]
        have : (⟨#[62, 62]⟩ : ByteArray).size = 2 := rfl
        omega)]
      rfl
end Go.Proofs.YtoiaancehakiiaaDoor.Q
