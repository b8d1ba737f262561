/- Plain law: how many names a keyword selector has: cut first and ask then (the program), and ask while going (the reference), come to the same. -/
import Derived.Test.YtoiaancehakiiaaDoorMRKw
import Derived.Test.YtoiaancehakiiaaDoorMKw
namespace Go.Proofs.YtoiaancehakiiaaDoor.Q
open Go.RowKit Go.Proofs.YtoiaancehakiiaaDoor.Plain Go.Proofs.YtoiaancehakiiaaDoorW.PrintWords Go.Lib

/-- the pieces, each with its colon; the last one has none -/
def pl : List UInt8 → List UInt8 → List (List UInt8)
  | cur, [] => [cur]
  | cur, c :: r => if c = 58 then (cur ++ [58]) :: pl [] r else pl (cur ++ [c]) r
theorem pl_nil (cur : List UInt8) : pl cur [] = [cur] := rfl
theorem pl_cons (cur : List UInt8) (c : UInt8) (r : List UInt8) : pl cur (c :: r) = if c = 58 then (cur ++ [58]) :: pl [] r else pl (cur ++ [c]) r := rfl
theorem pl_pos : ∀ (r cur : List UInt8), 1 ≤ (pl cur r).length
  | [], cur => by simp [pl]
  | c :: r, cur => by
    unfold pl
    split
    · simp
    · exact pl_pos r _
theorem pl_skip : ∀ (a r cur : List UInt8), (∀ c ∈ a, c ≠ 58) → pl cur (a ++ r) = pl (cur ++ a) r
  | [], r, cur, _ => by simp
  | c :: a, r, cur, h => by
    rw [List.cons_append]
    rw [pl_cons, if_neg (h c (by simp))]
    rw [pl_skip a r (cur ++ [c]) (fun x hx => h x (by simp [hx]))]
    simp

/-- the reference's way -/
def gl : List UInt8 → List UInt8 → Nat → Nat
  | cur, [], n => if cur = [] ∧ n ≤ 10 then n else 0
  | cur, c :: r, n => if c ≠ 58 then gl (cur ++ [c]) r n else if isLower cur = true then gl [] r (n + 1) else 0
theorem gl_nil (cur : List UInt8) (n : Nat) : gl cur [] n = if cur = [] ∧ n ≤ 10 then n else 0 := rfl
theorem gl_cons (cur : List UInt8) (c : UInt8) (r : List UInt8) (n : Nat) : gl cur (c :: r) n = if c ≠ 58 then gl (cur ++ [c]) r n else if isLower cur = true then gl [] r (n + 1) else 0 := rfl
theorem trim_colon (cur : List UInt8) : trimSuffix (cur ++ [58]) [58] = cur := by
  unfold trimSuffix hasSuffix
  rw [if_pos (by rw [List.isSuffixOf_iff_suffix]; exact List.suffix_append _ _)]
  simp
def goodP (p : List UInt8) : Bool := isLower (trimSuffix p [58])
theorem gl_pl : ∀ (r cur : List UInt8) (n : Nat), gl cur r n = if (pl cur r).dropLast.all goodP = true ∧ (pl cur r).getLastD [] = [] ∧ n + ((pl cur r).length - 1) ≤ 10 then n + ((pl cur r).length - 1) else 0
  | [], cur, n => by simp [gl, pl]
  | c :: r, cur, n => by
    rw [gl_cons, pl_cons]
    by_cases h : c = 58
    · rw [if_neg (by simp [h]), if_pos h]
      have hp := pl_pos r []
      have hne : pl [] r ≠ [] := by
        intro e
        rw [e] at hp
        simp at hp
      rw [List.dropLast_cons_of_ne_nil hne, List.all_cons, List.length_cons]
      have hlast : ((cur ++ [58]) :: pl [] r).getLastD [] = (pl [] r).getLastD [] := by
        cases hq : pl [] r with
        | nil => exact absurd hq hne
        | cons x xs => simp [List.getLastD]
      rw [hlast, show goodP (cur ++ [58]) = isLower cur from by unfold goodP; rw [trim_colon]]
      cases hl : isLower cur
      · simp
      · rw [if_pos rfl, gl_pl r [] (n + 1)]
        have e : n + 1 + ((pl [] r).length - 1) = n + ((pl [] r).length + 1 - 1) := by omega
        rw [e]
        simp
    · rw [if_pos h, if_neg h]
      exact gl_pl r (cur ++ [c]) n

theorem kwGo_gl (s : ByteArray) : ∀ (d f i : Nat) (out : List ByteArray), s.size - i = d → i ≤ s.size → f ≤ i → (kwGo s d f i out).length = gl ((s.data.toList.drop f).take (i - f)) (s.data.toList.drop i) out.length
  | 0, f, i, out, hd, hi, hf => by
    obtain rfl : i = s.size := by omega
    have hl := list_len s
    rw [List.drop_of_length_le (i := s.size) (by omega), gl_nil]
    unfold kwGo
    have hc : ((s.data.toList.drop f).take (s.size - f) = []) ↔ f = s.size := by
      rw [← List.length_eq_zero_iff, List.length_take, List.length_drop, hl]
      omega
    by_cases h : f = s.size ∧ out.length ≤ 10
    · rw [if_pos h, if_pos ⟨hc.2 h.1, h.2⟩]
    · rw [if_neg h, if_neg (fun h2 => h ⟨hc.1 h2.1, h2.2⟩)]
      rfl
  | d + 1, f, i, out, hd, hi, hf => by
    have hl := list_len s
    have hlt : i < s.data.toList.length := by omega
    rw [List.drop_eq_getElem_cons hlt, gl_cons]
    unfold kwGo
    have hg : s.data.toList.getD i 0 = s.data.toList[i]'hlt := by rw [List.getD_eq_getElem?_getD, List.getElem?_eq_getElem hlt]; rfl
    have he : (s.extract f i).data.toList = (s.data.toList.drop f).take (i - f) := by rw [extract_data]
    have hn : (s.data.toList.drop f).take (i + 1 - f) = (s.data.toList.drop f).take (i - f) ++ [s.data.toList[i]'hlt] := by
      rw [show i + 1 - f = (i - f) + 1 from by omega, List.take_succ_eq_append_getElem (by rw [List.length_drop]; omega)]
      congr 2
      rw [List.getElem_drop]
      congr 1
      omega
    rw [hg, he]
    by_cases h : s.data.toList[i]'hlt ≠ 58
    · rw [if_pos h, if_pos h, kwGo_gl s d f (i + 1) out (by omega) (by omega) (by omega), hn]
    · rw [if_neg h, if_neg h]
      split
      · rw [kwGo_gl s d (i + 1) (i + 1) _ (by omega) (by omega) (by omega), List.length_append, Nat.sub_self, List.take_zero]
        rfl
      · rfl
theorem kwR_length (s : ByteArray) : (kwR s).length = gl [] s.data.toList 0 := by
  have := kwGo_gl s s.size 0 0 [] (by omega) (by omega) (by omega)
  simpa [kwR] using this

theorem indexByte_at : ∀ (a b : List UInt8), (∀ c ∈ a, c ≠ 58) → indexByte (a ++ 58 :: b) 58 = a.length
  | [], b, _ => by simp [indexByte]
  | c :: a, b, h => by
    have h1 : c ≠ 58 := h c (by simp)
    have ih := indexByte_at a b (fun x hx => h x (by simp [hx]))
    rw [List.cons_append]
    unfold indexByte
    rw [if_neg (by simpa using h1), ih, if_neg (by simp), List.length_cons]
    omega
theorem first_colon : ∀ (l : List UInt8), 58 ∈ l → ∃ a b, l = a ++ 58 :: b ∧ ∀ c ∈ a, c ≠ 58
  | [], h => by cases h
  | c :: l, h => by
    by_cases e : c = 58
    · exact ⟨[], l, by simp [e], by simp⟩
    · rcases List.mem_cons.1 h with h | h
      · exact absurd h.symm e
      · obtain ⟨a, b, rfl, hab⟩ := first_colon l h
        exact ⟨c :: a, b, rfl, fun x hx => by
          rcases List.mem_cons.1 hx with hx | hx
          · rw [hx]; exact e
          · exact hab x hx⟩
theorem splitK_pl : ∀ (k : Nat) (l : List UInt8), l.count 58 = k → splitK [58] 1 k l = pl [] l
  | 0, l, h => by
    have hn : ∀ c ∈ l, c ≠ 58 := fun c hc e => by
      subst e
      exact absurd h (Nat.ne_of_gt (List.count_pos_iff.2 hc))
    have := pl_skip l [] [] hn
    rw [List.append_nil, List.nil_append] at this
    rw [this]
    rfl
  | k + 1, l, h => by
    have hm : 58 ∈ l := List.count_pos_iff.1 (by omega)
    obtain ⟨a, b, rfl, ha⟩ := first_colon l hm
    have hca : a.count 58 = 0 := List.count_eq_zero.2 (fun hc => ha 58 hc rfl)
    rw [List.count_append, hca, Nat.zero_add, List.count_cons_self] at h
    rw [pl_skip a (58 :: b) [] ha, List.nil_append, pl_cons, if_pos rfl, ← splitK_pl k b (by omega)]
    rw [splitK, index_one, indexByte_at a b ha, if_neg (by simp)]
    have e1 : (a ++ 58 :: b).take (a.length + 1) = a ++ [58] := by
      rw [List.take_append, List.take_of_length_le (by omega)]
      simp
    have e2 : (a ++ 58 :: b).drop (a.length + 1) = b := by
      rw [List.drop_append]
      simp
    simp only [Int.toNat_natCast, List.length_singleton, e1, e2]
theorem pieces_pl (s : ByteArray) : (pieces s).map (·.data.toList) = pl [] s.data.toList := by
  unfold pieces
  rw [splitB_data]
  exact splitK_pl _ _ (count_one 58 s.data.toList).symm

theorem kwN_length (s : ByteArray) : kwN s = (kwR s).length := by
  rw [kwR_length, gl_pl, ← pieces_pl]
  unfold kwN
  generalize pieces s = P
  have hbad : ∀ Q : List ByteArray, Q.any badPiece = !(Q.map (·.data.toList)).all goodP := by
    intro Q
    induction Q with
    | nil => rfl
    | cons x xs ih =>
      rw [List.any_cons, List.map_cons, List.all_cons, ih]
      simp only [badPiece, goodP]
      rw [Bool.not_and]
  have hd : (P.map (·.data.toList)).dropLast = (P.take (P.length - 1)).map (·.data.toList) := by
    rw [List.dropLast_eq_take, List.map_take, List.length_map]
  rw [hd, List.length_map, Nat.zero_add]
  have hb := hbad (P.take (P.length - 1))
  by_cases h0 : P.length < 2
  · rw [if_pos (.inl h0)]
    split
    · omega
    · rfl
  by_cases h1 : P.length > 11
  · rw [if_pos (.inr h1), if_neg (by omega)]
  rw [if_neg (by omega)]
  have hlast : ((P.map (·.data.toList)).getLastD [] = []) ↔ P.getD (P.length - 1) ByteArray.empty = ByteArray.empty := by
    have hlt : P.length - 1 < P.length := by omega
    rw [List.getLastD_eq_getLast?, List.getLast?_eq_getElem?, List.length_map, List.getElem?_map, List.getD_eq_getElem?_getD, List.getElem?_eq_getElem hlt]
    simp only [Option.map_some, Option.getD_some]
    exact ⟨fun h => ByteArray.ext (Array.toList_inj.1 h), fun h => by rw [h]; rfl⟩
  by_cases h2 : P.getD (P.length - 1) ByteArray.empty = ByteArray.empty
  · rw [if_neg (fun h => h h2)]
    cases hq : ((P.take (P.length - 1)).map (·.data.toList)).all goodP
    · rw [hq] at hb
      rw [hb, if_pos (by rfl), if_neg (by simp)]
    · rw [hq] at hb
      rw [hb, if_neg (by simp), if_pos ⟨rfl, hlast.2 h2, by omega⟩]
  · rw [if_pos h2, if_neg (fun h => h2 (hlast.1 h.2.1))]
end Go.Proofs.YtoiaancehakiiaaDoor.Q
