/- The walks of strings.SplitAfter at ":", name.keywords and name.Kind, by hand: for every string shorter than 4294967281 bytes. -/
import Derived.Test.YtllgcnckaodjkaaDoorMKind
namespace Go.Proofs.YtllgcnckaodjkaaDoor.Q
open Go.RowKit Go.Proofs.YtllgcnckaodjkaaDoor.Plain Go.Proofs.YtllgcnckaodjkaaDoorW.PrintWords Go.Shelf Go.Lib

def colon : ByteArray := ⟨#[58]⟩
def pieces (s : ByteArray) : List ByteArray := splitB colon 1 (countB s colon) s
theorem pieces_len (s : ByteArray) : (pieces s).length = countB s colon + 1 := splitB_all colon (by decide) 1 _ s rfl
theorem pieces_le (s : ByteArray) : (pieces s).length ≤ s.size + 1 := by
  have := countB_le colon (by decide) s.size s (Nat.le_refl _)
  rw [pieces_len]
  omega
theorem splitB_size (sep : ByteArray) (save : Nat) : ∀ (k : Nat) (s x : ByteArray), x ∈ splitB sep save k s → x.size ≤ s.size
  | 0, s, x => by
    intro h
    simp only [splitB_zero, List.mem_singleton] at h
    rw [h]
    exact Nat.le_refl _
  | k + 1, s, x => by
    intro h
    unfold splitB at h
    split at h
    · simp only [List.mem_singleton] at h
      rw [h]
      exact Nat.le_refl _
    · rcases List.mem_cons.1 h with h | h
      · rw [h, ByteArray.size_extract]
        omega
      · have := splitB_size sep save k _ x h
        rw [ByteArray.size_extract] at this
        omega
theorem pieces_size (s x : ByteArray) (h : x ∈ pieces s) : x.size ≤ s.size := splitB_size _ _ _ _ _ h

def SplitPost (w : World) (l : List ByteArray) (e : Ending) (w' : World) : Prop :=
  ∃ A c, e = .returned (.slice A l.length c) ∧ l.length ≤ c ∧ Kd.C Kd.string w' A l.length l ∧ Below w.heap.size w w'

theorem splitAfter_calls (s : ByteArray) (w : World) (hs : s.size < 4294967281) :
    Calls Tryd.prog 79 #[.string s, .string colon] w (SplitPost w (pieces s)) := by
  have hcon := Any.strings_genSplit_core Tryd.lays221 (by kernel_rfl) s colon 1 (-1) (countB s colon + 1) w hs (by decide) (by decide)
    (fun x c _ => (Any.strings_Index_one { Tryd.lays221 with } x 58 _).mono (fun e w' ⟨he, hw⟩ => ⟨by rw [he]; exact congrArg (fun z => Ending.returned (.int .i64 z)) (index_one x.data.toList 58).symm, hw⟩))
    ((Any.strings_Count_one { Tryd.lays221 with } s 58 w).mono (fun e w' ⟨he, hw⟩ => ⟨by rw [he]; exact congrArg (fun z : Nat => Ending.returned (.int .i64 (z : Int))) (count_one 58 s.data.toList).symm, hw⟩))
    (by decide) (by decide) (by
      have := countB_le colon (by decide) s.size s (Nat.le_refl _)
      rw [if_pos (by decide)]
      omega)
  change Calls Tryd.prog 89 _ _ (fun e w' => e = .returned (.slice (some ⟨w.heap.size, 0, none⟩) (pieces s).length (countB s colon + 1)) ∧ w' = w.alloc (.cells (cellsOf (pieces s) (countB s colon + 1)) 9)) at hcon
  rw [← pieces_len] at hcon
  have hcl : (pieces s).length ≤ 9223372036854775807 := by have := pieces_le s; omega
  have hP : Hid (SplitPost w (pieces s) (.returned (.slice (some ⟨w.heap.size, 0, none⟩) (pieces s).length (pieces s).length)) (w.alloc (.cells (cellsOf (pieces s) (pieces s).length) 9))) := Lib.hid (by
    refine ⟨_, _, rfl, Nat.le_refl _, Kd.C_of_reads (d := ByteArray.empty) (h1 := fun _ => rfl) ⟨rfl, hcl, fun hn => ⟨_, rfl, fun j hj => ?_⟩⟩, below_alloc (Below.refl _ _) _⟩
    rw [add_plain]
    refine (blk_cell (heap_alloc_new w _) j).trans ?_
    simp only [cellsOf, Nat.sub_self, List.replicate_zero, List.append_nil, List.getElem?_toArray, List.getElem?_map]
    rw [List.getElem?_eq_getElem hj, List.getD_eq_getElem?_getD, List.getElem?_eq_getElem hj]
    rfl)
  generalize pieces s = l at hcon hP hcl
  have hc := Lib.hid hcon
  clear hcon
  show Calls Tryd.prog 79 #[.string s, .string ⟨#[58]⟩] w _
  go_enter Tryd.func79, Tryd.ntmps79
  go_wp2_with (go_at_call 89; refine hc.out.mono ?_; rintro e w' ⟨rfl, rfl⟩)
  go_ret
  exact hP.out

/-- how many names a keyword selector has; 0: it is none -/
def kwN (s : ByteArray) : Nat :=
  if (pieces s).length < 2 ∨ (pieces s).length > 11 then 0
  else if (pieces s).getD ((pieces s).length - 1) ByteArray.empty ≠ ByteArray.empty then 0
  else if ((pieces s).take ((pieces s).length - 1)).any badPiece = true then 0
  else (pieces s).length - 1
def KwPost (w : World) (n : Nat) (e : Ending) (w' : World) : Prop := ∃ A c, e = .returned (.slice A n c) ∧ Below w.heap.size w w'

theorem C_takeS {w : World} {A : Option Addr} {l : List ByteArray} (h : Kd.C Kd.string w A l.length l) (m : Nat) (hm : m ≤ l.length) : Kd.C Kd.string w A (l.take m).length (l.take m) := by
  have hl : (l.take m).length = m := by rw [List.length_take]; omega
  refine ⟨rfl, by have := h.2.1; omega, fun hn => ?_⟩
  obtain ⟨ad, e, hc⟩ := h.2.2 (by omega)
  refine ⟨ad, e, fun j p hj => hc j p ?_⟩
  rw [List.getElem?_take] at hj
  split at hj
  · exact hj
  · cases hj

set_option maxRecDepth 100000 in
theorem keywords_calls (s : ByteArray) (w : World) (hs : s.size < 4294967281) :
    Calls Tryd.prog 76 #[.string s] w (KwPost w (kwN s)) := by
  have hcon := Lib.hid (splitAfter_calls s w hs)
  have hsz : Hid (∀ x ∈ pieces s, x.size ≤ 9223372036854775807) := Lib.hid (fun x hx => by have := pieces_size s x hx; omega)
  have hle := pieces_le s
  obtain ⟨n, hn⟩ : ∃ n, kwN s = n := ⟨_, rfl⟩
  rw [hn]
  unfold kwN at hn
  have HN := Lib.hid hn
  clear hn
  generalize pieces s = l at hcon hsz hle HN
  unfold colon at hcon
  by_cases h1 : l.length < 2
  · obtain rfl : n = 0 := by have := HN.out; rw [if_pos (.inl h1)] at this; exact this.symm
    clear HN
    have h1i : ((l.length : Int)) < 2 := by omega
    have h1b : decide ((l.length : Int) < 2) = true := decide_eq_true h1i
    clear h1 h1i
    go_enter Tryd.func76, Tryd.ntmps76
    go_wp2_with (go_at_call 79; refine hcon.out.mono ?_; rintro e w' ⟨A, c, rfl, hc, hR, hb⟩; have hR := Lib.hid hR)
    go_ret
    exact ⟨_, _, rfl, hb⟩
  have h1i : ¬ ((l.length : Int)) < 2 := by omega
  have h1b : decide ((l.length : Int) < 2) = false := decide_eq_false h1i
  by_cases h2 : 11 < l.length
  · obtain rfl : n = 0 := by have := HN.out; rw [if_pos (.inr h2)] at this; exact this.symm
    clear HN
    have h2b : decide (11 < (l.length : Int)) = true := decide_eq_true (by omega)
    clear h1 h1i h2
    go_enter Tryd.func76, Tryd.ntmps76
    go_wp2_with (go_at_call 79; refine hcon.out.mono ?_; rintro e w' ⟨A, c, rfl, hc, hR, hb⟩; have hR := Lib.hid hR)
    go_ret
    exact ⟨_, _, rfl, hb⟩
  have h2b : decide (11 < (l.length : Int)) = false := decide_eq_false (by omega)
  have hl0 : 0 ≤ (l.length : Int) - 1 := by omega
  have hl1 : (l.length : Int) - 1 < l.length := by omega
  have hl3 : l.length - 1 < l.length := by omega
  obtain ⟨x, hx⟩ : ∃ x, l.getD (l.length - 1) ByteArray.empty = x := ⟨_, rfl⟩
  have HN2 := Lib.hid (show (if x ≠ ByteArray.empty then 0 else if (l.take (l.length - 1)).any badPiece = true then 0 else l.length - 1) = n by have := HN.out; rw [if_neg (by omega), hx] at this; exact this)
  have HX := Lib.hid hx
  have hll : (l.take (l.length - 1)).length = l.length - 1 := by rw [List.length_take]; omega
  have HLL := Lib.hid hll
  clear hx hll h1 h2 HN
  by_cases h3 : x = ByteArray.empty
  · have h3b : x.toList.isEmpty = true := by rw [h3, empty_str]; rfl
    have HN := Lib.hid (show (if (l.take (l.length - 1)).any badPiece = true then 0 else l.length - 1) = n by have := HN2.out; rw [if_neg (by simp [h3])] at this; exact this)
    clear h3 HN2
    cases h4 : (l.take (l.length - 1)).any badPiece
    · obtain rfl : l.length - 1 = n := by have := HN.out; rw [h4, if_neg (by simp)] at this; exact this
      have H4 := Lib.hid h4
      clear h4 HN
      go_enter Tryd.func76, Tryd.ntmps76
      go_wp2_with (first | (go_at_call 79; refine hcon.out.mono ?_; rintro e w1 ⟨A, c, rfl, hc, hR, hb⟩; obtain ⟨ad, rfl, hcell⟩ := Kd_string_at hR (l.length - 1) hl3; rw [HX.out] at hcell; have HR := Lib.hid hR; clear hR) | (go_at_call 30; have hcf := containsFunc_calls (some ad) c (l.take (l.length - 1)) _ (C_takeS HR.out (l.length - 1) (by omega)) (by rw [HLL.out]; omega) (fun y hy => hsz.out y (List.mem_of_mem_take hy)); rw [HLL.out, H4.out] at hcf; refine hcf.mono ?_; clear hcf; rintro e w' ⟨rfl, hb2⟩))
      go_ret
      exact ⟨_, _, rfl, below_then hb hb.size hb2⟩
    · obtain rfl : 0 = n := by have := HN.out; rw [h4, if_pos rfl] at this; exact this
      have H4 := Lib.hid h4
      clear h4 HN
      go_enter Tryd.func76, Tryd.ntmps76
      go_wp2_with (first | (go_at_call 79; refine hcon.out.mono ?_; rintro e w1 ⟨A, c, rfl, hc, hR, hb⟩; obtain ⟨ad, rfl, hcell⟩ := Kd_string_at hR (l.length - 1) hl3; rw [HX.out] at hcell; have HR := Lib.hid hR; clear hR) | (go_at_call 30; have hcf := containsFunc_calls (some ad) c (l.take (l.length - 1)) _ (C_takeS HR.out (l.length - 1) (by omega)) (by rw [HLL.out]; omega) (fun y hy => hsz.out y (List.mem_of_mem_take hy)); rw [HLL.out, H4.out] at hcf; refine hcf.mono ?_; clear hcf; rintro e w' ⟨rfl, hb2⟩))
      go_ret
      exact ⟨_, _, rfl, below_then hb hb.size hb2⟩
  · have h3b : x.toList.isEmpty = false := by
      rw [empty_str]
      refine decide_eq_false (fun e => h3 ?_)
      have : x.data.toList = ByteArray.empty.data.toList := e
      exact ByteArray.ext (Array.toList_inj.1 this)
    obtain rfl : 0 = n := by have := HN2.out; rw [if_pos h3] at this; exact this
    clear h3 HN2
    go_enter Tryd.func76, Tryd.ntmps76
    go_wp2_with (go_at_call 79; refine hcon.out.mono ?_; rintro e w1 ⟨A, c, rfl, hc, hR, hb⟩; obtain ⟨ad, rfl, hcell⟩ := Kd_string_at hR (l.length - 1) hl3; rw [HX.out] at hcell; have HR := Lib.hid hR; clear hR)
    go_ret
    exact ⟨_, _, rfl, hb⟩

/-- a selector's kind -/
def kindOf (s : ByteArray) : Int := if isLower s.data.toList = true then 1 else if isBin s.data.toList = true then 2 else if 0 < kwN s then 3 else 0

def name_Kind.f (a0 : ByteArray) : Option Int := if a0.size < 4294967281 then some (kindOf a0) else none
theorem name_Kind.calls (a0 : ByteArray) (r : Int) (w : World) (h : name_Kind.f a0 = some r) :
    Calls Tryd.prog 68 #[.string a0] w fun e w' => e = .returned (.int .i64 r) ∧ Below w.heap.size w w' := by
  unfold name_Kind.f at h
  split at h
  case isFalse => cases h
  rename_i hs
  have h := Option.some.inj h
  unfold kindOf at h
  cases h1 : isLower a0.data.toList
  · rw [h1, if_neg (by simp)] at h
    have H1 := Lib.hid h1
    clear h1
    cases h2 : isBin a0.data.toList
    · rw [h2, if_neg (by simp)] at h
      have H2 := Lib.hid h2
      clear h2
      obtain ⟨m, hm⟩ : ∃ m, kwN a0 = m := ⟨_, rfl⟩
      rw [hm] at h
      have HM := Lib.hid hm
      clear hm
      by_cases h3 : 0 < m
      · rw [if_pos h3] at h
        subst h
        have h3b : decide (0 < m) = true := decide_eq_true h3
        clear h3
        go_enter Tryd.func68, Tryd.ntmps68
        go_wp2_with (first | (go_at_call 74; refine (lower_calls _ _).mono ?_; rw [H1.out]; rintro e w1 ⟨rfl, hb1⟩) | (go_at_call 75; refine (binary_calls _ _ (by omega)).mono ?_; rw [H2.out]; rintro e w2 ⟨rfl, hb2⟩) | (go_at_call 76; refine (keywords_calls a0 _ hs).mono ?_; rw [HM.out]; rintro e w3 ⟨A, c, rfl, hb3⟩))
        go_ret
        exact ⟨rfl, below_then (below_then hb1 hb1.size hb2) (Nat.le_trans hb1.size hb2.size) hb3⟩
      · rw [if_neg h3] at h
        subst h
        have h3b : decide (0 < m) = false := decide_eq_false h3
        clear h3
        go_enter Tryd.func68, Tryd.ntmps68
        go_wp2_with (first | (go_at_call 74; refine (lower_calls _ _).mono ?_; rw [H1.out]; rintro e w1 ⟨rfl, hb1⟩) | (go_at_call 75; refine (binary_calls _ _ (by omega)).mono ?_; rw [H2.out]; rintro e w2 ⟨rfl, hb2⟩) | (go_at_call 76; refine (keywords_calls a0 _ hs).mono ?_; rw [HM.out]; rintro e w3 ⟨A, c, rfl, hb3⟩))
        go_ret
        exact ⟨rfl, below_then (below_then hb1 hb1.size hb2) (Nat.le_trans hb1.size hb2.size) hb3⟩
    · rw [h2, if_pos rfl] at h
      subst h
      have H2 := Lib.hid h2
      clear h2
      go_enter Tryd.func68, Tryd.ntmps68
      go_wp2_with (first | (go_at_call 74; refine (lower_calls _ _).mono ?_; rw [H1.out]; rintro e w1 ⟨rfl, hb1⟩) | (go_at_call 75; refine (binary_calls _ _ (by omega)).mono ?_; rw [H2.out]; rintro e w2 ⟨rfl, hb2⟩))
      go_ret
      exact ⟨rfl, below_then hb1 hb1.size hb2⟩
  · rw [h1, if_pos rfl] at h
    subst h
    have H1 := Lib.hid h1
    clear h1
    go_enter Tryd.func68, Tryd.ntmps68
    go_wp2_with (go_at_call 74; refine (lower_calls _ _).mono ?_; rw [H1.out]; rintro e w' ⟨rfl, hb⟩)
    go_ret
    exact ⟨rfl, hb⟩
end Go.Proofs.YtllgcnckaodjkaaDoor.Q
