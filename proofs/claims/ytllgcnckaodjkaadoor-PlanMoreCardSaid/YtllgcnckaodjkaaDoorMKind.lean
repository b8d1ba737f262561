/- The walks of name.lower, name.binary, name.keywords and name.Kind, by hand: for every string shorter than 4294967281 bytes. -/
import Derived.Test.YtllgcnckaodjkaaDoorMIs
import Derived.Test.YtllgcnckaodjkaaDoorShelf
import Derived.Test.YtllgcnckaodjkaaDoorWWords
namespace Go.Proofs.YtllgcnckaodjkaaDoor.Q
open Go.RowKit Go.Proofs.YtllgcnckaodjkaaDoor.Plain Go.Proofs.YtllgcnckaodjkaaDoorW.PrintWords Go.Shelf Go.Lib

def isLower (l : List UInt8) : Bool := isName l && smallB (l.getD 0 0)
theorem smallI_byte (c : UInt8) : smallI c.toNat = smallB c := by
  rw [Bool.eq_iff_iff]
  simp only [smallI, smallB]
  simp
  omega
theorem isName_pos (s : ByteArray) (h : isName s.data.toList = true) : 0 < s.size := by
  unfold isName at h
  have h1 : decide (1 ≤ s.data.toList.length) = true := by
    revert h
    cases decide (1 ≤ s.data.toList.length) <;> simp
  have h2 := of_decide_eq_true h1
  have : s.data.toList.length = s.size := by simp
  omega

theorem wrap32_u8 (c : UInt8) : wrap32 (c.toNat : Int) = c.toNat := by
  have := c.toNat_lt
  unfold wrap32
  omega

theorem lower_calls (s : ByteArray) (w : World) :
    Calls Tryd.prog 74 #[.string s] w fun e w' => e = .returned (.bool (isLower s.data.toList)) ∧ Below w.heap.size w w' := by
  cases h : isName s.data.toList
  · have hf : Hid (isLower s.data.toList = false) := Lib.hid (by simp [isLower, h])
    have hI := Lib.hid h
    clear h
    go_enter Tryd.func74, Tryd.ntmps74
    go_wp2_with (go_at_call 59; refine (name_Is.calls s false _ (by unfold name_Is.f; rw [hI.out])).mono ?_; rintro e w' ⟨rfl, hb⟩)
    go_ret
    exact ⟨by rw [hf.out]; rfl, hb⟩
  · have hp := isName_pos s h
    have hp0 : (0 : Int) < (s.size : Int) := by omega
    have hf : Hid (isLower s.data.toList = smallI ((s[0]'hp).toNat : Int)) := Lib.hid (by simp only [isLower, h, Bool.true_and]; rw [smallI_byte, getD_at s 0 hp])
    have hI := Lib.hid h
    clear h
    go_enter Tryd.func74, Tryd.ntmps74
    go_wp2_with (first | (go_at_call 59; refine (name_Is.calls s true _ (by unfold name_Is.f; rw [hI.out])).mono ?_; rintro e w' ⟨rfl, hb⟩) | (go_at_call 69; refine (small_calls _ _).mono ?_; rintro e w' ⟨rfl, rfl⟩))
    go_ret
    exact ⟨by rw [hf.out]; exact congrArg (fun z => Ending.returned (.bool (smallI z))) (wrap32_u8 _), hb⟩


/-- the letters of binary selectors -/
def bins : List UInt8 := [43, 45, 42, 47, 60, 62, 61, 126, 38, 44, 64, 37]
def isBin (l : List UInt8) : Bool := (decide (l.length = 1) || decide (l.length = 2)) && decide (trimS l bins = [])

theorem empty_str (r : ByteArray) : r.toList.isEmpty = decide (r.data.toList = []) := by
  rw [Lib.toList_data]
  cases r.data.toList <;> simp

theorem binary_calls (s : ByteArray) (w : World) (hs : s.size ≤ 9223372036854775807) :
    Calls Tryd.prog 75 #[.string s] w fun e w' => e = .returned (.bool (isBin s.data.toList)) ∧ Below w.heap.size w w' := by
  have hcon := Any.strings_Trim_laid Tryd.lays160 (by kernel_rfl) s ⟨#[43, 45, 42, 47, 60, 62, 61, 126, 38, 44, 64, 37]⟩ w hs (by decide) (ascii_of_all (by decide))
  change Calls Tryd.prog 78 _ _ (fun e w' => e = .returned (.string ⟨(trimS s.data.toList bins).toArray⟩) ∧ Below w.heap.size w w') at hcon
  have hl : s.data.toList.length = s.size := by simp
  obtain ⟨r, hr⟩ : ∃ r : ByteArray, (⟨(trimS s.data.toList bins).toArray⟩ : ByteArray) = r := ⟨_, rfl⟩
  rw [hr] at hcon
  have hrl : r.data.toList = trimS s.data.toList bins := by rw [← hr]
  have hcon := Lib.hid hcon
  by_cases h1 : s.size = 1
  · have hF : Hid (isBin s.data.toList = decide (r.data.toList = [])) := Lib.hid (by simp only [isBin, hl, h1, hrl]; simp)
    have h1b : ((s.size : Int) == 1) = true := by rw [h1]; rfl
    clear h1 hrl hr hl
    go_enter Tryd.func75, Tryd.ntmps75
    go_wp2_with (go_at_call 78; refine hcon.out.mono ?_; rintro e w' ⟨rfl, hb⟩)
    go_ret
    exact ⟨by rw [hF.out, ← empty_str]; rfl, hb⟩
  · have h1b : ((s.size : Int) == 1) = false := by simp; omega
    by_cases h2 : s.size = 2
    · have hF : Hid (isBin s.data.toList = decide (r.data.toList = [])) := Lib.hid (by simp only [isBin, hl, h2, hrl]; simp)
      have h2b : ((s.size : Int) == 2) = true := by rw [h2]; rfl
      clear h1 h2 hrl hr hl
      go_enter Tryd.func75, Tryd.ntmps75
      go_wp2_with (go_at_call 78; refine hcon.out.mono ?_; rintro e w' ⟨rfl, hb⟩)
      go_ret
      exact ⟨by rw [hF.out, ← empty_str]; rfl, hb⟩
    · have hF : Hid (isBin s.data.toList = false) := Lib.hid (by simp only [isBin, hl, h1, h2]; simp)
      have h2b : ((s.size : Int) == 2) = false := by simp; omega
      clear h1 h2 hrl hr hl
      go_enter Tryd.func75, Tryd.ntmps75
      go_wp2
      go_ret
      exact ⟨by rw [hF.out]; rfl, Below.refl _ _⟩

/-- is a piece, its colon cut off, no name that begins with a small letter? -/
def badPiece (p : ByteArray) : Bool := !isLower (trimSuffix p.data.toList [58])

theorem closure_calls (s : ByteArray) (w : World) (hs : s.size ≤ 9223372036854775807) :
    Calls Tryd.prog 80 #[.string s] w fun e w' => e = .returned (.bool (badPiece s)) ∧ Below w.heap.size w w' := by
  have hcon := Tryd.strings_TrimSuffix s ⟨#[58]⟩ w hs
  obtain ⟨r, hr⟩ : ∃ r : ByteArray, (⟨(trimSuffix s.data.toList [58]).toArray⟩ : ByteArray) = r := ⟨_, rfl⟩
  change Calls Tryd.prog 81 _ _ (fun e w' => e = .returned (.string ⟨(trimSuffix s.data.toList [58]).toArray⟩) ∧ w' = w) at hcon
  rw [hr] at hcon
  have hF : Hid (badPiece s = !isLower r.data.toList) := Lib.hid (by rw [← hr]; rfl)
  have hc := Lib.hid hcon
  clear hcon hr
  go_enter Tryd.func80, Tryd.ntmps80
  go_wp2_with (first | (go_at_call 81; refine hc.out.mono ?_; rintro e w' ⟨rfl, rfl⟩) | (go_at_call 74; refine (lower_calls _ _).mono ?_; rintro e w' ⟨rfl, hb⟩))
  go_ret
  exact ⟨by rw [hF.out]; rfl, hb⟩

theorem Kd_string_at {w : World} {A : Option Addr} {l : List ByteArray} (h : Kd.C Kd.string w A l.length l) (k : Nat) (hk : k < l.length) : ∃ ad, A = some ad ∧ w.cell? (ad.add k) = some (.string (l.getD k ByteArray.empty)) := by
  have := Kd.at_string h (k : Int) (by omega) (by omega)
  simpa [rdOf] using this

/-- IndexFunc answers the place of a bad piece. -/
def FoundPost (w : World) (e : Ending) (w' : World) : Prop := ∃ n : Nat, e = .returned (.int .i64 n) ∧ Below w.heap.size w w'

set_option maxRecDepth 100000 in
theorem indexFunc_none (A : Option Addr) (c : Nat) (l : List ByteArray) (w : World) (hr : Kd.C Kd.string w A l.length l) (hn : l.length ≤ 9223372036854775807) (hs : ∀ x ∈ l, x.size ≤ 9223372036854775807) (hg : l.any badPiece = false) :
    Calls Tryd.prog 42 #[.slice A l.length c, .func (.func 80) #[] #[]] w fun e w' => e = .returned (.int .i64 (-1)) ∧ Below w.heap.size w w' := by
  have HR := Lib.hid hr
  have HS := Lib.hid hs
  have HG : Hid (∀ k, k < l.length → badPiece (l.getD k ByteArray.empty) = false) := Lib.hid (fun k hk => by
    have h := List.any_eq_false.1 hg (l.getD k ByteArray.empty) (by rw [List.getD_eq_getElem?_getD, List.getElem?_eq_getElem hk]; exact List.getElem_mem hk)
    simpa using h)
  clear hr hs hg
  go_enter Tryd.func42, Tryd.ntmps42
  go_wp2
  go_loopw [8] (fun v wr => ∃ k : Nat, k ≤ l.length ∧ v = .int .i64 k ∧ Below w.heap.size w wr) (fun v _ => l.length - (RowKit.intOf v).toNat)
  case atStart => exact ⟨0, Nat.zero_le _, rfl, Below.refl _ _⟩
  case round =>
    obtain ⟨k, hk, rfl, hbw⟩ := hrel
    by_cases hlt : k < l.length
    · obtain ⟨ad, rfl, hc⟩ := Kd_string_at (Kd.C_below HR.out hbw) k hlt
      have hsz : (l.getD k ByteArray.empty).size ≤ 9223372036854775807 := HS.out _ (by rw [List.getD_eq_getElem?_getD, List.getElem?_eq_getElem hlt]; exact List.getElem_mem hlt)
      have hgk := HG.out k hlt
      generalize l.getD k ByteArray.empty = x at hc hsz hgk
      have HX : Hid (badPiece x = false) := Lib.hid hgk
      clear hgk
      go_wp2_with (go_at_call 80; refine (closure_calls x _ hsz).mono ?_; rw [HX.out]; rintro e w' ⟨rfl, hb⟩)
      go_roundw
      case rel => exact ⟨k + 1, by omega, by go_num, below_then hbw hbw.size hb⟩
      case measure => simp [RowKit.intOf]; omega
    · go_wp2
      go_ret
      exact ⟨rfl, hbw⟩

set_option maxRecDepth 100000 in
theorem indexFunc_some (A : Option Addr) (c : Nat) (l : List ByteArray) (w : World) (hr : Kd.C Kd.string w A l.length l) (hn : l.length ≤ 9223372036854775807) (hs : ∀ x ∈ l, x.size ≤ 9223372036854775807) (hg : l.any badPiece = true) :
    Calls Tryd.prog 42 #[.slice A l.length c, .func (.func 80) #[] #[]] w (FoundPost w) := by
  have HR := Lib.hid hr
  have HS := Lib.hid hs
  obtain ⟨x0, hx0, hb0⟩ := List.any_eq_true.1 hg
  obtain ⟨m, hm, rfl⟩ := List.mem_iff_getElem.1 hx0
  have HM : Hid (badPiece (l.getD m ByteArray.empty) = true) := Lib.hid (by rw [List.getD_eq_getElem?_getD, List.getElem?_eq_getElem hm]; exact hb0)
  clear hr hs hg hb0 hx0
  go_enter Tryd.func42, Tryd.ntmps42
  go_wp2
  go_loopw [8] (fun v wr => ∃ k : Nat, k ≤ m ∧ v = .int .i64 k ∧ Below w.heap.size w wr) (fun v _ => l.length - (RowKit.intOf v).toNat)
  case atStart => exact ⟨0, Nat.zero_le _, rfl, Below.refl _ _⟩
  case round =>
    obtain ⟨k, hk, rfl, hbw⟩ := hrel
    have hlt : k < l.length := by omega
    obtain ⟨ad, rfl, hc⟩ := Kd_string_at (Kd.C_below HR.out hbw) k hlt
    have hsz : (l.getD k ByteArray.empty).size ≤ 9223372036854775807 := HS.out _ (by rw [List.getD_eq_getElem?_getD, List.getElem?_eq_getElem hlt]; exact List.getElem_mem hlt)
    have hkm : Hid (k = m → badPiece (l.getD k ByteArray.empty) = true) := Lib.hid (by rintro rfl; exact HM.out)
    generalize l.getD k ByteArray.empty = x at hc hsz hkm
    cases hgk : badPiece x
    · have HX : Hid (badPiece x = false) := Lib.hid hgk
      have hne : k < m := by
        by_cases e : k = m
        · have := hkm.out e; rw [hgk] at this; exact absurd this (by simp)
        · omega
      clear hgk hkm
      go_wp2_with (go_at_call 80; refine (closure_calls x _ hsz).mono ?_; rw [HX.out]; rintro e w' ⟨rfl, hb⟩)
      go_roundw
      case rel => exact ⟨k + 1, by omega, by go_num, below_then hbw hbw.size hb⟩
      case measure => simp [RowKit.intOf]; omega
    · have HX : Hid (badPiece x = true) := Lib.hid hgk
      clear hgk hkm
      go_wp2_with (go_at_call 80; refine (closure_calls x _ hsz).mono ?_; rw [HX.out]; rintro e w' ⟨rfl, hb⟩)
      go_ret
      exact ⟨k, rfl, below_then hbw hbw.size hb⟩

theorem containsFunc_calls (A : Option Addr) (c : Nat) (l : List ByteArray) (w : World) (hr : Kd.C Kd.string w A l.length l) (hn : l.length ≤ 9223372036854775807) (hs : ∀ x ∈ l, x.size ≤ 9223372036854775807) :
    Calls Tryd.prog 30 #[.slice A l.length c, .func (.func 80) #[] #[]] w fun e w' => e = .returned (.bool (l.any badPiece)) ∧ Below w.heap.size w w' := by
  cases hg : l.any badPiece
  · have hcon := Lib.hid (indexFunc_none A c l w hr hn hs hg)
    clear hr hs hg
    go_enter Tryd.func30, Tryd.ntmps30
    go_wp2_with (go_at_call 42; refine hcon.out.mono ?_; rintro e w' ⟨rfl, hb⟩)
    go_ret
    exact ⟨rfl, hb⟩
  · have hcon := Lib.hid (indexFunc_some A c l w hr hn hs hg)
    clear hr hs hg
    go_enter Tryd.func30, Tryd.ntmps30
    go_wp2_with (go_at_call 42; refine hcon.out.mono ?_; rintro e w' ⟨n, rfl, hb⟩)
    go_ret
    exact ⟨by simp, hb⟩

end Go.Proofs.YtllgcnckaodjkaaDoor.Q
