/- The walk of name.Is (a range over a string), for every string: a function of its own by hand, in the form that the printed texts have. -/
import Derived.Test.YtllgcnckaodjkaaDoorPlainName
import Derived.Test.YtllgcnckaodjkaaDoorProg
import Derived.WalkKit
import Derived.Below
import Derived.Lib.OthersKept
import Derived.Lib.Hide
namespace Go.Proofs.YtllgcnckaodjkaaDoor.Q
open Go.RowKit Go.Proofs.YtllgcnckaodjkaaDoor.Plain

def smallI (c : Int) : Bool := decide (97 ≤ c) && decide (c ≤ 122)
def largeI (c : Int) : Bool := decide (65 ≤ c) && decide (c ≤ 90)
def digitI (c : Int) : Bool := decide (48 ≤ c) && decide (c ≤ 57)
theorem small_calls (c : Int) (w : World) : Calls Tryd.prog 69 #[.int .i32 c] w fun e w' => e = .returned (.bool (smallI c)) ∧ w = w' := by
  unfold smallI
  by_cases h : 97 ≤ c
  · have h1 : decide (97 ≤ c) = true := decide_eq_true h
    go_enter Tryd.func69, Tryd.ntmps69
    go_wp2
    go_ret
    exact ⟨by simp [h], rfl⟩
  · have h1 : decide (97 ≤ c) = false := decide_eq_false h
    go_enter Tryd.func69, Tryd.ntmps69
    go_wp2
    go_ret
    exact ⟨by simp, rfl⟩
theorem large_calls (c : Int) (w : World) : Calls Tryd.prog 60 #[.int .i32 c] w fun e w' => e = .returned (.bool (largeI c)) ∧ w = w' := by
  unfold largeI
  by_cases h : 65 ≤ c
  · have h1 : decide (65 ≤ c) = true := decide_eq_true h
    go_enter Tryd.func60, Tryd.ntmps60
    go_wp2
    go_ret
    exact ⟨by simp [h], rfl⟩
  · have h1 : decide (65 ≤ c) = false := decide_eq_false h
    go_enter Tryd.func60, Tryd.ntmps60
    go_wp2
    go_ret
    exact ⟨by simp, rfl⟩
theorem digit_calls (c : Int) (w : World) : Calls Tryd.prog 70 #[.int .i32 c] w fun e w' => e = .returned (.bool (digitI c)) ∧ w = w' := by
  unfold digitI
  by_cases h : 48 ≤ c
  · have h1 : decide (48 ≤ c) = true := decide_eq_true h
    go_enter Tryd.func70, Tryd.ntmps70
    go_wp2
    go_ret
    exact ⟨by simp [h], rfl⟩
  · have h1 : decide (48 ≤ c) = false := decide_eq_false h
    go_enter Tryd.func70, Tryd.ntmps70
    go_wp2
    go_ret
    exact ⟨by simp, rfl⟩

/-- what one round asks of the rune c at place i -/
def okR (i : Nat) (c : Int) : Bool := smallI c || largeI c || (decide (i ≠ 0) && digitI c)
theorem okR_byte (i : Nat) (c : UInt8) : okR i c.toNat = okB i c := by
  rw [Bool.eq_iff_iff]
  simp only [okR, okB, letterB, smallB, largeB, digitB, smallI, largeI, digitI]
  simp
  omega
theorem okR_high (i : Nat) (c : Int) (h : 128 ≤ c) : okR i c = false := by
  simp only [okR, smallI, largeI, digitI]
  simp
  omega

def Rel (s : ByteArray) (w wr : World) : Prop := ∃ pos, wr.heap[w.heap.size]? = some (.stringIter s pos) ∧ Below w.heap.size w wr ∧ pos ≤ s.size ∧ ∀ i, i < pos → okB i (s.data.toList.getD i 0) = true

def name_Is.f (a0 : ByteArray) : Option Bool := some (isName a0.data.toList)
set_option maxRecDepth 100000 in
set_option maxHeartbeats 1000000 in
theorem name_Is.calls (a0 : ByteArray) (r : Bool) (w : World) (h : name_Is.f a0 = some r) :
    Calls Tryd.prog 59 #[.string a0] w fun e w' => e = .returned (.bool r) ∧ Below w.heap.size w w' := by
  obtain rfl := Option.some.inj h
  clear h
  go_enter Tryd.func59, Tryd.ntmps59
  go_wp2
  go_loopw [] (fun wr => Rel a0 w wr) (fun wr => a0.size - wr.iterPos w.heap.size)
  case atStart => exact ⟨0, World.iter_heap w a0 0, (Below.refl _ w).alloc (Nat.le_refl _) _, Nat.zero_le _, fun i hi => absurd hi (Nat.not_lt_zero _)⟩
  case round =>
    obtain ⟨pos, hit, hbw, hle, hok⟩ := hrel
    have HOK := Lib.hid hok
    clear hok
    by_cases hp : pos < a0.size
    · have key : ∃ (c : Int) (p' : Nat), (∀ ty, (Instr.next (.pointer (some ⟨w.heap.size, 0, none⟩)) true ty).run Tryd.prog wr = .ok (.tuple #[.bool true, .int .i64 pos, .int .i32 c]) (wr.iterAt w.heap.size a0 p')) ∧ pos < p' ∧ okR pos c = okB pos (a0.data.toList.getD pos 0) ∧ (okR pos c = true → p' = pos + 1) := by
        by_cases ha : (a0[pos]'hp).toNat < 128
        · exact ⟨_, _, fun ty => Lib.run_next_ascii_at wr w.heap.size a0 pos ty hit hp ha, Nat.lt_succ_self _, by rw [getD_at a0 pos hp, okR_byte], fun _ => rfl⟩
        · have hd := decode_high a0 pos hp (by omega)
          refine ⟨_, _, fun ty => Lib.run_next_any_at wr w.heap.size a0 pos ty hit hp, by omega, ?_, fun h => ?_⟩
          · rw [okR_high _ _ (by omega), getD_at a0 pos hp, ← okR_byte, okR_high _ _ (by omega)]
          · rw [okR_high _ _ (by omega)] at h; exact absurd h (by simp)
      obtain ⟨c, p', hnx, hp', hR, hone⟩ := key
      have hit2 := Lib.iterAt_heap wr w.heap.size a0 pos p' hit
      have hbw2 := Lib.below_iterAt hbw (k := w.heap.size) (Nat.le_refl _) a0 p'
      by_cases hgood : okR pos c = true
      · obtain rfl := hone hgood
        have HM : Hid (Rel a0 w (wr.iterAt w.heap.size a0 (pos + 1)) ∧ a0.size - (wr.iterAt w.heap.size a0 (pos + 1)).iterPos w.heap.size < a0.size - wr.iterPos w.heap.size) := Lib.hid (by
          refine ⟨⟨pos + 1, hit2, hbw2, by omega, fun i hi => ?_⟩, ?_⟩
          · by_cases e : i = pos
            · subst e; rw [← hR]; exact hgood
            · exact HOK.out i (by omega)
          · simp only [World.iterPos, hit2, hit]; omega)
        clear hone hR hit2 hbw2
        cases hs : smallI c
        · cases hl : largeI c
          · have hz : ((pos : Int) == 0) = false := by
              simp only [okR, hs, hl] at hgood
              simp at hgood
              simp
              omega
            have hd : digitI c = true := by
              simp only [okR, hs, hl] at hgood
              simp at hgood
              exact hgood.2
            clear hgood
            go_wp2_with (first | (go_at_call 69; refine (small_calls _ _).mono ?_; rintro e w' ⟨rfl, rfl⟩) | (go_at_call 60; refine (large_calls _ _).mono ?_; rintro e w' ⟨rfl, rfl⟩) | (go_at_call 70; refine (digit_calls _ _).mono ?_; rintro e w' ⟨rfl, rfl⟩))
            go_roundw
            case rel => exact HM.out.1
            case measure => exact HM.out.2
          · clear hgood
            go_wp2_with (first | (go_at_call 69; refine (small_calls _ _).mono ?_; rintro e w' ⟨rfl, rfl⟩) | (go_at_call 60; refine (large_calls _ _).mono ?_; rintro e w' ⟨rfl, rfl⟩))
            go_roundw
            case rel => exact HM.out.1
            case measure => exact HM.out.2
        · clear hgood
          go_wp2_with (first | (go_at_call 69; refine (small_calls _ _).mono ?_; rintro e w' ⟨rfl, rfl⟩))
          go_roundw
          case rel => exact HM.out.1
          case measure => exact HM.out.2
      · have hbad : okR pos c = false := by simpa using hgood
        have HF : Hid (isName a0.data.toList = false) := Lib.hid (isName_bad _ pos (by simpa using hp) (by rw [← hR]; exact hbad))
        clear hgood hone hR hit2
        have hs : smallI c = false := by
          simp only [okR] at hbad
          simp at hbad
          simp [hbad]
        have hl : largeI c = false := by
          simp only [okR] at hbad
          simp at hbad
          simp [hbad]
        by_cases hz0 : pos = 0
        · subst hz0
          clear hbad
          go_wp2_with (first | (go_at_call 69; refine (small_calls _ _).mono ?_; rintro e w' ⟨rfl, rfl⟩) | (go_at_call 60; refine (large_calls _ _).mono ?_; rintro e w' ⟨rfl, rfl⟩))
          go_ret
          exact ⟨by (rw [HF.out]; try rfl), hbw2⟩
        · have hz : ((pos : Int) == 0) = false := by simp; omega
          have hd : digitI c = false := by
            simp only [okR] at hbad
            simp at hbad
            exact hbad.2 hz0
          clear hbad
          go_wp2_with (first | (go_at_call 69; refine (small_calls _ _).mono ?_; rintro e w' ⟨rfl, rfl⟩) | (go_at_call 60; refine (large_calls _ _).mono ?_; rintro e w' ⟨rfl, rfl⟩) | (go_at_call 70; refine (digit_calls _ _).mono ?_; rintro e w' ⟨rfl, rfl⟩))
          go_ret
          exact ⟨by (rw [HF.out]; try rfl), hbw2⟩
    · have hnx : ∀ ty, (Instr.next (.pointer (some ⟨w.heap.size, 0, none⟩)) true ty).run Tryd.prog wr = _ := fun ty => Lib.run_next_end_at wr w.heap.size a0 pos ty hit hp
      have HF : Hid (isName a0.data.toList = (decide (1 ≤ a0.size) && decide (a0.size ≤ 40))) := Lib.hid (by
        rw [isName_all _ (fun i hi => HOK.out i (by have : a0.data.toList.length = a0.size := by simp
                                                    omega))]
        simp)
      by_cases h1 : 1 ≤ a0.size
      · go_wp2
        go_ret
        exact ⟨by (rw [HF.out]; simp [h1]; try omega), hbw⟩
      · go_wp2
        go_ret
        exact ⟨by (rw [HF.out]; simp [h1]; try omega), hbw⟩
end Go.Proofs.YtllgcnckaodjkaaDoor.Q
