/- Plain laws of the printed functions of name: Class, Always, Var, lower; of slices.Contains at texts. -/
import Derived.Test.YtllgcnckaodjkaaDoorQ1
import Derived.Test.YtllgcnckaodjkaaDoorMKind
import Derived.Test.YtllgcnckaodjkaaDoorPlainOctet
namespace Go.Proofs.YtllgcnckaodjkaaDoor.Q
open Go.RowKit Go.Proofs.YtllgcnckaodjkaaDoor.Plain Go.Proofs.YtllgcnckaodjkaaDoorW.PrintWords

theorem tl_inj {a b : ByteArray} : a.toList = b.toList ↔ a = b := by
  rw [Lib.toList_data, Lib.toList_data]
  exact ⟨fun h => ByteArray.ext (Array.toList_inj.1 h), fun h => by rw [h]⟩
theorem tl_nil {a : ByteArray} : a.toList = ([] : List UInt8) ↔ a = ByteArray.empty := by
  rw [show ([] : List UInt8) = ByteArray.empty.toList from by rw [Lib.toList_data]; rfl]
  exact tl_inj
theorem tl_beq {a b : ByteArray} : (a.toList == b.toList) = decide (a = b) := by
  rw [Bool.eq_iff_iff]
  simp only [beq_iff_eq, decide_eq_true_eq]
  exact tl_inj
theorem tl_beq_nil {a : ByteArray} : (a.toList == ([] : List UInt8)) = decide (a = ByteArray.empty) := by
  rw [Bool.eq_iff_iff]
  simp only [beq_iff_eq, decide_eq_true_eq]
  exact tl_nil
theorem w64 (i : Nat) (h : i < 9223372036854775807) : wrap64 ((i : Int) + 1) = ((i + 1 : Nat) : Int) := by
  unfold wrap64
  omega
theorem w32b (s : ByteArray) (i : Int) : wrap32 (bt s i) = bt s i := by
  have := bt_range s i
  unfold wrap32
  omega
theorem bt_byte (s : ByteArray) (i : Nat) (h : i < s.size) : bt s i = ((s.data.toList.getD i 0).toNat : Int) := by
  have h2 : ((i : Int)).toNat < s.size := by omega
  unfold bt
  rw [dif_pos h2, getD_at s i h]
  simp
theorem rdOf_nat (l : List ByteArray) (i : Nat) : rdOf ByteArray.empty l (i : Int) = l.getD i ByteArray.empty := by
  simp [rdOf]

/-! ### is a text among some? -/
def memB (l : List ByteArray) (s : ByteArray) : Bool := l.any fun x => x.data.toList == s.data.toList
theorem memB_iff (l : List ByteArray) (s : ByteArray) : memB l s = true ↔ s ∈ l := by
  unfold memB
  rw [List.any_eq_true]
  constructor
  · rintro ⟨x, hx, he⟩
    have := ByteArray.ext (Array.toList_inj.1 (beq_iff_eq.1 he))
    exact this ▸ hx
  · intro h
    exact ⟨s, h, by simp⟩
theorem memB_not (l : List ByteArray) (s : ByteArray) (h : ¬ s ∈ l) : memB l s = false := by
  rw [← Bool.not_eq_true, memB_iff]
  exact h

theorem index_at (l : List ByteArray) (s : ByteArray) (hl : l.length ≤ 9223372036854775807) (d : Nat) : ∀ (k i : Nat), l.length - i = d → i ≤ l.length → d < k → (∀ j, j < i → l.getD j ByteArray.empty ≠ s) →
    ∃ r, slices_Index_string_string.l0 k l s (l.length : Int) (i : Int) = some r ∧ decide (r ≥ 0) = memB l s := by
  induction d with
  | zero =>
    intro k i hd hi hk hn
    obtain ⟨k, rfl⟩ : ∃ m, k = m + 1 := ⟨k - 1, by omega⟩
    refine ⟨-1, by simp only [slices_Index_string_string.l0]; rw [if_neg (by omega)], ?_⟩
    have : ¬ s ∈ l := by
      intro hm
      obtain ⟨j, hj, he⟩ := List.mem_iff_getElem.1 hm
      apply hn j (by omega)
      rw [List.getD_eq_getElem?_getD, List.getElem?_eq_getElem hj]
      exact he
    rw [memB_not _ _ this]
    rfl
  | succ d ih =>
    intro k i hd hi hk hn
    obtain ⟨k, rfl⟩ : ∃ m, k = m + 1 := ⟨k - 1, by omega⟩
    simp only [slices_Index_string_string.l0]
    rw [if_pos (by omega), if_pos (by omega), if_pos (by omega), rdOf_nat]
    by_cases he : s = l.getD i ByteArray.empty
    · rw [if_pos (tl_inj.2 he)]
      refine ⟨i, rfl, ?_⟩
      have : s ∈ l := by
        rw [he, List.getD_eq_getElem?_getD, List.getElem?_eq_getElem (by omega)]
        exact List.getElem_mem _
      rw [(memB_iff _ _).2 this]
      simp
    · rw [if_neg (fun h => he (tl_inj.1 h)), w64 i (by omega)]
      exact ih k (i + 1) (by omega) (by omega) (by omega) (fun j hj => by
        by_cases e : j = i
        · subst e; exact fun h => he h.symm
        · exact hn j (by omega))
theorem contains_ok (k : Nat) (l : List ByteArray) (s : ByteArray) (hl : l.length ≤ 9223372036854775807) (hk : l.length < k) : slices_Contains_string_string.f k l s = some (memB l s) := by
  obtain ⟨r, hr, hd⟩ := index_at l s hl l.length k 0 (by omega) (by omega) hk (fun j hj => by omega)
  unfold slices_Contains_string_string.f slices_Index_string_string.f
  rw [show slices_Index_string_string.l0 k l s (l.length : Int) 0 = some r from hr]
  exact congrArg some hd

/-! ### names -/
def headB (l : List UInt8) : UInt8 := l.getD 0 0
def classN (s : ByteArray) : Bool := isName s.data.toList && largeB (headB s.data.toList)
def alwaysL : List ByteArray := [⟨#[79, 98, 106, 101, 99, 116]⟩, ⟨#[78, 105, 108]⟩, ⟨#[66, 111, 111, 108, 101, 97, 110]⟩, ⟨#[73, 110, 116, 101, 103, 101, 114]⟩, ⟨#[83, 116, 114, 105, 110, 103]⟩, ⟨#[83, 121, 109, 98, 111, 108]⟩, ⟨#[65, 114, 114, 97, 121]⟩, ⟨#[66, 108, 111, 99, 107]⟩, ⟨#[67, 108, 97, 115, 115]⟩, ⟨#[83, 121, 115, 116, 101, 109]⟩]
def reservedL : List ByteArray := [⟨#[115, 101, 108, 102]⟩, ⟨#[115, 117, 112, 101, 114]⟩, ⟨#[110, 105, 108]⟩, ⟨#[116, 114, 117, 101]⟩, ⟨#[102, 97, 108, 115, 101]⟩]
def varN (s : ByteArray) : Bool := isLower s.data.toList && !memB reservedL s
theorem large_f (c : UInt8) : name_large.f (c.toNat : Int) = some (largeB c) := by
  unfold name_large.f largeB
  by_cases h : 65 ≤ c.toNat
  · rw [if_pos (by omega)]
    simp only [h, decide_true, Bool.true_and]
    exact congrArg some (decide_eq_decide.2 (by omega))
  · rw [if_neg (by omega)]
    simp [h]
theorem small_f (c : UInt8) : name_small.f (c.toNat : Int) = some (smallB c) := by
  unfold name_small.f smallB
  by_cases h : 97 ≤ c.toNat
  · rw [if_pos (by omega)]
    simp only [h, decide_true, Bool.true_and]
    exact congrArg some (decide_eq_decide.2 (by omega))
  · rw [if_neg (by omega)]
    simp [h]
theorem class_ok (s : ByteArray) : name_Class.f s = some (classN s) := by
  unfold name_Class.f name_Is.f classN
  cases h : isName s.data.toList
  · rfl
  · have hp := isName_pos s h
    simp only [Option.bind_some, if_true, Bool.true_and]
    rw [if_pos (by omega), w32b, show (0 : Int) = ((0 : Nat) : Int) from rfl, bt_byte s 0 hp, large_f]
    rfl
theorem lower_ok (s : ByteArray) : name_lower.f s = some (isLower s.data.toList) := by
  unfold name_lower.f name_Is.f isLower
  cases h : isName s.data.toList
  · rfl
  · have hp := isName_pos s h
    simp only [Option.bind_some, if_true, Bool.true_and]
    rw [if_pos (by omega), w32b, show (0 : Int) = ((0 : Nat) : Int) from rfl, bt_byte s 0 hp, small_f]
    rfl
theorem always_ok (k : Nat) (s : ByteArray) (hk : 10 < k) : name_Always.f k s = some (memB alwaysL s) := by
  unfold name_Always.f name_always.f
  have := contains_ok k alwaysL s (by decide) (by simpa [alwaysL] using hk)
  simp only [Option.bind_some]
  exact (congrArg (fun z => z.bind fun t => some t) this).trans rfl
theorem var_ok (k : Nat) (s : ByteArray) (hk : 5 < k) : name_Var.f k s = some (varN s) := by
  unfold name_Var.f name_reserved.f varN
  rw [lower_ok]
  cases h : isLower s.data.toList
  · rfl
  · have := contains_ok k reservedL s (by decide) (by simpa [reservedL] using hk)
    simp only [Option.bind_some, if_true, Bool.true_and]
    exact (congrArg (fun z => z.bind fun t => some (!t)) this).trans rfl
end Go.Proofs.YtllgcnckaodjkaaDoor.Q
