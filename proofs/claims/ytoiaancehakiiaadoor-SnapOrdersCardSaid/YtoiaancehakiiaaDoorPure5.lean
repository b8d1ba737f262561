/- Plain law: the reference's octets of numbers, texts, lists are what is written; Small. -/
import Derived.Test.YtoiaancehakiiaaDoorPlainEnc
import Derived.Test.YtoiaancehakiiaaDoorQ5
namespace Go.Proofs.YtoiaancehakiiaaDoor.Q
open Go.RowKit Go.Proofs.YtoiaancehakiiaaDoor.Plain Go.Proofs.YtoiaancehakiiaaDoorW.PrintWords

def oneB (n : Nat) : ByteArray := ⟨#[UInt8.ofNat n]⟩
theorem one_octet (n : Nat) : strOfNums [(Int.tmod (n : Int) 256) % 256] = oneB n := by
  have h : UInt8.ofNat ((Int.tmod (n : Int) 256) % 256).toNat = UInt8.ofNat n := by
    apply UInt8.toNat_inj.1
    rw [UInt8.toNat_ofNat', UInt8.toNat_ofNat', Int.tmod_eq_emod_of_nonneg (by omega)]
    omega
  unfold strOfNums oneB
  simp only [List.map_cons, List.map_nil]
  rw [h]
theorem octets_step (k n i : Nat) (X : ByteArray) (hn : n ≤ 2147483647) (hi : i < 4) (hX : X.size ≤ 4) :
    monticuleref01_octets.l0 (k + 1) (n : Int) 4 X (i : Int) = monticuleref01_octets.l0 k ((n / 256 : Nat) : Int) 4 (oneB n ++ X) ((i + 1 : Nat) : Int) := by
  have h1 : IntKind.u64.wrap (Int.tdiv (n : Int) 256) = ((n / 256 : Nat) : Int) := by
    rw [Int.tdiv_eq_ediv_of_nonneg (by omega), IntWalk.u64_in _ (by omega)]
    omega
  simp only [monticuleref01_octets.l0]
  rw [if_pos (by omega)]
  simp only [Option.bind]
  rw [one_octet, w64 i (by omega), h1, if_pos (by rw [show (oneB n).size = 1 from rfl]; omega)]
theorem octets_ok (k n : Nat) (hn : n ≤ 2147483647) (hk : 4 < k) : monticuleref01_octets.f k (n : Int) 4 = some (be4 n) := by
  obtain ⟨k, rfl⟩ : ∃ m, k = m + 5 := ⟨k - 5, by omega⟩
  unfold monticuleref01_octets.f
  have e0 := octets_step (k + 4) n 0 (⟨#[]⟩ : ByteArray) hn (by decide) (by decide)
  have e1 := octets_step (k + 3) (n / 256) 1 (oneB n ++ (⟨#[]⟩ : ByteArray)) (by omega) (by decide) (by rw [ByteArray.size_append]; show 1 + 0 ≤ 4; decide)
  have e2 := octets_step (k + 2) (n / 256 / 256) 2 (oneB (n / 256) ++ (oneB n ++ (⟨#[]⟩ : ByteArray))) (by omega) (by decide) (by rw [ByteArray.size_append, ByteArray.size_append]; show 1 + (1 + 0) ≤ 4; decide)
  have e3 := octets_step (k + 1) (n / 256 / 256 / 256) 3 (oneB (n / 256 / 256) ++ (oneB (n / 256) ++ (oneB n ++ (⟨#[]⟩ : ByteArray)))) (by omega) (by decide) (by rw [ByteArray.size_append, ByteArray.size_append, ByteArray.size_append]; show 1 + (1 + (1 + 0)) ≤ 4; decide)
  have e0' : monticuleref01_octets.l0 (k + 5) (n : Int) 4 (⟨#[]⟩ : ByteArray) 0 = _ := e0
  rw [e0', e1, e2, e3]
  simp only [monticuleref01_octets.l0]
  rw [if_neg (by omega)]
  rw [show n / 256 / 256 / 256 = n / 16777216 from by omega, show n / 256 / 256 = n / 65536 from by omega]
  congr 1
theorem num_ok (k n : Nat) (hn : n ≤ 2147483647) (hk : 4 < k) : monticuleref01_Num.f k (n : Int) = some (be4 n, true) := by
  unfold monticuleref01_Num.f
  rw [if_neg (by omega), if_neg (by omega), IntWalk.u64_in _ (by omega), octets_ok k n hn hk]
  rfl
theorem text_ok (k : Nat) (s : ByteArray) (hs : s.size ≤ 2147483647) (hk : 4 < k) : monticuleref01_Text.f k s = some (encText s) := by
  unfold monticuleref01_Text.f
  rw [num_ok k s.size hs hk]
  simp only [Option.bind]
  rw [if_pos (by rw [be4_size]; omega)]
  rfl
theorem flat_drop (l : List ByteArray) (i : Nat) (s : ByteArray) (h : l[i]? = some s) : flat (l.drop i) = encText s ++ flat (l.drop (i + 1)) := by
  obtain ⟨hl, he⟩ := List.getElem?_eq_some_iff.1 h
  rw [List.drop_eq_getElem_cons hl, he]
  rfl
theorem texts_l0 (l : List ByteArray) (hl : l.length ≤ 1000000000) (d : Nat) : ∀ (k i : Nat) (X : ByteArray), l.length - i = d → i ≤ l.length → d + 5 < k → X.size + (flat (l.drop i)).size ≤ 1000000000 →
    monticuleref01_Texts.l0 k l X (i : Int) = some (X ++ flat (l.drop i)) := by
  induction d with
  | zero =>
    intro k i X hd hi hk hx
    obtain ⟨k, rfl⟩ : ∃ m, k = m + 1 := ⟨k - 1, by omega⟩
    simp only [monticuleref01_Texts.l0]
    rw [if_neg (by omega), List.drop_eq_nil_of_le (by omega), flat, ba_nil]
  | succ d ih =>
    intro k i X hd hi hk hx
    obtain ⟨k, rfl⟩ : ∃ m, k = m + 1 := ⟨k - 1, by omega⟩
    obtain ⟨s, hs⟩ : ∃ s, l[i]? = some s := ⟨_, List.getElem?_eq_getElem (by omega)⟩
    have hf := flat_drop l i s hs
    rw [hf, ByteArray.size_append] at hx
    have hs4 : (encText s).size = 4 + s.size := by rw [encText, ByteArray.size_append, be4_size]
    have hrd : rdOf ByteArray.empty l (i : Int) = s := by
      unfold rdOf
      rw [Int.toNat_natCast, List.getD_eq_getElem?_getD, hs]
      rfl
    simp only [monticuleref01_Texts.l0]
    rw [if_pos (by omega), if_pos (by omega), hrd, text_ok k s (by omega) (by omega)]
    simp only [Option.bind]
    rw [if_pos (by omega), w64 i (by omega), ih k (i + 1) (X ++ encText s) (by omega) (by omega) (by omega) (by rw [ByteArray.size_append]; omega), hf, ba_assoc]
theorem texts_ok (k : Nat) (l : List ByteArray) (hx : (encTexts l).size ≤ 1000000000) (hk : l.length + 5 < k) : monticuleref01_Texts.f k l = some (encTexts l) := by
  have hf := flat_size l
  rw [encTexts, ByteArray.size_append, be4_size] at hx
  unfold monticuleref01_Texts.f
  rw [num_ok k l.length (by omega) (by omega)]
  simp only [Option.bind]
  have h := texts_l0 l (by omega) l.length k 0 (be4 l.length) (by omega) (Nat.zero_le _) (by omega) (by rw [be4_size, List.drop_zero]; omega)
  rw [List.drop_zero] at h
  exact h

/-- is a definition small? -/
def smallD (d : DefV) : Bool := decide (d.cls.size ≤ 100) && (decide (d.sup.size ≤ 100) && (decide (d.vars.length ≤ 30) && (decide (d.sel.size ≤ 600) && (decide (d.src.size ≤ 5000) && d.vars.all (fun s => decide (s.size ≤ 100))))))
theorem small_l0 (D : DefV) (hl : D.vars.length ≤ 30) (d : Nat) : ∀ (k i : Nat), D.vars.length - i = d → i ≤ D.vars.length → d < k →
    monticuleref07_Small.l0 k (i : Int) D.kind D.cls D.sup D.vars D.sel D.src = some ((D.vars.drop i).all (fun s => decide (s.size ≤ 100))) := by
  induction d with
  | zero =>
    intro k i hd hi hk
    obtain ⟨k, rfl⟩ : ∃ m, k = m + 1 := ⟨k - 1, by omega⟩
    simp only [monticuleref07_Small.l0]
    rw [if_neg (by omega), List.drop_eq_nil_of_le (by omega)]
    rfl
  | succ d ih =>
    intro k i hd hi hk
    obtain ⟨k, rfl⟩ : ∃ m, k = m + 1 := ⟨k - 1, by omega⟩
    obtain ⟨s, hs⟩ : ∃ s, D.vars[i]? = some s := ⟨_, List.getElem?_eq_getElem (by omega)⟩
    have hrd : rdOf ByteArray.empty D.vars (i : Int) = s := by
      unfold rdOf
      rw [Int.toNat_natCast, List.getD_eq_getElem?_getD, hs]
      rfl
    obtain ⟨hl2, he⟩ := List.getElem?_eq_some_iff.1 hs
    simp only [monticuleref07_Small.l0]
    rw [if_pos (by omega), if_pos (by omega), hrd, List.drop_eq_getElem_cons hl2, he, List.all_cons]
    by_cases h : (s.size : Int) > 100
    · rw [if_pos h, decide_eq_false (by omega)]
      rfl
    · rw [if_neg h, w64 i (by omega), ih k (i + 1) (by omega) (by omega) (by omega), decide_eq_true (by omega)]
      rfl
theorem small_ok (k : Nat) (d : DefV) (hk : 32 < k) : monticuleref07_Small.f k d.kind d.cls d.sup d.vars d.sel d.src = some (smallD d) := by
  obtain ⟨k, rfl⟩ : ∃ m, k = m + 1 := ⟨k - 1, by omega⟩
  unfold monticuleref07_Small.f smallD
  by_cases h1 : (d.cls.size : Int) > 100
  · rw [if_pos h1, decide_eq_false (p := d.cls.size ≤ 100) (by omega)]
    rfl
  rw [if_neg h1, decide_eq_true (p := d.cls.size ≤ 100) (by omega)]
  by_cases h2 : (d.sup.size : Int) > 100
  · rw [if_pos h2, decide_eq_false (p := d.sup.size ≤ 100) (by omega)]
    rfl
  rw [if_neg h2, decide_eq_true (p := d.sup.size ≤ 100) (by omega)]
  by_cases h3 : (d.vars.length : Int) > 30
  · rw [if_pos h3, decide_eq_false (p := d.vars.length ≤ 30) (by omega)]
    rfl
  rw [if_neg h3, decide_eq_true (p := d.vars.length ≤ 30) (by omega)]
  by_cases h4 : (d.sel.size : Int) > 600
  · rw [if_pos h4, decide_eq_false (p := d.sel.size ≤ 600) (by omega)]
    rfl
  rw [if_neg h4, decide_eq_true (p := d.sel.size ≤ 600) (by omega)]
  by_cases h5 : (d.src.size : Int) > 5000
  · rw [decide_eq_true h5, decide_eq_false (p := d.src.size ≤ 5000) (by omega)]
    rfl
  rw [decide_eq_false h5, decide_eq_true (p := d.src.size ≤ 5000) (by omega)]
  simp only [monticuleref07_Small.j0, Bool.false_eq_true, if_false]
  have h : monticuleref07_Small.l0 k 0 d.kind d.cls d.sup d.vars d.sel d.src = _ := small_l0 d (by omega) d.vars.length k 0 (by omega) (Nat.zero_le _) (by omega)
  rw [h, List.drop_zero]
  rfl
end Go.Proofs.YtoiaancehakiiaaDoor.Q
