/- Plain law: what is written of a definition, and that it is read as it was. -/
import Derived.Test.YtoiaancehakiiaaDoorPlainDef
namespace Go.Proofs.YtoiaancehakiiaaDoor.Q
open Go.Proofs.YtoiaancehakiiaaDoor.Plain

theorem ba_ext {a b : ByteArray} (h : a.data.toList = b.data.toList) : a = b := ByteArray.ext (Array.toList_inj.1 h)
theorem ba_app (a b : ByteArray) : (a ++ b).data.toList = a.data.toList ++ b.data.toList := by simp
theorem ba_assoc (a b c : ByteArray) : a ++ b ++ c = a ++ (b ++ c) := ba_ext (by simp only [ba_app, List.append_assoc])
theorem ba_nil (a : ByteArray) : a ++ ByteArray.empty = a := ba_ext (by rw [ba_app]; simp)

/-- a number's four octets -/
def be4 (n : Nat) : ByteArray := ⟨#[UInt8.ofNat (n / 16777216), UInt8.ofNat (n / 65536), UInt8.ofNat (n / 256), UInt8.ofNat n]⟩
theorem be4_size (n : Nat) : (be4 n).size = 4 := rfl
def encText (s : ByteArray) : ByteArray := be4 s.size ++ s
def flat : List ByteArray → ByteArray
  | [] => ByteArray.empty
  | s :: l => encText s ++ flat l
def encTexts (l : List ByteArray) : ByteArray := be4 l.length ++ flat l
def encDef (d : DefV) : ByteArray :=
  be4 d.kind.toNat ++ encText d.cls ++ (if d.kind = 1 then encText d.sup ++ encTexts d.vars else encText d.sel ++ encText d.src)

theorem valL_be4 (n : Nat) (hn : n ≤ 2147483647) : valL (be4 n).data.toList = n := by
  simp only [be4, valL, List.foldl, UInt8.toNat_ofNat']
  omega
theorem cutB_app (a X : ByteArray) : cutB (a ++ X) a.size = X := by
  apply ba_ext
  rw [cutB_list, ba_app]
  have h : a.data.toList.length = a.size := list_len a
  rw [← h]
  exact List.drop_left
theorem take_app (a X : ByteArray) : (a ++ X).extract 0 a.size = a := by
  apply ba_ext
  rw [Lib.extract_from_zero, ba_app]
  have h : a.data.toList.length = a.size := list_len a
  rw [← h]
  exact List.take_left
theorem rdNum_be4 (n : Nat) (X : ByteArray) (hn : n ≤ 2147483647) : rdNum (be4 n ++ X) 0 = ((n : Int), X, 0) := by
  have h1 : (be4 n ++ X).size = 4 + X.size := by rw [ByteArray.size_append, be4_size]
  have h2 : (be4 n ++ X).data.toList.take 4 = (be4 n).data.toList := by
    rw [ba_app]
    exact List.take_left' rfl
  have h3 := cutB_app (be4 n) X
  rw [be4_size] at h3
  unfold rdNum
  rw [if_neg (by simp), if_neg (by omega), h2, valL_be4 n hn, if_neg (by omega), h3]
theorem rdText_enc (s X : ByteArray) (hs : s.size ≤ 2147483647) : rdText (encText s ++ X) 0 = (s, X, 0) := by
  unfold rdText encText
  rw [ba_assoc, rdNum_be4 s.size (s ++ X) hs]
  simp only [Int.toNat_natCast]
  rw [if_neg (by simp), if_neg (by rw [ByteArray.size_append]; omega), take_app, cutB_app]
theorem rdLoop_enc (l : List ByteArray) : ∀ (X : ByteArray) (acc : List ByteArray), (∀ s ∈ l, s.size ≤ 2147483647) → rdLoop l.length (flat l ++ X) acc = (acc ++ l, X, 0) := by
  induction l with
  | nil =>
    intro X acc _
    rw [flat, show ByteArray.empty ++ X = X from ba_ext (by rw [ba_app]; rfl), List.append_nil]
    rfl
  | cons s l ih =>
    intro X acc h
    rw [flat, ba_assoc, List.length_cons, rdLoop, rdText_enc s _ (h s List.mem_cons_self)]
    rw [if_neg (by simp), ih X (acc ++ [s]) (fun t ht => h t (List.mem_cons_of_mem _ ht))]
    simp
theorem flat_size (l : List ByteArray) : l.length ≤ (flat l).size := by
  induction l with
  | nil => exact Nat.zero_le _
  | cons s l ih => rw [flat, List.length_cons, ByteArray.size_append, encText, ByteArray.size_append, be4_size]; omega
theorem rdTexts_enc (l : List ByteArray) (X : ByteArray) (hl : l.length ≤ 1000000) (h : ∀ s ∈ l, s.size ≤ 2147483647) : rdTexts (encTexts l ++ X) 0 = (l, X, 0) := by
  unfold rdTexts encTexts
  rw [ba_assoc, rdNum_be4 l.length (flat l ++ X) (by omega)]
  simp only [Int.toNat_natCast]
  rw [rdLoop_enc l X [] h, if_neg (by simp), if_neg (by rw [ByteArray.size_append]; have := flat_size l; omega), if_neg (by simp)]
  simp

/-- A definition that fits is read as it was written. -/
theorem rdDef_enc (d : DefV) (X : ByteArray) (hr : rightD d = true) (hk : d.kind = 1 ∧ d.sel = ByteArray.empty ∧ d.src = ByteArray.empty ∨ d.kind = 2 ∧ d.sup = ByteArray.empty ∧ d.vars = [])
    (h1 : d.cls.size ≤ 2147483647) (h2 : d.sup.size ≤ 2147483647) (h3 : d.sel.size ≤ 2147483647) (h4 : d.src.size ≤ 2147483647) (hl : d.vars.length ≤ 1000000) (hv : ∀ s ∈ d.vars, s.size ≤ 2147483647) :
    rdDef (encDef d ++ X) 0 = (d, 0, X, 0) := by
  obtain ⟨kind, cls, sup, vars, sel, src⟩ := d
  simp only at hk h1 h2 h3 h4 hl hv
  rcases hk with ⟨rfl, rfl, rfl⟩ | ⟨rfl, rfl, rfl⟩
  · have hp : rdParts (encDef ⟨1, cls, sup, vars, ByteArray.empty, ByteArray.empty⟩ ++ X) 0 = (⟨1, cls, sup, vars, ByteArray.empty, ByteArray.empty⟩, X, 0) := by
      refine rdParts_1 (B1 := encText cls ++ (encText sup ++ (encTexts vars ++ X))) (B2 := encText sup ++ (encTexts vars ++ X)) (B3 := encTexts vars ++ X) (e1 := 0) (e2 := 0) (e3 := 0) ?_ (rdText_enc _ _ h1) (rdText_enc _ _ h2) (rdTexts_enc _ _ hl hv)
      rw [encDef]
      simp only [if_true]
      rw [ba_assoc, ba_assoc, ba_assoc]
      exact rdNum_be4 1 _ (by decide)
    rw [rdDef, hp]
    simp only
    rw [if_neg (by simp), if_pos hr]
  · have hp : rdParts (encDef ⟨2, cls, ByteArray.empty, [], sel, src⟩ ++ X) 0 = (⟨2, cls, ByteArray.empty, [], sel, src⟩, X, 0) := by
      refine rdParts_2 (B1 := encText cls ++ (encText sel ++ (encText src ++ X))) (B2 := encText sel ++ (encText src ++ X)) (B3 := encText src ++ X) (e1 := 0) (e2 := 0) (e3 := 0) ?_ (rdText_enc _ _ h1) (rdText_enc _ _ h3) (rdText_enc _ _ h4)
      rw [encDef]
      simp only
      rw [if_neg (by decide), ba_assoc, ba_assoc, ba_assoc]
      exact rdNum_be4 2 _ (by decide)
    rw [rdDef, hp]
    simp only
    rw [if_neg (by simp), if_pos hr]
end Go.Proofs.YtoiaancehakiiaaDoor.Q
