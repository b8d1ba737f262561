/- The law DefBack: whatever definition comes in, the call returns true and the definition stays (Rows.DefBackSaid), and its tied card (Rows.DefBackCardSaid). -/
import Derived.Test.YtoiaancehakiiaaDoorPlainDef
import Derived.Test.YtoiaancehakiiaaDoorMReader
import Derived.Test.YtoiaancehakiiaaDoorMTexts
import Derived.Deep.RegionLaw
import Derived.Test.YtoiaancehakiiaaDoorMOpen
import Derived.Test.YtoiaancehakiiaaDoorQ5
import Derived.Test.YtoiaancehakiiaaDoorMDefReads
import Derived.Test.YtoiaancehakiiaaDoorRowBase
import Derived.Lib.SmallJoins
import Derived.SliceStrings
/- Plain law: what is written of a definition, and that it is read as it was. -/
namespace Go.Proofs.YtoiaancehakiiaaDoor.Q
open Go.Proofs.YtoiaancehakiiaaDoor.Plain

theorem ba_ext {a b : ByteArray} (h : a.data.toList = b.data.toList) : a = b := ByteArray.ext (Array.toList_inj.1 h)
theorem ba_app (a b : ByteArray) : (a ++ b).data.toList = a.data.toList ++ b.data.toList := by simp
theorem ba_assoc (a b c : ByteArray) : a ++ b ++ c = a ++ (b ++ c) := ba_ext (by simp only [ba_app, List.append_assoc])
theorem ba_nil (a : ByteArray) : a ++ ByteArray.empty = a := ba_ext (by rw [ba_app]; simp)

/-- a number's four octets -/
def be4 (n : Nat) : ByteArray := ⟨#[UInt8.ofNat (n / 16777216), UInt8.ofNat (n / 65536), UInt8.ofNat (n / 256), UInt8.ofNat n]⟩
theorem be4_size (n : Nat) : (be4 n).size = 4 := rfl
def encText (s : ByteArray) : ByteArray := be4 s.size ++ s
def flat : List ByteArray → ByteArray
  | [] => ByteArray.empty
  | s :: l => encText s ++ flat l
def encTexts (l : List ByteArray) : ByteArray := be4 l.length ++ flat l
def encDef (d : DefV) : ByteArray :=
  be4 d.kind.toNat ++ encText d.cls ++ (if d.kind = 1 then encText d.sup ++ encTexts d.vars else encText d.sel ++ encText d.src)

theorem valL_be4 (n : Nat) (hn : n ≤ 2147483647) : valL (be4 n).data.toList = n := by
  simp only [be4, valL, List.foldl, UInt8.toNat_ofNat']
  omega
theorem cutB_app (a X : ByteArray) : cutB (a ++ X) a.size = X := by
  apply ba_ext
  rw [cutB_list, ba_app]
  have h : a.data.toList.length = a.size := list_len a
  rw [← h]
  exact List.drop_left
theorem take_app (a X : ByteArray) : (a ++ X).extract 0 a.size = a := by
  apply ba_ext
  rw [Lib.extract_from_zero, ba_app]
  have h : a.data.toList.length = a.size := list_len a
  rw [← h]
  exact List.take_left
theorem rdNum_be4 (n : Nat) (X : ByteArray) (hn : n ≤ 2147483647) : rdNum (be4 n ++ X) 0 = ((n : Int), X, 0) := by
  have h1 : (be4 n ++ X).size = 4 + X.size := by rw [ByteArray.size_append, be4_size]
  have h2 : (be4 n ++ X).data.toList.take 4 = (be4 n).data.toList := by
    rw [ba_app]
    exact List.take_left' rfl
  have h3 := cutB_app (be4 n) X
  rw [be4_size] at h3
  unfold rdNum
  rw [if_neg (by simp), if_neg (by omega), h2, valL_be4 n hn, if_neg (by omega), h3]
theorem rdText_enc (s X : ByteArray) (hs : s.size ≤ 2147483647) : rdText (encText s ++ X) 0 = (s, X, 0) := by
  unfold rdText encText
  rw [ba_assoc, rdNum_be4 s.size (s ++ X) hs]
  simp only [Int.toNat_natCast]
  rw [if_neg (by simp), if_neg (by rw [ByteArray.size_append]; omega), take_app, cutB_app]
theorem rdLoop_enc (l : List ByteArray) : ∀ (X : ByteArray) (acc : List ByteArray), (∀ s ∈ l, s.size ≤ 2147483647) → rdLoop l.length (flat l ++ X) acc = (acc ++ l, X, 0) := by
  induction l with
  | nil =>
    intro X acc _
    rw [flat, show ByteArray.empty ++ X = X from ba_ext (by rw [ba_app]; rfl), List.append_nil]
    rfl
  | cons s l ih =>
    intro X acc h
    rw [flat, ba_assoc, List.length_cons, rdLoop, rdText_enc s _ (h s List.mem_cons_self)]
    rw [if_neg (by simp), ih X (acc ++ [s]) (fun t ht => h t (List.mem_cons_of_mem _ ht))]
    simp
theorem flat_size (l : List ByteArray) : l.length ≤ (flat l).size := by
  induction l with
  | nil => exact Nat.zero_le _
  | cons s l ih => rw [flat, List.length_cons, ByteArray.size_append, encText, ByteArray.size_append, be4_size]; omega
theorem rdTexts_enc (l : List ByteArray) (X : ByteArray) (hl : l.length ≤ 1000000) (h : ∀ s ∈ l, s.size ≤ 2147483647) : rdTexts (encTexts l ++ X) 0 = (l, X, 0) := by
  unfold rdTexts encTexts
  rw [ba_assoc, rdNum_be4 l.length (flat l ++ X) (by omega)]
  simp only [Int.toNat_natCast]
  rw [rdLoop_enc l X [] h, if_neg (by simp), if_neg (by rw [ByteArray.size_append]; have := flat_size l; omega), if_neg (by simp)]
  simp

/-- A definition that fits is read as it was written. -/
theorem rdDef_enc (d : DefV) (X : ByteArray) (hr : rightD d = true) (hk : d.kind = 1 ∧ d.sel = ByteArray.empty ∧ d.src = ByteArray.empty ∨ d.kind = 2 ∧ d.sup = ByteArray.empty ∧ d.vars = [])
    (h1 : d.cls.size ≤ 2147483647) (h2 : d.sup.size ≤ 2147483647) (h3 : d.sel.size ≤ 2147483647) (h4 : d.src.size ≤ 2147483647) (hl : d.vars.length ≤ 1000000) (hv : ∀ s ∈ d.vars, s.size ≤ 2147483647) :
    rdDef (encDef d ++ X) 0 = (d, 0, X, 0) := by
  obtain ⟨kind, cls, sup, vars, sel, src⟩ := d
  simp only at hk h1 h2 h3 h4 hl hv
  rcases hk with ⟨rfl, rfl, rfl⟩ | ⟨rfl, rfl, rfl⟩
  · have hp : rdParts (encDef ⟨1, cls, sup, vars, ByteArray.empty, ByteArray.empty⟩ ++ X) 0 = (⟨1, cls, sup, vars, ByteArray.empty, ByteArray.empty⟩, X, 0) := by
      refine rdParts_1 (B1 := encText cls ++ (encText sup ++ (encTexts vars ++ X))) (B2 := encText sup ++ (encTexts vars ++ X)) (B3 := encTexts vars ++ X) (e1 := 0) (e2 := 0) (e3 := 0) ?_ (rdText_enc _ _ h1) (rdText_enc _ _ h2) (rdTexts_enc _ _ hl hv)
      rw [encDef]
      simp only [if_true]
      rw [ba_assoc, ba_assoc, ba_assoc]
      exact rdNum_be4 1 _ (by decide)
    rw [rdDef, hp]
    simp only
    rw [if_neg (by simp), if_pos hr]
  · have hp : rdParts (encDef ⟨2, cls, ByteArray.empty, [], sel, src⟩ ++ X) 0 = (⟨2, cls, ByteArray.empty, [], sel, src⟩, X, 0) := by
      refine rdParts_2 (B1 := encText cls ++ (encText sel ++ (encText src ++ X))) (B2 := encText sel ++ (encText src ++ X)) (B3 := encText src ++ X) (e1 := 0) (e2 := 0) (e3 := 0) ?_ (rdText_enc _ _ h1) (rdText_enc _ _ h3) (rdText_enc _ _ h4)
      rw [encDef]
      simp only
      rw [if_neg (by decide), ba_assoc, ba_assoc, ba_assoc]
      exact rdNum_be4 2 _ (by decide)
    rw [rdDef, hp]
    simp only
    rw [if_neg (by simp), if_pos hr]
end Go.Proofs.YtoiaancehakiiaaDoor.Q
/- The walks of octet.Writer's methods, by hand: for every state of a writer. -/
namespace Go.Proofs.YtoiaancehakiiaaDoor.Q
open Go.RowKit Go.Proofs.YtoiaancehakiiaaDoor.Plain Go.Proofs.YtoiaancehakiiaaDoorW.PrintWords

/-- a writer at block g: the octets so far lie in a row of its own, made after it -/
def Wr (w : World) (g : Nat) (xs : List Int) (e : Int) : Prop :=
  ∃ v, w.heap[g]? = some (.cells #[v, .int .i64 e] 54 (0, 0)) ∧ Kd.R (Kd.int .u8) 5 w (g + 1) (fun _ => True) v xs
theorem Wr.lt {w : World} {g : Nat} {xs : List Int} {e : Int} (h : Wr w g xs e) : g < w.heap.size := by
  obtain ⟨v, hb, _⟩ := h
  exact blk_lt hb
/-- what a writer's call leaves: the elder blocks, and every block that is no row of octets and not the writer's own -/
structure Wf (g : Nat) (w w' : World) : Prop where
  below : Below g w w'
  keeps : ∀ (k : Nat) (cells : Array Value) (t : Nat), w.heap[k]? = some (.cells cells t (0, 0)) → t ≠ 5 → k ≠ g → w'.heap[k]? = some (.cells cells t (0, 0))
theorem Wf.refl (g : Nat) (w : World) : Wf g w w := ⟨Below.refl _ _, fun _ _ _ h _ _ => h⟩
theorem Wf.trans {g : Nat} {w w1 w2 : World} (h : Wf g w w1) (h2 : Wf g w1 w2) : Wf g w w2 := ⟨h.below.trans h2.below, fun k cells t hk ht hg => h2.keeps k cells t (h.keeps k cells t hk ht hg) ht hg⟩
theorem Wf.size {g : Nat} {w w1 : World} (h : Wf g w w1) : w.heap.size ≤ w1.heap.size := h.below.size
theorem Wf.of_below {g : Nat} {w w1 : World} (hb : Below w.heap.size w w1) (hg : g ≤ w.heap.size) : Wf g w w1 :=
  ⟨(Fr.of_below (fun _ => False) hb).belowB (fun _ h => h.elim) hg, fun k _ _ hk _ _ => (hb.block k (blk_lt hk)).trans hk⟩
theorem Wf.drew {g : Nat} (w : World) (hg : g ≤ w.heap.size) : Wf g w w.drew := Wf.of_below (below_drew (Below.refl _ _)) hg
theorem Wf.set (g : Nat) (w : World) (j : Nat) (v : Value) (hg : g ≤ w.heap.size) : Wf g w (w.setCell ⟨g, j, none⟩ v) :=
  ⟨(Fr.set_ (S := fun k => g ≤ k) w ⟨g, j, none⟩ v (Nat.le_refl _)).belowB (fun _ h => h) hg, fun _ _ _ hk _ hkg => (Fr.set_ (S := fun k => k = g) w ⟨g, j, none⟩ v rfl).heap hk hkg⟩
theorem Wf.grown {g : Nat} {W w1 : World} {xs : List Int} {v : Value} (hR : Kd.R (Kd.int .u8) 5 W (g + 1) (fun _ => True) v xs) (hg : W.grownBy w1 v.ownBlock) (hs : g ≤ W.heap.size) : Wf g W w1 := by
  have hF : Fr (fun k => g + 1 ≤ k) W w1 := ⟨hg.os, hg.tape, hg.output, hg.size, fun i hi hn => hg.block i hi (fun e => hn (Kd.R_base hR i e.symm))⟩
  refine ⟨hF.belowB (fun k hk => by omega) hs, fun k cells t hk ht _ => (hg.block k (blk_lt hk) (fun e => ?_)).trans hk⟩
  exact Kd.R_ne hR hk (fun e => ht e.symm) e
def WrPost (w : World) (g : Nat) (xs : List Int) (x : Int) (e : Ending) (w' : World) : Prop := e = .returned (.tuple #[]) ∧ Wr w' g xs x ∧ Wf g w w'

theorem wr_put {W w1 : World} {g : Nat} {xs : List Int} {e p : Int} {v v1 : Value} (hb : W.heap[g]? = some (.cells #[v, .int .i64 e] 54 (0, 0))) (hR : Kd.R (Kd.int .u8) 5 W (g + 1) (fun _ => True) v xs)
    (h1 : Kd.R (Kd.int .u8) 5 w1 (g + 1) (fun _ => True) v1 (xs ++ [p])) (hg : W.grownBy w1 v.ownBlock) : Wr (w1.setCell ⟨g, 0, none⟩ v1) g (xs ++ [p]) e ∧ Wf g W (w1.setCell ⟨g, 0, none⟩ v1) := by
  have hF : Fr (fun k => g + 1 ≤ k) W w1 := ⟨hg.os, hg.tape, hg.output, hg.size, fun i hi hn => hg.block i hi (fun e => hn (Kd.R_base hR i e.symm))⟩
  have hb1 := hF.heap hb (by omega)
  refine ⟨⟨v1, by simpa using blk_set hb1 0 v1, Kd.R_set h1 hb1 (fun q hq => ?_) 0 v1⟩, ?_⟩
  · simp [Kd.int, Kd.scalar] at hq
    omega
  · exact (Wf.grown hR hg (Nat.le_of_lt (blk_lt hb))).trans (Wf.set g w1 0 v1 (Nat.le_trans (Nat.le_of_lt (blk_lt hb)) hg.size))

theorem wr_grown {W w1 : World} {g : Nat} {xs : List Int} {e : Int} {v : Value} (hb : W.heap[g]? = some (.cells #[v, .int .i64 e] 54 (0, 0))) (hR : Kd.R (Kd.int .u8) 5 W (g + 1) (fun _ => True) v xs) (hg : W.grownBy w1 v.ownBlock) : w1.heap[g]? = some (.cells #[v, .int .i64 e] 54 (0, 0)) :=
  (Fr.of_grown hg).heap hb (fun e => by have := Kd.R_base hR g e; omega)

theorem u8_nat (m : Nat) : ((UInt8.ofNat m).toNat : Int) = IntKind.u8.wrap (m : Int) := by
  rw [UInt8.toNat_ofNat', IntKind.wrap_u8]
  omega
theorem bytesOf_be4 (n : Nat) : bytesOf (be4 n) = [IntKind.u8.wrap ((n : Int) / 16777216), IntKind.u8.wrap ((n : Int) / 65536), IntKind.u8.wrap ((n : Int) / 256), IntKind.u8.wrap (n : Int)] := by
  show [((UInt8.ofNat (n / 16777216)).toNat : Int), ((UInt8.ofNat (n / 65536)).toNat : Int), ((UInt8.ofNat (n / 256)).toNat : Int), ((UInt8.ofNat n).toNat : Int)] = _
  rw [u8_nat, u8_nat, u8_nat, u8_nat, Int.natCast_ediv, Int.natCast_ediv, Int.natCast_ediv]
  rfl
theorem put_list0 {xs ys : List Int} {n : Nat} (h : xs ++ (bytesOf (be4 n)).take 0 = ys) : ys ++ [IntKind.u8.wrap ((n : Int) / 16777216)] = xs ++ (bytesOf (be4 n)).take 1 := by
  rw [← h, bytesOf_be4, List.append_assoc]
  rfl
theorem put_list1 {xs ys : List Int} {n : Nat} (h : xs ++ (bytesOf (be4 n)).take 1 = ys) : ys ++ [IntKind.u8.wrap ((n : Int) / 65536)] = xs ++ (bytesOf (be4 n)).take 2 := by
  rw [← h, bytesOf_be4, List.append_assoc]
  rfl
theorem put_list2 {xs ys : List Int} {n : Nat} (h : xs ++ (bytesOf (be4 n)).take 2 = ys) : ys ++ [IntKind.u8.wrap ((n : Int) / 256)] = xs ++ (bytesOf (be4 n)).take 3 := by
  rw [← h, bytesOf_be4, List.append_assoc]
  rfl
theorem put_list3 {xs ys : List Int} {n : Nat} (h : xs ++ (bytesOf (be4 n)).take 3 = ys) : ys ++ [IntKind.u8.wrap ((n : Int))] = xs ++ (bytesOf (be4 n)).take 4 := by
  rw [← h, bytesOf_be4, List.append_assoc]
  rfl

def PutRel (w : World) (g : Nat) (xs ys : List Int) (v3 : Value) (wr : World) : Prop :=
  ∃ j : Nat, j ≤ 4 ∧ v3 = .int .i64 (3 - (j : Int)) ∧ Wr wr g (xs ++ ys.take j) 0 ∧ Wf g w wr

set_option maxRecDepth 100000 in
set_option maxHeartbeats 1000000 in
theorem put_calls (g n : Nat) (xs : List Int) (w : World) (h : Wr w g xs 0) (hx : xs.length ≤ 1000000000) (hn : n ≤ 2147483647) :
    Calls Tryd.prog 50 #[.pointer (some ⟨g, 0, none⟩), .int .u64 n, .int .i64 4] w (WrPost w g (xs ++ bytesOf (be4 n)) 0) := by
  have H := Lib.hid h
  have HX := Lib.hid hx
  have HN := Lib.hid hn
  clear h hx hn
  go_enter Tryd.func50, Tryd.ntmps50
  go_wp2
  go_loopw [6] (fun v3 wr => PutRel w g xs (bytesOf (be4 n)) v3 wr) (fun v3 _ => (intOf v3 + 1).toNat)
  case atStart => exact ⟨0, by decide, rfl, by simpa using H.out, Wf.refl _ _⟩
  case round =>
    obtain ⟨j, hj, rfl, hW, hB⟩ := hrel
    have HB := Lib.hid hB
    have hlt := hW.lt
    have hge := Lib.hid hB.size
    obtain ⟨ys, hys⟩ : ∃ ys, xs ++ (bytesOf (be4 n)).take j = ys := ⟨_, rfl⟩
    rw [hys] at hW
    have HYS := Lib.hid hys
    have hl1 : (ys.length + 1) * 1 ≤ 140737488355328 := by
      have := HX.out
      rw [← hys, List.length_append, List.length_take]
      omega
    clear hys
    obtain ⟨v, hb, hR⟩ := hW
    obtain ⟨Av, cv, rfl, hcv, hCv⟩ := Kd.R_reads hR
    have HR := Lib.hid hR
    have HBk := Lib.hid hb
    have hs1 : g + 1 ≤ wr.drew.heap.size := blk_lt hb
    have c0 := blk_cell hb 0
    have c1 := blk_cell hb 1
    have z0 := blk_frozen hb 0
    clear hb hR hB hCv
    have hj5 : j = 0 ∨ j = 1 ∨ j = 2 ∨ j = 3 ∨ j = 4 := by omega
    clear hj
    rcases hj5 with hq0 | hq1 | hq2 | hq3 | h4
    · subst hq0
      have h24 : IntKind.i64.wrap 24 = 24 := by decide
      go_wp2_with fail
      go_region_law (refine Kd.R_append_step (Kd.int .u8) (w0 := wr.drew) (W := wr.drew) (g + 1) (by first | rfl | assumption) (.tmp 24) (.tmp 30) 22 5 (.int .u8 0) 1 rfl Tryd.underlying22 infoU8 rfl (by decide) (by decide) (.slice Av ys.length cv) ys (IntKind.u8.wrap ((n : Int) / 16777216)) [.int .u8 (IntKind.u8.wrap ((n : Int) / 16777216))] (fun _ => True) (fun _ => False) rfl rfl ?aP (fun _ hk => hk.elim) ?aF ?aO ?aB ?aS ?aL ?_; (case aP => exact rfl); (case aF => exact (fun _ _ => trivial)); (case aO => exact Kd.R_drew HR.out); (case aB => exact Below.refl _ _); (case aS => exact hs1); (case aL => exact hl1); intro v3 w3 hO3 hb3 hg3 hat3; obtain ⟨A3, c3, rfl⟩ := Kd.R_slice hO3; have hb4 := wr_grown (W := wr.drew) HBk.out (Kd.R_drew HR.out) hg3; have d0 := blk_cell hb4 0; have dz := blk_frozen hb4 0; clear hb4; have HO3 := Lib.hid hO3; have HG3 := Lib.hid hg3; clear hO3 hb3 hg3 hat3)
      all_goals obtain ⟨hw4, hb4⟩ := wr_put (W := wr.drew) HBk.out (Kd.R_drew HR.out) HO3.out HG3.out
      all_goals have HW4 := Lib.hid hw4
      all_goals have HB4 := Lib.hid (HB.out.trans ((Wf.drew wr (Nat.le_of_lt hlt)).trans hb4))
      all_goals clear hw4 hb4
      all_goals rw [List.length_append, List.length_singleton] at HW4 HB4
      all_goals clear d0 dz HO3 HG3
      all_goals go_wp2
      all_goals refine ⟨⟨1, by decide, rfl, by rw [← put_list0 HYS.out]; exact HW4.out, HB4.out⟩, by decide⟩
    · subst hq1
      have h24 : IntKind.i64.wrap 16 = 16 := by decide
      go_wp2_with fail
      go_region_law (refine Kd.R_append_step (Kd.int .u8) (w0 := wr.drew) (W := wr.drew) (g + 1) (by first | rfl | assumption) (.tmp 24) (.tmp 30) 22 5 (.int .u8 0) 1 rfl Tryd.underlying22 infoU8 rfl (by decide) (by decide) (.slice Av ys.length cv) ys (IntKind.u8.wrap ((n : Int) / 65536)) [.int .u8 (IntKind.u8.wrap ((n : Int) / 65536))] (fun _ => True) (fun _ => False) rfl rfl ?aP (fun _ hk => hk.elim) ?aF ?aO ?aB ?aS ?aL ?_; (case aP => exact rfl); (case aF => exact (fun _ _ => trivial)); (case aO => exact Kd.R_drew HR.out); (case aB => exact Below.refl _ _); (case aS => exact hs1); (case aL => exact hl1); intro v3 w3 hO3 hb3 hg3 hat3; obtain ⟨A3, c3, rfl⟩ := Kd.R_slice hO3; have hb4 := wr_grown (W := wr.drew) HBk.out (Kd.R_drew HR.out) hg3; have d0 := blk_cell hb4 0; have dz := blk_frozen hb4 0; clear hb4; have HO3 := Lib.hid hO3; have HG3 := Lib.hid hg3; clear hO3 hb3 hg3 hat3)
      all_goals obtain ⟨hw4, hb4⟩ := wr_put (W := wr.drew) HBk.out (Kd.R_drew HR.out) HO3.out HG3.out
      all_goals have HW4 := Lib.hid hw4
      all_goals have HB4 := Lib.hid (HB.out.trans ((Wf.drew wr (Nat.le_of_lt hlt)).trans hb4))
      all_goals clear hw4 hb4
      all_goals rw [List.length_append, List.length_singleton] at HW4 HB4
      all_goals clear d0 dz HO3 HG3
      all_goals go_wp2
      all_goals refine ⟨⟨2, by decide, rfl, by rw [← put_list1 HYS.out]; exact HW4.out, HB4.out⟩, by decide⟩
    · subst hq2
      have h24 : IntKind.i64.wrap 8 = 8 := by decide
      go_wp2_with fail
      go_region_law (refine Kd.R_append_step (Kd.int .u8) (w0 := wr.drew) (W := wr.drew) (g + 1) (by first | rfl | assumption) (.tmp 24) (.tmp 30) 22 5 (.int .u8 0) 1 rfl Tryd.underlying22 infoU8 rfl (by decide) (by decide) (.slice Av ys.length cv) ys (IntKind.u8.wrap ((n : Int) / 256)) [.int .u8 (IntKind.u8.wrap ((n : Int) / 256))] (fun _ => True) (fun _ => False) rfl rfl ?aP (fun _ hk => hk.elim) ?aF ?aO ?aB ?aS ?aL ?_; (case aP => exact rfl); (case aF => exact (fun _ _ => trivial)); (case aO => exact Kd.R_drew HR.out); (case aB => exact Below.refl _ _); (case aS => exact hs1); (case aL => exact hl1); intro v3 w3 hO3 hb3 hg3 hat3; obtain ⟨A3, c3, rfl⟩ := Kd.R_slice hO3; have hb4 := wr_grown (W := wr.drew) HBk.out (Kd.R_drew HR.out) hg3; have d0 := blk_cell hb4 0; have dz := blk_frozen hb4 0; clear hb4; have HO3 := Lib.hid hO3; have HG3 := Lib.hid hg3; clear hO3 hb3 hg3 hat3)
      all_goals obtain ⟨hw4, hb4⟩ := wr_put (W := wr.drew) HBk.out (Kd.R_drew HR.out) HO3.out HG3.out
      all_goals have HW4 := Lib.hid hw4
      all_goals have HB4 := Lib.hid (HB.out.trans ((Wf.drew wr (Nat.le_of_lt hlt)).trans hb4))
      all_goals clear hw4 hb4
      all_goals rw [List.length_append, List.length_singleton] at HW4 HB4
      all_goals clear d0 dz HO3 HG3
      all_goals go_wp2
      all_goals refine ⟨⟨3, by decide, rfl, by rw [← put_list2 HYS.out]; exact HW4.out, HB4.out⟩, by decide⟩
    · subst hq3
      have h24 : IntKind.i64.wrap 0 = 0 := by decide
      go_wp2_with fail
      go_region_law (refine Kd.R_append_step (Kd.int .u8) (w0 := wr.drew) (W := wr.drew) (g + 1) (by first | rfl | assumption) (.tmp 24) (.tmp 30) 22 5 (.int .u8 0) 1 rfl Tryd.underlying22 infoU8 rfl (by decide) (by decide) (.slice Av ys.length cv) ys (IntKind.u8.wrap (n : Int)) [.int .u8 (IntKind.u8.wrap (n : Int))] (fun _ => True) (fun _ => False) rfl rfl ?aP (fun _ hk => hk.elim) ?aF ?aO ?aB ?aS ?aL ?_; (case aP => exact rfl); (case aF => exact (fun _ _ => trivial)); (case aO => exact Kd.R_drew HR.out); (case aB => exact Below.refl _ _); (case aS => exact hs1); (case aL => exact hl1); intro v3 w3 hO3 hb3 hg3 hat3; obtain ⟨A3, c3, rfl⟩ := Kd.R_slice hO3; have hb4 := wr_grown (W := wr.drew) HBk.out (Kd.R_drew HR.out) hg3; have d0 := blk_cell hb4 0; have dz := blk_frozen hb4 0; clear hb4; have HO3 := Lib.hid hO3; have HG3 := Lib.hid hg3; clear hO3 hb3 hg3 hat3)
      all_goals obtain ⟨hw4, hb4⟩ := wr_put (W := wr.drew) HBk.out (Kd.R_drew HR.out) HO3.out HG3.out
      all_goals have HW4 := Lib.hid hw4
      all_goals have HB4 := Lib.hid (HB.out.trans ((Wf.drew wr (Nat.le_of_lt hlt)).trans hb4))
      all_goals clear hw4 hb4
      all_goals rw [List.length_append, List.length_singleton] at HW4 HB4
      all_goals clear d0 dz HO3 HG3
      all_goals go_wp2
      all_goals refine ⟨⟨4, by decide, rfl, by rw [← put_list3 HYS.out]; exact HW4.out, HB4.out⟩, by decide⟩
    · subst h4
      go_wp2
      go_end0
      refine ⟨rfl, ?_, HB.out⟩
      have := HYS.out
      rw [show (bytesOf (be4 n)).take 4 = bytesOf (be4 n) from rfl] at this
      rw [this]
      exact ⟨_, HBk.out, HR.out⟩
end Go.Proofs.YtoiaancehakiiaaDoor.Q
/- The walks of octet.Writer's Num, Text, Texts, Err, Bytes, by hand. -/
namespace Go.Proofs.YtoiaancehakiiaaDoor.Q
open Go.RowKit Go.Proofs.YtoiaancehakiiaaDoor.Plain Go.Proofs.YtoiaancehakiiaaDoorW.PrintWords

/-- an error stands: nothing is put -/
theorem put_err (g : Nat) (n x : Int) (xs : List Int) (w : World) (h : Wr w g xs x) (hx : x ≠ 0) :
    Calls Tryd.prog 50 #[.pointer (some ⟨g, 0, none⟩), .int .u64 n, .int .i64 4] w (WrPost w g xs x) := by
  have H := Lib.hid h
  obtain ⟨v, hb, hR⟩ := h
  have c1 := blk_cell hb 1
  have he1 : (x == 0) = false := beq_eq_false_iff_ne.2 hx
  have he2 : (x != 0) = true := bne_iff_ne.2 hx
  clear hb hR hx
  go_enter Tryd.func50, Tryd.ntmps50
  go_wp2
  go_loopw [6] (fun v6 wr => v6 = .int .i64 3 ∧ wr = w) (fun v6 _ => (intOf v6 + 1).toNat)
  case atStart => exact ⟨rfl, rfl⟩
  case round =>
    obtain ⟨rfl, rfl⟩ := hrel
    go_wp2
    go_end0
    exact ⟨rfl, H.out, Wf.refl _ _⟩

theorem wnum_calls (g n : Nat) (xs : List Int) (w : World) (h : Wr w g xs 0) (hx : xs.length ≤ 1000000000) (hn : n ≤ 2147483647) :
    Calls Tryd.prog 21 #[.pointer (some ⟨g, 0, none⟩), .int .i64 n] w (WrPost w g (xs ++ bytesOf (be4 n)) 0) := by
  have hp := Lib.hid (put_calls g n xs w h hx hn)
  have h1 : ¬ (n : Int) < 0 := by omega
  have h2 : ¬ (2147483647 : Int) < (n : Int) := by omega
  have h3 : IntKind.u64.wrap (n : Int) = (n : Int) := IntWalk.u64_in _ (by omega)
  have HN := Lib.hid hn
  clear h hx
  go_enter Tryd.func21, Tryd.ntmps21
  go_wp2_with (go_at_call 50; refine hp.out.mono ?_; rintro e1 w1 ⟨rfl, hR1, hB1⟩; have hR1 := Lib.hid hR1; have hB1 := Lib.hid hB1)
  go_end0
  exact ⟨rfl, hR1.out, hB1.out⟩
/-- a number that is none: the error -/
theorem wnum_bad (g : Nat) (xs : List Int) (e : Int) (w : World) (h : Wr w g xs e) :
    Calls Tryd.prog 21 #[.pointer (some ⟨g, 0, none⟩), .int .i64 (-1)] w (WrPost w g xs 2) := by
  obtain ⟨v, hb, hR⟩ := h
  have hlt := blk_lt hb
  have c1 := blk_cell hb 1
  have z1 := blk_frozen hb 1
  have hb2 : (w.setCell ⟨g, 1, none⟩ (.int .i64 2)).heap[g]? = some (.cells #[v, .int .i64 2] 54 (0, 0)) := by simpa using blk_set hb 1 (.int .i64 2)
  have hw2 : Wr (w.setCell ⟨g, 1, none⟩ (.int .i64 2)) g xs 2 := ⟨v, hb2, Kd.R_set hR hb (fun q hq => by simp [Kd.int, Kd.scalar] at hq; omega) 1 _⟩
  have HP := Lib.hid (put_err g (IntKind.u64.wrap (-1)) 2 xs _ hw2 (by decide))
  have HB := Lib.hid (Wf.set g w 1 (.int .i64 2) (Nat.le_of_lt hlt))
  clear hb hR hb2 hw2
  go_enter Tryd.func21, Tryd.ntmps21
  go_wp2_with (go_at_call 50; refine HP.out.mono ?_; rintro e1 w1 ⟨rfl, hR1, hB1⟩; have hR1 := Lib.hid hR1; have hB1 := Lib.hid hB1)
  go_end0
  exact ⟨rfl, hR1.out, HB.out.trans hB1.out⟩
end Go.Proofs.YtoiaancehakiiaaDoor.Q
/- The walks of octet.Writer's Text, Texts, Err, Bytes, by hand. -/
namespace Go.Proofs.YtoiaancehakiiaaDoor.Q
open Go.RowKit Go.Proofs.YtoiaancehakiiaaDoor.Plain Go.Proofs.YtoiaancehakiiaaDoorW.PrintWords

theorem wr_store {W w1 : World} {g : Nat} {xs zs : List Int} {e : Int} {v v1 : Value} (hb : W.heap[g]? = some (.cells #[v, .int .i64 e] 54 (0, 0))) (hR : Kd.R (Kd.int .u8) 5 W (g + 1) (fun _ => True) v xs)
    (h1 : Kd.R (Kd.int .u8) 5 w1 (g + 1) (fun _ => True) v1 zs) (hg : W.grownBy w1 v.ownBlock) : Wr (w1.setCell ⟨g, 0, none⟩ v1) g zs e ∧ Wf g W (w1.setCell ⟨g, 0, none⟩ v1) := by
  have hF : Fr (fun k => g + 1 ≤ k) W w1 := ⟨hg.os, hg.tape, hg.output, hg.size, fun i hi hn => hg.block i hi (fun e => hn (Kd.R_base hR i e.symm))⟩
  have hb1 := hF.heap hb (by omega)
  refine ⟨⟨v1, by simpa using blk_set hb1 0 v1, Kd.R_set h1 hb1 (fun q hq => ?_) 0 v1⟩, ?_⟩
  · simp [Kd.int, Kd.scalar] at hq
    omega
  · exact (Wf.grown hR hg (Nat.le_of_lt (blk_lt hb))).trans (Wf.set g w1 0 v1 (Nat.le_trans (Nat.le_of_lt (blk_lt hb)) hg.size))
theorem bytesOf_app (a b : ByteArray) : bytesOf (a ++ b) = bytesOf a ++ bytesOf b := by
  unfold bytesOf
  rw [ba_app, List.map_append]

set_option maxRecDepth 100000 in
set_option maxHeartbeats 1000000 in
theorem wtext_calls (g : Nat) (s : ByteArray) (xs : List Int) (w : World) (h : Wr w g xs 0) (hx : xs.length ≤ 1000000000) (hs : s.size ≤ 1000000000) :
    Calls Tryd.prog 51 #[.pointer (some ⟨g, 0, none⟩), .string s] w (WrPost w g (xs ++ bytesOf (encText s)) 0) := by
  have hn := wnum_calls g s.size xs w h hx (by omega)
  rw [encText, bytesOf_app, ← List.append_assoc]
  have hl : (xs ++ bytesOf (be4 s.size)).length + s.size ≤ 140737488355328 := by
    rw [List.length_append, bytesOf_length, be4_size]
    omega
  generalize xs ++ bytesOf (be4 s.size) = ys at *
  have hn := Lib.hid hn
  clear h hx hs
  go_enter Tryd.func51, Tryd.ntmps51
  go_wp2_with (first | (go_at_call 21; refine hn.out.mono ?_; rintro e1 w1 ⟨rfl, hR1, hB1⟩; have HB1 := Lib.hid hB1; have HR1 := Lib.hid hR1; obtain ⟨v, hb, hR⟩ := hR1; obtain ⟨Av, cv, rfl, hcv, hCv⟩ := Kd.R_reads hR; have HR := Lib.hid hR; have HBk := Lib.hid hb; have c0 := blk_cell hb 0; have c1 := blk_cell hb 1; have z0 := blk_frozen hb 0; have hlt := blk_lt hb; clear hb hR hB1 hCv) | (at_builtin; refine print_append_str (w0 := w1) (g + 1) rfl (.tmp 17) (.tmp 18) 22 9 5 rfl Tryd.underlying22 Tryd.underlying9 infoU8 (.slice Av ys.length cv) ys s rfl rfl ?aO (Below.refl _ _) ?aS hl ?_; (case aO => exact Kd.own_of_R HR.out); (case aS => exact hlt); intro v3 w3 hown hb3 hg3; have hO3 : Kd.R (Kd.int .u8) 5 w3 (g + 1) (fun _ => True) v3 (ys ++ bytesOf s) := Kd.R_of_own hown (fun _ _ => trivial); obtain ⟨A3, c3, rfl⟩ := Kd.R_slice hO3; have hb4 := wr_grown HBk.out HR.out hg3; have d0 := blk_cell hb4 0; have dz := blk_frozen hb4 0; clear hb4; have HO3 := Lib.hid hO3; have HG3 := Lib.hid hg3; clear hO3 hb3 hg3 hown))
  obtain ⟨hw4, hb4⟩ := wr_store HBk.out HR.out HO3.out HG3.out
  have HW4 := Lib.hid hw4
  have HB4 := Lib.hid (HB1.out.trans hb4)
  rw [List.length_append] at HW4 HB4
  go_end0
  exact ⟨rfl, HW4.out, HB4.out⟩

theorem werr_calls (g : Nat) (xs : List Int) (e : Int) (w : World) (h : Wr w g xs e) :
    Calls Tryd.prog 23 #[.pointer (some ⟨g, 0, none⟩)] w fun x w' => x = .returned (.int .i64 e) ∧ w = w' := by
  obtain ⟨v, hb, hR⟩ := h
  have c1 : w.cell? ⟨g, 1, none⟩ = some (.int .i64 e) := (blk_cell hb 1).trans rfl
  clear hb hR
  go_enter Tryd.func23, Tryd.ntmps23
  go_wp2
  go_ret
  exact ⟨rfl, rfl⟩
theorem wbytes_calls (g : Nat) (xs : List Int) (e : Int) (w : World) (h : Wr w g xs e) (hx : xs.length ≤ 140737488355328) :
    Calls Tryd.prog 24 #[.pointer (some ⟨g, 0, none⟩)] w (ClonePost w xs) := by
  obtain ⟨v, hb, hR⟩ := h
  obtain ⟨Av, cv, rfl, hcv, hCv⟩ := Kd.R_reads hR
  have c0 : w.cell? ⟨g, 0, none⟩ = some (.slice Av xs.length cv) := (blk_cell hb 0).trans rfl
  have HC := Lib.hid (clone_calls Av cv xs w hCv hx)
  clear hb hR hCv
  go_enter Tryd.func24, Tryd.ntmps24
  go_wp2_with (go_at_call 30; refine HC.out.mono ?_; rintro e1 w1 ⟨A1, c1, rfl, hc1, hC1, hA1, hB1⟩; have hC1 := Lib.hid hC1; have hA1 := Lib.hid hA1; have hB1 := Lib.hid hB1)
  go_ret
  exact ⟨A1, c1, rfl, hc1, hC1.out, hA1.out, hB1.out⟩
end Go.Proofs.YtoiaancehakiiaaDoor.Q
/- The walk of octet.Writer's Texts, by hand. -/
namespace Go.Proofs.YtoiaancehakiiaaDoor.Q
open Go.RowKit Go.Proofs.YtoiaancehakiiaaDoor.Plain Go.Proofs.YtoiaancehakiiaaDoorW.PrintWords

theorem Fr.of_belowB {g : Nat} {w w' : World} (h : Below g w w') : Fr (fun k => g ≤ k) w w' := ⟨h.os, h.tape, h.output, h.size, fun i _ hn => h.block i (Nat.lt_of_not_le hn)⟩
theorem flat_app (a b : List ByteArray) : flat (a ++ b) = flat a ++ flat b := by
  induction a with
  | nil => exact ba_ext (by rw [ba_app]; rfl)
  | cons s a ih => rw [List.cons_append, flat, flat, ih, ba_assoc]
theorem flat_take (l : List ByteArray) (j : Nat) (s : ByteArray) (h : l[j]? = some s) : flat (l.take (j + 1)) = flat (l.take j) ++ encText s := by
  rw [List.take_add_one, h, flat_app]
  simp only [Option.toList, flat]
  rw [ba_nil]
theorem flat_bound (l : List ByteArray) (j : Nat) (s : ByteArray) (h : l[j]? = some s) : (flat (l.take j)).size + s.size ≤ (flat l).size := by
  have h1 := flat_take l j s h
  have h2 : flat l = flat (l.take (j + 1)) ++ flat (l.drop (j + 1)) := by rw [← flat_app, List.take_append_drop]
  rw [h2, h1, ByteArray.size_append, ByteArray.size_append, encText, ByteArray.size_append]
  omega

def WTextsRel (w : World) (g : Nat) (ys : List Int) (l : List ByteArray) (v4 : Value) (wr : World) : Prop :=
  ∃ j : Nat, j ≤ l.length ∧ v4 = .int .i64 j ∧ Wr wr g (ys ++ bytesOf (flat (l.take j))) 0 ∧ Wf g w wr

set_option maxRecDepth 100000 in
set_option maxHeartbeats 1000000 in
theorem wtexts_calls (g : Nat) (A : Option Addr) (c : Nat) (l : List ByteArray) (xs : List Int) (w : World) (h : Wr w g xs 0) (hC : Kd.string.C w A l.length l) (hA : ∀ ad, A = some ad → 0 < l.length → ad.block < g)
    (hx : xs.length + (encTexts l).size ≤ 1000000000) :
    Calls Tryd.prog 52 #[.pointer (some ⟨g, 0, none⟩), .slice A l.length c] w (WrPost w g (xs ++ bytesOf (encTexts l)) 0) := by
  have hfs := flat_size l
  rw [encTexts, ByteArray.size_append, be4_size] at hx
  have hn := wnum_calls g l.length xs w h (by omega) (by omega)
  rw [encTexts, bytesOf_app, ← List.append_assoc]
  have hl : (xs ++ bytesOf (be4 l.length)).length + (flat l).size ≤ 1000000000 := by
    rw [List.length_append, bytesOf_length, be4_size]
    omega
  generalize xs ++ bytesOf (be4 l.length) = ys at *
  have hn := Lib.hid hn
  have HL := Lib.hid hl
  have HC := Lib.hid hC
  have HA := Lib.hid hA
  have hmax : (l.length : Int) ≤ 1000000000 := by omega
  clear h hx hC hA hfs hl
  go_enter Tryd.func52, Tryd.ntmps52
  go_wp2_with (go_at_call 21; refine hn.out.mono ?_; rintro e1 w1 ⟨rfl, hR1, hB1⟩; have HB1 := Lib.hid hB1; have HR1 := Lib.hid hR1; clear hR1 hB1)
  go_loopw [12] (fun v12 wr => WTextsRel w g ys l v12 wr) (fun v12 _ => l.length - (intOf v12).toNat)
  case atStart => exact ⟨0, Nat.zero_le _, rfl, by rw [List.take_zero, show bytesOf (flat []) = [] from rfl, List.append_nil]; exact HR1.out, HB1.out⟩
  case round =>
    obtain ⟨j, hj, rfl, hW, hB⟩ := hrel
    have HW := Lib.hid hW
    have HB := Lib.hid hB
    clear hW hB
    by_cases hlt : j < l.length
    · have hkb : decide (j < l.length) = true := decide_eq_true hlt
      obtain ⟨s, hs⟩ : ∃ s, l[j]? = some s := ⟨_, List.getElem?_eq_getElem hlt⟩
      have HB2 := flat_bound l j s hs
      have HT := flat_take l j s hs
      have hx1 : (ys ++ bytesOf (flat (l.take j))).length ≤ 1000000000 := by
        rw [List.length_append, bytesOf_length]
        have := HL.out
        omega
      have hs1 : s.size ≤ 1000000000 := by have := HL.out; omega
      have hwt := wtext_calls g s _ wr HW.out hx1 hs1
      rw [List.append_assoc, ← bytesOf_app, ← HT] at hwt
      have hwt := Lib.hid hwt
      obtain ⟨ad, hadA, hcell⟩ := (Kd.reads_of_C (enc := Value.string) (d := ByteArray.empty) (h1 := fun _ => rfl) ((Fr.of_belowB HB.out.below).string HC.out (fun ad ha h0 hk => absurd (HA.out ad ha h0) (Nat.not_lt.2 hk)))).2.2 (by omega)
      subst hadA
      have hc := hcell j hlt
      rw [List.getD_eq_getElem?_getD, hs] at hc
      have hc : wr.cell? (ad.add j) = some (.string s) := hc
      clear hcell hs HB2 HT hx1 hs1
      go_wp2_with (go_at_call 51; refine hwt.out.mono ?_; rintro e2 w2 ⟨rfl, hR2, hB2⟩; have HR2 := Lib.hid hR2; have HB2 := Lib.hid (HB.out.trans hB2); clear hR2 hB2)
      go_roundw
      case rel => exact ⟨j + 1, hlt, by go_num, HR2.out, HB2.out⟩
      case measure => simp [intOf]; omega
    · have hkb : decide (j < l.length) = false := decide_eq_false hlt
      obtain rfl : j = l.length := by omega
      go_wp2
      go_end0
      have := HW.out
      rw [List.take_length] at this
      exact ⟨rfl, this, HB.out⟩
end Go.Proofs.YtoiaancehakiiaaDoor.Q
/- The walk of def.Write, by hand. -/
namespace Go.Proofs.YtoiaancehakiiaaDoor.Q
open Go.RowKit Go.Proofs.YtoiaancehakiiaaDoor.Plain Go.Proofs.YtoiaancehakiiaaDoorW.PrintWords

theorem enc_parts1 (xs : List Int) (d : DefV) (h : d.kind = 1) : xs ++ bytesOf (encDef d) = ((xs ++ bytesOf (be4 1)) ++ bytesOf (encText d.cls) ++ bytesOf (encText d.sup)) ++ bytesOf (encTexts d.vars) := by
  rw [encDef, if_pos h, h]
  simp only [bytesOf_app, List.append_assoc]
  rfl
theorem enc_parts2 (xs : List Int) (d : DefV) (h : d.kind = 2) : xs ++ bytesOf (encDef d) = ((xs ++ bytesOf (be4 2)) ++ bytesOf (encText d.cls) ++ bytesOf (encText d.sel)) ++ bytesOf (encText d.src) := by
  rw [encDef, if_neg (by rw [h]; decide), h]
  simp only [bytesOf_app, List.append_assoc]
  rfl
theorem right_kinds (d : DefV) (h : rightD d = true) : d.kind = 1 ∨ d.kind = 2 := by
  unfold rightD at h
  split at h
  · exact .inl (by assumption)
  split at h
  · exact .inr (by assumption)
  · cases h

theorem wr_below {w w1 : World} {g : Nat} {xs : List Int} {e : Int} (h : Wr w g xs e) (hb : Below w.heap.size w w1) : Wr w1 g xs e := by
  obtain ⟨v, h0, hR⟩ := h
  exact ⟨v, (hb.block g (blk_lt h0)).trans h0, Kd.R_below hR hb⟩
set_option maxRecDepth 100000 in
set_option maxHeartbeats 1000000 in
theorem write_calls (g : Nat) (d : DefV) (A : Option Addr) (c : Nat) (xs : List Int) (w : World) (h : Wr w g xs 0) (hC : Kd.string.C w A d.vars.length d.vars) (hc : d.vars.length ≤ c) (hA : ∀ ad, A = some ad → 0 < d.vars.length → ad.block < g)
    (hsel : d.sel.size < 4294967281) (hx : xs.length + (encDef d).size ≤ 1000000000) :
    Calls Tryd.prog 22 #[.pointer (some ⟨g, 0, none⟩), .agg #[.int .i64 d.kind, .string d.cls, .string d.sup, .slice A d.vars.length c, .string d.sel, .string d.src]] w
      (WrPost w g (if rightD d = true then xs ++ bytesOf (encDef d) else xs) (if rightD d = true then 0 else 2)) := by
  obtain ⟨kind, cls, sup, vars, sel, src⟩ := d
  simp only at hC hc hA hsel hx ⊢
  have HC := Lib.hid (Kd.C_alloc hC (.cells #[.int .i64 kind, .string cls, .string sup, .slice A vars.length c, .string sel, .string src] 31))
  have HA := Lib.hid hA
  have hlt := h.lt
  have hright := def_Right.calls 61 kind cls sup A c vars sel src (rightD ⟨kind, cls, sup, vars, sel, src⟩) _ HC.out hc (right_ok 61 ⟨kind, cls, sup, vars, sel, src⟩ hsel (by decide))
  have H := Lib.hid (wr_below h (below_alloc (Below.refl _ _) (.cells #[.int .i64 kind, .string cls, .string sup, .slice A vars.length c, .string sel, .string src] 31)))
  have HF := Lib.hid (Wf.of_below (g := g) (below_alloc (Below.refl _ w) (.cells #[.int .i64 kind, .string cls, .string sup, .slice A vars.length c, .string sel, .string src] 31)) (Nat.le_of_lt hlt))
  have HP := Lib.hid (heap_alloc_new w (.cells #[.int .i64 kind, .string cls, .string sup, .slice A vars.length c, .string sel, .string src] 31))
  have hlt0 := blk_lt HP.out
  generalize hW0 : w.alloc (.cells #[.int .i64 kind, .string cls, .string sup, .slice A vars.length c, .string sel, .string src] 31) = W0 at *
  cases hr : rightD ⟨kind, cls, sup, vars, sel, src⟩
  · rw [hr] at hright
    have hright := Lib.hid hright
    have HW0 := Lib.hid hW0
    rw [if_neg (by decide), if_neg (by decide)]
    have p0 := blk_cell HP.out 0
    have p1 := blk_cell HP.out 1
    have p2 := blk_cell HP.out 2
    have p3 := blk_cell HP.out 3
    have p4 := blk_cell HP.out 4
    have p5 := blk_cell HP.out 5
    clear h hC hA hx hr hc hsel hW0
    go_enter Tryd.func22, Tryd.ntmps22
    go_wp2_with fail
    rw [HW0.out]
    go_wp2_with fail
    refine hright.out.mono ?_
    rintro e1 w1 ⟨rfl, hb1⟩
    have HW1 := Lib.hid (wr_below H.out hb1)
    have HB1 := Lib.hid (HF.out.trans (Wf.of_below hb1 (Nat.le_of_lt H.out.lt)))
    clear hb1
    go_wp2_with fail
    refine (wnum_bad g xs 0 _ HW1.out).mono ?_
    rintro e2 w2 ⟨rfl, hR2, hB2⟩
    have HR2 := Lib.hid hR2
    have HB2 := Lib.hid hB2
    clear hR2 hB2
    go_wp2
    refine bodyPost_ret (results_none rfl _ _ _) rfl ?_
    exact ⟨rfl, HR2.out, HB1.out.trans HB2.out⟩
  · rw [hr] at hright
    have hright := Lib.hid hright
    have HW0 := Lib.hid hW0
    rw [if_pos rfl, if_pos rfl]
    clear hW0
    rcases right_kinds _ hr with hk | hk
    · obtain rfl : kind = 1 := hk
      rw [enc_parts1 xs ⟨1, cls, sup, vars, sel, src⟩ rfl]
      simp only
      have hz : (xs ++ bytesOf (be4 1)).length + (encText cls).size + (encText sup).size + (encTexts vars).size ≤ 1000000000 := by
        have := congrArg List.length (enc_parts1 xs ⟨1, cls, sup, vars, sel, src⟩ rfl)
        simp only [List.length_append, bytesOf_length] at this ⊢
        omega
      have hc1 : (encText cls).size = 4 + cls.size := by rw [encText, ByteArray.size_append, be4_size]
      have hc2 : (encText sup).size = 4 + sup.size := by rw [encText, ByteArray.size_append, be4_size]
      have hn : Hid (∀ W, Wr W g xs 0 → Calls Tryd.prog 21 #[.pointer (some ⟨g, 0, none⟩), .int .i64 1] W (WrPost W g (xs ++ bytesOf (be4 1)) 0)) := Lib.hid (fun W hW => wnum_calls g 1 xs W hW (by simp only [List.length_append] at hz; omega) (by decide))
      generalize xs ++ bytesOf (be4 1) = x1 at *
      have ht1 : Hid (∀ W, Wr W g x1 0 → Calls Tryd.prog 51 #[.pointer (some ⟨g, 0, none⟩), .string cls] W (WrPost W g (x1 ++ bytesOf (encText cls)) 0)) := Lib.hid (fun W hW => wtext_calls g cls x1 W hW (by omega) (by omega))
      have hl2 : (x1 ++ bytesOf (encText cls)).length = x1.length + (encText cls).size := by rw [List.length_append, bytesOf_length]
      generalize x1 ++ bytesOf (encText cls) = x2 at *
      have ht2 : Hid (∀ W, Wr W g x2 0 → Calls Tryd.prog 51 #[.pointer (some ⟨g, 0, none⟩), .string sup] W (WrPost W g (x2 ++ bytesOf (encText sup)) 0)) := Lib.hid (fun W hW => wtext_calls g sup x2 W hW (by omega) (by omega))
      have hl3 : (x2 ++ bytesOf (encText sup)).length = x2.length + (encText sup).size := by rw [List.length_append, bytesOf_length]
      generalize x2 ++ bytesOf (encText sup) = x3 at *
      have ht3 : Hid (∀ W, Wr W g x3 0 → Kd.string.C W A vars.length vars → Calls Tryd.prog 52 #[.pointer (some ⟨g, 0, none⟩), .slice A vars.length c] W (WrPost W g (x3 ++ bytesOf (encTexts vars)) 0)) := Lib.hid (fun W hW hCW => wtexts_calls g A c vars x3 W hW hCW HA.out (by omega))
      have HCw := Lib.hid hC
      clear h hC hA hx hr hc hsel hz hc1 hc2 hl2 hl3
      have q00 := blk_cell HP.out 0
      have q01 := blk_cell HP.out 1
      have q02 := blk_cell HP.out 2
      have q03 := blk_cell HP.out 3
      have q04 := blk_cell HP.out 4
      have q05 := blk_cell HP.out 5
      go_enter Tryd.func22, Tryd.ntmps22
      go_wp2_with fail
      rw [HW0.out]
      go_wp2_with fail
      refine hright.out.mono ?_
      rintro e1 w1 ⟨rfl, hb1⟩
      have HR1 := Lib.hid (wr_below H.out hb1)
      have HP1 := Lib.hid ((hb1.block _ (blk_lt HP.out)).trans HP.out)
      have HF1 := Lib.hid (HF.out.trans (Wf.of_below hb1 (Nat.le_of_lt H.out.lt)))
      clear hb1 q00 q01 q02 q03 q04 q05
      have q10 := blk_cell HP1.out 0
      have q11 := blk_cell HP1.out 1
      have q12 := blk_cell HP1.out 2
      have q13 := blk_cell HP1.out 3
      have q14 := blk_cell HP1.out 4
      have q15 := blk_cell HP1.out 5
      go_wp2_with fail
      refine (hn.out _ HR1.out).mono ?_
      rintro e2 w2 ⟨rfl, hR2, hF2⟩
      have HR2 := Lib.hid hR2
      have HP2 := Lib.hid (hF2.keeps _ _ _ HP1.out (by decide) (by omega))
      have HF2 := Lib.hid (HF1.out.trans hF2)
      clear hR2 hF2
      clear q10 q11 q12 q13 q14 q15
      have q20 := blk_cell HP2.out 0
      have q21 := blk_cell HP2.out 1
      have q22 := blk_cell HP2.out 2
      have q23 := blk_cell HP2.out 3
      have q24 := blk_cell HP2.out 4
      have q25 := blk_cell HP2.out 5
      go_wp2_with fail
      refine (ht1.out _ HR2.out).mono ?_
      rintro e3 w3 ⟨rfl, hR3, hF3⟩
      have HR3 := Lib.hid hR3
      have HP3 := Lib.hid (hF3.keeps _ _ _ HP2.out (by decide) (by omega))
      have HF3 := Lib.hid (HF2.out.trans hF3)
      clear hR3 hF3
      clear q20 q21 q22 q23 q24 q25
      have q30 := blk_cell HP3.out 0
      have q31 := blk_cell HP3.out 1
      have q32 := blk_cell HP3.out 2
      have q33 := blk_cell HP3.out 3
      have q34 := blk_cell HP3.out 4
      have q35 := blk_cell HP3.out 5
      go_wp2_with fail
      refine (ht2.out _ HR3.out).mono ?_
      rintro e4 w4 ⟨rfl, hR4, hF4⟩
      have HR4 := Lib.hid hR4
      have HP4 := Lib.hid (hF4.keeps _ _ _ HP3.out (by decide) (by omega))
      have HF4 := Lib.hid (HF3.out.trans hF4)
      clear hR4 hF4
      clear q30 q31 q32 q33 q34 q35
      have q40 := blk_cell HP4.out 0
      have q41 := blk_cell HP4.out 1
      have q42 := blk_cell HP4.out 2
      have q43 := blk_cell HP4.out 3
      have q44 := blk_cell HP4.out 4
      have q45 := blk_cell HP4.out 5
      go_wp2_with fail
      refine (ht3.out _ HR4.out ((Fr.of_belowB HF4.out.below).string HCw.out (fun ad ha h0 hk => absurd (HA.out ad ha h0) (Nat.not_lt.2 hk)))).mono ?_
      rintro e5 w5 ⟨rfl, hR5, hF5⟩
      have HR5 := Lib.hid hR5
      have HP5 := Lib.hid (hF5.keeps _ _ _ HP4.out (by decide) (by omega))
      have HF5 := Lib.hid (HF4.out.trans hF5)
      clear hR5 hF5
      clear q40 q41 q42 q43 q44 q45
      go_wp2
      refine bodyPost_ret (results_none rfl _ _ _) rfl ?_
      exact ⟨rfl, HR5.out, HF5.out⟩
    · obtain rfl : kind = 2 := hk
      rw [enc_parts2 xs ⟨2, cls, sup, vars, sel, src⟩ rfl]
      simp only
      have hz : (xs ++ bytesOf (be4 2)).length + (encText cls).size + (encText sel).size + (encText src).size ≤ 1000000000 := by
        have := congrArg List.length (enc_parts2 xs ⟨2, cls, sup, vars, sel, src⟩ rfl)
        simp only [List.length_append, bytesOf_length] at this ⊢
        omega
      have hc1 : (encText cls).size = 4 + cls.size := by rw [encText, ByteArray.size_append, be4_size]
      have hc2 : (encText sel).size = 4 + sel.size := by rw [encText, ByteArray.size_append, be4_size]
      have hn : Hid (∀ W, Wr W g xs 0 → Calls Tryd.prog 21 #[.pointer (some ⟨g, 0, none⟩), .int .i64 2] W (WrPost W g (xs ++ bytesOf (be4 2)) 0)) := Lib.hid (fun W hW => wnum_calls g 2 xs W hW (by simp only [List.length_append] at hz; omega) (by decide))
      generalize xs ++ bytesOf (be4 2) = x1 at *
      have ht1 : Hid (∀ W, Wr W g x1 0 → Calls Tryd.prog 51 #[.pointer (some ⟨g, 0, none⟩), .string cls] W (WrPost W g (x1 ++ bytesOf (encText cls)) 0)) := Lib.hid (fun W hW => wtext_calls g cls x1 W hW (by omega) (by omega))
      have hl2 : (x1 ++ bytesOf (encText cls)).length = x1.length + (encText cls).size := by rw [List.length_append, bytesOf_length]
      generalize x1 ++ bytesOf (encText cls) = x2 at *
      have ht2 : Hid (∀ W, Wr W g x2 0 → Calls Tryd.prog 51 #[.pointer (some ⟨g, 0, none⟩), .string sel] W (WrPost W g (x2 ++ bytesOf (encText sel)) 0)) := Lib.hid (fun W hW => wtext_calls g sel x2 W hW (by omega) (by omega))
      have hl3 : (x2 ++ bytesOf (encText sel)).length = x2.length + (encText sel).size := by rw [List.length_append, bytesOf_length]
      generalize x2 ++ bytesOf (encText sel) = x3 at *
      have hc3 : (encText src).size = 4 + src.size := by rw [encText, ByteArray.size_append, be4_size]
      have ht3 : Hid (∀ W, Wr W g x3 0 → Calls Tryd.prog 51 #[.pointer (some ⟨g, 0, none⟩), .string src] W (WrPost W g (x3 ++ bytesOf (encText src)) 0)) := Lib.hid (fun W hW => wtext_calls g src x3 W hW (by omega) (by omega))
      clear h hC hA hx hr hc hsel hz hc1 hc2 hc3 hl2 hl3
      have q00 := blk_cell HP.out 0
      have q01 := blk_cell HP.out 1
      have q02 := blk_cell HP.out 2
      have q03 := blk_cell HP.out 3
      have q04 := blk_cell HP.out 4
      have q05 := blk_cell HP.out 5
      go_enter Tryd.func22, Tryd.ntmps22
      go_wp2_with fail
      rw [HW0.out]
      go_wp2_with fail
      refine hright.out.mono ?_
      rintro e1 w1 ⟨rfl, hb1⟩
      have HR1 := Lib.hid (wr_below H.out hb1)
      have HP1 := Lib.hid ((hb1.block _ (blk_lt HP.out)).trans HP.out)
      have HF1 := Lib.hid (HF.out.trans (Wf.of_below hb1 (Nat.le_of_lt H.out.lt)))
      clear hb1 q00 q01 q02 q03 q04 q05
      have q10 := blk_cell HP1.out 0
      have q11 := blk_cell HP1.out 1
      have q12 := blk_cell HP1.out 2
      have q13 := blk_cell HP1.out 3
      have q14 := blk_cell HP1.out 4
      have q15 := blk_cell HP1.out 5
      go_wp2_with fail
      refine (hn.out _ HR1.out).mono ?_
      rintro e2 w2 ⟨rfl, hR2, hF2⟩
      have HR2 := Lib.hid hR2
      have HP2 := Lib.hid (hF2.keeps _ _ _ HP1.out (by decide) (by omega))
      have HF2 := Lib.hid (HF1.out.trans hF2)
      clear hR2 hF2
      clear q10 q11 q12 q13 q14 q15
      have q20 := blk_cell HP2.out 0
      have q21 := blk_cell HP2.out 1
      have q22 := blk_cell HP2.out 2
      have q23 := blk_cell HP2.out 3
      have q24 := blk_cell HP2.out 4
      have q25 := blk_cell HP2.out 5
      go_wp2_with fail
      refine (ht1.out _ HR2.out).mono ?_
      rintro e3 w3 ⟨rfl, hR3, hF3⟩
      have HR3 := Lib.hid hR3
      have HP3 := Lib.hid (hF3.keeps _ _ _ HP2.out (by decide) (by omega))
      have HF3 := Lib.hid (HF2.out.trans hF3)
      clear hR3 hF3
      clear q20 q21 q22 q23 q24 q25
      have q30 := blk_cell HP3.out 0
      have q31 := blk_cell HP3.out 1
      have q32 := blk_cell HP3.out 2
      have q33 := blk_cell HP3.out 3
      have q34 := blk_cell HP3.out 4
      have q35 := blk_cell HP3.out 5
      go_wp2_with fail
      refine (ht2.out _ HR3.out).mono ?_
      rintro e4 w4 ⟨rfl, hR4, hF4⟩
      have HR4 := Lib.hid hR4
      have HP4 := Lib.hid (hF4.keeps _ _ _ HP3.out (by decide) (by omega))
      have HF4 := Lib.hid (HF3.out.trans hF4)
      clear hR4 hF4
      clear q30 q31 q32 q33 q34 q35
      have q40 := blk_cell HP4.out 0
      have q41 := blk_cell HP4.out 1
      have q42 := blk_cell HP4.out 2
      have q43 := blk_cell HP4.out 3
      have q44 := blk_cell HP4.out 4
      have q45 := blk_cell HP4.out 5
      go_wp2_with fail
      refine (ht3.out _ HR4.out).mono ?_
      rintro e5 w5 ⟨rfl, hR5, hF5⟩
      have HR5 := Lib.hid hR5
      have HP5 := Lib.hid (hF5.keeps _ _ _ HP4.out (by decide) (by omega))
      have HF5 := Lib.hid (HF4.out.trans hF5)
      clear hR5 hF5
      clear q40 q41 q42 q43 q44 q45
      go_wp2
      go_end0
      exact ⟨rfl, HR5.out, HF5.out⟩
end Go.Proofs.YtoiaancehakiiaaDoor.Q
/- Plain law: the reference's octets of numbers, texts, lists are what is written; Small. -/
namespace Go.Proofs.YtoiaancehakiiaaDoor.Q
open Go.RowKit Go.Proofs.YtoiaancehakiiaaDoor.Plain Go.Proofs.YtoiaancehakiiaaDoorW.PrintWords

def oneB (n : Nat) : ByteArray := ⟨#[UInt8.ofNat n]⟩
theorem one_octet (n : Nat) : strOfNums [(Int.tmod (n : Int) 256) % 256] = oneB n := by
  have h : UInt8.ofNat ((Int.tmod (n : Int) 256) % 256).toNat = UInt8.ofNat n := by
    apply UInt8.toNat_inj.1
    rw [UInt8.toNat_ofNat', UInt8.toNat_ofNat', Int.tmod_eq_emod_of_nonneg (by omega)]
    omega
  unfold strOfNums oneB
  simp only [List.map_cons, List.map_nil]
  rw [h]
theorem octets_step (k n i : Nat) (X : ByteArray) (hn : n ≤ 2147483647) (hi : i < 4) (hX : X.size ≤ 4) :
    monticuleref01_octets.l0 (k + 1) (n : Int) 4 X (i : Int) = monticuleref01_octets.l0 k ((n / 256 : Nat) : Int) 4 (oneB n ++ X) ((i + 1 : Nat) : Int) := by
  have h1 : IntKind.u64.wrap (Int.tdiv (n : Int) 256) = ((n / 256 : Nat) : Int) := by
    rw [Int.tdiv_eq_ediv_of_nonneg (by omega), IntWalk.u64_in _ (by omega)]
    omega
  simp only [monticuleref01_octets.l0]
  rw [if_pos (by omega)]
  simp only [Option.bind]
  rw [one_octet, w64 i (by omega), h1, if_pos (by rw [show (oneB n).size = 1 from rfl]; omega)]
theorem octets_ok (k n : Nat) (hn : n ≤ 2147483647) (hk : 4 < k) : monticuleref01_octets.f k (n : Int) 4 = some (be4 n) := by
  obtain ⟨k, rfl⟩ : ∃ m, k = m + 5 := ⟨k - 5, by omega⟩
  unfold monticuleref01_octets.f
  have e0 := octets_step (k + 4) n 0 (⟨#[]⟩ : ByteArray) hn (by decide) (by decide)
  have e1 := octets_step (k + 3) (n / 256) 1 (oneB n ++ (⟨#[]⟩ : ByteArray)) (by omega) (by decide) (by rw [ByteArray.size_append]; show 1 + 0 ≤ 4; decide)
  have e2 := octets_step (k + 2) (n / 256 / 256) 2 (oneB (n / 256) ++ (oneB n ++ (⟨#[]⟩ : ByteArray))) (by omega) (by decide) (by rw [ByteArray.size_append, ByteArray.size_append]; show 1 + (1 + 0) ≤ 4; decide)
  have e3 := octets_step (k + 1) (n / 256 / 256 / 256) 3 (oneB (n / 256 / 256) ++ (oneB (n / 256) ++ (oneB n ++ (⟨#[]⟩ : ByteArray)))) (by omega) (by decide) (by rw [ByteArray.size_append, ByteArray.size_append, ByteArray.size_append]; show 1 + (1 + (1 + 0)) ≤ 4; decide)
  have e0' : monticuleref01_octets.l0 (k + 5) (n : Int) 4 (⟨#[]⟩ : ByteArray) 0 = _ := e0
  rw [e0', e1, e2, e3]
  simp only [monticuleref01_octets.l0]
  rw [if_neg (by omega)]
  rw [show n / 256 / 256 / 256 = n / 16777216 from by omega, show n / 256 / 256 = n / 65536 from by omega]
  congr 1
theorem num_ok (k n : Nat) (hn : n ≤ 2147483647) (hk : 4 < k) : monticuleref01_Num.f k (n : Int) = some (be4 n, true) := by
  unfold monticuleref01_Num.f
  rw [if_neg (by omega), if_neg (by omega), IntWalk.u64_in _ (by omega), octets_ok k n hn hk]
  rfl
theorem text_ok (k : Nat) (s : ByteArray) (hs : s.size ≤ 2147483647) (hk : 4 < k) : monticuleref01_Text.f k s = some (encText s) := by
  unfold monticuleref01_Text.f
  rw [num_ok k s.size hs hk]
  simp only [Option.bind]
  rw [if_pos (by rw [be4_size]; omega)]
  rfl
theorem flat_drop (l : List ByteArray) (i : Nat) (s : ByteArray) (h : l[i]? = some s) : flat (l.drop i) = encText s ++ flat (l.drop (i + 1)) := by
  obtain ⟨hl, he⟩ := List.getElem?_eq_some_iff.1 h
  rw [List.drop_eq_getElem_cons hl, he]
  rfl
theorem texts_l0 (l : List ByteArray) (hl : l.length ≤ 1000000000) (d : Nat) : ∀ (k i : Nat) (X : ByteArray), l.length - i = d → i ≤ l.length → d + 5 < k → X.size + (flat (l.drop i)).size ≤ 1000000000 →
    monticuleref01_Texts.l0 k l X (i : Int) = some (X ++ flat (l.drop i)) := by
  induction d with
  | zero =>
    intro k i X hd hi hk hx
    obtain ⟨k, rfl⟩ : ∃ m, k = m + 1 := ⟨k - 1, by omega⟩
    simp only [monticuleref01_Texts.l0]
    rw [if_neg (by omega), List.drop_eq_nil_of_le (by omega), flat, ba_nil]
  | succ d ih =>
    intro k i X hd hi hk hx
    obtain ⟨k, rfl⟩ : ∃ m, k = m + 1 := ⟨k - 1, by omega⟩
    obtain ⟨s, hs⟩ : ∃ s, l[i]? = some s := ⟨_, List.getElem?_eq_getElem (by omega)⟩
    have hf := flat_drop l i s hs
    rw [hf, ByteArray.size_append] at hx
    have hs4 : (encText s).size = 4 + s.size := by rw [encText, ByteArray.size_append, be4_size]
    have hrd : rdOf ByteArray.empty l (i : Int) = s := by
      unfold rdOf
      rw [Int.toNat_natCast, List.getD_eq_getElem?_getD, hs]
      rfl
    simp only [monticuleref01_Texts.l0]
    rw [if_pos (by omega), if_pos (by omega), hrd, text_ok k s (by omega) (by omega)]
    simp only [Option.bind]
    rw [if_pos (by omega), w64 i (by omega), ih k (i + 1) (X ++ encText s) (by omega) (by omega) (by omega) (by rw [ByteArray.size_append]; omega), hf, ba_assoc]
theorem texts_ok (k : Nat) (l : List ByteArray) (hx : (encTexts l).size ≤ 1000000000) (hk : l.length + 5 < k) : monticuleref01_Texts.f k l = some (encTexts l) := by
  have hf := flat_size l
  rw [encTexts, ByteArray.size_append, be4_size] at hx
  unfold monticuleref01_Texts.f
  rw [num_ok k l.length (by omega) (by omega)]
  simp only [Option.bind]
  have h := texts_l0 l (by omega) l.length k 0 (be4 l.length) (by omega) (Nat.zero_le _) (by omega) (by rw [be4_size, List.drop_zero]; omega)
  rw [List.drop_zero] at h
  exact h

/-- is a definition small? -/
def smallD (d : DefV) : Bool := decide (d.cls.size ≤ 100) && (decide (d.sup.size ≤ 100) && (decide (d.vars.length ≤ 30) && (decide (d.sel.size ≤ 600) && (decide (d.src.size ≤ 5000) && d.vars.all (fun s => decide (s.size ≤ 100))))))
theorem small_l0 (D : DefV) (hl : D.vars.length ≤ 30) (d : Nat) : ∀ (k i : Nat), D.vars.length - i = d → i ≤ D.vars.length → d < k →
    monticuleref07_Small.l0 k (i : Int) D.kind D.cls D.sup D.vars D.sel D.src = some ((D.vars.drop i).all (fun s => decide (s.size ≤ 100))) := by
  induction d with
  | zero =>
    intro k i hd hi hk
    obtain ⟨k, rfl⟩ : ∃ m, k = m + 1 := ⟨k - 1, by omega⟩
    simp only [monticuleref07_Small.l0]
    rw [if_neg (by omega), List.drop_eq_nil_of_le (by omega)]
    rfl
  | succ d ih =>
    intro k i hd hi hk
    obtain ⟨k, rfl⟩ : ∃ m, k = m + 1 := ⟨k - 1, by omega⟩
    obtain ⟨s, hs⟩ : ∃ s, D.vars[i]? = some s := ⟨_, List.getElem?_eq_getElem (by omega)⟩
    have hrd : rdOf ByteArray.empty D.vars (i : Int) = s := by
      unfold rdOf
      rw [Int.toNat_natCast, List.getD_eq_getElem?_getD, hs]
      rfl
    obtain ⟨hl2, he⟩ := List.getElem?_eq_some_iff.1 hs
    simp only [monticuleref07_Small.l0]
    rw [if_pos (by omega), if_pos (by omega), hrd, List.drop_eq_getElem_cons hl2, he, List.all_cons]
    by_cases h : (s.size : Int) > 100
    · rw [if_pos h, decide_eq_false (by omega)]
      rfl
    · rw [if_neg h, w64 i (by omega), ih k (i + 1) (by omega) (by omega) (by omega), decide_eq_true (by omega)]
      rfl
theorem small_ok (k : Nat) (d : DefV) (hk : 32 < k) : monticuleref07_Small.f k d.kind d.cls d.sup d.vars d.sel d.src = some (smallD d) := by
  obtain ⟨k, rfl⟩ : ∃ m, k = m + 1 := ⟨k - 1, by omega⟩
  unfold monticuleref07_Small.f smallD
  by_cases h1 : (d.cls.size : Int) > 100
  · rw [if_pos h1, decide_eq_false (p := d.cls.size ≤ 100) (by omega)]
    rfl
  rw [if_neg h1, decide_eq_true (p := d.cls.size ≤ 100) (by omega)]
  by_cases h2 : (d.sup.size : Int) > 100
  · rw [if_pos h2, decide_eq_false (p := d.sup.size ≤ 100) (by omega)]
    rfl
  rw [if_neg h2, decide_eq_true (p := d.sup.size ≤ 100) (by omega)]
  by_cases h3 : (d.vars.length : Int) > 30
  · rw [if_pos h3, decide_eq_false (p := d.vars.length ≤ 30) (by omega)]
    rfl
  rw [if_neg h3, decide_eq_true (p := d.vars.length ≤ 30) (by omega)]
  by_cases h4 : (d.sel.size : Int) > 600
  · rw [if_pos h4, decide_eq_false (p := d.sel.size ≤ 600) (by omega)]
    rfl
  rw [if_neg h4, decide_eq_true (p := d.sel.size ≤ 600) (by omega)]
  by_cases h5 : (d.src.size : Int) > 5000
  · rw [decide_eq_true h5, decide_eq_false (p := d.src.size ≤ 5000) (by omega)]
    rfl
  rw [decide_eq_false h5, decide_eq_true (p := d.src.size ≤ 5000) (by omega)]
  simp only [monticuleref07_Small.j0, Bool.false_eq_true, if_false]
  have h : monticuleref07_Small.l0 k 0 d.kind d.cls d.sup d.vars d.sel d.src = _ := small_l0 d (by omega) d.vars.length k 0 (by omega) (Nat.zero_le _) (by omega)
  rw [h, List.drop_zero]
  rfl
end Go.Proofs.YtoiaancehakiiaaDoor.Q
/- The walk of the reference's Octets of a definition, by hand. -/
namespace Go.Proofs.YtoiaancehakiiaaDoor.Q
open Go.RowKit Go.Proofs.YtoiaancehakiiaaDoor.Plain Go.Proofs.YtoiaancehakiiaaDoorW.PrintWords

theorem oc_s {W : World} {p : Nat} {kind : Int} {cls sup sel src : ByteArray} {A : Option Addr} {n c : Nat} (h : W.heap[p]? = some (.cells #[.int .i64 kind, .string cls, .string sup, .slice A n c, .string sel, .string src] 31 (0, 0))) :
    W.cell? ⟨p, 1, none⟩ = some (.string cls) ∧ W.cell? ⟨p, 2, none⟩ = some (.string sup) ∧ W.cell? ⟨p, 3, none⟩ = some (.slice A n c) ∧ W.cell? ⟨p, 4, none⟩ = some (.string sel) ∧ W.cell? ⟨p, 5, none⟩ = some (.string src) :=
  ⟨blk_cell h 1, blk_cell h 2, blk_cell h 3, blk_cell h 4, blk_cell h 5⟩

set_option maxRecDepth 100000 in
set_option maxHeartbeats 1000000 in
theorem octetsD_calls (d : DefV) (A : Option Addr) (c : Nat) (w : World) (h : rightD d = true) (hC : Kd.string.C w A d.vars.length d.vars) (hc : d.vars.length ≤ c) (hx : (encDef d).size ≤ 1000000000) :
    Calls Tryd.prog 26 #[.agg #[.int .i64 d.kind, .string d.cls, .string d.sup, .slice A d.vars.length c, .string d.sel, .string d.src]] w fun e w' => e = .returned (.string (encDef d)) ∧ Below w.heap.size w w' := by
  obtain ⟨kind, cls, sup, vars, sel, src⟩ := d
  simp only at hC hc ⊢
  rcases right_kinds _ h with hk | hk
  · obtain rfl : kind = 1 := hk
    have hz : (encText cls).size + (encText sup).size + (encTexts vars).size ≤ 1000000000 := by
      rw [encDef, if_pos rfl] at hx
      
      simp only [ByteArray.size_append] at hx
      omega
    have hc1 : (encText cls).size = 4 + cls.size := by rw [encText, ByteArray.size_append, be4_size]
    have hc2 : (encText sup).size = 4 + sup.size := by rw [encText, ByteArray.size_append, be4_size]
    
    have hres : encDef ⟨1, cls, sup, vars, sel, src⟩ = be4 1 ++ encText cls ++ encText sup ++ encTexts vars := by
      rw [encDef]
      rw [if_pos rfl]
      rw [ba_assoc, ba_assoc, ba_assoc]
      rfl
    have HRES := Lib.hid hres
    have hn : Hid (∀ W, Calls Tryd.prog 25 #[.int .i64 1] W fun e w' => e = .returned (.tuple #[.string (be4 1), .bool true]) ∧ Below W.heap.size W w') := Lib.hid (fun W => monticuleref01_Num.calls 6 1 (be4 1) true W (num_ok 6 1 (by decide) (by decide)))
    have ht1 : Hid (∀ W, Calls Tryd.prog 54 #[.string cls] W fun e w' => e = .returned (.string (encText cls)) ∧ Below W.heap.size W w') := Lib.hid (fun W => monticuleref01_Text.calls 6 cls (encText cls) W (text_ok _ _ (by omega) (by decide)))
    have ht2 : Hid (∀ W, Calls Tryd.prog 54 #[.string sup] W fun e w' => e = .returned (.string (encText sup)) ∧ Below W.heap.size W w') := Lib.hid (fun W => monticuleref01_Text.calls 6 sup (encText sup) W (text_ok _ _ (by omega) (by decide)))
    have ht3 : Hid (∀ W, Below w.heap.size w W → Calls Tryd.prog 55 #[.slice A vars.length c] W fun e w' => e = .returned (.string (encTexts vars)) ∧ Below W.heap.size W w') := Lib.hid (fun W hW => monticuleref01_Texts.calls (vars.length + 6) A c vars (encTexts vars) W ((Fr.of_below (fun _ => False) hW).string hC (fun _ _ _ h => h)) hc (texts_ok _ _ (by omega) (by omega)))
    have hb4 : (be4 1).size = 4 := rfl
    generalize be4 1 = y0 at *
    generalize encText cls = y1 at *
    generalize encText sup = y2 at *
    generalize encTexts vars = y3 at *
    have HP := Lib.hid (heap_alloc_new w (.cells #[.int .i64 1, .string cls, .string sup, .slice A vars.length c, .string sel, .string src] 31))
    have HB := Lib.hid (below_alloc (Below.refl _ w) (.cells #[.int .i64 1, .string cls, .string sup, .slice A vars.length c, .string sel, .string src] 31))
    clear h hC hx hc hres hc1 hc2 
    generalize hW0 : w.alloc (.cells #[.int .i64 1, .string cls, .string sup, .slice A vars.length c, .string sel, .string src] 31) = W0 at *
    have HW0 := Lib.hid hW0
    clear hW0
    have q0 := blk_cell HP.out 0
    have q1 := blk_cell HP.out 1
    have q2 := blk_cell HP.out 2
    have q3 := blk_cell HP.out 3
    have q4 := blk_cell HP.out 4
    have q5 := blk_cell HP.out 5
    go_enter Tryd.func26, Tryd.ntmps26
    go_wp2_with fail
    rw [HW0.out]
    go_wp2_with fail
    refine (hn.out _).mono ?_
    rintro e1 w1 ⟨rfl, hb1⟩
    have HP1 := Lib.hid ((hb1.block _ (blk_lt HP.out)).trans HP.out)
    have HB1 := Lib.hid (below_then HB.out hb1)
    clear hb1 q0 q1 q2 q3 q4 q5
    have q10 := blk_cell HP1.out 0
    have q11 := blk_cell HP1.out 1
    have q12 := blk_cell HP1.out 2
    have q13 := blk_cell HP1.out 3
    have q14 := blk_cell HP1.out 4
    have q15 := blk_cell HP1.out 5
    go_wp2_with fail
    have g1 : y0.size + y1.size ≤ 9223372036854775807 := by omega
    have g2 : y0.size + y1.size + y2.size ≤ 9223372036854775807 := by omega
    have g3 : y0.size + y1.size + y2.size + y3.size ≤ 9223372036854775807 := by omega
    have n1 : (9223372036854775807 < y0.size + y1.size) = False := eq_false (Nat.not_lt.2 g1)
    have n2 : (9223372036854775807 < y0.size + y1.size + y2.size) = False := eq_false (Nat.not_lt.2 g2)
    have n3 : (9223372036854775807 < y0.size + y1.size + y2.size + y3.size) = False := eq_false (Nat.not_lt.2 g3)
    clear g1 g2 g3
    clear hz hb4
    have HS1 := Lib.hid (oc_s ((Fr.drew (Fr.refl (fun _ => False) w1)).heap HP1.out (fun h => h)))
    have HBd := Lib.hid (below_then HB1.out (below_drew (Below.refl _ w1)))
    go_region_held3 (fun W => W.cell? ⟨w.heap.size, 1, none⟩ = some (.string cls) ∧ W.cell? ⟨w.heap.size, 2, none⟩ = some (.string sup) ∧ W.cell? ⟨w.heap.size, 3, none⟩ = some (.slice A vars.length c) ∧ W.cell? ⟨w.heap.size, 4, none⟩ = some (.string sel) ∧ W.cell? ⟨w.heap.size, 5, none⟩ = some (.string src)) (first | exact HS4.out | exact HS3.out | exact HS2.out | exact HS1.out)
      (first
      | (go_at_call_of 54 (Value.string cls); refine (ht1.out _).mono ?_; rintro e2 w2 ⟨rfl, hb2⟩; have HP2 := Lib.hid ((hb2.block _ (blk_lt HP1.out)).trans HP1.out); have HS2 := Lib.hid (oc_s HP2.out); have HB2 := Lib.hid (below_then HBd.out hb2); clear hb2)
      | (go_at_call_of 54 (Value.string sup); refine (ht2.out _).mono ?_; rintro e3 w3 ⟨rfl, hb3⟩; have HP3 := Lib.hid ((hb3.block _ (blk_lt HP2.out)).trans HP2.out); have HS3 := Lib.hid (oc_s HP3.out); have HB3 := Lib.hid (below_then HB2.out hb3); clear hb3)
      | (go_at_call 55; refine (ht3.out _ HB3.out).mono ?_; rintro e4 w4 ⟨rfl, hb4⟩; have HP4 := Lib.hid ((hb4.block _ (blk_lt HP3.out)).trans HP3.out); have HS4 := Lib.hid (oc_s HP4.out); have HB4 := Lib.hid (below_then HB3.out hb4); clear hb4))
    go_wp2
    go_ret
    refine ⟨?_, HB4.out⟩
    rw [HRES.out]
    rfl
  · obtain rfl : kind = 2 := hk
    have hz : (encText cls).size + (encText sel).size + (encText src).size ≤ 1000000000 := by
      rw [encDef] at hx
      rw [if_neg (show ¬ (2 : Int) = 1 by decide)] at hx
      simp only [ByteArray.size_append] at hx
      omega
    have hc1 : (encText cls).size = 4 + cls.size := by rw [encText, ByteArray.size_append, be4_size]
    have hc2 : (encText sel).size = 4 + sel.size := by rw [encText, ByteArray.size_append, be4_size]
    have hc3 : (encText src).size = 4 + src.size := by rw [encText, ByteArray.size_append, be4_size]
    have hres : encDef ⟨2, cls, sup, vars, sel, src⟩ = be4 2 ++ encText cls ++ encText sel ++ encText src := by
      rw [encDef]
      rw [if_neg (show ¬ (2 : Int) = 1 by decide)]
      rw [ba_assoc, ba_assoc, ba_assoc]
      rfl
    have HRES := Lib.hid hres
    have hn : Hid (∀ W, Calls Tryd.prog 25 #[.int .i64 2] W fun e w' => e = .returned (.tuple #[.string (be4 2), .bool true]) ∧ Below W.heap.size W w') := Lib.hid (fun W => monticuleref01_Num.calls 6 2 (be4 2) true W (num_ok 6 2 (by decide) (by decide)))
    have ht1 : Hid (∀ W, Calls Tryd.prog 54 #[.string cls] W fun e w' => e = .returned (.string (encText cls)) ∧ Below W.heap.size W w') := Lib.hid (fun W => monticuleref01_Text.calls 6 cls (encText cls) W (text_ok _ _ (by omega) (by decide)))
    have ht2 : Hid (∀ W, Calls Tryd.prog 54 #[.string sel] W fun e w' => e = .returned (.string (encText sel)) ∧ Below W.heap.size W w') := Lib.hid (fun W => monticuleref01_Text.calls 6 sel (encText sel) W (text_ok _ _ (by omega) (by decide)))
    have ht3 : Hid (∀ W, Below w.heap.size w W → Calls Tryd.prog 54 #[.string src] W fun e w' => e = .returned (.string (encText src)) ∧ Below W.heap.size W w') := Lib.hid (fun W _ => monticuleref01_Text.calls 6 src (encText src) W (text_ok _ _ (by omega) (by decide)))
    have hb4 : (be4 2).size = 4 := rfl
    generalize be4 2 = y0 at *
    generalize encText cls = y1 at *
    generalize encText sel = y2 at *
    generalize encText src = y3 at *
    have HP := Lib.hid (heap_alloc_new w (.cells #[.int .i64 2, .string cls, .string sup, .slice A vars.length c, .string sel, .string src] 31))
    have HB := Lib.hid (below_alloc (Below.refl _ w) (.cells #[.int .i64 2, .string cls, .string sup, .slice A vars.length c, .string sel, .string src] 31))
    clear h hC hx hc hres hc1 hc2 hc3
    generalize hW0 : w.alloc (.cells #[.int .i64 2, .string cls, .string sup, .slice A vars.length c, .string sel, .string src] 31) = W0 at *
    have HW0 := Lib.hid hW0
    clear hW0
    have q0 := blk_cell HP.out 0
    have q1 := blk_cell HP.out 1
    have q2 := blk_cell HP.out 2
    have q3 := blk_cell HP.out 3
    have q4 := blk_cell HP.out 4
    have q5 := blk_cell HP.out 5
    go_enter Tryd.func26, Tryd.ntmps26
    go_wp2_with fail
    rw [HW0.out]
    go_wp2_with fail
    refine (hn.out _).mono ?_
    rintro e1 w1 ⟨rfl, hb1⟩
    have HP1 := Lib.hid ((hb1.block _ (blk_lt HP.out)).trans HP.out)
    have HB1 := Lib.hid (below_then HB.out hb1)
    clear hb1 q0 q1 q2 q3 q4 q5
    have q10 := blk_cell HP1.out 0
    have q11 := blk_cell HP1.out 1
    have q12 := blk_cell HP1.out 2
    have q13 := blk_cell HP1.out 3
    have q14 := blk_cell HP1.out 4
    have q15 := blk_cell HP1.out 5
    go_wp2_with fail
    have g1 : y0.size + y1.size ≤ 9223372036854775807 := by omega
    have g2 : y0.size + y1.size + y2.size ≤ 9223372036854775807 := by omega
    have g3 : y0.size + y1.size + y2.size + y3.size ≤ 9223372036854775807 := by omega
    have n1 : (9223372036854775807 < y0.size + y1.size) = False := eq_false (Nat.not_lt.2 g1)
    have n2 : (9223372036854775807 < y0.size + y1.size + y2.size) = False := eq_false (Nat.not_lt.2 g2)
    have n3 : (9223372036854775807 < y0.size + y1.size + y2.size + y3.size) = False := eq_false (Nat.not_lt.2 g3)
    clear g1 g2 g3
    clear hz hb4
    have HS1 := Lib.hid (oc_s ((Fr.drew (Fr.refl (fun _ => False) w1)).heap HP1.out (fun h => h)))
    have HBd := Lib.hid (below_then HB1.out (below_drew (Below.refl _ w1)))
    go_region_held3 (fun W => W.cell? ⟨w.heap.size, 1, none⟩ = some (.string cls) ∧ W.cell? ⟨w.heap.size, 2, none⟩ = some (.string sup) ∧ W.cell? ⟨w.heap.size, 3, none⟩ = some (.slice A vars.length c) ∧ W.cell? ⟨w.heap.size, 4, none⟩ = some (.string sel) ∧ W.cell? ⟨w.heap.size, 5, none⟩ = some (.string src)) (first | exact HS4.out | exact HS3.out | exact HS2.out | exact HS1.out)
      (first
      | (go_at_call_of 54 (Value.string cls); refine (ht1.out _).mono ?_; rintro e2 w2 ⟨rfl, hb2⟩; have HP2 := Lib.hid ((hb2.block _ (blk_lt HP1.out)).trans HP1.out); have HS2 := Lib.hid (oc_s HP2.out); have HB2 := Lib.hid (below_then HBd.out hb2); clear hb2)
      | (go_at_call_of 54 (Value.string sel); refine (ht2.out _).mono ?_; rintro e3 w3 ⟨rfl, hb3⟩; have HP3 := Lib.hid ((hb3.block _ (blk_lt HP2.out)).trans HP2.out); have HS3 := Lib.hid (oc_s HP3.out); have HB3 := Lib.hid (below_then HB2.out hb3); clear hb3)
      | (go_at_call_of 54 (Value.string src); refine (ht3.out _ HB3.out).mono ?_; rintro e4 w4 ⟨rfl, hb4⟩; have HP4 := Lib.hid ((hb4.block _ (blk_lt HP3.out)).trans HP3.out); have HS4 := Lib.hid (oc_s HP4.out); have HB4 := Lib.hid (below_then HB3.out hb4); clear hb4))
    go_wp2
    go_ret
    refine ⟨?_, HB4.out⟩
    rw [HRES.out]
    rfl
end Go.Proofs.YtoiaancehakiiaaDoor.Q
/- The walk of the law DefBack. -/
namespace Go.Proofs.YtoiaancehakiiaaDoor.Q
open Go.RowKit Go.Proofs.YtoiaancehakiiaaDoor.Plain Go.Proofs.YtoiaancehakiiaaDoorW.PrintWords

theorem C_lt {w : World} {A : Option Addr} {n : Nat} {xs : List ByteArray} (h : Kd.string.C w A n xs) : ∀ ad, A = some ad → 0 < n → ad.block < w.heap.size := by
  intro ad ha hn
  obtain ⟨ad', e, hc⟩ := (Kd.reads_of_C (enc := Value.string) (d := ByteArray.empty) (h1 := fun _ => rfl) h).2.2 hn
  rw [ha] at e
  obtain rfl := Option.some.inj e
  have := hc 0 hn
  exact World.block_lt_of_cell? w (ad.add 0) this
theorem flat_le (l : List ByteArray) (h : l.all (fun s => decide (s.size ≤ 100)) = true) : (flat l).size ≤ 104 * l.length := by
  induction l with
  | nil => exact Nat.zero_le _
  | cons s l ih =>
    rw [List.all_cons, Bool.and_eq_true, decide_eq_true_eq] at h
    have := ih h.2
    rw [flat, ByteArray.size_append, encText, ByteArray.size_append, be4_size, List.length_cons]
    omega
theorem small_parts {d : DefV} (h : smallD d = true) : d.cls.size ≤ 100 ∧ d.sup.size ≤ 100 ∧ d.vars.length ≤ 30 ∧ d.sel.size ≤ 600 ∧ d.src.size ≤ 5000 ∧ d.vars.all (fun s => decide (s.size ≤ 100)) = true := by
  unfold smallD at h
  simp only [Bool.and_eq_true, decide_eq_true_eq] at h
  exact ⟨h.1, h.2.1, h.2.2.1, h.2.2.2.1, h.2.2.2.2.1, h.2.2.2.2.2⟩
theorem small_enc {d : DefV} (h : smallD d = true) : (encDef d).size ≤ 100000 := by
  obtain ⟨h1, h2, h3, h4, h5, h6⟩ := small_parts h
  have hf := flat_le d.vars h6
  unfold encDef
  split <;> simp only [encText, encTexts, ByteArray.size_append, be4_size] <;> omega

theorem db_s {W : World} {p : Nat} {d : DefV} {A : Option Addr} {c : Nat} (h : W.heap[p]? = some (.cells #[.int .i64 d.kind, .string d.cls, .string d.sup, .slice A d.vars.length c, .string d.sel, .string d.src] 31 (0, 0))) :
    W.cell? ⟨p, 0, none⟩ = some (.int .i64 d.kind) ∧ W.cell? ⟨p, 1, none⟩ = some (.string d.cls) ∧ W.cell? ⟨p, 2, none⟩ = some (.string d.sup) ∧ W.cell? ⟨p, 3, none⟩ = some (.slice A d.vars.length c) ∧ W.cell? ⟨p, 4, none⟩ = some (.string d.sel) ∧ W.cell? ⟨p, 5, none⟩ = some (.string d.src) := ⟨blk_cell h 0, blk_cell h 1, blk_cell h 2, blk_cell h 3, blk_cell h 4, blk_cell h 5⟩

theorem right_shape {d : DefV} (h : rightD d = true) : d.kind = 1 ∧ d.sel = ByteArray.empty ∧ d.src = ByteArray.empty ∨ d.kind = 2 ∧ d.sup = ByteArray.empty ∧ d.vars = [] := by
  unfold rightD at h
  split at h
  · rename_i hk
    simp only [Bool.and_eq_true, decide_eq_true_eq] at h
    exact .inl ⟨hk, h.2.2.2.2.1, h.2.2.2.2.2⟩
  split at h
  · rename_i hk
    simp only [Bool.and_eq_true, decide_eq_true_eq] at h
    exact .inr ⟨hk, h.2.2.2.1, List.length_eq_zero_iff.1 h.2.2.2.2⟩
  · cases h
theorem rdDef_back {d : DefV} (hs : smallD d = true) (hr : rightD d = true) : rdDef (encDef d) 0 = (d, 0, ByteArray.empty, 0) := by
  obtain ⟨h1, h2, h3, h4, h5, h6⟩ := small_parts hs
  have := rdDef_enc d ByteArray.empty hr (right_shape hr) (by omega) (by omega) (by omega) (by omega) (by omega) (fun s hm => by have := List.all_eq_true.1 h6 s hm; simp only [decide_eq_true_eq] at this; omega)
  rw [ba_nil] at this
  exact this

theorem below_wf {w W W2 : World} {g : Nat} (h : Below w.heap.size w W) (h2 : Below g W W2) (hg : w.heap.size ≤ g) : Below w.heap.size w W2 :=
  ((Fr.of_below (fun _ => False) h).trans (Fr.of_belowB h2) (fun _ hk => .inr (Nat.le_trans hg hk))).below (fun _ h => h.elim)

set_option maxRecDepth 100000 in
set_option maxHeartbeats 1000000 in
theorem defBack_big (d : DefV) (A : Option Addr) (c : Nat) (w : World) (hC : Kd.string.C w A d.vars.length d.vars) (hc : d.vars.length ≤ c) (hs : smallD d = false) :
    Calls Tryd.prog 5 #[.agg #[.int .i64 d.kind, .string d.cls, .string d.sup, .slice A d.vars.length c, .string d.sel, .string d.src]] w fun x w' => x = .returned (.bool true) ∧ Below w.heap.size w w' := by
  have hsm : Hid (∀ W, Below w.heap.size w W → Calls Tryd.prog 15 #[.agg #[.int .i64 d.kind, .string d.cls, .string d.sup, .slice A d.vars.length c, .string d.sel, .string d.src]] W fun e w' => e = .returned (.bool false) ∧ Below W.heap.size W w') :=
    Lib.hid (fun W hW => by have := monticuleref07_Small.calls 33 d.kind d.cls d.sup A c d.vars d.sel d.src (smallD d) W ((Fr.of_below (fun _ => False) hW).string hC (fun _ _ _ h => h)) hc (small_ok 33 d (by decide)); rw [hs] at this; exact this)
  clear hC hc hs
  have HP0 := Lib.hid (heap_alloc_new w (.cells #[.int .i64 d.kind, .string d.cls, .string d.sup, .slice A d.vars.length c, .string d.sel, .string d.src] 31))
  have HB0 := Lib.hid (below_alloc (Below.refl _ w) (.cells #[.int .i64 d.kind, .string d.cls, .string d.sup, .slice A d.vars.length c, .string d.sel, .string d.src] 31))
  have hlt0 : w.heap.size < w.heap.size + 1 := Nat.lt_succ_self _
  generalize hW0 : w.alloc (.cells #[.int .i64 d.kind, .string d.cls, .string d.sup, .slice A d.vars.length c, .string d.sel, .string d.src] 31) = W0 at *
  have HW0 := Lib.hid hW0
  clear hW0
  go_enter Tryd.func5, Tryd.ntmps5
  go_wp2_with fail
  rw [HW0.out]
  refine (awake_calls W0).mono ?_
  rintro e1 w1 ⟨rfl, hb1⟩
  have HP1 := Lib.hid ((hb1.block _ (blk_lt HP0.out)).trans HP0.out)
  have HB1 := Lib.hid (below_then HB0.out hb1)
  clear hb1
  have q10 := blk_cell HP1.out 0
  have q11 := blk_cell HP1.out 1
  have q12 := blk_cell HP1.out 2
  have q13 := blk_cell HP1.out 3
  have q14 := blk_cell HP1.out 4
  have q15 := blk_cell HP1.out 5
  go_wp2_with fail
  refine (hsm.out _ HB1.out).mono ?_
  rintro e2 w2 ⟨rfl, hb2⟩
  have HP2 := Lib.hid ((hb2.block _ (blk_lt HP1.out)).trans HP1.out)
  have HB2 := Lib.hid (below_then HB1.out hb2)
  clear hb2
  clear q10 q11 q12 q13 q14 q15
  have q20 := blk_cell HP2.out 0
  have q21 := blk_cell HP2.out 1
  have q22 := blk_cell HP2.out 2
  have q23 := blk_cell HP2.out 3
  have q24 := blk_cell HP2.out 4
  have q25 := blk_cell HP2.out 5
  go_wp2_with fail
  refine (awake_calls w2).mono ?_
  rintro e3 w3 ⟨rfl, hb3⟩
  have HB3 := Lib.hid (below_then HB2.out hb3)
  clear hb3
  go_wp2
  go_ret
  exact ⟨rfl, HB3.out⟩

set_option maxRecDepth 100000 in
set_option maxHeartbeats 1000000 in
theorem defBack_small (d : DefV) (A : Option Addr) (c : Nat) (w : World) (hC : Kd.string.C w A d.vars.length d.vars) (hc : d.vars.length ≤ c) (hs : smallD d = true) (hr : rightD d = false) :
    Calls Tryd.prog 5 #[.agg #[.int .i64 d.kind, .string d.cls, .string d.sup, .slice A d.vars.length c, .string d.sel, .string d.src]] w fun x w' => x = .returned (.bool true) ∧ Below w.heap.size w w' := by
  have henc := small_enc hs
  have hparts := small_parts hs
  have hCl := Lib.hid (C_lt hC)
  have HCw := Lib.hid hC
  have hsm : Hid (∀ W, Below w.heap.size w W → Calls Tryd.prog 15 #[.agg #[.int .i64 d.kind, .string d.cls, .string d.sup, .slice A d.vars.length c, .string d.sel, .string d.src]] W fun e w' => e = .returned (.bool true) ∧ Below W.heap.size W w') :=
    Lib.hid (fun W hW => by have := monticuleref07_Small.calls 33 d.kind d.cls d.sup A c d.vars d.sel d.src (smallD d) W ((Fr.of_below (fun _ => False) hW).string hC (fun _ _ _ h => h)) hc (small_ok 33 d (by decide)); rw [hs] at this; exact this)
  have hwr : Hid (∀ W g, Wr W g (bytesOf (be4 7)) 0 → Below w.heap.size w W → w.heap.size ≤ g → Calls Tryd.prog 22 #[.pointer (some ⟨g, 0, none⟩), .agg #[.int .i64 d.kind, .string d.cls, .string d.sup, .slice A d.vars.length c, .string d.sel, .string d.src]] W (WrPost W g (bytesOf (be4 7)) 2)) :=
    Lib.hid (fun W g hW hB hg => by
      have := write_calls g d A c (bytesOf (be4 7)) W hW ((Fr.of_below (fun _ => False) hB).string hC (fun _ _ _ h => h)) hc (fun ad ha h0 => Nat.lt_of_lt_of_le (hCl.out ad ha h0) hg) (by omega) (by rw [bytesOf_length, be4_size]; omega)
      rw [hr, if_neg (by decide), if_neg (by decide)] at this
      exact this)
  have hrt : Hid (∀ W, Below w.heap.size w W → Calls Tryd.prog 17 #[.agg #[.int .i64 d.kind, .string d.cls, .string d.sup, .slice A d.vars.length c, .string d.sel, .string d.src]] W fun e w' => e = .returned (.bool false) ∧ Below W.heap.size W w') :=
    Lib.hid (fun W hW => by have := monticuleref07_Right.calls (2 * d.vars.length + 62) d.kind d.cls d.sup A c d.vars d.sel d.src (rightD d) W ((Fr.of_below (fun _ => False) hW).string hC (fun _ _ _ h => h)) hc (rright_ok _ d hC.2.1 (by omega) (Nat.lt_succ_self _)); rw [hr] at this; exact this)
  clear hC hc hs hr henc hparts
  have HP0 := Lib.hid (heap_alloc_new w (.cells #[.int .i64 d.kind, .string d.cls, .string d.sup, .slice A d.vars.length c, .string d.sel, .string d.src] 31))
  have HB0 := Lib.hid (below_alloc (Below.refl _ w) (.cells #[.int .i64 d.kind, .string d.cls, .string d.sup, .slice A d.vars.length c, .string d.sel, .string d.src] 31))
  have hlt0 : w.heap.size < w.heap.size + 1 := Nat.lt_succ_self _
  generalize hW0 : w.alloc (.cells #[.int .i64 d.kind, .string d.cls, .string d.sup, .slice A d.vars.length c, .string d.sel, .string d.src] 31) = W0 at *
  have HW0 := Lib.hid hW0
  clear hW0
  go_enter Tryd.func5, Tryd.ntmps5
  go_wp2_with fail
  rw [HW0.out]
  refine (awake_calls W0).mono ?_
  rintro e1 w1 ⟨rfl, hb1⟩
  have HP1 := Lib.hid ((hb1.block _ (blk_lt HP0.out)).trans HP0.out)
  have HB1 := Lib.hid (below_then HB0.out hb1)
  clear hb1
  have q10 := blk_cell HP1.out 0
  have q11 := blk_cell HP1.out 1
  have q12 := blk_cell HP1.out 2
  have q13 := blk_cell HP1.out 3
  have q14 := blk_cell HP1.out 4
  have q15 := blk_cell HP1.out 5
  go_wp2_with fail
  refine (hsm.out _ HB1.out).mono ?_
  rintro e2 w2 ⟨rfl, hb2⟩
  have HP2 := Lib.hid ((hb2.block _ (blk_lt HP1.out)).trans HP1.out)
  have HB2 := Lib.hid (below_then HB1.out hb2)
  clear hb2
  clear q10 q11 q12 q13 q14 q15
  have q20 := blk_cell HP2.out 0
  have q21 := blk_cell HP2.out 1
  have q22 := blk_cell HP2.out 2
  have q23 := blk_cell HP2.out 3
  have q24 := blk_cell HP2.out 4
  have q25 := blk_cell HP2.out 5
  go_wp2_with fail
  have HX3 := Lib.hid (show Wr (w2.alloc (.cells #[.slice none 0 0, .int .i64 0] 54)) w2.heap.size [] 0 from ⟨_, heap_alloc_new w2 _, Kd.R_nil _ _ _ _ _⟩)
  have HP3 := Lib.hid (blk_alloc HP2.out (.cells #[.slice none 0 0, .int .i64 0] 54))
  have HB3 := Lib.hid (below_then HB2.out (below_alloc (Below.refl _ w2) (.cells #[.slice none 0 0, .int .i64 0] 54)))
  have hpg : w.heap.size < w2.heap.size := blk_lt HP2.out
  generalize w2.alloc (.cells #[.slice none 0 0, .int .i64 0] 54) = w3 at *
  clear q20 q21 q22 q23 q24 q25
  refine (wnum_calls w2.heap.size 7 [] w3 HX3.out (by decide) (by decide)).mono ?_
  rintro e4 w4 ⟨rfl, hX4, hF4⟩
  have HX4 := Lib.hid hX4
  have HP4 := Lib.hid ((hF4.below.block _ hpg).trans HP3.out)
  have HB4 := Lib.hid (below_wf HB3.out hF4.below (Nat.le_of_lt hpg))
  clear hX4 hF4
  have q40 := blk_cell HP4.out 0
  have q41 := blk_cell HP4.out 1
  have q42 := blk_cell HP4.out 2
  have q43 := blk_cell HP4.out 3
  have q44 := blk_cell HP4.out 4
  have q45 := blk_cell HP4.out 5
  go_wp2_with fail
  refine (hwr.out _ w2.heap.size HX4.out HB4.out (Nat.le_of_lt hpg)).mono ?_
  rintro e5 w5 ⟨rfl, hX5, hF5⟩
  have HX5 := Lib.hid hX5
  have HP5 := Lib.hid ((hF5.below.block _ hpg).trans HP4.out)
  have HB5 := Lib.hid (below_wf HB4.out hF5.below (Nat.le_of_lt hpg))
  clear hX5 hF5
  clear q40 q41 q42 q43 q44 q45
  have q50 := blk_cell HP5.out 0
  have q51 := blk_cell HP5.out 1
  have q52 := blk_cell HP5.out 2
  have q53 := blk_cell HP5.out 3
  have q54 := blk_cell HP5.out 4
  have q55 := blk_cell HP5.out 5
  go_wp2_with fail
  refine (hrt.out _ HB5.out).mono ?_
  rintro e6 w6 ⟨rfl, hb6⟩
  have HP6 := Lib.hid ((hb6.block _ (blk_lt HP5.out)).trans HP5.out)
  have HX6 := Lib.hid (wr_below HX5.out hb6)
  have HB6 := Lib.hid (below_then HB5.out hb6)
  clear hb6
  clear q50 q51 q52 q53 q54 q55
  go_wp2_with fail
  refine (werr_calls w2.heap.size _ 2 w6 HX6.out).mono ?_
  rintro e7 w7 ⟨rfl, rfl⟩
  go_wp2_with fail
  refine (wbytes_calls w2.heap.size _ 2 w6 HX6.out (by rw [bytesOf_length, be4_size]; decide)).mono ?_
  rintro e8 w8 ⟨A8, c8, rfl, hc8, hC8, hA8, hb8⟩
  have HB8 := Lib.hid (below_then HB6.out hb8)
  clear hc8 hC8 hA8 hb8
  go_wp2
  go_ret
  exact ⟨rfl, HB8.out⟩

set_option maxRecDepth 100000 in
set_option maxHeartbeats 1000000 in
theorem defBack_right (d : DefV) (A : Option Addr) (c : Nat) (w : World) (hC : Kd.string.C w A d.vars.length d.vars) (hc : d.vars.length ≤ c) (hs : smallD d = true) (hr : rightD d = true) :
    Calls Tryd.prog 5 #[.agg #[.int .i64 d.kind, .string d.cls, .string d.sup, .slice A d.vars.length c, .string d.sel, .string d.src]] w fun x w' => x = .returned (.bool true) ∧ Below w.heap.size w w' := by
  have henc := small_enc hs
  have hparts := small_parts hs
  have hCl := Lib.hid (C_lt hC)
  have HCw := Lib.hid hC
  have hsm : Hid (∀ W, Below w.heap.size w W → Calls Tryd.prog 15 #[.agg #[.int .i64 d.kind, .string d.cls, .string d.sup, .slice A d.vars.length c, .string d.sel, .string d.src]] W fun e w' => e = .returned (.bool true) ∧ Below W.heap.size W w') :=
    Lib.hid (fun W hW => by have := monticuleref07_Small.calls 33 d.kind d.cls d.sup A c d.vars d.sel d.src (smallD d) W ((Fr.of_below (fun _ => False) hW).string hC (fun _ _ _ h => h)) hc (small_ok 33 d (by decide)); rw [hs] at this; exact this)
  have hwr : Hid (∀ W g, Wr W g (bytesOf (be4 7)) 0 → Below w.heap.size w W → w.heap.size ≤ g → Calls Tryd.prog 22 #[.pointer (some ⟨g, 0, none⟩), .agg #[.int .i64 d.kind, .string d.cls, .string d.sup, .slice A d.vars.length c, .string d.sel, .string d.src]] W (WrPost W g (bytesOf (be4 7) ++ bytesOf (encDef d)) 0)) :=
    Lib.hid (fun W g hW hB hg => by
      have := write_calls g d A c (bytesOf (be4 7)) W hW ((Fr.of_below (fun _ => False) hB).string hC (fun _ _ _ h => h)) hc (fun ad ha h0 => Nat.lt_of_lt_of_le (hCl.out ad ha h0) hg) (by omega) (by rw [bytesOf_length, be4_size]; omega)
      rw [hr, if_pos rfl, if_pos rfl] at this
      exact this)
  have hrt : Hid (∀ W, Below w.heap.size w W → Calls Tryd.prog 17 #[.agg #[.int .i64 d.kind, .string d.cls, .string d.sup, .slice A d.vars.length c, .string d.sel, .string d.src]] W fun e w' => e = .returned (.bool true) ∧ Below W.heap.size W w') :=
    Lib.hid (fun W hW => by have := monticuleref07_Right.calls (2 * d.vars.length + 62) d.kind d.cls d.sup A c d.vars d.sel d.src (rightD d) W ((Fr.of_below (fun _ => False) hW).string hC (fun _ _ _ h => h)) hc (rright_ok _ d hC.2.1 (by omega) (Nat.lt_succ_self _)); rw [hr] at this; exact this)
  have hoc : Hid (∀ W, Below w.heap.size w W → Calls Tryd.prog 26 #[.agg #[.int .i64 d.kind, .string d.cls, .string d.sup, .slice A d.vars.length c, .string d.sel, .string d.src]] W fun e w' => e = .returned (.string (encDef d)) ∧ Below W.heap.size W w') :=
    Lib.hid (fun W hW => octetsD_calls d A c W hr ((Fr.of_below (fun _ => False) hW).string hC (fun _ _ _ h => h)) hc (by omega))
  have HE := Lib.hid henc
  have HC0 := Lib.hid hc
  have hrdn := Lib.hid (rdNum_be4 7 (encDef d) (by decide))
  have hrdd := Lib.hid (rdDef_back hs hr)
  clear hC hc hs hr henc hparts
  have HP0 := Lib.hid (heap_alloc_new w (.cells #[.int .i64 d.kind, .string d.cls, .string d.sup, .slice A d.vars.length c, .string d.sel, .string d.src] 31))
  have HB0 := Lib.hid (below_alloc (Below.refl _ w) (.cells #[.int .i64 d.kind, .string d.cls, .string d.sup, .slice A d.vars.length c, .string d.sel, .string d.src] 31))
  have hlt0 : w.heap.size < w.heap.size + 1 := Nat.lt_succ_self _
  generalize hW0 : w.alloc (.cells #[.int .i64 d.kind, .string d.cls, .string d.sup, .slice A d.vars.length c, .string d.sel, .string d.src] 31) = W0 at *
  have HW0 := Lib.hid hW0
  clear hW0
  go_enter Tryd.func5, Tryd.ntmps5
  go_wp2_with fail
  rw [HW0.out]
  refine (awake_calls W0).mono ?_
  rintro e1 w1 ⟨rfl, hb1⟩
  have HP1 := Lib.hid ((hb1.block _ (blk_lt HP0.out)).trans HP0.out)
  have HB1 := Lib.hid (below_then HB0.out hb1)
  clear hb1
  have q10 := blk_cell HP1.out 0
  have q11 := blk_cell HP1.out 1
  have q12 := blk_cell HP1.out 2
  have q13 := blk_cell HP1.out 3
  have q14 := blk_cell HP1.out 4
  have q15 := blk_cell HP1.out 5
  go_wp2_with fail
  refine (hsm.out _ HB1.out).mono ?_
  rintro e2 w2 ⟨rfl, hb2⟩
  have HP2 := Lib.hid ((hb2.block _ (blk_lt HP1.out)).trans HP1.out)
  have HB2 := Lib.hid (below_then HB1.out hb2)
  clear hb2
  clear q10 q11 q12 q13 q14 q15
  have q20 := blk_cell HP2.out 0
  have q21 := blk_cell HP2.out 1
  have q22 := blk_cell HP2.out 2
  have q23 := blk_cell HP2.out 3
  have q24 := blk_cell HP2.out 4
  have q25 := blk_cell HP2.out 5
  go_wp2_with fail
  have HX3 := Lib.hid (show Wr (w2.alloc (.cells #[.slice none 0 0, .int .i64 0] 54)) w2.heap.size [] 0 from ⟨_, heap_alloc_new w2 _, Kd.R_nil _ _ _ _ _⟩)
  have HP3 := Lib.hid (blk_alloc HP2.out (.cells #[.slice none 0 0, .int .i64 0] 54))
  have HB3 := Lib.hid (below_then HB2.out (below_alloc (Below.refl _ w2) (.cells #[.slice none 0 0, .int .i64 0] 54)))
  have hpg : w.heap.size < w2.heap.size := blk_lt HP2.out
  generalize w2.alloc (.cells #[.slice none 0 0, .int .i64 0] 54) = w3 at *
  clear q20 q21 q22 q23 q24 q25
  refine (wnum_calls w2.heap.size 7 [] w3 HX3.out (by decide) (by decide)).mono ?_
  rintro e4 w4 ⟨rfl, hX4, hF4⟩
  have HX4 := Lib.hid hX4
  have HP4 := Lib.hid ((hF4.below.block _ hpg).trans HP3.out)
  have HB4 := Lib.hid (below_wf HB3.out hF4.below (Nat.le_of_lt hpg))
  clear hX4 hF4
  have q40 := blk_cell HP4.out 0
  have q41 := blk_cell HP4.out 1
  have q42 := blk_cell HP4.out 2
  have q43 := blk_cell HP4.out 3
  have q44 := blk_cell HP4.out 4
  have q45 := blk_cell HP4.out 5
  go_wp2_with fail
  refine (hwr.out _ w2.heap.size HX4.out HB4.out (Nat.le_of_lt hpg)).mono ?_
  rintro e5 w5 ⟨rfl, hX5, hF5⟩
  have HX5 := Lib.hid hX5
  have HP5 := Lib.hid ((hF5.below.block _ hpg).trans HP4.out)
  have HB5 := Lib.hid (below_wf HB4.out hF5.below (Nat.le_of_lt hpg))
  clear hX5 hF5
  clear q40 q41 q42 q43 q44 q45
  have q50 := blk_cell HP5.out 0
  have q51 := blk_cell HP5.out 1
  have q52 := blk_cell HP5.out 2
  have q53 := blk_cell HP5.out 3
  have q54 := blk_cell HP5.out 4
  have q55 := blk_cell HP5.out 5
  go_wp2_with fail
  refine (hrt.out _ HB5.out).mono ?_
  rintro e6 w6 ⟨rfl, hb6⟩
  have HP6 := Lib.hid ((hb6.block _ (blk_lt HP5.out)).trans HP5.out)
  have HX6 := Lib.hid (wr_below HX5.out hb6)
  have HB6 := Lib.hid (below_then HB5.out hb6)
  clear hb6
  clear q50 q51 q52 q53 q54 q55
  go_wp2_with fail
  refine (monticuleref01_Num.calls 6 7 (be4 7) true w6 (num_ok 6 7 (by decide) (by decide))).mono ?_
  rintro e7 w7 ⟨rfl, hb7⟩
  have HP7 := Lib.hid ((hb7.block _ (blk_lt HP6.out)).trans HP6.out)
  have HX7 := Lib.hid (wr_below HX6.out hb7)
  have HB7 := Lib.hid (below_then HB6.out hb7)
  clear hb7
  have HBd := Lib.hid (below_then HB7.out (below_drew (Below.refl _ w7)))
  have HXd := Lib.hid (wr_below HX7.out (below_drew (Below.refl _ w7)))
  have HPd := Lib.hid ((Fr.drew (Fr.refl (fun _ => False) w7)).heap HP7.out (fun h => h))
  have hsz : (bytesOf (be4 7) ++ bytesOf (encDef d)).length ≤ 140737488355328 := by
    rw [List.length_append, bytesOf_length, bytesOf_length, be4_size]
    have := HE.out
    omega
  have HSZ := Lib.hid hsz
  have n1 : (9223372036854775807 < (be4 7).size + (encDef d).size) = False := eq_false (Nat.not_lt.2 (by rw [be4_size]; have := HE.out; omega))
  clear hsz
  go_wp2_with fail
  have qd0 := blk_cell HPd.out 0
  have qd1 := blk_cell HPd.out 1
  have qd2 := blk_cell HPd.out 2
  have qd3 := blk_cell HPd.out 3
  have qd4 := blk_cell HPd.out 4
  have qd5 := blk_cell HPd.out 5
  go_region_with
    (first
    | (go_at_call 23; refine (werr_calls w2.heap.size _ 0 _ HXd.out).mono ?_; rintro _ _ ⟨rfl, rfl⟩)
    | (go_at_call 24; refine (wbytes_calls w2.heap.size _ 0 _ HXd.out HSZ.out).mono ?_; rintro e8 w8 ⟨A8, c8, he8, hc8, hC8, hA8, hb8⟩; rw [← bytesOf_app, bytesOf_length] at he8 hC8; subst he8; have hconv8 := octets_all c8 hC8; rw [ByteArray.size_append] at hconv8; have HC8 := Lib.hid hC8; have HP8 := Lib.hid ((hb8.block _ (blk_lt HPd.out)).trans HPd.out); have q80 := blk_cell HP8.out 0; have q81 := blk_cell HP8.out 1; have q82 := blk_cell HP8.out 2; have q83 := blk_cell HP8.out 3; have q84 := blk_cell HP8.out 4; have q85 := blk_cell HP8.out 5; have HX8 := Lib.hid (wr_below HXd.out hb8); have HB8 := Lib.hid (below_then HBd.out hb8); clear hC8 hA8 hb8 hc8)
    | (go_at_call 26; refine (hoc.out _ HB8.out).mono ?_; rintro e9 w9 ⟨rfl, hb9⟩; have hconv9 := octets_all c8 ((Fr.of_below (fun _ => False) hb9).int HC8.out (fun _ _ _ h => h)); rw [ByteArray.size_append] at hconv9; have HP9 := Lib.hid ((hb9.block _ (blk_lt HP8.out)).trans HP8.out); have q90 := blk_cell HP9.out 0; have q91 := blk_cell HP9.out 1; have q92 := blk_cell HP9.out 2; have q93 := blk_cell HP9.out 3; have q94 := blk_cell HP9.out 4; have q95 := blk_cell HP9.out 5; have HX9 := Lib.hid (wr_below HX8.out hb9); have HB9 := Lib.hid (below_then HB8.out hb9); clear hb9))
  all_goals clear hconv8 hconv9 n1 hsm hwr hrt hoc qd0 qd1 qd2 qd3 qd4 qd5 q80 q81 q82 q83 q84 q85 q90 q91 q92 q93 q94 q95
  all_goals generalize hBz : be4 7 ++ encDef d = Bz at *
  all_goals have HXz : Hid (Wr w9 w2.heap.size (bytesOf Bz) 0) := Lib.hid (by rw [← hBz, bytesOf_app]; exact HX9.out)
  all_goals have HSz : Hid ((bytesOf Bz).length ≤ 140737488355328) := Lib.hid (by rw [← hBz, bytesOf_app]; exact HSZ.out)
  all_goals clear hBz
  all_goals go_wp2_with fail
  all_goals refine (wbytes_calls w2.heap.size _ 0 _ HXz.out HSz.out).mono ?_
  all_goals rintro e10 w10 ⟨A10, c10, he10, hc10, hC10, hA10, hb10⟩
  all_goals rw [bytesOf_length] at he10 hC10
  all_goals subst he10
  all_goals have HC10 := Lib.hid hC10
  all_goals have HP10 := Lib.hid ((hb10.block _ (blk_lt HP9.out)).trans HP9.out)
  all_goals have HB10 := Lib.hid (below_then HB9.out hb10)
  all_goals clear hC10 hA10 hb10 hc10
  all_goals go_wp2_with fail
  all_goals refine (open_calls A10 c10 Bz _ HC10.out (by have := HSz.out; rw [bytesOf_length] at this; exact this)).mono ?_
  all_goals rintro e11 w11 ⟨gr, rfl, hR11, hg11, hb11⟩
  all_goals have HR11 := Lib.hid hR11
  all_goals have HP11 := Lib.hid ((hb11.block _ (blk_lt HP10.out)).trans HP10.out)
  all_goals have HB11 := Lib.hid (below_then HB10.out hb11)
  all_goals have hgr : w.heap.size < gr := Nat.lt_of_lt_of_le (blk_lt HP10.out) hg11
  all_goals clear hR11 hb11 hg11
  all_goals go_wp2_with fail
  all_goals have hnum := num_calls gr Bz 0 w11 HR11.out
  all_goals rw [hrdn.out] at hnum
  all_goals refine hnum.mono ?_
  all_goals rintro e12 w12 ⟨he12, hR12, hF12⟩
  all_goals obtain rfl : e12 = .returned (.int .i64 7) := he12
  all_goals have HR12 : Hid (Rd w12 gr (encDef d) 0) := Lib.hid hR12
  all_goals have HP12 := Lib.hid (hF12.heap HP11.out (by omega))
  all_goals have HB12 := Lib.hid (HB11.out.trans (hF12.belowB (B := w.heap.size) (fun k hk => by omega) HB11.out.size))
  all_goals clear hnum hR12 hF12
  all_goals go_wp2_with fail
  all_goals refine (err_calls gr (encDef d) 0 w12 HR12.out).mono ?_
  all_goals rintro _ _ ⟨rfl, rfl⟩
  all_goals go_wp2_with fail
  all_goals have hread := read_calls gr (encDef d) 0 w12 HR12.out (by have := HE.out; omega)
  all_goals rw [hrdd.out] at hread
  all_goals refine hread.mono ?_
  all_goals rintro e13 w13 ⟨A13, c13, he13, hc13, hC13, hA13, hR13, hF13⟩
  all_goals obtain rfl : e13 = .returned (.tuple #[.agg #[.int .i64 d.kind, .string d.cls, .string d.sup, .slice A13 d.vars.length c13, .string d.sel, .string d.src], .int .i64 0]) := he13
  all_goals have HR13 : Hid (Rd w13 gr ByteArray.empty 0) := Lib.hid hR13
  all_goals have HP13 := Lib.hid (hF13.heap HP12.out (by omega))
  all_goals have HB13 := Lib.hid (HB12.out.trans (hF13.belowB (B := w.heap.size) (fun k hk => by omega) HB12.out.size))
  all_goals have HC13 : Hid (Kd.string.C w13 A13 d.vars.length d.vars) := Lib.hid hC13
  all_goals clear hread hR13 hF13 hC13 hA13
  all_goals have hsame : Hid (∀ W, Below w13.heap.size w13 W → Calls Tryd.prog 10 #[.agg #[.int .i64 d.kind, .string d.cls, .string d.sup, .slice A13 d.vars.length c13, .string d.sel, .string d.src], .agg #[.int .i64 d.kind, .string d.cls, .string d.sup, .slice A d.vars.length c, .string d.sel, .string d.src]] W fun e w' => e = .returned (.bool true) ∧ Below W.heap.size W w') := Lib.hid (fun W hW => monticuleref07_Same.calls (d.vars.length + 1) d.kind d.cls d.sup A13 c13 d.vars d.sel d.src d.kind d.cls d.sup A c d.vars d.sel d.src true W ((Fr.of_below (fun _ => False) hW).string HC13.out (fun _ _ _ h => h)) hc13 ((Fr.of_below (fun _ => False) (below_then HB13.out hW)).string HCw.out (fun _ _ _ h => h)) HC0.out (rsame_refl _ d HCw.out.2.1 (Nat.lt_succ_self _)))
  all_goals have HPa := Lib.hid (blk_alloc HP13.out (.cells #[.int .i64 d.kind, .string d.cls, .string d.sup, .slice A13 d.vars.length c13, .string d.sel, .string d.src] 31))
  all_goals have HPb := Lib.hid (heap_alloc_new w13 (.cells #[.int .i64 d.kind, .string d.cls, .string d.sup, .slice A13 d.vars.length c13, .string d.sel, .string d.src] 31))
  all_goals have q130 := blk_cell HPa.out 0
  all_goals have r130 := blk_cell HPb.out 0
  all_goals have r131 := blk_cell HPb.out 1
  all_goals have r132 := blk_cell HPb.out 2
  all_goals have r133 := blk_cell HPb.out 3
  all_goals have r134 := blk_cell HPb.out 4
  all_goals have r135 := blk_cell HPb.out 5
  all_goals have q131 := blk_cell HPa.out 1
  all_goals have q132 := blk_cell HPa.out 2
  all_goals have q133 := blk_cell HPa.out 3
  all_goals have q134 := blk_cell HPa.out 4
  all_goals have q135 := blk_cell HPa.out 5
  all_goals go_wp2_with fail
  all_goals refine (hsame.out _ (below_alloc (Below.refl _ w13) _)).mono ?_
  all_goals rintro e14 w14 ⟨rfl, hb14⟩
  all_goals have hb15 := below_then (below_alloc (Below.refl _ w13) (.cells #[.int .i64 d.kind, .string d.cls, .string d.sup, .slice A13 d.vars.length c13, .string d.sel, .string d.src] 31)) hb14
  all_goals have HR14 := Lib.hid (HR13.out.fr (Fr.of_below (fun _ => False) hb15) (fun _ h => h.elim))
  all_goals have HB14 := Lib.hid (below_then HB13.out hb15)
  all_goals clear hb14 hb15 q130 q131 q132 q133 q134 q135 r130 r131 r132 r133 r134 r135
  all_goals go_wp2_with fail
  all_goals refine (end_calls gr ByteArray.empty 0 w14 HR14.out).mono ?_
  all_goals rintro e15 w15 ⟨he15, rfl⟩
  all_goals obtain rfl : e15 = .returned (.int .i64 0) := he15
  all_goals go_wp2
  all_goals go_ret
  all_goals exact ⟨rfl, HB14.out⟩

theorem defBack_walk (d : DefV) (A : Option Addr) (c : Nat) (w : World) (hC : Kd.string.C w A d.vars.length d.vars) (hc : d.vars.length ≤ c) :
    Calls Tryd.prog 5 #[.agg #[.int .i64 d.kind, .string d.cls, .string d.sup, .slice A d.vars.length c, .string d.sel, .string d.src]] w fun x w' => x = .returned (.bool true) ∧ Below w.heap.size w w' := by
  cases hs : smallD d
  · exact defBack_big d A c w hC hc hs
  · cases hr : rightD d
    · exact defBack_small d A c w hC hc hs hr
    · exact defBack_right d A c w hC hc hs hr
end Go.Proofs.YtoiaancehakiiaaDoor.Q
/- What a row's reading of a definition gives: its parts, and where its variables lie. -/
namespace Go.Proofs.YtoiaancehakiiaaDoor.Q
open Go.ChangeShapes Go.WideShapes Go.ChangeAt Go.RowKit Go.Lib
open Go.Proofs.YtoiaancehakiiaaDoorW.PrintWords Go.Shelf Go.Deep Go.Joins

section
variable {H : Type} {enc : TypeId × Value → H} {W : World} {base : Nat} {spare : Nat → Bool} {b0 : Nat}
set_option maxRecDepth 100000 in
theorem open_six {r : Reach} {t : TypeId} {f0 f1 f2 f3 f4 f5 : Field} {v : Value} {d : DataW H} {p : List MemPlace} {hd : Bool} (hs : Tryd.prog.underlying t = some (.struct #[f0, f1, f2, f3, f4, f5])) (hone : oneCellFields Tryd.prog #[f0, f1, f2, f3, f4, f5] = true) (hC : Tryd.prog.cellsOf t = 6)
    (hv : Value.okWide Tryd.prog W r b0 t v) (h : DataW.Trod enc Tryd.prog W base spare hd t v d p) :
    ∃ (v0 v1 v2 v3 v4 v5 : Value) (y0 y1 y2 y3 y4 y5 : DataW H × List MemPlace) (n : Nat), v = .agg #[v0, v1, v2, v3, v4, v5] ∧
      DataW.trod enc Tryd.prog W base spare hd n f0.type [v0] = some y0 ∧ DataW.trod enc Tryd.prog W base spare hd n f1.type [v1] = some y1 ∧ DataW.trod enc Tryd.prog W base spare hd n f2.type [v2] = some y2 ∧
      DataW.trod enc Tryd.prog W base spare hd n f3.type [v3] = some y3 ∧ DataW.trod enc Tryd.prog W base spare hd n f4.type [v4] = some y4 ∧ DataW.trod enc Tryd.prog W base spare hd n f5.type [v5] = some y5 := by
  obtain ⟨cs, rfl, hsz⟩ := okWide_struct hs hv
  obtain ⟨l⟩ := cs
  have h6 : l.length = 6 := hsz.trans hC
  match l, h6 with
  | [c0, c1, c2, c3, c4, c5], _ =>
    obtain ⟨fuel, hf⟩ := h
    obtain ⟨xs, n, _, hx, hl, hlen, hfld⟩ := DataW.trod_struct hs hf
    match xs, hlen with
    | [y0, y1, y2, y3, y4, y5], _ =>
      obtain ⟨o0, k0⟩ := hone_of hone 0 f0 rfl
      obtain ⟨o1, k1⟩ := hone_of hone 1 f1 rfl
      obtain ⟨o2, k2⟩ := hone_of hone 2 f2 rfl
      obtain ⟨o3, k3⟩ := hone_of hone 3 f3 rfl
      obtain ⟨o4, k4⟩ := hone_of hone 4 f4 rfl
      obtain ⟨o5, k5⟩ := hone_of hone 5 f5 rfl
      exact ⟨c0, c1, c2, c3, c4, c5, y0, y1, y2, y3, y4, y5, n, rfl, by simpa [Value.cells, o0, k0] using hfld 0 f0 rfl, by simpa [Value.cells, o1, k1] using hfld 1 f1 rfl, by simpa [Value.cells, o2, k2] using hfld 2 f2 rfl, by simpa [Value.cells, o3, k3] using hfld 3 f3 rfl, by simpa [Value.cells, o4, k4] using hfld 4 f4 rfl, by simpa [Value.cells, o5, k5] using hfld 5 f5 rfl⟩

set_option maxRecDepth 100000 in
theorem open_def {v : Value} {d : DataW H} {p : List MemPlace} (hv : Value.okWide Tryd.prog W .any b0 31 v) (h : DataW.Trod enc Tryd.prog W 0 (fun _ => true) true 31 v d p) :
    ∃ (D : DefV) (A : Option Addr) (c : Nat), v = .agg #[.int .i64 D.kind, .string D.cls, .string D.sup, .slice A D.vars.length c, .string D.sel, .string D.src] ∧ D.vars.length ≤ c ∧ Kd.string.C W A D.vars.length D.vars := by
  obtain ⟨v0, v1, v2, v3, v4, v5, y0, y1, y2, y3, y4, y5, n, rfl, h0, h1, h2, h3, h4, h5⟩ := open_six Tryd.underlying31 (by kernel_rfl) (by kernel_rfl) hv h
  obtain ⟨kind, e0, _⟩ := DataW.trod_int Tryd.underlying3 h0
  obtain ⟨cls, e1, _⟩ := DataW.trod_string Tryd.underlying9 h1
  obtain ⟨sup, e2, _⟩ := DataW.trod_string Tryd.underlying9 h2
  obtain ⟨sel, e4, _⟩ := DataW.trod_string Tryd.underlying9 h4
  obtain ⟨src, e5, _⟩ := DataW.trod_string Tryd.underlying9 h5
  obtain rfl := (List.cons.inj e0).1
  obtain rfl := (List.cons.inj e1).1
  obtain rfl := (List.cons.inj e2).1
  obtain rfl := (List.cons.inj e4).1
  obtain rfl := (List.cons.inj e5).1
  rcases open_strings Tryd.underlying29 Tryd.underlying9 (by kernel_rfl) h3 with ⟨e3, _⟩ | ⟨a, len, cap, ss, e3, _, hl, hm, hz, _, hcell, _⟩
  · obtain rfl := (List.cons.inj e3).1
    exact ⟨⟨kind, cls, sup, [], sel, src⟩, none, 0, rfl, Nat.le_refl _, Kd.C_nil Kd.string W⟩
  · obtain rfl := (List.cons.inj e3).1
    have hz2 : ss.length = cap := by simpa using hz
    have hlen : (ss.take len).length = len := by rw [List.length_take]; omega
    refine ⟨⟨kind, cls, sup, ss.take len, sel, src⟩, some a, cap, by rw [hlen], by rw [hlen]; exact hl, ?_⟩
    have hml : len ≤ 9223372036854775807 := Nat.le_trans hl hm
    have hr : Kd.string.C W (some a) len (ss.take len) := by
      refine Kd.C_of_reads (enc := Value.string) (d := ByteArray.empty) (h1 := fun _ => rfl) ⟨hlen, hml, fun _ => ⟨a, rfl, fun j hj => ?_⟩⟩
      rw [hcell j (by omega)]
      simp [List.getD_eq_getElem?_getD, hj]
    show Kd.string.C W (some a) (ss.take len).length (ss.take len)
    rw [hlen]
    exact hr
end
end Go.Proofs.YtoiaancehakiiaaDoor.Q
/- The law DefBack: whatever definition comes in, the call returns true and the definition stays (Rows.DefBackSaid), and its tied card (Rows.DefBackCardSaid). -/
namespace Go.Proofs.YtoiaancehakiiaaDoor.Q
open Go.ChangeShapes Go.WideShapes Go.ChangeAt Go.RowKit

def zeroArg : Value := .agg #[.int .i64 0, .string ⟨#[]⟩, .string ⟨#[]⟩, .slice none 0 0, .string ⟨#[]⟩, .string ⟨#[]⟩]
theorem reads_defBack (os : Os) {H : Type} (enc : TypeId × Value → H) : ∃ places, DataW.whole enc Tryd.prog ((laidWorld os).forCall (fun _ _ => 0) ⟨#[], #[zeroArg], []⟩).memory Tryd.f5.params.toList Rows.defBackSpec.vars false #[zeroArg].toList 8 = some ([.agg [.lit (.int .i64 0), .lit (.string []), .lit (.string []), .nil, .lit (.string []), .lit (.string [])]], [], places) :=
  ⟨[], by kernel_rfl⟩

set_option maxRecDepth 100000 in
theorem contract_defBack (H : Type) (enc : TypeId × Value → H) (W : World) (base : Nat) (args : Array Value) (ds gs : List (DataW H)) (before : List MemPlace)
    (hval0 : ∀ (j : Nat) t v, Tryd.f5.params[j]? = some t → args[j]? = some v → Value.okWide Tryd.prog W .any base t v)
    (hW : DataW.Whole enc Tryd.prog Tryd.f5.params.toList Rows.defBackSpec.vars false W args.toList ds gs before) :
    Calls Tryd.prog 5 args W fun e W' => ∃ v, e = .returned v ∧ Rows.defBackSpec.post enc Tryd.prog Tryd.f5 false true false false W args v W' := by
  have hval : ∀ (j : Nat) t v, Tryd.f5.params[j]? = some t → args[j]? = some v → Value.okWide Tryd.prog W .any base t v := hval0
  have hW' := hW
  obtain ⟨p, q, hA0, hV, rfl, hfz, hnd⟩ := hW
  have hA : DataW.TrodAll enc Tryd.prog W 0 (fun _ => true) true Tryd.f5.params.toList args.toList ds p := hA0
  rw [Tryd.params5] at hA hval
  obtain ⟨v0, vs0, d0, ds0, p0, q0, hargs, rfl, rfl, h0, r0⟩ := trodAll_cons hA
  obtain ⟨rfl, rfl, rfl⟩ := trodAll_nil r0
  obtain rfl : args = #[v0] := by cases args; simp_all
  obtain ⟨rfl, rfl⟩ := trodVars_none hV
  have k0 := h0
  have lt0 : ∀ x ∈ p0, x.block < W.heap.size := by obtain ⟨m, hm⟩ := k0; exact DataW.trod_lt m _ _ _ hm
  obtain ⟨D, A0, c0, rfl, hc, hC⟩ := open_def (hval 0 31 v0 rfl rfl) h0
  clear hA0 hval0
  refine (defBack_walk D A0 c0 W hC hc).mono fun e W' ⟨he, bel⟩ => ?_
  subst he
  exact ⟨_, rfl, _, _, _, [], _, [], hW', trodAll_mk1 (shut_bool Tryd.underlying4 _), (trodAll_cons_mk (Below.trod laidOut (by kernel_rfl) (of_decide_eq_true (by kernel_rfl)) k0 bel lt0) trodAll_mk0), rfl, bel.frame _, fun h => by cases h⟩

set_option maxRecDepth 100000 in
theorem lifted_defBack (os : Os) (started : os.Started) (H : Type) (enc : TypeId × Value → H) (F : Stop.Interp) :
    ReturnsInHanded {} Tryd.checked os 5 .any ((OpenSpec.ofChange Rows.defBackSpec).preRow enc Tryd.prog Tryd.f5 Rows.defBackRow.domain false Rows.defBackRow.laid) (((OpenSpec.ofChange Rows.defBackSpec).at F).post enc Tryd.prog Tryd.f5 false true false false) := by
  obtain ⟨places, hx⟩ := reads_defBack os enc
  refine returnsInHanded_of_row (C := Tryd.checked) (s := OpenSpec.ofChange Rows.defBackSpec) own started (by kernel_rfl) Tryd.func5
    (witness_row_at (enc := enc) (C := Tryd.checked) false (laidWorld os) #[zeroArg] rfl (by kernel_rfl) (by kernel_rfl) (by kernel_rfl)
      (OpenSpec.preRow_of_cond 8 hx (by kernel_rfl) (fun k hk => by cases hk) (by kernel_rfl) (laid_met os _))) ?_
  intro W base args ds gs before hval hW _ _ _ _ _ _
  exact contract_defBack H enc W base args ds gs before hval hW

theorem said_defBack : Rows.DefBackSaid :=
  OpenClaim.holds_of_cond 5 Tryd.f5 rfl rfl rfl rfl rfl rfl rfl ⟨rfl, rfl, rfl, rfl, rfl⟩ rfl rfl rfl rfl rfl (by kernel_rfl) Tryd.func5 (by kernel_rfl)
    (of_decide_eq_true (by kernel_rfl)) (by unfold Func.isWrapper; first | (rw [if_pos (by decide +kernel)]; kernel_rfl) | (rw [if_neg (by decide +kernel)]; exact ⟨rfl, rfl⟩))
    (fun os started H enc _ F => by rw [OpenClaim.pre_eq_preRow]; exact lifted_defBack os started H enc F)

theorem plain_defBack (f : FuncId) (fn : Func) (hf : Tryd.pinned.checked.prog.funcNamed "monticule/monticulelaw07.DefBack" = some f) (hfn : Tryd.pinned.checked.prog.funcs[f]? = some fn) :
    false = Tryd.pinned.checked.prog.looks [] ∧ ∀ (j : Nat) t, fn.params[j]? = some t → Tryd.pinned.checked.prog.wantsStandIn t = false := by
  obtain rfl : f = 5 := Option.some.inj ((show Tryd.prog.funcNamed "monticule/monticulelaw07.DefBack" = some 5 by kernel_rfl).symm.trans hf) |>.symm
  obtain rfl : fn = Tryd.f5 := (Option.some.inj (Tryd.func5.symm.trans hfn)).symm
  refine ⟨by kernel_rfl, fun j t ht => ?_⟩
  rw [Tryd.params5] at ht
  obtain rfl : t = 31 := by simpa using Array.mem_of_getElem? ht
  exact (show Tryd.prog.wantsStandIn 31 = false by kernel_rfl)

/-- The law, as the card says it. -/
theorem defBack_card : Rows.DefBackCardSaid :=
  Claim7.holds_tied_plain_at .later [] _ _ _ _ said_defBack (fun _ h => by cases h) (by kernel_rfl) (fun _ h => by cases h) defBack_row_tie rfl ⟨rfl, rfl⟩ (by kernel_rfl) rfl plain_defBack (by kernel_rfl)
end Go.Proofs.YtoiaancehakiiaaDoor.Q
