/- Merged by wip/tools/merge.py: GzR GzK GzE GzI GzH. -/
import Derived.Lib.ConvBytes
import Derived.Test.YtolcdlopgbgilaaGreatDoorShelf
import Derived.Test.YtolcdlopgbgilaaGreatDoorMz15
import Derived.Test.YtolcdlopgbgilaaGreatDoorMz23
import Derived.Test.YtolcdlopgbgilaaGreatDoorMz24

/-! Text GzR. -/
namespace Go.Proofs.YtolcdlopgbgilaaGreatDoor
open Go.RowKit Go.Dray

theorem wp_val {P : Program} {o : Oper} {a : Act} {w w' : World} {v : Value} {K : Act → World → Prop} {Q : Exit → Act → World → Prop} (h : (execOp a.eval o).run P w = .ok (.value v) w') (hK : K (a.put o.dst v) w') : Oper.wp P o a w K Q := by
  unfold Oper.wp
  rw [h]
  exact hK
theorem wp_call {P : Program} {w : World} {o : Oper} {a : Act} {K : Act → World → Prop} {Q : Exit → Act → World → Prop} (hgd : o.guard = none) {f : FuncId} {fn : Func} {c : Code} (hf : P.funcs[f]? = some fn) (hname : (fn.name == "runtime.NumGoroutine") = false) (hb : fn.body = some c) {xs : Array Operand} {tys : Array TypeId}
    (ho : o.op = .call { callee := .value (.func f), args := xs, argTypes := tys }) {args : Array Value} (ha : xs.map a.eval = args) {R : Ending → World → Prop} (hc : Calls P f args w R)
    (h : ∀ e w', R e w' → ∃ v, e = .returned v ∧ K (a.put o.dst v) w') : Oper.wp P o a w K Q := by
  have := step_call (ops := #[]) (E := True) (K := K) (Q := Q) hgd hf hname hb ho ha hc h
  rwa [if_pos (by simp [Region.wanted, hgd])] at this

/-- A text turned into bytes. -/
theorem ints_bytesWorld (w : World) (s : ByteArray) : Ints .u8 (Lib.bytesWorld w 5 s) (some ⟨w.heap.size, 0, none⟩) s.size (sb s) := by
  refine ⟨by rw [List.length_map, sb_len, Nat.mul_one], fun _ => rfl, fun k u hk => ?_⟩
  rw [List.getElem?_map] at hk
  obtain ⟨z, hz, rfl⟩ := Option.map_eq_some_iff.1 hk
  have hlt : k < s.size := by rw [← sb_len]; exact (List.getElem?_eq_some_iff.1 hz).1
  have h := Lib.bytesWorld_cell w 5 s k hlt
  show World.cell? _ ⟨w.heap.size, 0 + k, none⟩ = _
  rw [Nat.zero_add, h]
  congr 2
  unfold sb at hz
  rw [List.getElem?_map] at hz
  obtain ⟨b, hb, rfl⟩ := Option.map_eq_some_iff.1 hz
  simp [List.getD, hb]
theorem upd_bytesWorld (w : World) (s : ByteArray) : Upd [] w (Lib.bytesWorld w 5 s) :=
  ⟨rfl, rfl, rfl, by rw [Lib.bytesWorld_size]; omega, fun k hk _ => Lib.bytesWorld_at_old w _ s k hk⟩

/-- What each operation of Pack's last region yields. -/
def PackR (B g ga : Nat) (f mt : Int) (tl : ByteArray) (X : Option Addr) (m xc : Nat) (total : List Int) : Nat → Value → World → Prop
  | 0, v, _ => v = .int .u8 f
  | 1, v, w => ∃ Y, v = .slice Y 4 4 ∧ Ints .u8 w Y 4 [31, 139, 8, f]
  | 2, v, _ => v = .pointer (some ⟨g, 1, none⟩)
  | 3, v, _ => v = .int .i64 mt
  | 4, v, _ => v = .int .u64 mt
  | 5, v, w => ∃ Y yc, v = .slice Y 4 yc ∧ Ints .u8 w Y 4 (leB mt 4)
  | 6, v, w => ∃ Y, v = .slice Y 2 2 ∧ Ints .u8 w Y 2 [0, 3]
  | 7, v, _ => v = .string tl
  | 8, v, w => ∃ Y yc, v = .slice Y tl.size yc ∧ Ints .u8 w Y tl.size (sb tl)
  | 9, v, _ => v = .slice X m xc
  | 10, v, _ => v = .slice (some ⟨ga, 0, none⟩) 8 8
  | 11, v, w => ∃ Y l, v = .slice Y 6 6 ∧ Seg w 1 Y 6 (l.map ptV) ∧ (∀ x ∈ l, Ints .u8 w x.A x.n x.zs) ∧ sizes l = total.length ∧ allZ l = total
  | 12, v, w => ∃ Y N yc, v = .slice Y N yc ∧ N = total.length ∧ Own w B 5 1 Y N yc (total.map (Value.int .u8))
  | 13, v, w => ∃ Y N yc, v = .slice Y N yc ∧ N = total.length ∧ Own w B 5 1 Y N yc (total.map (Value.int .u8))
  | _, v, _ => v = .int .i64 0
theorem PackR.stable {B g ga : Nat} {f mt : Int} {tl : ByteArray} {X : Option Addr} {m xc : Nat} {total : List Int} (i : Nat) (v : Value) (w w' : World) (hu : Upd [] w w') (h : PackR B g ga f mt tl X m xc total i v w) : PackR B g ga f mt tl X m xc total i v w' := by
  match i, h with
  | 0, h | 2, h | 3, h | 4, h | 7, h | 9, h | 10, h => exact h
  | 1, h => obtain ⟨Y, h1, h2⟩ := h; exact ⟨Y, h1, h2.upd hu (by simp)⟩
  | 5, h => obtain ⟨Y, yc, h1, h2⟩ := h; exact ⟨Y, yc, h1, h2.upd hu (by simp)⟩
  | 6, h => obtain ⟨Y, h1, h2⟩ := h; exact ⟨Y, h1, h2.upd hu (by simp)⟩
  | 8, h => obtain ⟨Y, yc, h1, h2⟩ := h; exact ⟨Y, yc, h1, h2.upd hu (by simp)⟩
  | 11, h => obtain ⟨Y, l, h1, h2, h3, h4⟩ := h; exact ⟨Y, l, h1, h2.upd hu (by omega) (by simp), fun x hx => (h3 x hx).upd hu (by simp), h4⟩
  | 12, h => obtain ⟨Y, N, yc, h1, h2, h3⟩ := h; exact ⟨Y, N, yc, h1, h2, h3.upd hu (by simp)⟩
  | 13, h => obtain ⟨Y, N, yc, h1, h2, h3⟩ := h; exact ⟨Y, N, yc, h1, h2, h3.upd hu (by simp)⟩
  | k + 14, h => exact h

theorem seg6 (w : World) (a b c d e f : Value) (t : TypeId) : Seg (w.alloc (.cells #[a, b, c, d, e, f] t)) 1 (some ⟨w.heap.size, 0, none⟩) 6 [a, b, c, d, e, f] :=
  (Blk.new w t #[a, b, c, d, e, f]).seg
theorem ints4 (w : World) (a b c d : Int) (t : TypeId) : Ints .u8 (w.alloc (.cells #[.int .u8 a, .int .u8 b, .int .u8 c, .int .u8 d] t)) (some ⟨w.heap.size, 0, none⟩) 4 [a, b, c, d] :=
  (Blk.new w t #[.int .u8 a, .int .u8 b, .int .u8 c, .int .u8 d]).seg
theorem ints2 (w : World) (a b : Int) (t : TypeId) : Ints .u8 (w.alloc (.cells #[.int .u8 a, .int .u8 b] t)) (some ⟨w.heap.size, 0, none⟩) 2 [a, b] :=
  (Blk.new w t #[.int .u8 a, .int .u8 b]).seg

end Go.Proofs.YtolcdlopgbgilaaGreatDoor

/-! Text GzK. -/
namespace Go.Proofs.YtolcdlopgbgilaaGreatDoor
open Go.RowKit Go.Dray

/-- The flags of a member, and what stands of its name. -/
def gzFlag (s : ByteArray) : Int := if s.size = 0 then 0 else 8
def gzTail (s : ByteArray) : ByteArray := if s.size = 0 then ⟨#[]⟩ else s ++ ⟨#[0]⟩
theorem gzTail_len (s : ByteArray) (h : s.size ≤ 200) : (gzTail s).size ≤ 201 := by
  unfold gzTail
  split
  · exact Nat.zero_le _
  · rw [ByteArray.size_append]
    show s.size + 1 ≤ _
    omega
theorem gz_drewN (w : World) (n : Nat) : Upd [] w (w.drewN n) := by
  induction n with
  | zero => exact Upd.refl _ _
  | succ n ih => exact ih.drew
/-- The bytes of a member. -/
def gzBytes (s : ByteArray) (mt : Int) (packed zs : List Int) : List Int := [31, 139, 8, gzFlag s] ++ (leB mt 4 ++ ([0, 3] ++ (sb (gzTail s) ++ (packed ++ sums8 zs))))

theorem gz_all (Y1 Y5 Y6 Y8 X G : Option Addr) (c5 c8 : Nat) {m xc : Nat} {s : ByteArray} {mt : Int} {out zs : List Int} (f : Int) (tl : ByteArray) (hf : gzFlag s = f) (ht : gzTail s = tl) (hm : m = out.length) :
    sizes [⟨Y1, 4, 4, [31, 139, 8, f]⟩, ⟨Y5, 4, c5, leB mt 4⟩, ⟨Y6, 2, 2, [0, 3]⟩, ⟨Y8, ByteArray.size tl, c8, sb tl⟩, ⟨X, m, xc, out⟩, ⟨G, 8, 8, sums8 zs⟩] = (gzBytes s mt out zs).length ∧
    allZ [⟨Y1, 4, 4, [31, 139, 8, f]⟩, ⟨Y5, 4, c5, leB mt 4⟩, ⟨Y6, 2, 2, [0, 3]⟩, ⟨Y8, ByteArray.size tl, c8, sb tl⟩, ⟨X, m, xc, out⟩, ⟨G, 8, 8, sums8 zs⟩] = gzBytes s mt out zs := by
  subst hf ht hm
  refine ⟨?_, ?_⟩
  · simp [sizes, gzBytes, leB_len, sums8_len, sb_len]
    omega
  · simp [allZ, gzBytes]

def PackPost (w : World) (s : ByteArray) (mt : Int) (zs : List Int) (how : Int) (e : Ending) (w' : World) : Prop :=
  ∃ X N xc out, e = .returned (.tuple #[.slice X N xc, .int .i64 0]) ∧ N = List.length (gzBytes s mt out zs) ∧ Own w' w.heap.size 5 1 X N xc ((gzBytes s mt out zs).map (Value.int .u8)) ∧ DefOut zs how out ∧ List.length out ≤ 3000000 ∧ Upd [] w w'

set_option maxRecDepth 100000 in
set_option maxHeartbeats 4000000 in
theorem pack_ok (s : ByteArray) (mt : Int) (A : Option Addr) (n c : Nat) (zs : List Int) (how : Int) (w : World) (hs : Ints .u8 w A n zs) (hz : ∀ z ∈ zs, 0 ≤ z ∧ z ≤ 255) (hnc : n ≤ c) (hn : n ≤ 3000) (hh : how = 0 ∨ how = 1 ∨ how = 2) (hO : OrdD w)
    (hm0 : 0 ≤ mt) (hm1 : mt ≤ 4294967295) (hnul : ¬ 0 ≤ Lib.indexByte s.data.toList 0) (hsz : s.size ≤ 200) :
    Calls Tryz.prog 8 #[.agg #[.string s, .int .i64 mt, .slice A n c], .int .i64 how] w (PackPost w s mt zs how) := by
  have HS := Lib.hid hs
  have HZ := Lib.hid hz
  have HO := Lib.hid hO
  have HL := hs.len
  have hd : decide (0 ≤ Lib.indexByte s.data.toList 0) = false := by simpa using hnul
  have HDEF : Hid (∀ W, Upd [] w W → Calls Tryz.prog 12 #[.slice A n c, .int .i64 how] W (DeflPost W zs how)) := fun W hW => by
    rcases hh with rfl | rfl | rfl
    · exact deflate_stored A n c zs W (HS.out.upd hW (by simp)) HZ.out hnc (by omega)
    · exact deflate_fixed A n c zs W (HS.out.upd hW (by simp)) HZ.out hnc hn
    · exact deflate_dynamic A n c zs W (HS.out.upd hW (by simp)) HZ.out hnc hn (HO.out.upd hW (by simp))
  clear hs hz hO hnul hh
  have HB1 : Hid (Blk (w.alloc (.cells #[.string s, .int .i64 mt, .slice A n c] 35)) w.heap.size 35 #[.string s, .int .i64 mt, .slice A n c]) := Blk.new w _ _
  have HU1 : Hid (Upd [] w (w.alloc (.cells #[.string s, .int .i64 mt, .slice A n c] 35))) := (Upd.refl _ _).alloc _
  obtain ⟨g, hg⟩ : ∃ g, g = w.heap.size := ⟨_, rfl⟩
  have HG : Hid (w.heap.size ≤ g) := by show _ ≤ _; omega
  go_enter Tryz.func8, Tryz.ntmps8
  go_upto_region 1 with (fail)
  rw [← hg] at HB1 ⊢
  generalize hw1 : w.alloc _ = w1 at HB1 HU1 ⊢
  have k0 := HB1.out.cell 0
  have k1 := HB1.out.cell 1
  have k2 := HB1.out.cell 2
  simp at k0 k1 k2
  clear hw1 hg
  go_wp2_with (first
    | (go_at_call 11; refine (Tryz.strings_Contains_one s 0 _).mono ?_; rintro e w' ⟨rfl, rfl⟩; rw [hd])
    | fail)
  refine (HDEF.out _ HU1.out).mono ?_
  rintro e w2 ⟨X, xc, out, rfl, hown, hdef, hol, hu2⟩
  have HX := Lib.hid (Ints.ofOwn hown)
  have HDF := Lib.hid hdef
  have HU2 : Hid (Upd [] w w2) := HU1.out.trans hu2
  have HB2 := Lib.hid (HB1.out.upd hu2 (by simp))
  have k0 := HB2.out.cell 0
  have k1 := HB2.out.cell 1
  have k2 := HB2.out.cell 2
  simp at k0 k1 k2
  obtain ⟨m, hm⟩ : ∃ m, m = out.length := ⟨_, rfl⟩
  have HM := Lib.hid hm
  rw [← hm] at HX hol ⊢
  clear hown hdef hu2 hm HB1 HU1 HDEF hd
  obtain ⟨b0, b1, b2, b3, b4, b5, b6, b7, hE⟩ := eight (sums8_len zs)
  have HE := Lib.hid hE
  have HI2 := Lib.hid (HS.out.upd HU2.out (by simp))
  clear hE
  by_cases h0 : s.size = 0
  · obtain rfl : s = ⟨#[]⟩ := by
      apply ByteArray.ext
      exact Array.eq_empty_of_size_eq_zero h0
    go_wp2_with fail
    refine (sums_any A n c zs w2 HI2.out HZ.out (by omega)).mono ?_
    rintro e w3 ⟨rfl, hu3⟩
    rw [HE.out]
    simp only [List.map_cons, List.map_nil]
    have HU3 : Hid (Upd [] w w3) := HU2.out.trans hu3
    have HX3 := Lib.hid (HX.out.upd hu3 (by simp))
    have HB3 := Lib.hid (HB2.out.upd hu3 (by simp))
    clear HX HU2 HB2 HI2 hu3 k0 k1 k2
    go_upto_region 12 with (fail)
    have hua : Upd [] w3 (w3.alloc (.cells #[.int .u8 b0, .int .u8 b1, .int .u8 b2, .int .u8 b3, .int .u8 b4, .int .u8 b5, .int .u8 b6, .int .u8 b7] 43)) := (Upd.refl _ _).alloc _
    have HI8 : Hid (Ints .u8 (w3.alloc (.cells #[.int .u8 b0, .int .u8 b1, .int .u8 b2, .int .u8 b3, .int .u8 b4, .int .u8 b5, .int .u8 b6, .int .u8 b7] 43)) (some ⟨w3.heap.size, 0, none⟩) 8 (sums8 zs)) := by
      show Ints _ _ _ _ _
      rw [HE.out]
      exact (Blk.new w3 _ #[.int .u8 b0, .int .u8 b1, .int .u8 b2, .int .u8 b3, .int .u8 b4, .int .u8 b5, .int .u8 b6, .int .u8 b7]).seg
    have HU4 := Lib.hid (HU3.out.trans hua)
    have HX4 := Lib.hid (HX3.out.upd hua (by simp))
    have HB4 := Lib.hid (HB3.out.upd hua (by simp))
    obtain ⟨ga, hga⟩ : ∃ ga, ga = w3.heap.size := ⟨_, rfl⟩
    rw [← hga] at HI8 ⊢
    clear hua HU3 HX3 HB3 hga
    generalize w3.alloc _ = w4 at HI8 HU4 HX4 HB4 ⊢
    have a8 : Tryz.prog.underlying 43 = some (.array 8 5) := by kernel_rfl
    have a1 : (Tryz.prog.info? 5).map (·.size) = some 1 := by kernel_rfl
    have GBL : (gzBytes ⟨#[]⟩ mt out zs).length ≤ 4000000 := by
      unfold gzBytes
      simp only [List.length_append, List.length_cons, List.length_nil, leB_len, sums8_len, sb_len]
      have h1 := HM.out
      have h2 := gzTail_len ⟨#[]⟩ (by simpa using hsz)
      omega
    have call8 : ∀ W : World, (Instr.sliceAt 43 (.pointer (some ⟨ga, 0, none⟩)) none none none).run Tryz.prog W = .ok (.slice (some ⟨ga, 0, none⟩) 8 8) W := gz_cut_all a8 a1 ga 0
    refine wp_region_rely (PackR w.heap.size g ga 0 mt (⟨#[]⟩ : ByteArray) X m xc (gzBytes ⟨#[]⟩ mt out zs)) (fun a b => Upd [] a b) (by kernel_rfl) (show relyB _ 60 = true by kernel_rfl) (Upd.refl _ _) PackR.stable (fun _ _ _ h1 h2 => h1.trans h2) ?_ ?_
    · intro i o hi a' w' hfr hdep hrel
      have e2 : a'.tmps.getD 2 undef = .pointer (some ⟨g, 0, none⟩) := hfr 2 (by decide +kernel)
      rw [Array.getD_eq_getD_getElem?] at e2
      have e6 : a'.tmps.getD 6 undef = .slice X m xc := hfr 6 (by decide +kernel)
      rw [Array.getD_eq_getD_getElem?] at e6
      have e8 : a'.tmps.getD 8 undef = .int .u8 0 := hfr 8 (by decide +kernel)
      rw [Array.getD_eq_getD_getElem?] at e8
      have e9 : a'.tmps.getD 9 undef = .string (⟨#[]⟩ : ByteArray) := hfr 9 (by decide +kernel)
      rw [Array.getD_eq_getD_getElem?] at e9
      have e10 : a'.tmps.getD 10 undef = .pointer (some ⟨ga, 0, none⟩) := hfr 10 (by decide +kernel)
      rw [Array.getD_eq_getD_getElem?] at e10
      have hi15 : i < 15 := (Array.getElem?_eq_some_iff.1 hi).1
      match i, hi15, hi, hdep with
      | 0, _, hi, hdep =>
        simp only [List.getElem?_toArray, List.getElem?_cons_zero, Option.some.injEq] at hi
        subst hi
        exact wp_val (v := .int .u8 0) (w' := w') (by simp [execOp, Act.eval, e8]) ⟨_, rfl, rfl, Upd.refl _ _⟩
      | 1, _, hi, hdep =>
        simp only [List.getElem?_toArray, List.getElem?_cons_zero, List.getElem?_cons_succ, Option.some.injEq] at hi
        subst hi
        have d0 : a'.tmps.getD 47 undef = .int .u8 0 := hdep ⟨0, .data⟩ (by simp) rfl
        rw [Array.getD_eq_getD_getElem?] at d0
        exact wp_val (v := .slice (some ⟨w'.heap.size, 0, none⟩) 4 4) (w' := w'.alloc (.cells #[.int .u8 31, .int .u8 139, .int .u8 8, .int .u8 0] 5)) (by simp [execOp, Act.eval, d0, go_sem]) ⟨_, rfl, ⟨_, rfl, ints4 _ _ _ _ _ _⟩, (Upd.refl _ _).alloc _⟩
      | 2, _, hi, hdep =>
        simp only [List.getElem?_toArray, List.getElem?_cons_zero, List.getElem?_cons_succ, Option.some.injEq] at hi
        subst hi
        exact wp_val (v := .pointer (some ⟨g, 1, none⟩)) (w' := w') (by simp [execOp, Act.eval, e2, go_sem]) ⟨_, rfl, rfl, Upd.refl _ _⟩
      | 3, _, hi, hdep =>
        simp only [List.getElem?_toArray, List.getElem?_cons_zero, List.getElem?_cons_succ, Option.some.injEq] at hi
        subst hi
        have d2 : a'.tmps.getD 49 undef = .pointer (some ⟨g, 1, none⟩) := hdep ⟨2, .data⟩ (by simp) rfl
        rw [Array.getD_eq_getD_getElem?] at d2
        have k1 := (HB4.out.drew.upd hrel (by simp)).cell 1
        simp at k1
        exact wp_val (v := .int .i64 mt) (w' := w') (by simp [execOp, Act.eval, d2, go_sem, k1]) ⟨_, rfl, rfl, Upd.refl _ _⟩
      | 4, _, hi, hdep =>
        simp only [List.getElem?_toArray, List.getElem?_cons_zero, List.getElem?_cons_succ, Option.some.injEq] at hi
        subst hi
        have d3 : a'.tmps.getD 50 undef = .int .i64 mt := hdep ⟨3, .data⟩ (by simp) rfl
        rw [Array.getD_eq_getD_getElem?] at d3
        have hw : IntKind.u64.wrap mt = mt := by rw [IntKind.wrap_u64]; omega
        exact wp_val (v := .int .u64 mt) (w' := w') (by simp [execOp, Act.eval, d3, go_sem, hw]) ⟨_, rfl, rfl, Upd.refl _ _⟩
      | 5, _, hi, hdep =>
        simp only [List.getElem?_toArray, List.getElem?_cons_zero, List.getElem?_cons_succ, Option.some.injEq] at hi
        subst hi
        have d4 : a'.tmps.getD 51 undef = .int .u64 mt := hdep ⟨4, .data⟩ (by simp) rfl
        rw [Array.getD_eq_getD_getElem?] at d4
        refine wp_call rfl Tryz.func15 rfl rfl rfl (args := #[.int .u64 mt, .int .i64 4]) (by simp [Act.eval, d4]) (le_any w' mt 4 (by omega) (by omega)) ?_
        rintro e w5 ⟨Y, yc, rfl, ho, hu⟩
        exact ⟨_, rfl, _, rfl, ⟨Y, yc, rfl, Ints.ofOwn ho⟩, hu⟩
      | 6, _, hi, hdep =>
        simp only [List.getElem?_toArray, List.getElem?_cons_zero, List.getElem?_cons_succ, Option.some.injEq] at hi
        subst hi
        exact wp_val (v := .slice (some ⟨w'.heap.size, 0, none⟩) 2 2) (w' := w'.alloc (.cells #[.int .u8 0, .int .u8 3] 5)) (by simp [execOp, Act.eval, go_sem]) ⟨_, rfl, ⟨_, rfl, ints2 _ _ _ _⟩, (Upd.refl _ _).alloc _⟩
      | 7, _, hi, hdep =>
        simp only [List.getElem?_toArray, List.getElem?_cons_zero, List.getElem?_cons_succ, Option.some.injEq] at hi
        subst hi
        exact wp_val (v := .string (⟨#[]⟩ : ByteArray)) (w' := w') (by simp [execOp, Act.eval, e9]) ⟨_, rfl, rfl, Upd.refl _ _⟩
      | 8, _, hi, hdep =>
        simp only [List.getElem?_toArray, List.getElem?_cons_zero, List.getElem?_cons_succ, Option.some.injEq] at hi
        subst hi
        have d7 : a'.tmps.getD 54 undef = .string (⟨#[]⟩ : ByteArray) := hdep ⟨7, .data⟩ (by simp) rfl
        rw [Array.getD_eq_getD_getElem?] at d7
        have hr := Lib.run_convert_string_bytes (P := Tryz.prog) w' 9 22 5 (⟨#[]⟩ : ByteArray) Tryz.underlying9 Tryz.underlying22 Tryz.underlying5
        exact wp_val (by simp [execOp, Act.eval, d7, hr]; rfl) ⟨_, rfl, ⟨_, _, rfl, ints_bytesWorld w' (⟨#[]⟩ : ByteArray)⟩, upd_bytesWorld w' (⟨#[]⟩ : ByteArray)⟩
      | 9, _, hi, hdep =>
        simp only [List.getElem?_toArray, List.getElem?_cons_zero, List.getElem?_cons_succ, Option.some.injEq] at hi
        subst hi
        exact wp_val (v := .slice X m xc) (w' := w') (by simp [execOp, Act.eval, e6]) ⟨_, rfl, rfl, Upd.refl _ _⟩
      | 10, _, hi, hdep =>
        simp only [List.getElem?_toArray, List.getElem?_cons_zero, List.getElem?_cons_succ, Option.some.injEq] at hi
        subst hi
        exact wp_val (v := .slice (some ⟨ga, 0, none⟩) 8 8) (w' := w') (by simp [execOp, Act.eval, e10]; erw [call8 w']; rfl) ⟨_, rfl, rfl, Upd.refl _ _⟩
      | 11, _, hi, hdep =>
        simp only [List.getElem?_toArray, List.getElem?_cons_zero, List.getElem?_cons_succ, Option.some.injEq] at hi
        subst hi
        obtain ⟨Y1, d1, i1⟩ : ∃ Y, a'.tmps.getD 48 undef = .slice Y 4 4 ∧ Ints .u8 w' Y 4 [31, 139, 8, 0] := hdep ⟨1, .data⟩ (by simp) rfl
        rw [Array.getD_eq_getD_getElem?] at d1
        obtain ⟨Y5, c5, d5, i5⟩ : ∃ Y yc, a'.tmps.getD 52 undef = .slice Y 4 yc ∧ Ints .u8 w' Y 4 (leB mt 4) := hdep ⟨5, .data⟩ (by simp) rfl
        rw [Array.getD_eq_getD_getElem?] at d5
        obtain ⟨Y6, d6, i6⟩ : ∃ Y, a'.tmps.getD 53 undef = .slice Y 2 2 ∧ Ints .u8 w' Y 2 [0, 3] := hdep ⟨6, .data⟩ (by simp) rfl
        rw [Array.getD_eq_getD_getElem?] at d6
        obtain ⟨Y8, c8, d8, i8⟩ : ∃ Y yc, a'.tmps.getD 55 undef = .slice Y (ByteArray.size (⟨#[]⟩ : ByteArray)) yc ∧ Ints .u8 w' Y (ByteArray.size (⟨#[]⟩ : ByteArray)) (sb (⟨#[]⟩ : ByteArray)) := hdep ⟨8, .data⟩ (by simp) rfl
        rw [Array.getD_eq_getD_getElem?] at d8
        have d9 : a'.tmps.getD 56 undef = .slice X m xc := hdep ⟨9, .data⟩ (by simp) rfl
        rw [Array.getD_eq_getD_getElem?] at d9
        have d10 : a'.tmps.getD 57 undef = .slice (some ⟨ga, 0, none⟩) 8 8 := hdep ⟨10, .data⟩ (by simp) rfl
        rw [Array.getD_eq_getD_getElem?] at d10
        exact wp_val (v := .slice (some ⟨w'.heap.size, 0, none⟩) 6 6) (w' := w'.alloc (.cells #[.slice Y1 4 4, .slice Y5 4 c5, .slice Y6 2 2, .slice Y8 (ByteArray.size (⟨#[]⟩ : ByteArray)) c8, .slice X m xc, .slice (some ⟨ga, 0, none⟩) 8 8] 22)) (by simp [execOp, Act.eval, d1, d5, d6, d8, d9, d10, go_sem])
          ⟨_, rfl, ⟨_, [⟨Y1, 4, 4, [31, 139, 8, 0]⟩, ⟨Y5, 4, c5, leB mt 4⟩, ⟨Y6, 2, 2, [0, 3]⟩, ⟨Y8, ByteArray.size (⟨#[]⟩ : ByteArray), c8, sb (⟨#[]⟩ : ByteArray)⟩, ⟨X, m, xc, out⟩, ⟨some ⟨ga, 0, none⟩, 8, 8, sums8 zs⟩], rfl, seg6 _ _ _ _ _ _ _ _, by
            intro x hx
            have hv : Upd [] w' (w'.alloc (.cells #[.slice Y1 4 4, .slice Y5 4 c5, .slice Y6 2 2, .slice Y8 (ByteArray.size (⟨#[]⟩ : ByteArray)) c8, .slice X m xc, .slice (some ⟨ga, 0, none⟩) 8 8] 22)) := (Upd.refl _ _).alloc _
            simp only [List.mem_cons, List.not_mem_nil, or_false] at hx
            rcases hx with rfl | rfl | rfl | rfl | rfl | rfl
            · exact i1.upd hv (by simp)
            · exact i5.upd hv (by simp)
            · exact i6.upd hv (by simp)
            · exact i8.upd hv (by simp)
            · exact (Ints.upd (Ints.upd HX4.out (Upd.refl [] w4).drew (by simp)) hrel (by simp)).upd hv (by simp)
            · exact (Ints.upd (Ints.upd HI8.out (Upd.refl [] w4).drew (by simp)) hrel (by simp)).upd hv (by simp), (gz_all _ _ _ _ _ _ _ _ 0 (⟨#[]⟩ : ByteArray) rfl rfl HM.out).1, (gz_all _ _ _ _ _ _ _ _ 0 (⟨#[]⟩ : ByteArray) rfl rfl HM.out).2⟩, (Upd.refl _ _).alloc _⟩
      | 12, _, hi, hdep =>
        simp only [List.getElem?_toArray, List.getElem?_cons_zero, List.getElem?_cons_succ, Option.some.injEq] at hi
        subst hi
        obtain ⟨Y, l, d11, hsg, hin, hsz, hall⟩ : ∃ (Y : Option Addr) (l : List Pt), a'.tmps.getD 58 undef = .slice Y 6 6 ∧ Seg w' 1 Y 6 (l.map ptV) ∧ (∀ x ∈ l, Ints .u8 w' x.A x.n x.zs) ∧ sizes l = (gzBytes ⟨#[]⟩ mt out zs).length ∧ allZ l = gzBytes ⟨#[]⟩ mt out zs := hdep ⟨11, .data⟩ (by simp) rfl
        rw [Array.getD_eq_getD_getElem?] at d11
        refine wp_call rfl Tryz.func14 rfl rfl rfl (args := #[.slice Y 6 6]) (by simp [Act.eval, d11]) (concatB_any Y 6 6 l w' hsg hin (by have := GBL; omega) (by omega)) ?_
        rintro e w5 ⟨Z, zc, rfl, ho, hu⟩
        refine ⟨_, rfl, _, rfl, ⟨Z, _, zc, rfl, hsz, ?_⟩, hu⟩
        rw [hall] at ho
        exact ho.monoB (by have h1 := HU4.out.size; have h2 := hrel.size; simp at h2; omega)
      | 13, _, hi, hdep =>
        simp only [List.getElem?_toArray, List.getElem?_cons_zero, List.getElem?_cons_succ, Option.some.injEq] at hi
        subst hi
        obtain ⟨Y, N, yc, d12, h1, h2⟩ : ∃ Y N yc, a'.tmps.getD 59 undef = .slice Y N yc ∧ N = (gzBytes ⟨#[]⟩ mt out zs).length ∧ Own w' w.heap.size 5 1 Y N yc ((gzBytes ⟨#[]⟩ mt out zs).map (Value.int .u8)) := hdep ⟨12, .data⟩ (by simp) rfl
        rw [Array.getD_eq_getD_getElem?] at d12
        exact wp_val (v := .slice Y N yc) (w' := w') (by simp [execOp, Act.eval, d12]) ⟨_, rfl, ⟨Y, N, yc, rfl, h1, h2⟩, Upd.refl _ _⟩
      | 14, _, hi, hdep =>
        simp only [List.getElem?_toArray, List.getElem?_cons_zero, List.getElem?_cons_succ, Option.some.injEq] at hi
        subst hi
        exact wp_val (v := .int .i64 0) (w' := w') (by simp [execOp, Act.eval]) ⟨_, rfl, rfl, Upd.refl _ _⟩
    · intro a' w' hsize hdf hfr hpost hrel
      obtain ⟨Y, N, yc, d4, h1, h2⟩ : ∃ Y N yc, a'.tmps.getD 4 undef = .slice Y N yc ∧ N = (gzBytes ⟨#[]⟩ mt out zs).length ∧ Own w' w.heap.size 5 1 Y N yc ((gzBytes ⟨#[]⟩ mt out zs).map (Value.int .u8)) := hpost 13 (by decide)
      have d5 : a'.tmps.getD 5 undef = .int .i64 0 := hpost 14 (by decide)
      go_wp2
      refine bodyPost_ret (results_tmp2 rfl _ _ _) hdf ?_
      exact ⟨Y, N, yc, out, by show Ending.returned (.tuple #[a'.tmps.getD 4 undef, a'.tmps.getD 5 undef]) = _; rw [d4, d5], h1, h2, HDF.out, by have := HM.out; omega, (HU4.out.drew.trans hrel)⟩
  · have q2 : s.toList.isEmpty = false := by
      rw [ByteArray.toList_eq]
      cases hl : s.data.toList with
      | nil => exact absurd (show s.data.toList.length = 0 by rw [hl]; rfl) (by rw [Array.length_toList]; exact h0)
      | cons _ _ => rfl
    go_upto_region 10 with (fail)
    go_quiet (fail)
    generalize hwq : w2.drewN _ = wq
    have huq : Upd [] w2 wq := by rw [← hwq]; exact gz_drewN _ _
    have HX := Lib.hid (HX.out.upd huq (by simp))
    have HB2 := Lib.hid (HB2.out.upd huq (by simp))
    have HI2 := Lib.hid (HI2.out.upd huq (by simp))
    have HU2 := Lib.hid (HU2.out.trans huq)
    have k0 := HB2.out.cell 0
    have k1 := HB2.out.cell 1
    have k2 := HB2.out.cell 2
    simp at k0 k1 k2
    clear hwq huq
    go_wp2_with fail
    refine (sums_any A n c zs wq HI2.out HZ.out (by omega)).mono ?_
    rintro e w3 ⟨rfl, hu3⟩
    rw [HE.out]
    simp only [List.map_cons, List.map_nil]
    have HU3 : Hid (Upd [] w w3) := HU2.out.trans hu3
    have HX3 := Lib.hid (HX.out.upd hu3 (by simp))
    have HB3 := Lib.hid (HB2.out.upd hu3 (by simp))
    clear HU2 HB2 HI2 hu3 k0 k1 k2
    go_upto_region 12 with (fail)
    have hua : Upd [] w3 (w3.alloc (.cells #[.int .u8 b0, .int .u8 b1, .int .u8 b2, .int .u8 b3, .int .u8 b4, .int .u8 b5, .int .u8 b6, .int .u8 b7] 43)) := (Upd.refl _ _).alloc _
    have HI8 : Hid (Ints .u8 (w3.alloc (.cells #[.int .u8 b0, .int .u8 b1, .int .u8 b2, .int .u8 b3, .int .u8 b4, .int .u8 b5, .int .u8 b6, .int .u8 b7] 43)) (some ⟨w3.heap.size, 0, none⟩) 8 (sums8 zs)) := by
      show Ints _ _ _ _ _
      rw [HE.out]
      exact (Blk.new w3 _ #[.int .u8 b0, .int .u8 b1, .int .u8 b2, .int .u8 b3, .int .u8 b4, .int .u8 b5, .int .u8 b6, .int .u8 b7]).seg
    have HU4 := Lib.hid (HU3.out.trans hua)
    have HX4 := Lib.hid (HX3.out.upd hua (by simp))
    have HB4 := Lib.hid (HB3.out.upd hua (by simp))
    obtain ⟨ga, hga⟩ : ∃ ga, ga = w3.heap.size := ⟨_, rfl⟩
    rw [← hga] at HI8 ⊢
    clear hua HU3 HX3 HB3 hga
    generalize w3.alloc _ = w4 at HI8 HU4 HX4 HB4 ⊢
    have a8 : Tryz.prog.underlying 43 = some (.array 8 5) := by kernel_rfl
    have a1 : (Tryz.prog.info? 5).map (·.size) = some 1 := by kernel_rfl
    have GBL : (gzBytes s mt out zs).length ≤ 4000000 := by
      unfold gzBytes
      simp only [List.length_append, List.length_cons, List.length_nil, leB_len, sums8_len, sb_len]
      have h1 := HM.out
      have h2 := gzTail_len s (by simpa using hsz)
      omega
    have call8 : ∀ W : World, (Instr.sliceAt 43 (.pointer (some ⟨ga, 0, none⟩)) none none none).run Tryz.prog W = .ok (.slice (some ⟨ga, 0, none⟩) 8 8) W := gz_cut_all a8 a1 ga 0
    refine wp_region_rely (PackR w.heap.size g ga 8 mt (s ++ (⟨#[0]⟩ : ByteArray)) X m xc (gzBytes s mt out zs)) (fun a b => Upd [] a b) (by kernel_rfl) (show relyB _ 60 = true by kernel_rfl) (Upd.refl _ _) PackR.stable (fun _ _ _ h1 h2 => h1.trans h2) ?_ ?_
    · intro i o hi a' w' hfr hdep hrel
      have e2 : a'.tmps.getD 2 undef = .pointer (some ⟨g, 0, none⟩) := hfr 2 (by decide +kernel)
      rw [Array.getD_eq_getD_getElem?] at e2
      have e6 : a'.tmps.getD 6 undef = .slice X m xc := hfr 6 (by decide +kernel)
      rw [Array.getD_eq_getD_getElem?] at e6
      have e8 : a'.tmps.getD 8 undef = .int .u8 8 := hfr 8 (by decide +kernel)
      rw [Array.getD_eq_getD_getElem?] at e8
      have e9 : a'.tmps.getD 9 undef = .string (s ++ (⟨#[0]⟩ : ByteArray)) := hfr 9 (by decide +kernel)
      rw [Array.getD_eq_getD_getElem?] at e9
      have e10 : a'.tmps.getD 10 undef = .pointer (some ⟨ga, 0, none⟩) := hfr 10 (by decide +kernel)
      rw [Array.getD_eq_getD_getElem?] at e10
      have hi15 : i < 15 := (Array.getElem?_eq_some_iff.1 hi).1
      match i, hi15, hi, hdep with
      | 0, _, hi, hdep =>
        simp only [List.getElem?_toArray, List.getElem?_cons_zero, Option.some.injEq] at hi
        subst hi
        exact wp_val (v := .int .u8 8) (w' := w') (by simp [execOp, Act.eval, e8]) ⟨_, rfl, rfl, Upd.refl _ _⟩
      | 1, _, hi, hdep =>
        simp only [List.getElem?_toArray, List.getElem?_cons_zero, List.getElem?_cons_succ, Option.some.injEq] at hi
        subst hi
        have d0 : a'.tmps.getD 47 undef = .int .u8 8 := hdep ⟨0, .data⟩ (by simp) rfl
        rw [Array.getD_eq_getD_getElem?] at d0
        exact wp_val (v := .slice (some ⟨w'.heap.size, 0, none⟩) 4 4) (w' := w'.alloc (.cells #[.int .u8 31, .int .u8 139, .int .u8 8, .int .u8 8] 5)) (by simp [execOp, Act.eval, d0, go_sem]) ⟨_, rfl, ⟨_, rfl, ints4 _ _ _ _ _ _⟩, (Upd.refl _ _).alloc _⟩
      | 2, _, hi, hdep =>
        simp only [List.getElem?_toArray, List.getElem?_cons_zero, List.getElem?_cons_succ, Option.some.injEq] at hi
        subst hi
        exact wp_val (v := .pointer (some ⟨g, 1, none⟩)) (w' := w') (by simp [execOp, Act.eval, e2, go_sem]) ⟨_, rfl, rfl, Upd.refl _ _⟩
      | 3, _, hi, hdep =>
        simp only [List.getElem?_toArray, List.getElem?_cons_zero, List.getElem?_cons_succ, Option.some.injEq] at hi
        subst hi
        have d2 : a'.tmps.getD 49 undef = .pointer (some ⟨g, 1, none⟩) := hdep ⟨2, .data⟩ (by simp) rfl
        rw [Array.getD_eq_getD_getElem?] at d2
        have k1 := (HB4.out.drew.upd hrel (by simp)).cell 1
        simp at k1
        exact wp_val (v := .int .i64 mt) (w' := w') (by simp [execOp, Act.eval, d2, go_sem, k1]) ⟨_, rfl, rfl, Upd.refl _ _⟩
      | 4, _, hi, hdep =>
        simp only [List.getElem?_toArray, List.getElem?_cons_zero, List.getElem?_cons_succ, Option.some.injEq] at hi
        subst hi
        have d3 : a'.tmps.getD 50 undef = .int .i64 mt := hdep ⟨3, .data⟩ (by simp) rfl
        rw [Array.getD_eq_getD_getElem?] at d3
        have hw : IntKind.u64.wrap mt = mt := by rw [IntKind.wrap_u64]; omega
        exact wp_val (v := .int .u64 mt) (w' := w') (by simp [execOp, Act.eval, d3, go_sem, hw]) ⟨_, rfl, rfl, Upd.refl _ _⟩
      | 5, _, hi, hdep =>
        simp only [List.getElem?_toArray, List.getElem?_cons_zero, List.getElem?_cons_succ, Option.some.injEq] at hi
        subst hi
        have d4 : a'.tmps.getD 51 undef = .int .u64 mt := hdep ⟨4, .data⟩ (by simp) rfl
        rw [Array.getD_eq_getD_getElem?] at d4
        refine wp_call rfl Tryz.func15 rfl rfl rfl (args := #[.int .u64 mt, .int .i64 4]) (by simp [Act.eval, d4]) (le_any w' mt 4 (by omega) (by omega)) ?_
        rintro e w5 ⟨Y, yc, rfl, ho, hu⟩
        exact ⟨_, rfl, _, rfl, ⟨Y, yc, rfl, Ints.ofOwn ho⟩, hu⟩
      | 6, _, hi, hdep =>
        simp only [List.getElem?_toArray, List.getElem?_cons_zero, List.getElem?_cons_succ, Option.some.injEq] at hi
        subst hi
        exact wp_val (v := .slice (some ⟨w'.heap.size, 0, none⟩) 2 2) (w' := w'.alloc (.cells #[.int .u8 0, .int .u8 3] 5)) (by simp [execOp, Act.eval, go_sem]) ⟨_, rfl, ⟨_, rfl, ints2 _ _ _ _⟩, (Upd.refl _ _).alloc _⟩
      | 7, _, hi, hdep =>
        simp only [List.getElem?_toArray, List.getElem?_cons_zero, List.getElem?_cons_succ, Option.some.injEq] at hi
        subst hi
        exact wp_val (v := .string (s ++ (⟨#[0]⟩ : ByteArray))) (w' := w') (by simp [execOp, Act.eval, e9]) ⟨_, rfl, rfl, Upd.refl _ _⟩
      | 8, _, hi, hdep =>
        simp only [List.getElem?_toArray, List.getElem?_cons_zero, List.getElem?_cons_succ, Option.some.injEq] at hi
        subst hi
        have d7 : a'.tmps.getD 54 undef = .string (s ++ (⟨#[0]⟩ : ByteArray)) := hdep ⟨7, .data⟩ (by simp) rfl
        rw [Array.getD_eq_getD_getElem?] at d7
        have hr := Lib.run_convert_string_bytes (P := Tryz.prog) w' 9 22 5 (s ++ (⟨#[0]⟩ : ByteArray)) Tryz.underlying9 Tryz.underlying22 Tryz.underlying5
        exact wp_val (by simp [execOp, Act.eval, d7, hr]; rfl) ⟨_, rfl, ⟨_, _, rfl, ints_bytesWorld w' (s ++ (⟨#[0]⟩ : ByteArray))⟩, upd_bytesWorld w' (s ++ (⟨#[0]⟩ : ByteArray))⟩
      | 9, _, hi, hdep =>
        simp only [List.getElem?_toArray, List.getElem?_cons_zero, List.getElem?_cons_succ, Option.some.injEq] at hi
        subst hi
        exact wp_val (v := .slice X m xc) (w' := w') (by simp [execOp, Act.eval, e6]) ⟨_, rfl, rfl, Upd.refl _ _⟩
      | 10, _, hi, hdep =>
        simp only [List.getElem?_toArray, List.getElem?_cons_zero, List.getElem?_cons_succ, Option.some.injEq] at hi
        subst hi
        exact wp_val (v := .slice (some ⟨ga, 0, none⟩) 8 8) (w' := w') (by simp [execOp, Act.eval, e10]; erw [call8 w']; rfl) ⟨_, rfl, rfl, Upd.refl _ _⟩
      | 11, _, hi, hdep =>
        simp only [List.getElem?_toArray, List.getElem?_cons_zero, List.getElem?_cons_succ, Option.some.injEq] at hi
        subst hi
        obtain ⟨Y1, d1, i1⟩ : ∃ Y, a'.tmps.getD 48 undef = .slice Y 4 4 ∧ Ints .u8 w' Y 4 [31, 139, 8, 8] := hdep ⟨1, .data⟩ (by simp) rfl
        rw [Array.getD_eq_getD_getElem?] at d1
        obtain ⟨Y5, c5, d5, i5⟩ : ∃ Y yc, a'.tmps.getD 52 undef = .slice Y 4 yc ∧ Ints .u8 w' Y 4 (leB mt 4) := hdep ⟨5, .data⟩ (by simp) rfl
        rw [Array.getD_eq_getD_getElem?] at d5
        obtain ⟨Y6, d6, i6⟩ : ∃ Y, a'.tmps.getD 53 undef = .slice Y 2 2 ∧ Ints .u8 w' Y 2 [0, 3] := hdep ⟨6, .data⟩ (by simp) rfl
        rw [Array.getD_eq_getD_getElem?] at d6
        obtain ⟨Y8, c8, d8, i8⟩ : ∃ Y yc, a'.tmps.getD 55 undef = .slice Y (ByteArray.size (s ++ (⟨#[0]⟩ : ByteArray))) yc ∧ Ints .u8 w' Y (ByteArray.size (s ++ (⟨#[0]⟩ : ByteArray))) (sb (s ++ (⟨#[0]⟩ : ByteArray))) := hdep ⟨8, .data⟩ (by simp) rfl
        rw [Array.getD_eq_getD_getElem?] at d8
        have d9 : a'.tmps.getD 56 undef = .slice X m xc := hdep ⟨9, .data⟩ (by simp) rfl
        rw [Array.getD_eq_getD_getElem?] at d9
        have d10 : a'.tmps.getD 57 undef = .slice (some ⟨ga, 0, none⟩) 8 8 := hdep ⟨10, .data⟩ (by simp) rfl
        rw [Array.getD_eq_getD_getElem?] at d10
        exact wp_val (v := .slice (some ⟨w'.heap.size, 0, none⟩) 6 6) (w' := w'.alloc (.cells #[.slice Y1 4 4, .slice Y5 4 c5, .slice Y6 2 2, .slice Y8 (ByteArray.size (s ++ (⟨#[0]⟩ : ByteArray))) c8, .slice X m xc, .slice (some ⟨ga, 0, none⟩) 8 8] 22)) (by simp [execOp, Act.eval, d1, d5, d6, d8, d9, d10, go_sem])
          ⟨_, rfl, ⟨_, [⟨Y1, 4, 4, [31, 139, 8, 8]⟩, ⟨Y5, 4, c5, leB mt 4⟩, ⟨Y6, 2, 2, [0, 3]⟩, ⟨Y8, ByteArray.size (s ++ (⟨#[0]⟩ : ByteArray)), c8, sb (s ++ (⟨#[0]⟩ : ByteArray))⟩, ⟨X, m, xc, out⟩, ⟨some ⟨ga, 0, none⟩, 8, 8, sums8 zs⟩], rfl, seg6 _ _ _ _ _ _ _ _, by
            intro x hx
            have hv : Upd [] w' (w'.alloc (.cells #[.slice Y1 4 4, .slice Y5 4 c5, .slice Y6 2 2, .slice Y8 (ByteArray.size (s ++ (⟨#[0]⟩ : ByteArray))) c8, .slice X m xc, .slice (some ⟨ga, 0, none⟩) 8 8] 22)) := (Upd.refl _ _).alloc _
            simp only [List.mem_cons, List.not_mem_nil, or_false] at hx
            rcases hx with rfl | rfl | rfl | rfl | rfl | rfl
            · exact i1.upd hv (by simp)
            · exact i5.upd hv (by simp)
            · exact i6.upd hv (by simp)
            · exact i8.upd hv (by simp)
            · exact (Ints.upd (Ints.upd HX4.out (Upd.refl [] w4).drew (by simp)) hrel (by simp)).upd hv (by simp)
            · exact (Ints.upd (Ints.upd HI8.out (Upd.refl [] w4).drew (by simp)) hrel (by simp)).upd hv (by simp), (gz_all _ _ _ _ _ _ _ _ 8 (s ++ (⟨#[0]⟩ : ByteArray)) (if_neg h0) (if_neg h0) HM.out).1, (gz_all _ _ _ _ _ _ _ _ 8 (s ++ (⟨#[0]⟩ : ByteArray)) (if_neg h0) (if_neg h0) HM.out).2⟩, (Upd.refl _ _).alloc _⟩
      | 12, _, hi, hdep =>
        simp only [List.getElem?_toArray, List.getElem?_cons_zero, List.getElem?_cons_succ, Option.some.injEq] at hi
        subst hi
        obtain ⟨Y, l, d11, hsg, hin, hsz, hall⟩ : ∃ (Y : Option Addr) (l : List Pt), a'.tmps.getD 58 undef = .slice Y 6 6 ∧ Seg w' 1 Y 6 (l.map ptV) ∧ (∀ x ∈ l, Ints .u8 w' x.A x.n x.zs) ∧ sizes l = (gzBytes s mt out zs).length ∧ allZ l = gzBytes s mt out zs := hdep ⟨11, .data⟩ (by simp) rfl
        rw [Array.getD_eq_getD_getElem?] at d11
        refine wp_call rfl Tryz.func14 rfl rfl rfl (args := #[.slice Y 6 6]) (by simp [Act.eval, d11]) (concatB_any Y 6 6 l w' hsg hin (by have := GBL; omega) (by omega)) ?_
        rintro e w5 ⟨Z, zc, rfl, ho, hu⟩
        refine ⟨_, rfl, _, rfl, ⟨Z, _, zc, rfl, hsz, ?_⟩, hu⟩
        rw [hall] at ho
        exact ho.monoB (by have h1 := HU4.out.size; have h2 := hrel.size; simp at h2; omega)
      | 13, _, hi, hdep =>
        simp only [List.getElem?_toArray, List.getElem?_cons_zero, List.getElem?_cons_succ, Option.some.injEq] at hi
        subst hi
        obtain ⟨Y, N, yc, d12, h1, h2⟩ : ∃ Y N yc, a'.tmps.getD 59 undef = .slice Y N yc ∧ N = (gzBytes s mt out zs).length ∧ Own w' w.heap.size 5 1 Y N yc ((gzBytes s mt out zs).map (Value.int .u8)) := hdep ⟨12, .data⟩ (by simp) rfl
        rw [Array.getD_eq_getD_getElem?] at d12
        exact wp_val (v := .slice Y N yc) (w' := w') (by simp [execOp, Act.eval, d12]) ⟨_, rfl, ⟨Y, N, yc, rfl, h1, h2⟩, Upd.refl _ _⟩
      | 14, _, hi, hdep =>
        simp only [List.getElem?_toArray, List.getElem?_cons_zero, List.getElem?_cons_succ, Option.some.injEq] at hi
        subst hi
        exact wp_val (v := .int .i64 0) (w' := w') (by simp [execOp, Act.eval]) ⟨_, rfl, rfl, Upd.refl _ _⟩
    · intro a' w' hsize hdf hfr hpost hrel
      obtain ⟨Y, N, yc, d4, h1, h2⟩ : ∃ Y N yc, a'.tmps.getD 4 undef = .slice Y N yc ∧ N = (gzBytes s mt out zs).length ∧ Own w' w.heap.size 5 1 Y N yc ((gzBytes s mt out zs).map (Value.int .u8)) := hpost 13 (by decide)
      have d5 : a'.tmps.getD 5 undef = .int .i64 0 := hpost 14 (by decide)
      go_wp2
      refine bodyPost_ret (results_tmp2 rfl _ _ _) hdf ?_
      exact ⟨Y, N, yc, out, by show Ending.returned (.tuple #[a'.tmps.getD 4 undef, a'.tmps.getD 5 undef]) = _; rw [d4, d5], h1, h2, HDF.out, by have := HM.out; omega, (HU4.out.drew.trans hrel)⟩

end Go.Proofs.YtolcdlopgbgilaaGreatDoor

/-! Text GzE. -/
namespace Go.Proofs.YtolcdlopgbgilaaGreatDoor
open Go.RowKit Go.Dray

/-- A member that can't be packed. -/
def BadM (s : ByteArray) (mt : Int) : Prop := (mt < 0 ∨ 4294967295 < mt) ∨ (0 ≤ Lib.indexByte s.data.toList 0 ∨ 200 < s.size)
/-- Its error. -/
def errM (mt : Int) : Int := if mt < 0 ∨ 4294967295 < mt then 1 else 10

set_option maxRecDepth 100000 in
set_option maxHeartbeats 4000000 in
theorem pack_bad (s : ByteArray) (mt : Int) (A : Option Addr) (n c : Nat) (how : Int) (w : World) (h : BadM s mt) :
    Calls Tryz.prog 8 #[.agg #[.string s, .int .i64 mt, .slice A n c], .int .i64 how] w fun e w' => e = .returned (.tuple #[.slice none 0 0, .int .i64 (errM mt)]) ∧ Upd [] w w' := by
  have HB1 : Hid (Blk (w.alloc (.cells #[.string s, .int .i64 mt, .slice A n c] 35)) w.heap.size 35 #[.string s, .int .i64 mt, .slice A n c]) := Blk.new w _ _
  have HU1 : Hid (Upd [] w (w.alloc (.cells #[.string s, .int .i64 mt, .slice A n c] 35))) := (Upd.refl _ _).alloc _
  obtain ⟨g, hg⟩ : ∃ g, g = w.heap.size := ⟨_, rfl⟩
  by_cases h1 : mt < 0
  · have he : errM mt = 1 := if_pos (Or.inl h1)
    rw [he]
    have d1 : decide (mt < 0) = true := by simpa using h1
    clear h
    go_enter Tryz.func8, Tryz.ntmps8
    go_upto_region 1 with (fail)
    rw [← hg] at HB1 ⊢
    generalize hw1 : w.alloc _ = w1 at HB1 HU1 ⊢
    have k0 := HB1.out.cell 0
    have k1 := HB1.out.cell 1
    simp at k0 k1
    clear hw1 hg
    go_wp2
    go_ret2
    exact ⟨rfl, HU1.out⟩
  by_cases h2 : 4294967295 < mt
  · have he : errM mt = 1 := if_pos (Or.inr h2)
    rw [he]
    have d1 : decide (mt < 0) = false := by simpa using h1
    have d2 : decide (4294967295 < mt) = true := by simpa using h2
    clear h
    go_enter Tryz.func8, Tryz.ntmps8
    go_upto_region 1 with (fail)
    rw [← hg] at HB1 ⊢
    generalize hw1 : w.alloc _ = w1 at HB1 HU1 ⊢
    have k0 := HB1.out.cell 0
    have k1 := HB1.out.cell 1
    simp at k0 k1
    clear hw1 hg
    go_wp2
    go_ret2
    exact ⟨rfl, HU1.out⟩
  have he : errM mt = 10 := if_neg (by omega)
  rw [he]
  have hm1 : 0 ≤ mt := by omega
  have hm2 : mt ≤ 4294967295 := by omega
  by_cases h3 : 0 ≤ Lib.indexByte s.data.toList 0
  · have hd : decide (0 ≤ Lib.indexByte s.data.toList 0) = true := by simpa using h3
    clear h
    go_enter Tryz.func8, Tryz.ntmps8
    go_upto_region 1 with (fail)
    rw [← hg] at HB1 ⊢
    generalize hw1 : w.alloc _ = w1 at HB1 HU1 ⊢
    have k0 := HB1.out.cell 0
    have k1 := HB1.out.cell 1
    simp at k0 k1
    clear hw1 hg
    go_wp2_with (go_at_call 11; refine (Tryz.strings_Contains_one s 0 _).mono ?_; rintro e w' ⟨rfl, rfl⟩; rw [hd])
    go_ret2
    exact ⟨rfl, HU1.out⟩
  · have hd : decide (0 ≤ Lib.indexByte s.data.toList 0) = false := by simpa using h3
    have h4 : 200 < s.size := by
      rcases h with h | h | h
      · omega
      · exact absurd h h3
      · exact h
    have d4 : decide ((200 : Int) < s.size) = true := by simp; omega
    clear h
    go_enter Tryz.func8, Tryz.ntmps8
    go_upto_region 1 with (fail)
    rw [← hg] at HB1 ⊢
    generalize hw1 : w.alloc _ = w1 at HB1 HU1 ⊢
    have k0 := HB1.out.cell 0
    have k1 := HB1.out.cell 1
    simp at k0 k1
    clear hw1 hg
    go_wp2_with (go_at_call 11; refine (Tryz.strings_Contains_one s 0 _).mono ?_; rintro e w' ⟨rfl, rfl⟩; rw [hd])
    go_ret2
    exact ⟨rfl, HU1.out⟩

end Go.Proofs.YtolcdlopgbgilaaGreatDoor

/-! Text GzI. -/
namespace Go.Proofs.YtolcdlopgbgilaaGreatDoor
open Go.RowKit Go.Dray

/-- Where the first nought stands; the length, if there is none. -/
def noughtAt (zs : List Int) : Nat := zs.findIdx (· == 0)
theorem cut_from {w : World} {A : Option Addr} {n : Nat} {zs : List Int} (h : Ints .u8 w A n zs) {c k : Nat} (hk : k ≤ n) (hc : n ≤ c) : Ints .u8 w (cutA 1 A c k) (n - k) (zs.drop k) := by
  have h1 := h.cut (lo := k) (hi := n) (c := c) hk (Nat.le_refl _) hc
  rw [List.take_of_length_le (by rw [List.length_drop, h.len.out]; omega)] at h1
  exact h1
/-- Where the first nought stands. -/
theorem index_nought (zs : List Int) (h : ∀ z ∈ zs, 0 ≤ z ∧ z ≤ 255) : Lib.indexByte (Lib.bytesOf zs) 0 = if noughtAt zs < zs.length then (noughtAt zs : Int) else -1 := by
  induction zs with
  | nil => rfl
  | cons z zs ih =>
    have hz := h z (by simp)
    have ih := ih fun y hy => h y (by simp [hy])
    unfold Lib.bytesOf at ih ⊢
    rw [List.map_cons]
    unfold Lib.indexByte
    rw [ih]
    unfold noughtAt
    rw [List.findIdx_cons, List.length_cons]
    generalize List.findIdx (fun x => x == 0) zs = q
    have e0 : (UInt8.ofNat z.toNat).toNat = z.toNat := by
      rw [UInt8.toNat_ofNat']
      omega
    by_cases h0 : z = 0
    · subst h0
      simp
    · have e1 : (UInt8.ofNat z.toNat == 0) = false := by
        have h2 : UInt8.ofNat z.toNat ≠ 0 := fun e => by
          have h3 := congrArg UInt8.toNat e
          rw [e0] at h3
          have h4 : (0 : UInt8).toNat = 0 := rfl
          omega
        simpa using h2
      have e2 : (z == 0) = false := by simpa using h0
      rw [e1, e2]
      by_cases h3 : q < zs.length
      · have h4 : ((q : Int) == -1) = false := by simp
        simp [h3, h4]
      · simp [h3]

theorem indexByte_any (a : Addr) (n c : Nat) (zs : List Int) (w : World) (hs : Ints .u8 w (some a) n zs) (hz : ∀ z ∈ zs, 0 ≤ z ∧ z ≤ 255) :
    Calls Tryz.prog 36 #[.slice (some a) n c, .int .u8 0] w fun e w' => e = .returned (.int .i64 (if noughtAt zs < zs.length then (noughtAt zs : Int) else -1)) ∧ w = w' := by
  have hl := hs.len.out
  refine (Tryz.bytes_IndexByte_at a n c zs 0 w hl (fun i hi => ?_)).mono fun e w' ⟨he, hw⟩ => ⟨?_, hw.symm⟩
  · obtain ⟨x, hx, hcell⟩ := hs.int hi
    have hA := Seg.at_ hs (by omega)
    injection hA with hA
    rw [hA, Addr.add_lit]
    rw [hcell]
    simp [List.getD, hx.out]
  · rw [he, ← index_nought zs hz]
    rfl

theorem cut_some {A : Option Addr} {a : Addr} (h : A = some a) (c lo : Nat) : ∃ a', cutA 1 A c lo = some a' := by
  subst h
  unfold cutA
  split
  · exact ⟨_, rfl⟩
  · exact ⟨_, rfl⟩

set_option maxHeartbeats 400000 in
theorem getLe_bad (A : Option Addr) (n c : Nat) (a m : Int) (w : World) (hn : n ≤ 100000000000000) (ha : 0 ≤ a) (h0 : 1 ≤ m) (hm : m ≤ 8) (ham : (n : Int) < a + m) :
    Calls Tryz.prog 35 #[.slice A n c, .int .i64 a, .int .i64 m] w fun e w' => e = .returned (.tuple #[.int .u64 0, .bool false]) ∧ w = w' := by
  have d1 : decide (m < 1) = false := by simp; omega
  have d2 : decide (8 < m) = false := by simp; omega
  have d3 : decide (a < 0) = false := by simp; omega
  have d4 : decide ((n : Int) - m < a) = true := by simp; omega
  go_enter Tryz.func35, Tryz.ntmps35
  go_wp2
  go_ret2
  exact ⟨rfl, rfl⟩

/-- What a member's head says: an error, or its time, its name, and where it ends. -/
inductive HeadR where
  | bad (e : Int)
  | ok (time : Int) (name : List Int) (at_ : Nat)
/-- Behind the fourth part: the sum of the head. -/
def head4 (zs : List Int) (time : Int) (name : List Int) (at_ : Nat) : HeadR :=
  if zs.getD 3 0 / 2 % 2 = 1 then
    if zs.length < at_ + 2 then .bad 2
    else if leNum ((zs.drop at_).take 2) ≠ crcOf (zs.take at_) % 65536 then .bad 5
    else .ok time name (at_ + 2)
  else .ok time name at_
def head3 (zs : List Int) (time : Int) (name : List Int) (at_ : Nat) : HeadR :=
  if zs.getD 3 0 / 16 % 2 = 1 then
    if noughtAt (zs.drop at_) < zs.length - at_ then head4 zs time name (at_ + noughtAt (zs.drop at_) + 1) else .bad 2
  else head4 zs time name at_
def head2 (zs : List Int) (time : Int) (at_ : Nat) : HeadR :=
  if zs.getD 3 0 / 8 % 2 = 1 then
    if noughtAt (zs.drop at_) < zs.length - at_ then
      if 200 < noughtAt (zs.drop at_) then .bad 10
      else head3 zs time ((zs.drop at_).take (noughtAt (zs.drop at_))) (at_ + noughtAt (zs.drop at_) + 1)
    else .bad 2
  else head3 zs time [] at_
def head1 (zs : List Int) (time : Int) : HeadR :=
  if zs.getD 3 0 / 4 % 2 = 1 then
    if zs.length < 12 then .bad 2
    else if (zs.length : Int) - 12 < leNum ((zs.drop 10).take 2) then .bad 2
    else head2 zs time (12 + (leNum ((zs.drop 10).take 2)).toNat)
  else head2 zs time 10
def headOf (zs : List Int) : HeadR :=
  if zs.length < 10 then .bad 2
  else if zs.getD 0 0 ≠ 31 ∨ zs.getD 1 0 ≠ 139 then .bad 3
  else if zs.getD 2 0 ≠ 8 then .bad 14
  else if 32 ≤ zs.getD 3 0 then .bad 3
  else head1 zs (leNum ((zs.drop 4).take 4))

end Go.Proofs.YtolcdlopgbgilaaGreatDoor

/-! Text GzH. -/
namespace Go.Proofs.YtolcdlopgbgilaaGreatDoor
open Go.RowKit Go.Dray

/-- What a refused head hands back. -/
def HeadBad (er : Int) (w : World) (e : Ending) (w' : World) : Prop :=
  ∃ (s : ByteArray) (t : Int), e = .returned (.tuple #[.agg #[.string s, .int .i64 t, .slice none 0 0], .int .i64 0, .int .i64 er]) ∧ Upd [] w w'

theorem flag_nat (k : Nat) (h : k < 256) : (k &&& 224 = 0 ↔ k < 32) ∧ (k &&& 4 = 0 ↔ k / 4 % 2 = 0) ∧ (k &&& 8 = 0 ↔ k / 8 % 2 = 0) ∧ (k &&& 16 = 0 ↔ k / 16 % 2 = 0) ∧ (k &&& 2 = 0 ↔ k / 2 % 2 = 0) := by
  have hall : ∀ k, k < 256 → ((k &&& 224 = 0 ↔ k < 32) ∧ (k &&& 4 = 0 ↔ k / 4 % 2 = 0) ∧ (k &&& 8 = 0 ↔ k / 8 % 2 = 0) ∧ (k &&& 16 = 0 ↔ k / 16 % 2 = 0) ∧ (k &&& 2 = 0 ↔ k / 2 % 2 = 0)) := by decide +kernel
  exact hall k h
/-- The flags that head asks for. -/
theorem flag_int {x : Int} (h0 : 0 ≤ x) (h1 : x ≤ 255) : (bits .and .u8 x 224 = 0 ↔ x < 32) ∧ (bits .and .u8 x 4 = 0 ↔ x / 4 % 2 = 0) ∧ (bits .and .u8 x 8 = 0 ↔ x / 8 % 2 = 0) ∧ (bits .and .u8 x 16 = 0 ↔ x / 16 % 2 = 0) ∧ (bits .and .u8 x 2 = 0 ↔ x / 2 % 2 = 0) := by
  obtain ⟨k, rfl⟩ := Int.eq_ofNat_of_zero_le h0
  have hk := flag_nat k (by omega)
  have a1 := u8_and_nat k 224 (by omega) (by omega)
  have a2 := u8_and_nat k 4 (by omega) (by omega)
  have a3 := u8_and_nat k 8 (by omega) (by omega)
  have a4 := u8_and_nat k 16 (by omega) (by omega)
  have a5 := u8_and_nat k 2 (by omega) (by omega)
  have e1 : ((224 : Nat) : Int) = 224 := rfl
  have e2 : ((4 : Nat) : Int) = 4 := rfl
  have e3 : ((8 : Nat) : Int) = 8 := rfl
  have e4 : ((16 : Nat) : Int) = 16 := rfl
  have e5 : ((2 : Nat) : Int) = 2 := rfl
  rw [e1] at a1
  rw [e2] at a2
  rw [e3] at a3
  rw [e4] at a4
  rw [e5] at a5
  rw [a1, a2, a3, a4, a5]
  omega

set_option maxRecDepth 100000 in
set_option maxHeartbeats 4000000 in
theorem head_short (A : Option Addr) (n c : Nat) (w : World) (h : n < 10) :
    Calls Tryz.prog 16 #[.slice A n c] w (HeadBad 2 w) := by
  have d1 : decide ((n : Int) < 10) = true := by simp; omega
  have HB1 : Hid (Blk (w.alloc (.cells #[.string ⟨#[]⟩, .int .i64 0, .slice none 0 0] 35)) w.heap.size 35 #[.string ⟨#[]⟩, .int .i64 0, .slice none 0 0]) := Blk.new w _ _
  have HU1 : Hid (Upd [] w (w.alloc (.cells #[.string ⟨#[]⟩, .int .i64 0, .slice none 0 0] 35))) := (Upd.refl _ _).alloc _
  obtain ⟨g, hg⟩ : ∃ g, g = w.heap.size := ⟨_, rfl⟩
  have hgw : w.heap.size ≤ g := by omega
  go_enter Tryz.func16, Tryz.ntmps16
  go_upto_region 1 with (fail)
  rw [← hg] at HB1 ⊢
  generalize hw1 : w.alloc _ = w1 at HB1 HU1 ⊢
  have k0 := HB1.out.cell 0
  have k1 := HB1.out.cell 1
  have k2 := HB1.out.cell 2
  have f0 := HB1.out.frozen 0
  have f1 := HB1.out.frozen 1
  have f2 := HB1.out.frozen 2
  simp at k0 k1 k2
  clear hw1 hg
  go_wp2
  have HB2 := Lib.hid (((HB1.out.set 0 (.string ⟨#[]⟩)).set 1 (.int .i64 0)).set 2 (.slice none 0 0))
  have HU2 := Lib.hid (((HU1.out.put (o := 0) hgw (.string ⟨#[]⟩)).put (o := 1) hgw (.int .i64 0)).put (o := 2) hgw (.slice none 0 0))
  clear k0 k1 k2 f0 f1 f2 HB1
  generalize World.setCell _ _ _ = w2 at HB2 HU2 ⊢
  have k0 := HB2.out.cell 0
  have k1 := HB2.out.cell 1
  have k2 := HB2.out.cell 2
  simp at k0 k1 k2
  refine bodyPost_ret (by simp [results, Tryz.results16, go_sem, k0, k1, k2]; rfl) rfl ?_
  exact ⟨_, _, rfl, HU2.out⟩

set_option maxRecDepth 100000 in
set_option maxHeartbeats 4000000 in
theorem head_form0 (A : Option Addr) (n c : Nat) (zs : List Int) (x0 x1 : Int) (w : World) (hs : Ints .u8 w A n zs) (hn : 10 ≤ n) (h0 : zs[0]? = some x0) (h1 : zs[1]? = some x1) (h : x0 ≠ 31) :
    Calls Tryz.prog 16 #[.slice A n c] w (HeadBad 3 w) := by
  have d1 : decide ((n : Int) < 10) = false := by simp; omega
  have HS := Lib.hid hs
  clear hs
  have q0 : (x0 != 31) = true := by simpa using h
  have HB1 : Hid (Blk (w.alloc (.cells #[.string ⟨#[]⟩, .int .i64 0, .slice none 0 0] 35)) w.heap.size 35 #[.string ⟨#[]⟩, .int .i64 0, .slice none 0 0]) := Blk.new w _ _
  have HU1 : Hid (Upd [] w (w.alloc (.cells #[.string ⟨#[]⟩, .int .i64 0, .slice none 0 0] 35))) := (Upd.refl _ _).alloc _
  obtain ⟨g, hg⟩ : ∃ g, g = w.heap.size := ⟨_, rfl⟩
  have hgw : w.heap.size ≤ g := by omega
  go_enter Tryz.func16, Tryz.ntmps16
  go_upto_region 1 with (fail)
  rw [← hg] at HB1 ⊢
  generalize hw1 : w.alloc _ = w1 at HB1 HU1 ⊢
  have k0 := HB1.out.cell 0
  have k1 := HB1.out.cell 1
  have k2 := HB1.out.cell 2
  have f0 := HB1.out.frozen 0
  have f1 := HB1.out.frozen 1
  have f2 := HB1.out.frozen 2
  simp at k0 k1 k2
  clear hw1 hg
  have HS1 := Lib.hid (HS.out.upd HU1.out (by simp))
  have ix0 := HS1.out.index el_byte c .i64 0 (by omega)
  have cx0 := HS1.out.cell h0
  have ix1 := HS1.out.index el_byte c .i64 1 (by omega)
  have cx1 := HS1.out.cell h1
  simp at ix0 cx0 ix1 cx1
  go_wp2
  have HB2 := Lib.hid (((HB1.out.set 0 (.string ⟨#[]⟩)).set 1 (.int .i64 0)).set 2 (.slice none 0 0))
  have HU2 := Lib.hid (((HU1.out.put (o := 0) hgw (.string ⟨#[]⟩)).put (o := 1) hgw (.int .i64 0)).put (o := 2) hgw (.slice none 0 0))
  clear k0 k1 k2 f0 f1 f2 HB1
  generalize World.setCell _ _ _ = w2 at HB2 HU2 ⊢
  have k0 := HB2.out.cell 0
  have k1 := HB2.out.cell 1
  have k2 := HB2.out.cell 2
  simp at k0 k1 k2
  refine bodyPost_ret (by simp [results, Tryz.results16, go_sem, k0, k1, k2]; rfl) rfl ?_
  exact ⟨_, _, rfl, HU2.out⟩

set_option maxRecDepth 100000 in
set_option maxHeartbeats 4000000 in
theorem head_form1 (A : Option Addr) (n c : Nat) (zs : List Int) (x0 x1 : Int) (w : World) (hs : Ints .u8 w A n zs) (hn : 10 ≤ n) (h0 : zs[0]? = some x0) (h1 : zs[1]? = some x1) (h : x0 = 31) (h' : x1 ≠ 139) :
    Calls Tryz.prog 16 #[.slice A n c] w (HeadBad 3 w) := by
  have d1 : decide ((n : Int) < 10) = false := by simp; omega
  have HS := Lib.hid hs
  clear hs
  have q0 : (x0 != 31) = false := by simpa using h
  have q1 : (x1 != 139) = true := by simpa using h'
  have HB1 : Hid (Blk (w.alloc (.cells #[.string ⟨#[]⟩, .int .i64 0, .slice none 0 0] 35)) w.heap.size 35 #[.string ⟨#[]⟩, .int .i64 0, .slice none 0 0]) := Blk.new w _ _
  have HU1 : Hid (Upd [] w (w.alloc (.cells #[.string ⟨#[]⟩, .int .i64 0, .slice none 0 0] 35))) := (Upd.refl _ _).alloc _
  obtain ⟨g, hg⟩ : ∃ g, g = w.heap.size := ⟨_, rfl⟩
  have hgw : w.heap.size ≤ g := by omega
  go_enter Tryz.func16, Tryz.ntmps16
  go_upto_region 1 with (fail)
  rw [← hg] at HB1 ⊢
  generalize hw1 : w.alloc _ = w1 at HB1 HU1 ⊢
  have k0 := HB1.out.cell 0
  have k1 := HB1.out.cell 1
  have k2 := HB1.out.cell 2
  have f0 := HB1.out.frozen 0
  have f1 := HB1.out.frozen 1
  have f2 := HB1.out.frozen 2
  simp at k0 k1 k2
  clear hw1 hg
  have HS1 := Lib.hid (HS.out.upd HU1.out (by simp))
  have ix0 := HS1.out.index el_byte c .i64 0 (by omega)
  have cx0 := HS1.out.cell h0
  have ix1 := HS1.out.index el_byte c .i64 1 (by omega)
  have cx1 := HS1.out.cell h1
  simp at ix0 cx0 ix1 cx1
  go_wp2
  have HB2 := Lib.hid (((HB1.out.set 0 (.string ⟨#[]⟩)).set 1 (.int .i64 0)).set 2 (.slice none 0 0))
  have HU2 := Lib.hid (((HU1.out.put (o := 0) hgw (.string ⟨#[]⟩)).put (o := 1) hgw (.int .i64 0)).put (o := 2) hgw (.slice none 0 0))
  clear k0 k1 k2 f0 f1 f2 HB1
  generalize World.setCell _ _ _ = w2 at HB2 HU2 ⊢
  have k0 := HB2.out.cell 0
  have k1 := HB2.out.cell 1
  have k2 := HB2.out.cell 2
  simp at k0 k1 k2
  refine bodyPost_ret (by simp [results, Tryz.results16, go_sem, k0, k1, k2]; rfl) rfl ?_
  exact ⟨_, _, rfl, HU2.out⟩

set_option maxRecDepth 100000 in
set_option maxHeartbeats 4000000 in
theorem head_method (A : Option Addr) (n c : Nat) (zs : List Int) (x2 : Int) (w : World) (hs : Ints .u8 w A n zs) (hn : 10 ≤ n) (h0 : zs[0]? = some 31) (h1 : zs[1]? = some 139) (h2 : zs[2]? = some x2) (h : x2 ≠ 8) :
    Calls Tryz.prog 16 #[.slice A n c] w (HeadBad 14 w) := by
  have d1 : decide ((n : Int) < 10) = false := by simp; omega
  have HS := Lib.hid hs
  clear hs
  have q2 : (x2 != 8) = true := by simpa using h
  have HB1 : Hid (Blk (w.alloc (.cells #[.string ⟨#[]⟩, .int .i64 0, .slice none 0 0] 35)) w.heap.size 35 #[.string ⟨#[]⟩, .int .i64 0, .slice none 0 0]) := Blk.new w _ _
  have HU1 : Hid (Upd [] w (w.alloc (.cells #[.string ⟨#[]⟩, .int .i64 0, .slice none 0 0] 35))) := (Upd.refl _ _).alloc _
  obtain ⟨g, hg⟩ : ∃ g, g = w.heap.size := ⟨_, rfl⟩
  have hgw : w.heap.size ≤ g := by omega
  go_enter Tryz.func16, Tryz.ntmps16
  go_upto_region 1 with (fail)
  rw [← hg] at HB1 ⊢
  generalize hw1 : w.alloc _ = w1 at HB1 HU1 ⊢
  have k0 := HB1.out.cell 0
  have k1 := HB1.out.cell 1
  have k2 := HB1.out.cell 2
  have f0 := HB1.out.frozen 0
  have f1 := HB1.out.frozen 1
  have f2 := HB1.out.frozen 2
  simp at k0 k1 k2
  clear hw1 hg
  have HS1 := Lib.hid (HS.out.upd HU1.out (by simp))
  have ix0 := HS1.out.index el_byte c .i64 0 (by omega)
  have cx0 := HS1.out.cell h0
  have ix1 := HS1.out.index el_byte c .i64 1 (by omega)
  have cx1 := HS1.out.cell h1
  have ix2 := HS1.out.index el_byte c .i64 2 (by omega)
  have cx2 := HS1.out.cell h2
  simp at ix0 cx0 ix1 cx1 ix2 cx2
  go_wp2
  have HB2 := Lib.hid (((HB1.out.set 0 (.string ⟨#[]⟩)).set 1 (.int .i64 0)).set 2 (.slice none 0 0))
  have HU2 := Lib.hid (((HU1.out.put (o := 0) hgw (.string ⟨#[]⟩)).put (o := 1) hgw (.int .i64 0)).put (o := 2) hgw (.slice none 0 0))
  clear k0 k1 k2 f0 f1 f2 HB1
  generalize World.setCell _ _ _ = w2 at HB2 HU2 ⊢
  have k0 := HB2.out.cell 0
  have k1 := HB2.out.cell 1
  have k2 := HB2.out.cell 2
  simp at k0 k1 k2
  refine bodyPost_ret (by simp [results, Tryz.results16, go_sem, k0, k1, k2]; rfl) rfl ?_
  exact ⟨_, _, rfl, HU2.out⟩

set_option maxRecDepth 100000 in
set_option maxHeartbeats 4000000 in
theorem head_flags (A : Option Addr) (n c : Nat) (zs : List Int) (x3 : Int) (w : World) (hs : Ints .u8 w A n zs) (hn : 10 ≤ n) (h0 : zs[0]? = some 31) (h1 : zs[1]? = some 139) (h2 : zs[2]? = some 8) (h3 : zs[3]? = some x3) (h : 32 ≤ x3) (h' : x3 ≤ 255) :
    Calls Tryz.prog 16 #[.slice A n c] w (HeadBad 3 w) := by
  have d1 : decide ((n : Int) < 10) = false := by simp; omega
  have HS := Lib.hid hs
  clear hs
  have q3 : (bits .and .u8 x3 224 != 0) = true := by
    rw [bne_iff_ne]
    intro e
    have := (flag_int (by omega) h').1.1 e
    omega
  have HB1 : Hid (Blk (w.alloc (.cells #[.string ⟨#[]⟩, .int .i64 0, .slice none 0 0] 35)) w.heap.size 35 #[.string ⟨#[]⟩, .int .i64 0, .slice none 0 0]) := Blk.new w _ _
  have HU1 : Hid (Upd [] w (w.alloc (.cells #[.string ⟨#[]⟩, .int .i64 0, .slice none 0 0] 35))) := (Upd.refl _ _).alloc _
  obtain ⟨g, hg⟩ : ∃ g, g = w.heap.size := ⟨_, rfl⟩
  have hgw : w.heap.size ≤ g := by omega
  go_enter Tryz.func16, Tryz.ntmps16
  go_upto_region 1 with (fail)
  rw [← hg] at HB1 ⊢
  generalize hw1 : w.alloc _ = w1 at HB1 HU1 ⊢
  have k0 := HB1.out.cell 0
  have k1 := HB1.out.cell 1
  have k2 := HB1.out.cell 2
  have f0 := HB1.out.frozen 0
  have f1 := HB1.out.frozen 1
  have f2 := HB1.out.frozen 2
  simp at k0 k1 k2
  clear hw1 hg
  have HS1 := Lib.hid (HS.out.upd HU1.out (by simp))
  have ix0 := HS1.out.index el_byte c .i64 0 (by omega)
  have cx0 := HS1.out.cell h0
  have ix1 := HS1.out.index el_byte c .i64 1 (by omega)
  have cx1 := HS1.out.cell h1
  have ix2 := HS1.out.index el_byte c .i64 2 (by omega)
  have cx2 := HS1.out.cell h2
  have ix3 := HS1.out.index el_byte c .i64 3 (by omega)
  have cx3 := HS1.out.cell h3
  simp at ix0 cx0 ix1 cx1 ix2 cx2 ix3 cx3
  go_wp2
  have HB2 := Lib.hid (((HB1.out.set 0 (.string ⟨#[]⟩)).set 1 (.int .i64 0)).set 2 (.slice none 0 0))
  have HU2 := Lib.hid (((HU1.out.put (o := 0) hgw (.string ⟨#[]⟩)).put (o := 1) hgw (.int .i64 0)).put (o := 2) hgw (.slice none 0 0))
  clear k0 k1 k2 f0 f1 f2 HB1
  generalize World.setCell _ _ _ = w2 at HB2 HU2 ⊢
  have k0 := HB2.out.cell 0
  have k1 := HB2.out.cell 1
  have k2 := HB2.out.cell 2
  simp at k0 k1 k2
  refine bodyPost_ret (by simp [results, Tryz.results16, go_sem, k0, k1, k2]; rfl) rfl ?_
  exact ⟨_, _, rfl, HU2.out⟩

end Go.Proofs.YtolcdlopgbgilaaGreatDoor
