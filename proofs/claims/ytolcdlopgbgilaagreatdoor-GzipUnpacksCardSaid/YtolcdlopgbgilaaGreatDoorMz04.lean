/- Merged by wip/tools/merge.py: HuffT Lag. -/
import Derived.StillTailTactics
import Derived.RegionTactic
import Derived.Test.YtolcdlopgbgilaaGreatDoorMz01
import Derived.Test.YtolcdlopgbgilaaGreatDoorMz02
import Derived.Test.YtolcdlopgbgilaaGreatDoorMz03

/-! Text HuffT. -/
namespace Go.Proofs.YtolcdlopgbgilaaGreatDoor
open Go.RowKit Go.Dray

theorem el_node : El Tryz.prog 168 173 (.agg #[.int .i64 0, .int .i64 0, .bool false, .int .i64 0]) 4 32 := ⟨Tryz.underlying168, by kernel_rfl, rfl, by omega⟩

/-- A symbol's row of bits. -/
def rowOf (zs : List Int) (t : Nat) : List Bool := rowBits (codeOf zs t) (zs.getD t 0).toNat
/-- The symbol, of those below s, whose row a path is (the last one). -/
def leafF (zs : List Int) : Nat → List Bool → Option Nat
  | 0, _ => none
  | s + 1, q => if 0 < zs.getD s 0 ∧ rowOf zs s = q then some s else leafF zs s q
/-- A path is the beginning of a row of a symbol below s. -/
def inT (zs : List Int) (s : Nat) (q : List Bool) : Prop := q = [] ∨ ∃ t, t < s ∧ 0 < zs.getD t 0 ∧ q <+: rowOf zs t

theorem rowOf_len (zs : List Int) (t : Nat) : (rowOf zs t).length = (zs.getD t 0).toNat := tab_len _ _
theorem leafF_in {zs : List Int} {s : Nat} {q : List Bool} {t : Nat} (h : leafF zs s q = some t) : t < s ∧ 0 < zs.getD t 0 ∧ rowOf zs t = q := by
  induction s with
  | zero => cases h
  | succ s ih =>
    unfold leafF at h
    split at h
    · rename_i hc
      injection h with h
      subst h
      exact ⟨by omega, hc.1, hc.2⟩
    · have := ih h
      exact ⟨by omega, this.2.1, this.2.2⟩
theorem leafF_inT {zs : List Int} {s : Nat} {q : List Bool} {t : Nat} (h : leafF zs s q = some t) : inT zs s q := by
  obtain ⟨h1, h2, h3⟩ := leafF_in h
  exact Or.inr ⟨t, h1, h2, by rw [h3]; exact List.prefix_refl _⟩
theorem inT_mono {zs : List Int} {s s' : Nat} {q : List Bool} (h : inT zs s q) (hs : s ≤ s') : inT zs s' q := by
  rcases h with h | ⟨t, h1, h2, h3⟩
  · exact Or.inl h
  · exact Or.inr ⟨t, by omega, h2, h3⟩
theorem inT_closed {zs : List Int} {s : Nat} {q : List Bool} {c : Bool} (h : inT zs s (q ++ [c])) : inT zs s q := by
  rcases h with h | ⟨t, h1, h2, h3⟩
  · simp at h
  · exact Or.inr ⟨t, h1, h2, (List.prefix_append q [c]).trans h3⟩

/-- What is said of the paths while symbol s is put in, k bits deep. -/
structure TrInv (zs : List Int) (s k : Nat) (P : List (List Bool)) : Prop where
  paths : Paths P
  mem : ∀ q, q ∈ P ↔ inT zs s q ∨ q <+: (rowOf zs s).take k
  few : P.length ≤ 1 + 15 * s + k

theorem TrInv.closed {zs : List Int} {s k : Nat} {P : List (List Bool)} (h : TrInv zs s k P) : ∀ q c, q ++ [c] ∈ P → q ∈ P := by
  intro q c hq
  rcases (h.mem _).1 hq with h' | h'
  · exact (h.mem _).2 (Or.inl (inT_closed h'))
  · exact (h.mem _).2 (Or.inr ((List.prefix_append q [c]).trans h'))

theorem TrInv.start (zs : List Int) : TrInv zs 0 0 [[]] :=
  ⟨⟨rfl, by simp⟩, fun q => by simp [inT], by simp⟩

theorem take_snoc {l : List Bool} {k : Nat} (h : k < l.length) : l.take (k + 1) = l.take k ++ [l[k]] := by rw [List.take_succ_eq_append_getElem h]

theorem take_ne {l : List Bool} {k : Nat} (h : k < l.length) : l.take (k + 1) ≠ [] := fun e => by
  have h1 : (l.take (k + 1)).length = k + 1 := by rw [List.length_take]; omega
  rw [e] at h1
  simp at h1

theorem prefix_take_succ {l : List Bool} {k : Nat} (h : k < l.length) (q : List Bool) : q <+: l.take (k + 1) ↔ q <+: l.take k ∨ q = l.take (k + 1) := by
  rw [take_snoc h, List.prefix_concat_iff]
  constructor
  · rintro (h | h)
    · exact Or.inr h
    · exact Or.inl h
  · rintro (h | h)
    · exact Or.inr h
    · exact Or.inl h

/-- A node is made. -/
theorem TrInv.grow {zs : List Int} {s k : Nat} {P : List (List Bool)} (h : TrInv zs s k P) (hk : k < (rowOf zs s).length) (hn : (rowOf zs s).take (k + 1) ∉ P) : TrInv zs s (k + 1) (P ++ [(rowOf zs s).take (k + 1)]) :=
  ⟨h.paths.snoc hn, fun q => by rw [List.mem_append, h.mem, List.mem_singleton, prefix_take_succ hk, or_assoc], by have := h.few; simp; omega⟩
/-- The node is there already. -/
theorem TrInv.pass {zs : List Int} {s k : Nat} {P : List (List Bool)} (h : TrInv zs s k P) (hk : k < (rowOf zs s).length) (hn : (rowOf zs s).take (k + 1) ∈ P) : TrInv zs s (k + 1) P :=
  ⟨h.paths, fun q => by
    rw [h.mem, prefix_take_succ hk]
    constructor
    · rintro (h' | h')
      · exact Or.inl h'
      · exact Or.inr (Or.inl h')
    · rintro (h' | h' | h')
      · exact Or.inl h'
      · exact Or.inr h'
      · rw [h', ← h.mem]; exact hn, by have := h.few; omega⟩
/-- A symbol is done. -/
theorem TrInv.next {zs : List Int} {s : Nat} {P : List (List Bool)} (h : TrInv zs s (rowOf zs s).length P) (hp : 0 < zs.getD s 0) (hl : (rowOf zs s).length ≤ 15) : TrInv zs (s + 1) 0 P :=
  ⟨h.paths, fun q => by
    rw [h.mem, List.take_length, List.take_zero]
    constructor
    · rintro ((h' | ⟨t, h1, h2, h3⟩) | h')
      · exact Or.inl (Or.inl h')
      · exact Or.inl (Or.inr ⟨t, by omega, h2, h3⟩)
      · exact Or.inl (Or.inr ⟨s, by omega, hp, h'⟩)
    · rintro ((h' | ⟨t, h1, h2, h3⟩) | h')
      · exact Or.inl (Or.inl h')
      · by_cases e : t = s
        · subst e; exact Or.inr h3
        · exact Or.inl (Or.inr ⟨t, by omega, h2, h3⟩)
      · exact Or.inl (Or.inl (by simpa using h')), by have := h.few; omega⟩
theorem TrInv.skip {zs : List Int} {s : Nat} {P : List (List Bool)} (h : TrInv zs s 0 P) (hp : zs.getD s 0 ≤ 0) : TrInv zs (s + 1) 0 P :=
  ⟨h.paths, fun q => by
    rw [h.mem, List.take_zero, List.take_zero]
    constructor
    · rintro (h' | h')
      · exact Or.inl (inT_mono h' (by omega))
      · exact Or.inr h'
    · rintro ((h' | ⟨t, h1, h2, h3⟩) | h')
      · exact Or.inl (Or.inl h')
      · by_cases e : t = s
        · subst e; omega
        · exact Or.inl (Or.inr ⟨t, by omega, h2, h3⟩)
      · exact Or.inr h', by have := h.few; omega⟩

/-- The paths of a whole code. -/
structure IsTrie (zs : List Int) (P : List (List Bool)) : Prop where
  paths : Paths P
  mem : ∀ q, q ∈ P ↔ inT zs zs.length q

theorem TrInv.done {zs : List Int} {P : List (List Bool)} (h : TrInv zs zs.length 0 P) : IsTrie zs P :=
  ⟨h.paths, fun q => by
    rw [h.mem, List.take_zero]
    constructor
    · rintro (h' | h')
      · exact h'
      · exact Or.inl (by simpa using h')
    · exact Or.inl⟩

/-- A tree at block g. -/
def Tree (w : World) (B g : Nat) (A : Option Addr) (n c : Nat) (zs : List Int) (P : List (List Bool)) : Prop :=
  Blk w g 170 #[.slice A n c] ∧ Own w B 173 4 A n c (trieCells P (leafF zs zs.length)) ∧ n = P.length ∧ IsTrie zs P

/-- NewTree hands back a tree. -/
def TreePost (zs : List Int) (w : World) (e : Ending) (w' : World) : Prop :=
  ∃ g A n c P, e = .returned (.tuple #[.pointer (some ⟨g, 0, none⟩), .int .i64 0]) ∧ w.heap.size ≤ g ∧ Tree w' w.heap.size g A n c zs P ∧ Upd [] w w'

set_option maxRecDepth 100000 in
set_option maxHeartbeats 400000 in
theorem newTree_err (A : Option Addr) (n c : Nat) (zs : List Int) (w : World) (hs : Ints .i64 w A n zs) (h : chk zs ≠ 0) :
    Calls Tryz.prog 97 #[.slice A n c] w fun e w' => e = .returned (.tuple #[.pointer none, .int .i64 (chk zs)]) ∧ w = w' := by
  have hd : (chk zs != 0) = true := by simp [h]
  have HE := Lib.hid h
  clear h
  go_enter Tryz.func97, Tryz.ntmps97
  go_wp2_with (go_at_call 58; refine (codes_err A n c zs _ hs HE.out).mono ?_; rintro e w' ⟨rfl, rfl⟩)
  go_ret2
  exact ⟨rfl, rfl⟩

theorem Seg.four (w : World) (a b c d : Value) (t : TypeId) : Seg (w.alloc (.cells #[a, b, c, d] t)) 4 (some ⟨w.heap.size, 0, none⟩) 1 [a, b, c, d] :=
  ⟨rfl, fun _ => rfl, fun k u hu => by
    have hb := Blk.new w t #[a, b, c, d]
    show (w.alloc _).cell? ⟨w.heap.size, 0 + k, none⟩ = _
    rw [Nat.zero_add, hb.cell]
    simpa using hu⟩

/-- What is said of memory while symbol s is put in, k bits deep. -/
structure TSt (zs : List Int) (w wr : World) (g : Nat) (C : Option Addr) (n cc s k : Nat) (P : List (List Bool)) (A1 : Option Addr) (c1 : Nat) : Prop where
  inv : TrInv zs s k P
  blk : Blk wr g 170 #[.slice A1 P.length c1]
  own : Own wr w.heap.size 173 4 A1 P.length c1 (trieCells P (leafF zs s))
  codes : Own wr w.heap.size 3 1 C n cc (codesV zs)
  upd : Upd [] w wr

theorem row_bit {zs : List Int} {s k : Nat} (hk : k < (rowOf zs s).length) : (rowOf zs s)[k] = low (codeOf zs s / 2 ^ ((zs.getD s 0).toNat - 1 - k)) := by
  have h2 : (rowOf zs s)[k]? = some (rowOf zs s)[k] := List.getElem?_eq_getElem hk
  have hk' := hk
  rw [rowOf_len] at hk'
  have h1 : (rowOf zs s)[k]? = some (low (codeOf zs s / 2 ^ ((zs.getD s 0).toNat - 1 - k))) := by
    unfold rowOf rowBits
    exact tab_get _ hk'
  rw [h1] at h2
  injection h2 with h2
  exact h2.symm

set_option maxRecDepth 100000 in
set_option maxHeartbeats 2000000 in
theorem newTree_ok (A : Option Addr) (n c : Nat) (zs : List Int) (w : World) (hs : Ints .i64 w A n zs) (h : chk zs = 0) :
    Calls Tryz.prog 97 #[.slice A n c] w (TreePost zs w) := by
  obtain ⟨hl, hb, -⟩ := chk_zero h
  have HL := hs.len
  have hn : n ≤ 320 := by rw [← HL.out]; exact hl
  have HB := Lib.hid hb
  have HE := Lib.hid h
  clear hb hl h
  have hmk : ∀ W : World, (Instr.makeSlice 168 (.int .i64 1) (.int .i64 1)).run Tryz.prog W = .ok (.slice (some ⟨W.heap.size, 0, none⟩) 1 1) (W.alloc (.cells #[.int .i64 0, .int .i64 0, .bool false, .int .i64 0] 173)) := fun _ => by kernel_rfl
  go_enter Tryz.func97, Tryz.ntmps97
  go_wp2_with (go_at_call 58; refine (codes_ok A n c zs _ hs HE.out).mono ?_; rintro e w1 ⟨C, cc, rfl, hc1, hu1⟩)
  clear hmk
  obtain ⟨g, hg⟩ : ∃ g : Nat, g = w1.heap.size + 1 := ⟨_, rfl⟩
  obtain ⟨w2, hw2⟩ : ∃ w2 : World, w2 = (w1.alloc (.cells #[.int .i64 0, .int .i64 0, .bool false, .int .i64 0] 173)).alloc (.cells #[.slice (some ⟨w1.heap.size, 0, none⟩) 1 1] 170) := ⟨_, rfl⟩
  rw [← hg, ← hw2]
  have hst : TSt zs w w2 g C n cc 0 0 [[]] (some ⟨w1.heap.size, 0, none⟩) 1 := by
    refine ⟨TrInv.start zs, ?_, ?_, ?_, ?_⟩
    · rw [hw2, hg]
      have := Blk.new (w1.alloc (.cells #[.int .i64 0, .int .i64 0, .bool false, .int .i64 0] 173)) 170 #[.slice (some ⟨w1.heap.size, 0, none⟩) 1 1]
      simpa using this
    · rw [hw2, trie_one _ rfl]
      exact Own.mk rfl (Nat.le_refl _) (by simp [maxLen]) rfl hu1.size ((Blk.new w1 173 #[.int .i64 0, .int .i64 0, .bool false, .int .i64 0]).alloc _) rfl rfl
    · rw [hw2]; exact ((hc1.alloc _).alloc _)
    · rw [hw2]; exact ((hu1.alloc _).alloc _)
  have hgw : w.heap.size ≤ g := by have := hu1.size; omega
  have HG := Lib.hid hg
  have HW2 := Lib.hid hw2
  clear hg hw2 hc1 hu1
  go_loopw [25] (fun i wr => ∃ s : Nat, s ≤ n ∧ i = .int .i64 s ∧ ∃ P A1 c1, TSt zs w wr g C n cc s 0 P A1 c1) (fun i _ => n - (intOf i).toNat)
  case atStart => exact ⟨0, by omega, rfl, _, _, _, hst⟩
  case round =>
    obtain ⟨s, hsn, rfl, P, A1, c1, hst⟩ := hrel
    by_cases hlt : s < n
    · have hsr : Ints .i64 wr A n zs := hs.upd hst.upd (by simp)
      obtain ⟨z, HX, hcell⟩ := hsr.int hlt
      have hix := hsr.index el_int c .i64 s hlt
      obtain ⟨hz0, hz15⟩ := HB.out z (List.mem_of_getElem? HX.out)
      obtain ⟨ln, rfl⟩ := Int.eq_ofNat_of_zero_le hz0
      have HZ : Hid (zs.getD s 0 = ln) := getD_of HX.out
      have HRL : Hid ((rowOf zs s).length = ln) := by show _ = _; rw [rowOf_len, HZ.out]; rfl
      clear hsr
      by_cases hl0 : ln = 0
      · have hz : ((ln : Int) == 0) = true := by simp [hl0]
        have HL0 := Lib.hid hl0
        clear hl0
        go_wp2
        go_roundw
        case rel =>
          refine ⟨s + 1, by omega, by go_num, P, A1, c1, hst.inv.skip (by rw [HZ.out, HL0.out]; simp), hst.blk, ?_, hst.codes, hst.upd⟩
          have e : leafF zs (s + 1) = leafF zs s := by funext q; rw [leafF, if_neg (by rw [HZ.out, HL0.out]; simp)]
          rw [e]
          exact hst.own
        case measure => simp [intOf]; omega
      · have hz : ((ln : Int) == 0) = false := by simp [hl0]
        have hlp : 0 < ln := by omega
        clear hl0
        go_wp2
        obtain ⟨wo, rfl⟩ : ∃ wo : World, wo = wr := ⟨_, rfl⟩
        go_loopw [9, 33] (fun v i wr => ∃ k : Nat, k ≤ ln ∧ i = .int .i64 k ∧ ∃ P A1 c1, TSt zs w wr g C n cc s k P A1 c1 ∧ v = .int .i64 (idx0 P ((rowOf zs s).take k))) (fun _ i _ => ln - (intOf i).toNat)
        case atStart =>
          refine ⟨0, by omega, rfl, P, A1, c1, hst, ?_⟩
          rw [List.take_zero]
          have hroot := idxOf_get hst.inv.paths.nodup hst.inv.paths.root
          have hm : [] ∈ P := List.mem_of_getElem? hst.inv.paths.root
          rw [idx0, if_pos hm, hroot]
          rfl
        case round =>
          clear hst P A1 c1
          obtain ⟨k, hk, rfl, P, A1, c1, hst, rfl⟩ := hrel
          by_cases hkl : k < ln
          · have hkr : k < (rowOf zs s).length := by rw [HRL.out]; exact hkl
            obtain ⟨cv, HCV, ccell⟩ := (Ints.ofOwn hst.codes).int hlt
            have cix := (Ints.ofOwn hst.codes).index el_int cc .i64 s hlt
            have hcv : cv = codeOf zs s := by
              have := HCV.out
              rw [tab_get _ (by rw [HL.out]; exact hlt)] at this
              injection this with this
              exact this.symm
            obtain ⟨b, hb⟩ : ∃ b, b = (rowOf zs s)[k] := ⟨_, rfl⟩
            obtain ⟨bt, hbt⟩ : ∃ bt, bt = b2n b := ⟨_, rfl⟩
            have hbit : bits BinOp.and IntKind.i64 (cv / 2 ^ (ln - 1 - k)) 1 = (bt : Int) := by
              rw [and_one_i64, ← b2i_low, hbt, b2n_i, hb, row_bit hkr, hcv, HZ.out]
              rfl
            have hbt1 : bt ≤ 1 := by rw [hbt]; exact b2n_le b
            have hmem : (rowOf zs s).take k ∈ P := (hst.inv.mem _).2 (Or.inr (List.prefix_refl _))
            obtain ⟨a, ha⟩ : ∃ a, a = idx0 P ((rowOf zs s).take k) := ⟨_, rfl⟩
            have hal : a < P.length := by rw [ha]; exact idx0_lt hst.inv.paths _
            have hPa : P.getD a [] = (rowOf zs s).take k := by
              have := idx0_get hmem
              rw [← ha] at this
              simp [List.getD, this]
            have hkid : kid P a b = idx0 P ((rowOf zs s).take (k + 1)) := by unfold kid; rw [hPa, take_snoc hkr, hb]
            rw [← ha]
            have hc0 := hst.blk.cell 0
            have hf0 := hst.blk.frozen 0
            simp at hc0
            have nix := run_index el_node hst.own.seg.at_ c1 .i64 a hal
            have ncell := hst.own.seg.cell (a * 4 + bt) _ (by rw [hbt, trie_get P _ hal (by have := b2n_le b; omega), cell_kid])
            have nfz := hst.own.frozen (by omega) (a * 4 + bt)
            rw [← Nat.add_assoc] at ncell nfz
            obtain ⟨N, hN⟩ : ∃ N, N = P.length := ⟨_, rfl⟩
            have hNb : N ≤ 5000 := by have := hst.inv.few; omega
            rw [← hN] at hc0 nix
            obtain ⟨kd, hkd⟩ : ∃ kd, kd = kid P a b := ⟨_, rfl⟩
            rw [← hkd] at ncell
            have HKID := Lib.hid hkid
            have HPA := Lib.hid hPa
            have HA := Lib.hid ha
            have HBT := Lib.hid hbt
            have HBB := Lib.hid hb
            have HN := Lib.hid hN
            have HKD := Lib.hid hkd
            have HMEM := Lib.hid hmem
            rw [hN] at hNb
            rw [← hN] at hal hNb
            clear hkid hPa ha hbt hb hN hkd hmem hcv HCV
            by_cases hnew : kd = 0
            · have hnd : ((kd : Int) == 0) = true := by simp [hnew]
              have HNEW := Lib.hid hnew
              clear hnew
              go_wp2
              go_region
              have hob := hst.own.obl (by rw [← HN.out]; omega)
              have hneg : ob A1 ≠ some g := hst.own.neBlk hst.blk (by decide)
              have hgb : g ≠ bl A1 := fun h => hneg (by rw [hob, h])
              obtain ⟨w3, hw3⟩ : ∃ w3 : World, w3 = (wr.setCell ⟨bl A1, ofs A1 + a * 4 + bt, none⟩ (.int .i64 N)).drew := ⟨_, rfl⟩
              rw [← hw3]
              have hb3 : Blk w3 g 170 #[.slice A1 N c1] := by rw [hw3, HN.out]; exact (hst.blk.far (p := ⟨bl A1, ofs A1 + a * 4 + bt, none⟩) hgb _).drew
              have hown3 : Own w3 w.heap.size 173 4 A1 N c1 ((trieCells P (leafF zs s)).set (a * 4 + bt) (.int .i64 N)) := by
                have := (hst.own.set (k := a * 4 + bt) (by rw [← HN.out]; omega) (.int .i64 N)).drew
                rw [← Nat.add_assoc, ← hw3, ← HN.out] at this
                exact this
              have hcd3 : Own w3 w.heap.size 3 1 C n cc (codesV zs) := by
                rw [hw3]
                exact (hst.codes.far (p := ⟨bl A1, ofs A1 + a * 4 + bt, none⟩) (fun h => hst.own.neOwn hst.codes (by decide) hob (by rw [h])) _).drew
              have hu3 : Upd [] w w3 := by
                rw [hw3]
                exact (hst.upd.setCell (p := ⟨bl A1, ofs A1 + a * 4 + bt, none⟩) (Or.inr (hst.own.base hob).1) _).drew
              have hgrow : (trieCells P (leafF zs s)).set (a * 4 + bt) (.int .i64 N) ++ [.int .i64 0, .int .i64 0, .bool false, .int .i64 0] = trieCells (P ++ [(rowOf zs s).take (k + 1)]) (leafF zs s) := by
                have h1 : kid P a b = 0 := by rw [← HKD.out]; exact HNEW.out
                have hrow : P.getD a [] ++ [b] = (rowOf zs s).take (k + 1) := by rw [HPA.out, take_snoc hkr, HBB.out]
                have h2 := trie_grow (F := leafF zs s) hst.inv.paths hst.inv.closed (by rw [← HN.out]; exact hal) h1 (by
                  cases hF : leafF zs s (P.getD a [] ++ [b]) with
                  | none => rfl
                  | some t =>
                    have h3 := (hst.inv.mem _).2 (Or.inl (leafF_inT hF))
                    exact absurd h3 ((idx0_zero hst.inv.paths (by simp)).1 h1))
                rw [hrow, ← HBT.out, ← HN.out] at h2
                exact h2
              have hnm : (rowOf zs s).take (k + 1) ∉ P := by
                have h1 := HNEW.out
                rw [HKD.out, HKID.out] at h1
                exact (idx0_zero hst.inv.paths (take_ne hkr)).1 h1
              have hinv := hst.inv.grow hkr hnm
              have hkid2 : kid (P ++ [(rowOf zs s).take (k + 1)]) a b = N := by
                have h1 : kid P a b = 0 := by rw [← HKD.out]; exact HNEW.out
                have hrow : P.getD a [] ++ [b] = (rowOf zs s).take (k + 1) := by rw [HPA.out, take_snoc hkr, HBB.out]
                have h2 := kid_snoc hst.inv.paths (i := a) (b := b) (by rw [← HN.out]; exact hal) h1 a b (by rw [← HN.out]; exact hal)
                rw [hrow, if_pos ⟨rfl, rfl⟩, ← HN.out] at h2
                exact h2
              have hat2 : idx0 (P ++ [(rowOf zs s).take (k + 1)]) ((rowOf zs s).take (k + 1)) = N := by rw [idx0_snoc hnm, if_pos rfl, HN.out]
              have HTG : Hid ((trieCells (P ++ [(rowOf zs s).take (k + 1)]) (leafF zs s))[a * 4 + bt]? = some (.int .i64 N)) := by
                show _ = _
                rw [HBT.out, trie_get _ _ (by rw [List.length_append, ← HN.out]; omega) (by have := b2n_le b; omega), cell_kid, hkid2]
              have HGR := Lib.hid hgrow
              have HINV := Lib.hid hinv
              have HK2 := Lib.hid hkid2
              have HAT2 := Lib.hid hat2
              have HNM := Lib.hid hnm
              have hPl : P.length = N := HN.out.symm
              have HPL := Lib.hid hPl
              clear hPl hgrow hinv hkid2 hat2 hnm hw3 hc0 hf0 nix ncell nfz hst hgb hneg hob
              have hc0 := hb3.cell 0
              simp at hc0
              go_wp2_with (at_builtin; refine wpList_app rfl rfl el_node rfl (hown3.alloc _) rfl (Seg.four _ _ _ _ _ _) (by simp [Value.oneCell']) (by simp only [maxLen]; omega) (by omega) (by have := hu3.size; simp; omega) ?_; intro A2 c2 w4 hown4 hu4 hfr4; rw [HGR.out] at hown4; have hb4 := (hb3.alloc _).upd hu4 (by have := hown3.neBlk hb3 (by decide); simp; exact fun h => this h.symm); have hc04 := hb4.cell 0; have hf04 := hb4.frozen 0; simp at hc04; have hneg := hown4.neBlk hb4 (by decide); have hob := hown4.obl (by omega); have hgb : bl A2 ≠ g := fun h => hneg (by rw [hob, h]); have nix := run_index el_node hown4.seg.at_ c2 .i64 a (by omega); have ncell := hown4.seg.cell (a * 4 + bt) _ HTG.out; rw [← Nat.add_assoc] at ncell; clear hc0)
              go_roundw
              case rel =>
                have hPL : (P ++ [(rowOf zs s).take (k + 1)]).length = N + 1 := by rw [List.length_append, HPL.out]; rfl
                have hne2 : ∀ x, ob C = some x → x ≠ g := fun x hx h => by rw [h] at hx; exact hcd3.neBlk hb3 (by decide) hx
                refine ⟨k + 1, by omega, by go_num, P ++ [(rowOf zs s).take (k + 1)], A2, c2, ⟨HINV.out, ?_, ?_, ?_, ?_⟩, by rw [HAT2.out]⟩
                · rw [hPL]; exact hb4.set 0 _
                · rw [hPL]; exact hown4.far hneg _
                · refine ((hcd3.alloc _).upd hu4 ?_).far (fun h => hne2 _ h rfl) _
                  intro x hx
                  simp
                  intro h
                  exact hcd3.neOwn hown3 (by decide) hx h.symm
                · refine ((hu3.alloc _).then hu4 ?_).put hgw _
                  intro x hx
                  simp at hx
                  have := (hown3.base hx.symm).1
                  right; omega
              case measure => simp [intOf]; omega
            · have hnd : ((kd : Int) == 0) = false := by simp; omega
              have HNEW := Lib.hid hnew
              clear hnew
              go_wp2
              go_roundw
              case rel =>
                refine ⟨k + 1, by omega, by go_num, P, A1, c1, ⟨hst.inv.pass hkr ?_, hst.blk, hst.own, hst.codes, hst.upd⟩, by rw [HKD.out, HKID.out]⟩
                have h1 := HNEW.out
                rw [HKD.out, HKID.out] at h1
                by_cases hm : (rowOf zs s).take (k + 1) ∈ P
                · exact hm
                · rw [idx0, if_neg hm] at h1; omega
              case measure => simp [intOf]; omega
          · obtain rfl : k = ln := by omega
            have hrow : (rowOf zs s).take k = rowOf zs s := List.take_of_length_le (by rw [HRL.out]; omega)
            have hmem : rowOf zs s ∈ P := by
              have h1 := (hst.inv.mem ((rowOf zs s).take k)).2 (Or.inr (List.prefix_refl _))
              rw [hrow] at h1
              exact h1
            rw [hrow]
            obtain ⟨a, ha⟩ : ∃ a, a = idx0 P (rowOf zs s) := ⟨_, rfl⟩
            have hal : a < P.length := by rw [ha]; exact idx0_lt hst.inv.paths _
            have hPa : P.getD a [] = rowOf zs s := by
              have := idx0_get hmem
              rw [← ha] at this
              simp [List.getD, this]
            rw [← ha]
            have hc0 := hst.blk.cell 0
            simp at hc0
            obtain ⟨N, hN⟩ : ∃ N, N = P.length := ⟨_, rfl⟩
            have nix := run_index el_node hst.own.seg.at_ c1 .i64 a hal
            have n2 := hst.own.seg.cell (a * 4 + 2) _ (trie_get P _ hal (by omega))
            have n3 := hst.own.seg.cell (a * 4 + 3) _ (trie_get P _ hal (by omega))
            have f2 := hst.own.frozen (by omega) (a * 4 + 2)
            have f3 := hst.own.frozen (by omega) (a * 4 + 3)
            have hob := hst.own.obl (by omega)
            rw [← Nat.add_assoc] at n2 n3 f2 f3
            rw [cell_leaf] at n2
            rw [cell_sym] at n3
            rw [← hN] at hc0 nix hal
            have hNb : N ≤ 5000 := by have := hst.inv.few; omega
            have HPA := Lib.hid hPa
            have HN := Lib.hid hN
            have HA := Lib.hid ha
            have HROW := Lib.hid hrow
            clear hPa hN ha hrow hmem
            obtain ⟨lv, HLV⟩ : ∃ lv, Hid (lv = (leafF zs s (P.getD a [])).isSome) := ⟨_, rfl⟩
            obtain ⟨sv, HSV⟩ : ∃ sv : Nat, Hid (sv = (leafF zs s (P.getD a [])).getD 0) := ⟨_, rfl⟩
            rw [← HLV.out] at n2
            rw [← HSV.out] at n3
            go_wp2
            go_region
            go_wp2
            go_roundw
            case rel =>
              have hgb : g ≠ bl A1 := fun h => hst.own.neBlk hst.blk (by decide) (by rw [hob, h])
              refine ⟨s + 1, by omega, by go_num, P, A1, c1, ⟨?_, ?_, ?_, ?_, ?_⟩⟩
              · have h1 := hst.inv
                rw [← HRL.out] at h1
                exact h1.next (by rw [HZ.out]; omega) (by rw [HRL.out]; omega)
              · exact ((hst.blk.far (p := ⟨bl A1, ofs A1 + a * 4 + 2, none⟩) hgb _).far (p := ⟨bl A1, ofs A1 + a * 4 + 3, none⟩) hgb _).drew
              · have h1 := ((hst.own.set (k := a * 4 + 2) (by rw [← HN.out]; omega) (.bool true)).set (k := a * 4 + 3) (by rw [← HN.out]; omega) (.int .i64 s)).drew
                rw [trie_leaf (G := leafF zs (s + 1)) hst.inv.paths (by rw [← HN.out]; exact hal) (fun q => by
                  rw [leafF, HPA.out, HZ.out]
                  by_cases hq : rowOf zs s = q
                  · rw [if_pos ⟨by omega, hq⟩, if_pos hq.symm]
                  · rw [if_neg (fun h => hq h.2), if_neg (fun h => hq h.symm)])] at h1
                exact h1
              · have hne : ob C ≠ some (bl A1) := hst.own.neOwn hst.codes (by decide) hob
                exact ((hst.codes.far (p := ⟨bl A1, ofs A1 + a * 4 + 2, none⟩) hne _).far (p := ⟨bl A1, ofs A1 + a * 4 + 3, none⟩) hne _).drew
              · have hb := (hst.own.base hob).1
                exact ((hst.upd.put hb _).put hb _).drew
            case measure => simp [intOf]; omega
    · obtain rfl : s = n := by omega
      go_wp2
      go_ret2
      refine ⟨g, A1, P.length, c1, P, rfl, hgw, ⟨hst.blk, ?_, rfl, ?_⟩, hst.upd⟩
      · rw [HL.out]; exact hst.own
      · have := hst.inv
        rw [← HL.out] at this
        exact this.done

/-- The first j bits are the beginning of a row, and no row. -/
def goesOn (zs : List Int) (bs : List Bool) (j : Nat) : Prop := inT zs zs.length (bs.take j) ∧ leafF zs zs.length (bs.take j) = none
/-- What Next tells of bits: how many it reads, the symbol, the error. -/
def NextIs (zs : List Int) (bs : List Bool) (k : Nat) (sym err : Int) : Prop :=
  k ≤ bs.length ∧ (∀ j, 1 ≤ j → j < k → goesOn zs bs j) ∧
  ((err = 2 ∧ sym = 0 ∧ k = bs.length ∧ (1 ≤ k → goesOn zs bs k)) ∨ (err = 3 ∧ sym = 0 ∧ 1 ≤ k ∧ ¬ inT zs zs.length (bs.take k)) ∨
   (err = 0 ∧ 1 ≤ k ∧ ∃ t : Nat, sym = t ∧ leafF zs zs.length (bs.take k) = some t))

theorem NextIs.ends {zs : List Int} {bs : List Bool} {k : Nat} {sym err : Int} (h : NextIs zs bs k sym err) (_hk : 1 ≤ k) (hl : k < bs.length) : ¬ goesOn zs bs k := by
  intro hg
  rcases h.2.2 with ⟨_, _, h3, _⟩ | ⟨_, _, _, h4⟩ | ⟨_, _, t, _, h5⟩
  · omega
  · exact h4 hg.1
  · rw [hg.2] at h5; cases h5
theorem NextIs.unique {zs : List Int} {bs : List Bool} {k k' : Nat} {sym err sym' err' : Int} (h : NextIs zs bs k sym err) (h' : NextIs zs bs k' sym' err') : k = k' ∧ sym = sym' ∧ err = err' := by
  have key : ∀ {k k' : Nat} {sym err sym' err' : Int}, NextIs zs bs k sym err → NextIs zs bs k' sym' err' → ¬ k < k' := by
    intro k k' sym err sym' err' h h' hlt
    have hl := h'.1
    rcases Nat.eq_zero_or_pos k with h0 | h0
    · rcases h.2.2 with ⟨_, _, h3, _⟩ | ⟨_, _, h3, _⟩ | ⟨_, h3, _⟩ <;> omega
    · exact h.ends h0 (by omega) (h'.2.1 k h0 hlt)
  have hk : k = k' := by
    have h1 := key h h'
    have h2 := key h' h
    omega
  subst hk
  refine ⟨rfl, ?_⟩
  rcases h.2.2 with ⟨a1, a2, a3, a4⟩ | ⟨a1, a2, a3, a4⟩ | ⟨a1, a3, t, a2, a4⟩ <;> rcases h'.2.2 with ⟨b1, b2, b3, b4⟩ | ⟨b1, b2, b3, b4⟩ | ⟨b1, b3, t', b2, b4⟩
  · exact ⟨a2.trans b2.symm, a1.trans b1.symm⟩
  · exact absurd (a4 b3).1 b4
  · have := (a4 b3).2; rw [this] at b4; cases b4
  · exact absurd (b4 a3).1 a4
  · exact ⟨a2.trans b2.symm, a1.trans b1.symm⟩
  · exact absurd (leafF_inT b4) a4
  · have := (b4 a3).2; rw [this] at a4; cases a4
  · exact absurd (leafF_inT a4) b4
  · rw [a4] at b4; injection b4 with b4; subst b4; exact ⟨a2.trans b2.symm, a1.trans b1.symm⟩

theorem take1_ok {w : World} {B g : Nat} {A : Option Addr} {n c : Nat} {zs : List Int} {p : Nat} (h : Rd w B g A n c zs p) (hn : n ≤ 100000000000000) (b : Bool) (hb : ((bitsOf zs).drop p)[0]? = some b) (hz : ∀ z ∈ zs, 0 ≤ z ∧ z ≤ 255) :
    Calls Tryz.prog 38 #[.pointer (some ⟨g, 0, none⟩), .int .i64 1] w (RdPost w B g A n c zs (p + 1) (.tuple #[.int .i64 (b2n b), .bool true])) := by
  have hl : p < (bitsOf zs).length := by
    have := (List.getElem?_eq_some_iff.1 hb).1
    rw [List.length_drop] at this
    omega
  have hzl := (Ints.ofOwn h.2).len.out
  rw [bitsOf_len, hzl] at hl
  have h1 := take_ok 1 h hn (by omega) (by omega) hz
  have e : num (((bitsOf zs).drop p).take 1) = (b2n b : Int) := by
    cases hd : (bitsOf zs).drop p with
    | nil => rw [hd] at hb; simp at hb
    | cons x r =>
      rw [hd] at hb
      simp at hb
      subst hb
      rw [b2n_i]
      simp [num]
  rw [e] at h1
  exact h1

def NextPost (zs : List Int) (w : World) (B gr : Nat) (RA : Option Addr) (rn rc : Nat) (ys : List Int) (p : Nat) (e : Ending) (w' : World) : Prop :=
  ∃ k sym err, e = .returned (.tuple #[.int .i64 sym, .int .i64 err]) ∧ NextIs zs ((bitsOf ys).drop p) k sym err ∧ Rd w' B gr RA rn rc ys (p + k) ∧ Upd [some gr] w w'

set_option maxHeartbeats 1000000 in
theorem next_any {w : World} {B g : Nat} {A : Option Addr} {n c : Nat} {zs : List Int} {P : List (List Bool)} {B' gr : Nat} {RA : Option Addr} {rn rc : Nat} {ys : List Int} {p : Nat}
    (ht : Tree w B g A n c zs P) (hr : Rd w B' gr RA rn rc ys p) (hp : p ≤ 8 * rn) (hrn : rn ≤ 100000000000000) (hy : ∀ z ∈ ys, 0 ≤ z ∧ z ≤ 255) :
    Calls Tryz.prog 98 #[.pointer (some ⟨g, 0, none⟩), .pointer (some ⟨gr, 0, none⟩)] w (NextPost zs w B' gr RA rn rc ys p) := by
  obtain ⟨hb, hown, hnP, htr⟩ := ht
  have hyl := (Ints.ofOwn hr.2).len.out
  obtain ⟨bs, hbs⟩ : ∃ bs, bs = (bitsOf ys).drop p := ⟨_, rfl⟩
  have hbl : bs.length = 8 * rn - p := by rw [hbs, List.length_drop, bitsOf_len, hyl]
  have HBL := Lib.hid hbl
  have HBS := Lib.hid hbs
  have HY := Lib.hid hy
  have HTR := Lib.hid htr
  have HNP := Lib.hid hnP
  have hng : g ≠ gr := hb.ne hr.1 (by decide)
  have hno : ob A ≠ some gr := hown.neBlk hr.1 (by decide)
  have HR := Lib.hid hr
  have HO := Lib.hid hown
  have HBK := Lib.hid hb
  have HNG := Lib.hid hng
  have HNO := Lib.hid hno
  clear hyl hbl hbs hy htr hnP hng hno hr hown hb
  go_enter Tryz.func98, Tryz.ntmps98
  go_wp2
  go_loopw [6] (fun v wr => ∃ k : Nat, p + k ≤ 8 * rn ∧ v = .int .i64 (idx0 P (bs.take k)) ∧ Hid (bs.take k ∈ P ∧ ∀ j, 1 ≤ j → j ≤ k → goesOn zs bs j) ∧ Rd wr B' gr RA rn rc ys (p + k) ∧ Upd [some gr] w wr)
    (fun _ wr => 8 * rn - (intOf ((wr.cell? ⟨gr, 1, none⟩).getD undef)).toNat)
  case atStart =>
    refine ⟨0, hp, ?_, ⟨List.mem_of_getElem? HTR.out.paths.root, fun j h1 h2 => by omega⟩, HR.out, Upd.refl _ _⟩
    have hroot := idxOf_get HTR.out.paths.nodup HTR.out.paths.root
    rw [List.take_zero, idx0, if_pos (List.mem_of_getElem? HTR.out.paths.root), hroot]
    rfl
  case round =>
    obtain ⟨k, hk, rfl, HIN, hrr, hu⟩ := hrel
    have hmeas := hrr.1.cell 1
    simp at hmeas
    by_cases hlt : p + k < 8 * rn
    · have hkl : k < bs.length := by rw [HBL.out]; omega
      obtain ⟨b, hbb⟩ : ∃ b, b = bs[k] := ⟨_, rfl⟩
      obtain ⟨bt, hbt⟩ : ∃ bt, bt = b2n b := ⟨_, rfl⟩
      have hbt1 : bt ≤ 1 := by rw [hbt]; exact b2n_le b
      have hget : ((bitsOf ys).drop (p + k))[0]? = some b := by
        rw [← List.drop_drop, ← HBS.out, List.getElem?_drop, Nat.add_zero, List.getElem?_eq_getElem hkl, hbb]
      obtain ⟨a, ha⟩ : ∃ a, a = idx0 P (bs.take k) := ⟨_, rfl⟩
      have hal : a < n := by rw [ha, HNP.out]; exact idx0_lt HTR.out.paths _
      have hPa : P.getD a [] = bs.take k := by
        have := idx0_get HIN.out.1
        rw [← ha] at this
        simp [List.getD, this]
      have hkid : kid P a b = idx0 P (bs.take (k + 1)) := by unfold kid; rw [hPa, take_snoc hkl, hbb]
      obtain ⟨kd, hkd⟩ : ∃ kd, kd = idx0 P (bs.take (k + 1)) := ⟨_, rfl⟩
      rw [← hkd] at hkid
      have hkdl : kd < n := by rw [hkd, HNP.out]; exact idx0_lt HTR.out.paths _
      have HCELL : Hid (∀ i j, i < n → j < 4 → (trieCells P (leafF zs zs.length))[i * 4 + j]? = some (cellAt P (leafF zs zs.length) i j)) := fun i j h1 h2 => trie_get P _ (by rw [← HNP.out]; exact h1) h2
      have hk1 : (trieCells P (leafF zs zs.length))[a * 4 + bt]? = some (.int .i64 kd) := by rw [HCELL.out a bt hal (by omega), hbt, cell_kid, hkid]
      have HK1 := Lib.hid hk1
      have HKD := Lib.hid hkd
      have HBT := Lib.hid hbt
      have HBB := Lib.hid hbb
      have HKL := Lib.hid hkl
      rw [← ha]
      clear hk1 hkd hbt hbb hkid hPa ha
      go_wp2_with fail
      refine (take1_ok hrr hrn b hget HY.out).mono ?_
      rintro e w1 ⟨rfl, hr1, hv⟩
      rw [← HBT.out]
      have hu1 := hu.trans hv
      have hb1 := HBK.out.upd hu1 (by simp; exact HNG.out)
      have ho1 := HO.out.upd hu1 (by intro x hx; simp; rintro rfl; exact HNO.out hx)
      have hc0 := hb1.cell 0
      simp at hc0
      have nix := run_index el_node ho1.seg.at_ c .i64 a hal
      have ncell := ho1.seg.cell (a * 4 + bt) _ HK1.out
      have nix2 := run_index el_node ho1.seg.at_ c .i64 kd hkdl
      have n2 := ho1.seg.cell (kd * 4 + 2) _ (HCELL.out kd 2 hkdl (by omega))
      have n3 := ho1.seg.cell (kd * 4 + 3) _ (HCELL.out kd 3 hkdl (by omega))
      rw [← Nat.add_assoc] at ncell n2 n3
      rw [cell_leaf] at n2
      rw [cell_sym] at n3
      clear hrr hu hv hget HR HK1 HCELL
      by_cases h0 : kd = 0
      · have hd0 : ((kd : Int) == 0) = true := by simp [h0]
        have hnin : ¬ inT zs zs.length (bs.take (k + 1)) := by
          rw [← HTR.out.mem]
          exact (idx0_zero HTR.out.paths (take_ne HKL.out)).1 (by rw [← HKD.out]; exact h0)
        clear h0
        go_wp2
        go_ret2
        exact ⟨k + 1, 0, 3, rfl, ⟨by have := HKL.out; rw [← HBS.out]; omega, fun j h1 h2 => by rw [← HBS.out]; exact HIN.out.2 j h1 (by omega), by rw [← HBS.out]; exact Or.inr (Or.inl ⟨rfl, rfl, by omega, hnin⟩)⟩, hr1, hu1⟩
      · have hd0 : ((kd : Int) == 0) = false := by simp; omega
        have hmem : bs.take (k + 1) ∈ P := by
          by_cases hm : bs.take (k + 1) ∈ P
          · exact hm
          · have := HKD.out; rw [idx0, if_neg hm] at this; exact absurd this h0
        have hPk : P.getD kd [] = bs.take (k + 1) := by
          have := idx0_get hmem
          rw [← HKD.out] at this
          simp [List.getD, this]
        rw [hPk] at n2 n3
        clear h0 hPk
        cases hF : leafF zs zs.length (bs.take (k + 1)) with
        | none =>
          rw [hF] at n2
          simp at n2
          have HF := Lib.hid hF
          have HM := Lib.hid hmem
          clear hF n3 hmem
          go_wp2
          go_roundw
          case rel =>
            refine ⟨k + 1, by omega, by rw [HKD.out], ⟨HM.out, fun j h1 h2 => ?_⟩, hr1, hu1⟩
            by_cases hj : j = k + 1
            · subst hj; exact ⟨(HTR.out.mem _).1 HM.out, HF.out⟩
            · exact HIN.out.2 j h1 (by omega)
          case measure =>
            have h2 := hr1.1.cell 1
            simp at h2
            simp [intOf, hmeas, h2]
            omega
        | some t =>
          rw [hF] at n2 n3
          simp at n2 n3
          have HF := Lib.hid hF
          clear hF hmem
          go_wp2
          go_ret2
          exact ⟨k + 1, t, 0, rfl, ⟨by have := HKL.out; rw [← HBS.out]; omega, fun j h1 h2 => by rw [← HBS.out]; exact HIN.out.2 j h1 (by omega), by rw [← HBS.out]; exact Or.inr (Or.inr ⟨rfl, by omega, t, rfl, HF.out⟩)⟩, hr1, hu1⟩
    · go_wp2_with fail
      refine (take_no 1 hrr hk hrn (by omega)).mono ?_
      rintro e w1 ⟨rfl, hr1, hv⟩
      go_wp2
      go_ret2
      have hkl : k = bs.length := by rw [HBL.out]; omega
      exact ⟨k, 0, 2, rfl, ⟨by rw [← HBS.out]; omega, fun j h1 h2 => by rw [← HBS.out]; exact HIN.out.2 j h1 (by omega), by rw [← HBS.out]; exact Or.inl ⟨rfl, rfl, hkl, fun h => HIN.out.2 k h (Nat.le_refl _)⟩⟩, hr1, hu.trans hv⟩

end Go.Proofs.YtolcdlopgbgilaaGreatDoor

/-! Text Lag. -/
namespace Go.Dray
open Go.RowKit

section
variable {P : Program} {ops : Array Oper} {md : Region.Mode} {w : World}

/-- Each operation from k0 on and ahead of n is waited for by a later one, up to n. -/
def sinkFrom (md : Region.Mode) (ops : Array Oper) (k0 n : Nat) : Bool :=
  (List.range n).all fun i => decide (i < k0) || (List.range (n + 1)).any fun j => decide (i < j) && Region.waitsFor md ops j i

/-- What is listed in the midst of the head: the first k0 at least. -/
structure LagInv (md : Region.Mode) (ops : Array Oper) (k0 n : Nat) (listed : Array Bool) : Prop where
  head : HeadInv md ops n listed
  pre : ∀ i, i < k0 → listed.getD i false = true

theorem LagInv.set {k0 n i : Nat} {listed : Array Bool} (inv : LagInv md ops k0 n listed) (hi : i ∈ Region.ready md ops listed) (hin : i < n) : LagInv md ops k0 n (listed.setIfInBounds i true) :=
  ⟨inv.head.set hi hin, fun j hj => getD_set_true (inv.pre j hj)⟩

theorem LagInv.from {k0 n i : Nat} {listed : Array Bool} (inv : LagInv md ops k0 n listed) (hun : listed.getD i true = false) : k0 ≤ i := by
  rcases Nat.lt_or_ge i k0 with h | h
  · have h1 := inv.pre i h
    rw [getD_both hun] at h1
    cases h1
  · exact h

theorem lag_waits {k0 n : Nat} {listed : Array Bool} (hs : sinkFrom md ops k0 n = true) (hc : Region.chainB md ops n = true) (inv : LagInv md ops k0 n listed) :
    ∀ (d i : Nat), n - i = d → i < n → listed.getD i true = false → ∀ t, n ≤ t → t ∉ Region.ready md ops listed := by
  intro d
  induction d using Nat.strongRecOn with
  | _ d ih =>
    intro i hd hi hun t ht hr
    obtain ⟨_, ot, hot, hall⟩ := mem_ready.1 hr
    have htlt : t < ops.size := (Array.getElem?_eq_some_iff.1 hot).1
    rcases Nat.lt_or_ge n t with htn | htn
    · have h1 := List.all_eq_true.1 hc t (List.mem_range.2 htlt)
      simp only [Bool.or_eq_true, decide_eq_true_eq] at h1
      rcases h1 with h1 | h1
      · omega
      · obtain ⟨o', ho', e, he, hb, hon⟩ := Region.waitsFor_spec h1
        obtain rfl : o' = ot := Option.some.inj (ho'.symm.trans hot)
        have h2 := hall e he hb
        rw [hon, getD_both (inv.head.tail (t - 1) (by omega) (by omega))] at h2
        cases h2
    · obtain rfl : t = n := by omega
      have h1 := List.all_eq_true.1 hs i (List.mem_range.2 hi)
      simp only [Bool.or_eq_true, decide_eq_true_eq] at h1
      rcases h1 with h1 | h1
      · have := inv.from hun
        omega
      · obtain ⟨j, hj, hj2⟩ := List.any_eq_true.1 h1
        simp only [Bool.and_eq_true, decide_eq_true_eq] at hj2
        obtain ⟨oj, hoj, e, he, hb, hon⟩ := Region.waitsFor_spec hj2.2
        have hjle : j ≤ t := by have := List.mem_range.1 hj; omega
        have hnl : ¬ listed.getD j false = true := fun hl => by
          have h2 := inv.head.closed j oj hoj hl e he hb
          rw [hon, getD_both hun] at h2
          cases h2
        rcases Nat.lt_or_ge j t with hjt | hjt
        · have hjs : j < listed.size := by rw [inv.head.size]; omega
          exact ih (t - j) (by omega) j rfl hjt (getD_in hjs (by simpa using hnl)) t (Nat.le_refl _) hr
        · obtain rfl : j = t := by omega
          obtain rfl : oj = ot := Option.some.inj (hoj.symm.trans hot)
          have h2 := hall e he hb
          rw [hon, getD_both hun] at h2
          cases h2

theorem lag_first {k0 n i : Nat} {oi : Oper} {v : Value} {L : Array Bool → Act → Prop} (hi : ops[i]? = some oi) (hsel : ∀ (j : Nat) (o : Oper) cs b, ops[j]? = some o → o.op ≠ .select cs b)
    (hs : sinkFrom md ops k0 n = true) (hc : Region.chainB md ops n = true) (hin : i < n) (hdone : ∀ listed a, L listed a → ∀ j ∈ Region.ready md ops listed, n ≤ j) :
    ∀ (f : Nat) (listed : Array Bool) (a : Act), LagInv md ops k0 n listed →
      (∀ j oj, ops[j]? = some oj → j ≠ i → listed.getD j true = false → (∀ e ∈ oj.after, Region.binds md e = true → e.on ≠ i) → oi.apart ops oj = true) →
      i ∈ Region.ready md ops listed → YieldsAt P ops w oi v a →
      wpAnyL P md ops w n L f (listed.setIfInBounds i true) (a.put oi.dst v) → wpAnyL P md ops w n L (f + 1) listed a
  | f, listed, a, inv, hfree, hr, hy, H => by
    have hun := (mem_ready.1 hr).1
    refine ⟨fun h => (by rw [h] at hr; cases hr), fun j hj => ?_⟩
    have hjn : j < n := by
      rcases Nat.lt_or_ge j n with h | h
      · exact h
      · exact absurd hj (lag_waits hs hc inv _ i rfl hin hun j h)
    refine ⟨hjn, ?_⟩
    by_cases hji : j = i
    · subst hji; exact hy.stOp hi H
    · cases f with
      | zero =>
        have := hdone _ _ H j (ready_mono hj hji)
        omega
      | succ f =>
        have h1 := (H.2 j (ready_mono hj hji)).2
        obtain ⟨hjun, oj, hoj, hall⟩ := mem_ready.1 hj
        have hnot : ∀ e ∈ oj.after, Region.binds md e = true → e.on ≠ i := fun e he hb heq => by
          have h1 := hall e he hb
          rw [heq, getD_both hun] at h1
          cases h1
        have h2 := stOp_put hoj (hfree j oj hoj hji hjun hnot) (fun cs b => hsel i oi cs b hi) (fun cs b => hsel j oj cs b hoj) hy h1
        refine stOp_mono (fun a' h3 => lag_first hi hsel hs hc hin hdone f (listed.setIfInBounds j true) a' (inv.set hj hjn) (fun k ok hk hki hunk hno => hfree k ok hk hki ?_ hno) (ready_mono hr (Ne.symm hji)) h3.1 ?_) h2
        · by_cases hjk : j = k
          · subst hjk; exact hjun
          · rw [getD_set_ne true hjk] at hunk; exact hunk
        · rw [Array.setIfInBounds_comm _ _ hji]
          exact h3.2

theorem lag_lex {k0 n g : Nat} {Lq : Act → Prop} (hsel : Region.noSelect ops = true) (hs : sinkFrom md ops k0 n = true) (hc : Region.chainB md ops n = true) :
    ∀ (l : List Oper) (k : Nat) (listed : Array Bool) (a : Act), (∀ j, j < l.length → l[j]? = ops[k + j]?) → k + l.length = n → LagInv md ops k0 n listed →
    Region.lexHead md ops g l.length k listed = true → wpStill P ops w Lq l a →
    wpAnyL P md ops w n (fun listed' a' => Region.seqB md ops g n listed' = true ∧ Lq a') l.length listed a
  | [], k, listed, a, _, hk, _, hB, h => by
    obtain rfl : k = n := by simpa using hk
    exact ⟨by simpa [Region.lexHead] using hB, h⟩
  | o :: l, k, listed, a, hl, hk, inv, hB, h => by
    have h0 : ops[k]? = some o := by simpa using (hl 0 (by simp)).symm
    simp only [List.length_cons, Region.lexHead, Bool.and_eq_true] at hB
    obtain ⟨⟨hr, hf⟩, hB'⟩ := hB
    have hkn : k < n := by simp only [List.length_cons] at hk; omega
    have hr' : k ∈ Region.ready md ops listed := by simpa using hr
    have hst : stOp P ops w k (wpStill P ops w Lq l) a := by unfold stOp; simp only [h0]; exact h
    obtain ⟨v, hy, hK⟩ := yieldsAt_of_stOp h0 hst
    exact lag_first h0 (Region.noSelect_spec hsel) hs hc hkn (fun listed' a' hL => seqB_ready hL.1) l.length listed a inv (Region.free_spec h0 hf) hr' hy
      (lag_lex hsel hs hc l (k + 1) _ _ (fun j hj => by have := hl (j + 1) (by simp; omega); simpa [Nat.add_assoc, Nat.add_comm 1 j] using this) (by simp only [List.length_cons] at hk; omega) (inv.set hr' hkn) hB' hK)

/-- What the program must say of the region. -/
def lagB (md : Region.Mode) (ops : Array Oper) (k0 n : Nat) (listed : Array Bool) : Bool :=
  Region.noSelect ops && decide (n ≤ ops.size) && decide (k0 ≤ n) && sinkFrom md ops k0 n && Region.chainB md ops n && Region.lexHead md ops (ops.size - n) (n - k0) k0 listed
/-- The first k0 are listed, and wait for nothing else. -/
def preB (md : Region.Mode) (ops : Array Oper) (k0 : Nat) : Bool := (List.range k0).all fun j => match ops[j]? with
  | some oj => oj.after.all fun e => !Region.binds md e || decide (e.on < k0)
  | none => false
def preL (ops : Array Oper) (k0 : Nat) : Array Bool := Array.ofFn (n := ops.size) fun i => decide (i.val < k0)

theorem preL_false {k0 j : Nat} : (preL ops k0).getD j false = decide (j < k0 ∧ j < ops.size) := by
  unfold preL
  rcases Nat.lt_or_ge j ops.size with h | h
  · simp [Array.getD, h]
  · simp [Array.getD, Nat.not_lt.2 h]
theorem preL_true {k0 j : Nat} (h : j < ops.size) : (preL ops k0).getD j true = decide (j < k0) := by
  unfold preL
  simp [Array.getD, h]

theorem wpAny_lag {Q : Exit → Act → World → Prop} {a : Act} {l : List Oper} (k0 n : Nat) (hp : preB .any l.toArray k0 = true) (hB : lagB .any l.toArray k0 n (preL l.toArray k0) = true)
    (h : wpStill P l.toArray w (fun a' => wpList P l.toArray Q (l.drop n) a' w) ((l.take n).drop k0) a) : wpAny P .any l.toArray Q (l.toArray.size - k0) (preL l.toArray k0) a w := by
  simp only [lagB, Bool.and_eq_true, decide_eq_true_eq] at hB
  obtain ⟨⟨⟨⟨⟨hsel, hn⟩, hk⟩, hs⟩, hc⟩, hlex⟩ := hB
  have hn' : n ≤ l.length := by simpa using hn
  have htl : ((l.take n).drop k0).length = n - k0 := by simp; omega
  have hdl : (l.drop n).length = l.toArray.size - n := by simp
  have inv0 : LagInv .any l.toArray k0 n (preL l.toArray k0) := by
    refine ⟨⟨by simp [preL], fun j oj hj hl e he hb => ?_, fun t ht ht' => ?_⟩, fun i hi => ?_⟩
    · rw [preL_false] at hl
      simp only [decide_eq_true_eq] at hl
      have h1 := List.all_eq_true.1 hp j (List.mem_range.2 hl.1)
      simp only [hj] at h1
      have h2 := Array.all_eq_true'.1 h1 e he
      simp only [hb, Bool.not_true, Bool.false_or, decide_eq_true_eq] at h2
      rw [preL_false]
      simp
      have : k0 ≤ l.length := by omega
      omega
    · rw [preL_true ht']
      simp
      omega
    · rw [preL_false]
      simp
      omega
  have H := lag_lex (md := .any) (g := l.toArray.size - n) hsel hs hc ((l.take n).drop k0) k0 _ a (fun j hj => by
    have hj' : j < n - k0 := by rw [htl] at hj; exact hj
    rw [List.getElem?_drop, List.getElem?_take_of_lt (by omega)]
    simp) (by rw [htl]; omega) inv0 (by rw [htl]; exact hlex) h
  have := wpAny_of_head (Q' := Q) (g := l.toArray.size - n) (fun listed a' hL => by
    have := wpAny_of_seq (md := .any) (Q' := Q) (l.drop n) n listed a' w (fun j => by simp [List.getElem?_drop]) (by rw [hdl]; exact hL.1) hL.2
    rwa [hdl] at this) _ _ _ H
  rw [htl, show n - k0 + (l.toArray.size - n) = l.toArray.size - k0 by simp; omega] at this
  exact this

/-- The region's first operation moves a slot; the others up to n only read. -/
theorem wp_region_lag1 {id : Nat} {Q : Exit → Act → World → Prop} {a : Act} {o : Oper} {l : List Oper} {s : Operand} (n : Nat) (hm : P.follows .mixedOrders = true) (hop : o.op = .move s) (hg : o.guard = none)
    (hp : preB .any (o :: l).toArray 1 = true) (hf : Region.free .any (o :: l).toArray (Array.replicate (o :: l).toArray.size false) 0 = true) (hr : (Region.ready .any (o :: l).toArray (Array.replicate (o :: l).toArray.size false)).contains 0 = true)
    (hB : lagB .any (o :: l).toArray 1 n (preL (o :: l).toArray 1) = true) (hQ : ∀ c a w v, Q (.panic c) (a.put o.dst v) w → Q (.panic c) a w)
    (h : wpStill P (o :: l).toArray w.drew (fun a' => wpList P (o :: l).toArray Q ((o :: l).drop n) a' w.drew) (((o :: l).take n).drop 1) (a.put o.dst (a.eval s))) : (Code.region id (o :: l).toArray true).wp P Q a w := by
  have hns : Region.noSelect (o :: l).toArray = true := by
    simp only [lagB, Bool.and_eq_true] at hB
    exact hB.1.1.1.1.1
  have hy : Yields P (o :: l).toArray o (a.eval s) a := Or.inl ⟨by simp [Region.wanted, hg], fun w => by simp [execOp, hop]⟩
  refine wp_region_any hm ?_
  have e1 : (Array.replicate (o :: l).toArray.size false).setIfInBounds 0 true = preL (o :: l).toArray 1 := by
    apply Array.ext
    · simp [preL]
    · intro i h1 h2
      rcases i with _ | i
      · simp [preL]
      · rw [Array.getElem_setIfInBounds_ne (by simpa using h1) (by omega)]
        simp [preL]
  have h2 := wpAny_lag (w := w.drew) 1 n hp hB h
  have h3 := wpAny_take (md := .any) (fuel := (o :: l).toArray.size - 1) (Q := Q) (listed := Array.replicate (o :: l).toArray.size false) (a := a) (w := w.drew) (oi := o) (i := 0) rfl hns hf hr (fun c a w => hQ c a w _) hy (by rw [e1]; exact h2)
  rw [show (o :: l).toArray.size - 1 + 1 = (o :: l).toArray.size by simp] at h3
  exact h3
end

end Go.Dray
