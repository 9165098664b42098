/- Merged by wip/tools/merge.py: DefL DefM. -/
import Derived.Deep.MidRow
import Derived.Test.YtolcdlopgbgilaaDoorMc17

/-! Text DefL. -/
namespace Go.Proofs.YtolcdlopgbgilaaDoor
open Go.RowKit Go.Dray

/-- deflate's order, as the program's text lays it. -/
def OrdD (w : World) : Prop := ∀ i, i < 19 → w.cell? ⟨0, i, none⟩ = some (.int .i64 (orderL.getD i 0 : Nat))
theorem OrdD.low {w : World} (h : OrdD w) : 0 < w.heap.size := cell_lt (h 0 (by omega))
theorem OrdD.upd {w w' : World} {L : List (Option Nat)} (h : OrdD w) (hu : Upd L w w') (hn : some 0 ∉ L) : OrdD w' := fun i hi => hu.cell (h i hi) hn
def ordC : List Value := orderL.map fun n : Nat => Value.int .i64 n
theorem ordC_get {i : Nat} (h : i < 19) : ordC[i]? = some (.int .i64 (orderL.getD i 0 : Nat)) := by
  unfold ordC
  rw [List.getElem?_map, List.getElem?_eq_getElem (show i < orderL.length from h)]
  simp [List.getD, show i < orderL.length from h]
theorem wpList_order {ops : Array Oper} {rest : List Oper} {op : Oper} {a : Act} {w : World} {Q : Exit → Act → World → Prop} (hgd : op.guard = none) (ho : op.op = .load 123 (.global 0)) (h : OrdD w)
    (hK : wpList Tryd.prog ops Q rest (a.put op.dst (.agg ordC.toArray)) w) : wpList Tryd.prog ops Q (op :: rest) a w :=
  wpList_load_mid hgd 123 (.global 0) ho 0 0 rfl ordC _ (fun j v hv => by
    have hj : j < 19 := by have := (List.getElem?_eq_some_iff.1 hv).1; exact this
    rw [ordC_get hj] at hv
    injection hv with hv
    rw [Nat.zero_add, ← hv]
    exact h j hj) Tryd.underlying123 rfl (by kernel_rfl) hK
theorem index_ordC (i : Nat) (h : i < 19) (W : World) : (Instr.index 123 (.agg ordC.toArray) (.int .i64 i)).run Tryd.prog W = .ok (.int .i64 (orderL.getD i 0 : Nat)) W := by
  obtain ⟨f, hf, hz, hs, hb⟩ := info_get el_int
  have hc : ordC.toArray[i]? = some (.int .i64 (orderL.getD i 0 : Nat)) := by rw [List.getElem?_toArray]; exact ordC_get h
  have hp : (Go.part 3 ordC.toArray i).run Tryd.prog W = .ok (.int .i64 (orderL.getD i 0 : Nat)) W := by
    simp only [Go.part, isAgg, Sem.run_bind, run_underlying Tryd.underlying3, Result.andThen_ok, Sem.run_pure, hc]
    rfl
  have hsz : (sizeOf 3).run Tryd.prog W = .ok 1 W := by simp [sizeOf, typeInfo, hf, hs]
  unfold Instr.index
  simp only [asIntOf, Sem.run_bind, Sem.run_pure, Result.andThen_ok, run_underlying Tryd.underlying123]
  rw [if_pos (by omega)]
  simp only [Sem.run_bind, hsz, Result.andThen_ok, Int.toNat_natCast, Nat.mul_one, hp]
/-- The counts of the third code's symbols behind the first k steps. -/
def cntK (ss : List Step) (k : Nat) : List Int := tab 19 fun s => countS (ss.take k) s
theorem cntK_len (ss : List Step) (k : Nat) : (cntK ss k).length = 19 := tab_len _ _
theorem takeS_snoc {ss : List Step} {k : Nat} {x : Step} (h : ss[k]? = some x) : ss.take (k + 1) = ss.take k ++ [x] := by
  obtain ⟨h1, h2⟩ := List.getElem?_eq_some_iff.1 h
  rw [List.take_succ_eq_append_getElem h1, h2]
theorem cntK_bd (ss : List Step) (k : Nat) : ∀ z ∈ cntK ss k, 0 ≤ z ∧ z ≤ ss.length := by
  intro z hz
  obtain ⟨s, hs, rfl⟩ := getD_ex hz
  rw [cntK_len] at hs
  have e : (cntK ss k).getD s 0 = countS (ss.take k) s := getD_tab _ hs
  rw [e]
  unfold countS
  have := List.countP_le_length (l := ss.take k) (p := fun x => decide (x.1 = (s : Int)))
  rw [List.length_take] at this
  omega
theorem cntK_zero (ss : List Step) : cntK ss 0 = List.replicate 19 (0 : Int) := by
  unfold cntK
  rw [tab_rep]
  exact tab_congr fun j hj => by simp [countS]
theorem cntK_step {ss : List Step} {k : Nat} {x : Step} (h : ss[k]? = some x) {v : Int} {s : Nat} (hs : x.1 = (s : Int)) (hv : (cntK ss k)[s]? = some v) : (cntK ss k).set s (v + 1) = cntK ss (k + 1) := by
  have hl : s < 19 := by have := (List.getElem?_eq_some_iff.1 hv).1; rw [cntK_len] at this; exact this
  have e : v = countS (ss.take k) s := by
    unfold cntK at hv
    rw [tab_get _ hl] at hv
    injection hv with hv
    exact hv.symm
  unfold cntK
  rw [tab_set]
  refine tab_congr fun j hj => ?_
  rw [takeS_snoc h, countS_snoc, hs]
  by_cases hjs : j = s
  · subst hjs
    rw [if_pos rfl, if_pos rfl, e]
  · rw [if_neg hjs, if_neg (by omega)]
    omega

/-- The lengths in their order, the first k of them. -/
def ordK (L : List Int) (k : Nat) : List Int := tab 19 fun i => if i < k then L.getD (orderL.getD i 0) 0 else 0
theorem ordK_len (L : List Int) (k : Nat) : (ordK L k).length = 19 := tab_len _ _
theorem ordK_zero (L : List Int) : ordK L 0 = List.replicate 19 (0 : Int) := by
  unfold ordK
  rw [tab_rep]
  exact tab_congr fun j hj => by rw [if_neg (by omega)]
theorem ordK_step (L : List Int) {k : Nat} {v : Int} (hk : k < 19) (hv : L.getD (orderL.getD k 0) 0 = v) : (ordK L k).set k v = ordK L (k + 1) := by
  unfold ordK
  rw [tab_set]
  refine tab_congr fun j hj => ?_
  by_cases hjk : j = k
  · subst hjk; rw [if_pos rfl, if_pos (by omega), hv]
  · rw [if_neg hjk]
    by_cases h : j < k
    · rw [if_pos h, if_pos (by omega)]
    · rw [if_neg h, if_neg (by omega)]
theorem ordK_all (L : List Int) : ordK L 19 = orderedOf L := by
  have h := tab_of (orderedOf L) 0
  rw [orderedOf_len] at h
  rw [h]
  unfold ordK
  exact tab_congr fun j hj => by rw [if_pos hj, orderedOf_get L hj]

/-- What is told is right. -/
theorem tellOk_mk {lz dz : List Int} {ss : List Step} {L : List Int} (l1 : 257 ≤ lz.length) (l2 : lz.length ≤ 286) (d1 : 1 ≤ dz.length) (d2 : dz.length ≤ 30) (lf : fullB lz = true) (l256 : lz.getD 256 0 ≠ 0) (df : fullB dz = true ∨ loneB dz = true)
    (ok : StepsOk ss []) (ex : expandS ss [] = lz ++ dz) (h16 : Cst (lz ++ dz) → H16 ss) (hL : LensOk (cntK ss ss.length) 7 L) : TellOk lz dz L (toldN (orderedOf L) 4) ss ∧ L.length = 19 ∧ fullB L = true ∧ (∀ z ∈ L, 0 ≤ z ∧ z ≤ 7) := by
  have hll : L.length = 19 := by rw [hL.len, cntK_len]
  have hcnt : ∀ x ∈ ss, x.1.toNat < 19 ∧ 0 < (cntK ss ss.length).getD x.1.toNat 0 := fun x hx => by
    have hb := StepsOk.mem ok x hx
    have hlt : x.1.toNat < 19 := by omega
    refine ⟨hlt, ?_⟩
    have e : (cntK ss ss.length).getD x.1.toNat 0 = countS (ss.take ss.length) x.1.toNat := getD_tab _ hlt
    rw [e, List.take_length]
    exact countS_pos hx hb.1
  have hrow : (lz ++ dz).getD 256 0 ≠ 0 := by
    have g256 : (lz ++ dz).getD 256 0 = lz.getD 256 0 := by simp only [List.getD, List.getElem?_append_left (show 256 < lz.length by omega)]
    rw [g256]; exact l256
  have h2 : 2 ≤ (usedI (cntK ss ss.length) (cntK ss ss.length).length).length := by
    obtain ⟨x, hx, y, hy, hne⟩ := two_syms ok ex hrow (fun a ha hall => h16 ⟨a, ha, hall⟩)
    have bx := StepsOk.mem ok x hx
    have by_ := StepsOk.mem ok y hy
    exact two_used (by rw [cntK_len]; exact (hcnt x hx).1) (by rw [cntK_len]; exact (hcnt y hy).1) (by omega) (hcnt x hx).2 (hcnt y hy).2
  have hf : fullB L = true := hL.full' (by omega) (by rw [cntK_len]; omega) h2
  have h7 : ∀ z ∈ L, 0 ≤ z ∧ z ≤ 7 := fun z hz => by
    obtain ⟨i, hi, rfl⟩ := getD_ex hz
    have := hL.bd i (by rw [← hL.len]; exact hi)
    omega
  have ht := toldN_is (orderedOf L) 4
  have htl := ht.1
  have ht4 := ht.2.1 (by rw [orderedOf_len]; omega)
  rw [orderedOf_len] at htl
  refine ⟨⟨l1, l2, d1, d2, ht4, htl, hll, hf, h7, fun i h1 h2 => ht.2.2 i h1 (by rw [orderedOf_len]; exact h2), ok, ex, fun x hx => ?_, lf, l256, df⟩, hll, hf, h7⟩
  have := hcnt x hx
  exact ⟨by rw [hll]; exact this.1, (hL.pos _ (by rw [cntK_len]; exact this.1)).2 this.2⟩

theorem seg2 (w : World) (a b : Value) (t : TypeId) : Seg (w.alloc (.cells #[a, b] t)) 1 (some ⟨w.heap.size, 0, none⟩) 2 [a, b] :=
  ⟨rfl, fun _ => rfl, fun k u hu => by
    have hb := Blk.new w t #[a, b]
    show (w.alloc _).cell? ⟨w.heap.size, 0 + k, none⟩ = _
    rw [Nat.zero_add, hb.cell]
    simpa using hu⟩
/-- What is told, exactly. -/
def TellF (lz dz tz : List Int) (c : Nat) (ss : List Step) : Prop := StIs (lz ++ dz) 0 0 0 ss ∧ tz = lensF (cntK ss ss.length) 7 ∧ c = toldN (orderedOf tz) 4
theorem TellF.uniq {lz dz t1 t2 : List Int} {c1 c2 : Nat} {s1 s2 : List Step} (h : TellF lz dz t1 c1 s1) (h' : TellF lz dz t2 c2 s2) : t1 = t2 ∧ c1 = c2 ∧ s1 = s2 := by
  obtain ⟨a1, rfl, rfl⟩ := h
  obtain ⟨b1, rfl, rfl⟩ := h'
  obtain rfl := StIs.uniq _ _ _ _ _ a1 b1
  exact ⟨rfl, rfl, rfl⟩
def TellPost (w : World) (B gw : Nat) (WA : Option Addr) (bits : List Bool) (lz dz : List Int) (e : Ending) (w' : World) : Prop :=
  e = .returned (.tuple #[]) ∧ ∃ WB tz c ss, (TellOk lz dz tz c ss ∧ TellF lz dz tz c ss) ∧ WAt w w' B gw WA WB (bits ++ tellBits lz dz tz c ss)

theorem new_apart {w : World} {B gw : Nat} {WA : Option Addr} {bits : List Bool} (hw : Wr w B gw WA bits) {b n : Nat} {o : Nat} (h : w.heap.size ≤ b) : Apart gw WA (some ⟨b, o, none⟩) n := fun _ => by
  have h3 := hw.lt
  refine ⟨by show b ≠ gw; omega, fun e => ?_⟩
  have := (hw.base (k := b) e.symm).2
  omega

theorem own_apart {w w' : World} {B B' gw : Nat} {WA : Option Addr} {bits : List Bool} (hw : Wr w B gw WA bits) {e : TypeId} {sz : Nat} {A : Option Addr} {n c : Nat} {xs : List Value} (hown : Own w' B' e sz A n c xs) (hB : w.heap.size ≤ B') : Apart gw WA A n := fun hp => by
  have h1 := hown.obl hp
  have h2 := (hown.base h1).1
  have h3 := hw.lt
  refine ⟨by omega, fun e => ?_⟩
  have := (hw.base e.symm).2
  omega
theorem ordered_bd {L : List Int} (h : ∀ z ∈ L, 0 ≤ z ∧ z ≤ 7) : ∀ z ∈ orderedOf L, 0 ≤ z ∧ z ≤ 7 := fun z hz => by
  unfold orderedOf at hz
  obtain ⟨s, _, rfl⟩ := List.mem_map.1 hz
  by_cases hs : s < L.length
  · rw [List.getD, List.getElem?_eq_getElem hs]; exact h _ (List.getElem_mem hs)
  · rw [List.getD, List.getElem?_eq_none (by omega)]; simp
theorem flat3_len (l : List Int) : (l.flatMap fun z => digits z 3).length = 3 * l.length := by
  induction l with
  | nil => rfl
  | cons z l ih => rw [List.flatMap_cons, List.length_append, ih, digits_len, List.length_cons]; omega
theorem takeI_snoc {l : List Int} {k : Nat} {x : Int} (h : l[k]? = some x) : l.take (k + 1) = l.take k ++ [x] := by
  obtain ⟨h1, h2⟩ := List.getElem?_eq_some_iff.1 h
  rw [List.take_succ_eq_append_getElem h1, h2]
theorem StepOk.bits {r : List Int} {x : Step} (h : StepOk r x) : 0 ≤ x.2.2 ∧ x.2.2 ≤ 7 := by
  have h3 := h.2.2.1
  have : (stepOf x.1 r).2.2 ≤ 7 := by
    unfold stepOf
    split
    · simp
    · split
      · simp
      · split <;> simp
  omega
theorem StepsOk.bits {ss : List Step} : ∀ {r : List Int}, StepsOk ss r → ∀ x ∈ ss, 0 ≤ x.2.2 ∧ x.2.2 ≤ 7 := by
  induction ss with
  | nil => intro r _ x hx; cases hx
  | cons y ss ih =>
    intro r h x hx
    rcases List.mem_cons.1 hx with rfl | hx
    · exact h.1.bits
    · exact ih h.2 x hx
theorem stepsBits_len {L : List Int} (hL : ∀ z ∈ L, 0 ≤ z ∧ z ≤ 7) (ss : List Step) (hs : ∀ x ∈ ss, 0 ≤ x.2.2 ∧ x.2.2 ≤ 7) : (stepsBits L ss).length ≤ 20 * ss.length := by
  induction ss with
  | nil => simp [stepsBits]
  | cons x ss ih =>
    have e : stepsBits L (x :: ss) = stepBits L x ++ stepsBits L ss := by simp [stepsBits]
    have h1 : (stepBits L x).length ≤ 20 := by
      have hx := hs x (by simp)
      have hr : (rowOf L x.1.toNat).length ≤ 7 := by
        rw [rowOf_len]
        by_cases ht : x.1.toNat < L.length
        · rw [List.getD, List.getElem?_eq_getElem ht]
          have := hL L[x.1.toNat] (List.getElem_mem ht)
          show (L[x.1.toNat]).toNat ≤ 7
          omega
        · rw [List.getD, List.getElem?_eq_none (by omega)]; simp
      unfold stepBits
      rw [List.length_append, digits_len]
      omega
    have h2 := ih fun y hy => hs y (by simp [hy])
    rw [e, List.length_append, List.length_cons]
    omega

set_option maxRecDepth 100000 in
set_option maxHeartbeats 8000000 in
theorem tell_any (w : World) (B gw : Nat) (WA : Option Addr) (bits : List Bool) (LA DA : Option Addr) (ln lc dn dc : Nat) (lz dz : List Int)
    (hw : Wr w B gw WA bits) (hB : B ≤ w.heap.size) (hbl : bits.length ≤ 1000) (ho : OrdD w)
    (hl : Ints .i64 w LA ln lz) (hd : Ints .i64 w DA dn dz) (l1 : 257 ≤ ln) (l2 : ln ≤ 286) (d1 : 1 ≤ dn) (d2 : dn ≤ 30) (lf : fullB lz = true) (l256 : lz.getD 256 0 ≠ 0) (df : fullB dz = true ∨ loneB dz = true) (hzd : ∀ z ∈ dz, 0 ≤ z ∧ z ≤ 15) :
    Calls Tryd.prog 42 #[.pointer (some ⟨gw, 0, none⟩), .slice LA ln lc, .slice DA dn dc] w (TellPost w B gw WA bits lz dz) := by
  have HW := Lib.hid hw
  have HO := Lib.hid ho
  have HL := Lib.hid hl
  have HD := Lib.hid hd
  have HF : Hid (fullB lz = true ∧ lz.getD 256 0 ≠ 0 ∧ (fullB dz = true ∨ loneB dz = true) ∧ ∀ z ∈ dz, 0 ≤ z ∧ z ≤ 15) := ⟨lf, l256, df, hzd⟩
  have hLn := hl.len
  have hDn := hd.len
  clear hw ho hl hd lf l256 df hzd
  have HROW : Hid (∀ z ∈ lz ++ dz, 0 ≤ z ∧ z ≤ 15) := fun z hz => by
    rcases List.mem_append.1 hz with h | h
    · exact (full_parts HF.out.1).2.1 z h
    · exact HF.out.2.2.2 z h
  go_enter Tryd.func42, Tryd.ntmps42
  have hul : Upd [] w (w.alloc (.cells #[.slice LA ln lc, .slice DA dn dc] 61)) := (Upd.refl [] w).alloc _
  go_wp2_with fail
  refine (concatI_any _ 2 2 [⟨LA, ln, lc, lz⟩, ⟨DA, dn, dc, dz⟩] _ (seg2 w _ _ _) ?_ (by show ln + (dn + 0) ≤ _; omega) (by omega)).mono ?_
  · intro x hx
    simp only [List.mem_cons, List.not_mem_nil, or_false] at hx
    rcases hx with rfl | rfl
    · exact HL.out.upd hul (by simp)
    · exact HD.out.upd hul (by simp)
  rintro e w1 ⟨RA, rc, rfl, hR, hu1⟩
  have eS : sizes [⟨LA, ln, lc, lz⟩, ⟨DA, dn, dc, dz⟩] = ln + dn := by simp [sizes]
  have eZ : allZ [⟨LA, ln, lc, lz⟩, ⟨DA, dn, dc, dz⟩] = lz ++ dz := by simp [allZ]
  rw [eS, eZ] at hR
  rw [eS]
  have HU1 : Hid (Upd [] w w1) := hul.trans hu1
  have HR1 := Lib.hid (Ints.ofOwn hR)
  clear hR eS eZ hul hu1
  go_wp2_with fail
  refine (steps_any RA (ln + dn) rc (lz ++ dz) w1 HR1.out HROW.out (by omega) (by omega)).mono ?_
  rintro e w2 ⟨SA, sc, ss, rfl, hst, hsi, h16⟩
  have HSI := Lib.hid hsi
  clear hsi
  have HST := Lib.hid hst
  have HLO1 : Hid (w.heap.size ≤ w1.heap.size ∧ w1.heap.size ≤ w2.heap.size) := ⟨HU1.out.size, hst.upd.size⟩
  have H16' := Lib.hid h16
  have HU2 : Hid (Upd [] w w2) := HU1.out.trans hst.upd
  obtain ⟨M, hM⟩ : ∃ M, M = ss.length := ⟨_, rfl⟩
  have HM := Lib.hid hM
  have hM400 : M ≤ 400 := by have := hst.len; rw [List.length_append, hLn.out, hDn.out] at this; omega
  rw [← hM]
  clear hst h16 hM HR1 HU1
  go_wp2_with (at_make; refine wpList_mk rfl rfl w2.heap.size el_int 19 rfl rfl rfl rfl rfl (by omega) (by simp only [maxLen]; omega) (Nat.le_refl _) ?_; intro A3 w3 hown3 hu3 hob3; obtain ⟨b1, rfl, hb1, hblk⟩ := own_whole hown3 (by omega))
  have HB1 : Hid (w2.heap.size ≤ b1) := hb1
  have HC0 : Hid (Blk w3 b1 3 ((cntK ss 0).map (Value.int .i64)).toArray ∧ Upd [] w2 w3) := ⟨by rw [cntK_zero, List.map_replicate]; exact hblk, hu3⟩
  clear hown3 hu3 hob3 hb1 hblk
  go_loopw [29] (fun v wr => ∃ k : Nat, k ≤ M ∧ v = .int .i64 k ∧ Hid (Blk wr b1 3 ((cntK ss k).map (Value.int .i64)).toArray ∧ Upd [] w2 wr)) (fun v _ => M - (intOf v).toNat)
  case atStart => exact ⟨0, by omega, rfl, HC0⟩
  case round =>
    clear HC0
    obtain ⟨k, hk, rfl, HC⟩ := hrel
    by_cases hlt : k < M
    · have hkp : k < ss.length := by rw [← HM.out]; exact hlt
      obtain ⟨x, hx⟩ : ∃ x, ss[k]? = some x := ⟨_, List.getElem?_eq_getElem hkp⟩
      obtain ⟨hc1, hc2, hc3⟩ := scells_get hx
      have hsw := HST.out.own.seg.upd HC.out.2 (by omega) (by simp)
      have p0 := hsw.cell _ _ hc1
      have p1 := hsw.cell _ _ hc2
      have p2 := hsw.cell _ _ hc3
      rw [← Nat.add_assoc] at p1 p2
      have ix := hsw.index el_step sc .i64 k hkp
      rw [← HM.out] at ix
      have hmem := StepsOk.mem HST.out.ok x (List.mem_of_getElem? hx)
      have HX := Lib.hid hx
      obtain ⟨x1, x2, x3⟩ := x
      simp only at p0 p1 p2 hmem
      clear hsw hc1 hc2 hc3 hkp hx
      go_upto_region 5 with (fail)
      obtain ⟨w4, hw4⟩ : ∃ w4 : World, w4 = wr.alloc (.cells #[.int .i64 x1, .int .i64 x2, .int .i64 x3] 122) := ⟨_, rfl⟩
      obtain ⟨g9, hg9⟩ : ∃ g9, g9 = wr.heap.size := ⟨_, rfl⟩
      rw [← hw4, ← hg9]
      have hu4 : Upd [] wr w4 := by rw [hw4]; exact (Upd.refl _ _).alloc _
      have HK4 : Hid (Blk w4 g9 122 #[.int .i64 x1, .int .i64 x2, .int .i64 x3]) := by rw [hw4, hg9]; exact Blk.new _ _ _
      have HC4 : Hid (Blk w4 b1 3 ((cntK ss k).map (Value.int .i64)).toArray ∧ Upd [] w2 w4) := ⟨HC.out.1.upd hu4 (by simp), HC.out.2.trans hu4⟩
      clear hu4 hw4 hg9 p0 p1 p2 ix HC
      have e0 := HK4.out.cell 0
      simp at e0
      obtain ⟨s, rfl⟩ := Int.eq_ofNat_of_zero_le hmem.1
      have hs : s < 19 := by omega
      obtain ⟨v, hv⟩ : ∃ v, (cntK ss k)[s]? = some v := ⟨_, List.getElem?_eq_getElem (by rw [cntK_len]; exact hs)⟩
      have hvb := cntK_bd ss k v (List.mem_of_getElem? hv)
      rw [← HM.out] at hvb
      have cv := blk_cellI HC4.out.1 hv
      have fv := HC4.out.1.frozen s
      have iv := blk_index b1 19 .i64 (s : Int) s rfl hs
      have HSTEP : Hid (Blk (w4.setCell ⟨b1, s, none⟩ (.int .i64 (v + 1))) b1 3 ((cntK ss (k + 1)).map (Value.int .i64)).toArray ∧ Upd [] w2 (w4.setCell ⟨b1, s, none⟩ (.int .i64 (v + 1)))) := by
        refine ⟨?_, HC4.out.2.put HB1.out _⟩
        have := blk_setI HC4.out.1 s (v + 1)
        rw [cntK_step HX.out rfl hv] at this
        exact this
      clear hv hmem
      go_wp2
      go_roundw
      case rel => exact ⟨k + 1, by omega, by go_num, HSTEP⟩
      case measure => simp [intOf]; omega
    · obtain rfl : k = M := by omega
      have HCT : Hid (Ints .i64 wr (some ⟨b1, 0, none⟩) 19 (cntK ss ss.length) ∧ Upd [] w2 wr) := by
        refine ⟨?_, HC.out.2⟩
        have := HC.out.1.seg
        rw [← HM.out]
        simp only [List.size_toArray, List.length_map, cntK_len] at this
        exact this
      clear HC
      have HBL : Hid (badL (cntK ss ss.length) 7 = 0) := by
        refine badL_fits (by rw [cntK_len]; omega) (fun z hz => ?_) (by omega) (by omega) (by rw [cntK_len]; decide)
        have := cntK_bd ss _ z hz
        have := HM.out
        omega
      go_wp2_with fail
      refine (lengths_any (some ⟨b1, 0, none⟩) 19 19 (cntK ss ss.length) 7 wr HCT.out.1).mono ?_
      rintro e w5 (⟨hb, _⟩ | ⟨_, TA, tc, L, rfl, hoL, hL, hu5⟩)
      · exact absurd HBL.out hb
      have HTELL := Lib.hid (tellOk_mk (lz := lz) (dz := dz) (ss := ss) (L := L) (by rw [hLn.out]; exact l1) (by rw [hLn.out]; exact l2) (by rw [hDn.out]; exact d1) (by rw [hDn.out]; exact d2) HF.out.1 HF.out.2.1 HF.out.2.2.1 HST.out.ok (by rw [HST.out.ex, List.take_length]) H16'.out hL)
      have HLF : Hid (L = lensF (cntK ss ss.length) 7) := hL.eq
      have HU5 : Hid (Upd [] w2 w5) := HCT.out.2.trans hu5
      have HTA := Lib.hid (hoL.monoB HCT.out.2.size)
      clear hoL hL hu5 HCT HBL
      go_wp2_with fail
      refine (codes_ok TA 19 tc L w5 (Ints.ofOwn HTA.out) (full_parts HTELL.out.2.2.1).2.2.2).mono ?_
      rintro e w6 ⟨C, cc, rfl, hC, hu6⟩
      have HC6 := Lib.hid (hC.monoB HU5.out.size)
      have HU6 : Hid (Upd [] w2 w6) := HU5.out.trans hu6
      have HTA6 := Lib.hid (HTA.out.upd hu6 (by simp))
      clear hC hu6 HTA HU5
      have HGL : Hid (0 < w.heap.size) := HO.out.low
      go_wp2_with (first | (at_make; refine wpList_mk rfl rfl w6.heap.size el_int 19 rfl rfl rfl rfl rfl (by omega) (by simp only [maxLen]; omega) (Nat.le_refl _) ?_; intro A7 w7 hown7 hu7 hob7; obtain ⟨b2, rfl, hb2, hblk⟩ := own_whole hown7 (by omega); have HO7 : Hid (OrdD w7) := (((HO.out.upd HU2.out (by simp)).upd HU6.out (by simp)).upd hu7 (by simp))) | (refine wpList_order (by rfl) (by rfl) HO7.out ?_))
      have HB2 : Hid (w6.heap.size ≤ b2) := hb2
      have HR0 : Hid (Blk w7 b2 3 ((ordK L 0).map (Value.int .i64)).toArray ∧ Upd [] w6 w7) := ⟨by rw [ordK_zero, List.map_replicate]; exact hblk, hu7⟩
      clear hown7 hu7 hob7 hb2 hblk HO7
      go_loopw [53] (fun v wr => ∃ k : Nat, k ≤ 19 ∧ v = .int .i64 k ∧ Hid (Blk wr b2 3 ((ordK L k).map (Value.int .i64)).toArray ∧ Upd [] w6 wr)) (fun v _ => 19 - (intOf v).toNat)
      case atStart => exact ⟨0, by omega, rfl, HR0⟩
      case round =>
        clear HR0
        obtain ⟨q, hq, rfl, HR⟩ := hrel
        by_cases hlq : q < 19
        · obtain ⟨o, ho⟩ : ∃ o, o = orderL.getD q 0 := ⟨_, rfl⟩
          have ho19 : o < 19 := by rw [ho]; exact ord_lt q hlq
          have hio : ∀ W : World, (Instr.index 123 (.agg ordC.toArray) (.int .i64 q)).run Tryd.prog W = .ok (.int .i64 o) W := fun W => by rw [ho]; exact index_ordC q hlq W
          have hTA := (HTA6.out.upd HR.out.2 (by simp))
          obtain ⟨x, HX, cx⟩ := (Ints.ofOwn hTA).int ho19
          have ix := (Ints.ofOwn hTA).index el_int tc .i64 o ho19
          have HXV : Hid (L.getD (orderL.getD q 0) 0 = x) := by show _ = _; rw [← ho]; exact getD_of HX.out
          obtain ⟨y, hy⟩ : ∃ y, (ordK L q)[q]? = some y := ⟨_, List.getElem?_eq_getElem (by rw [ordK_len]; exact hlq)⟩
          have cy := blk_cellI HR.out.1 hy
          have fy := HR.out.1.frozen q
          have iy := blk_index b2 19 .i64 (q : Int) q rfl hlq
          have HSTEP : Hid (Blk (wr.setCell ⟨b2, q, none⟩ (.int .i64 x)) b2 3 ((ordK L (q + 1)).map (Value.int .i64)).toArray ∧ Upd [] w6 (wr.setCell ⟨b2, q, none⟩ (.int .i64 x))) := by
            refine ⟨?_, HR.out.2.put HB2.out _⟩
            have := blk_setI HR.out.1 q x
            rw [ordK_step L hlq HXV.out] at this
            exact this
          clear hy hTA ho HX
          go_wp2
          go_roundw
          case rel => exact ⟨q + 1, by omega, by go_num, HSTEP⟩
          case measure => simp [intOf]; omega
        · obtain rfl : q = 19 := by omega
          have HOR : Hid (Ints .i64 wr (some ⟨b2, 0, none⟩) 19 (orderedOf L)) := by
            have := HR.out.1.seg
            rw [← ordK_all]
            simp only [List.size_toArray, List.length_map, ordK_len] at this
            exact this
          have HU8 : Hid (Upd [] w wr) := (HU2.out.trans HU6.out).trans HR.out.2
          have HC8 := Lib.hid (HC6.out.upd HR.out.2 (by simp))
          have HT8 := Lib.hid (HTA6.out.upd HR.out.2 (by simp))
          have HS8 : Hid (Seg wr 3 SA ss.length (scells ss)) := HST.out.own.seg.upd (HU6.out.trans HR.out.2) (by omega) (by simp)
          have HLO : Hid (w.heap.size ≤ w2.heap.size ∧ w2.heap.size ≤ w6.heap.size) := ⟨HU2.out.size, HU6.out.size⟩
          clear HR
          obtain ⟨cn, hcn⟩ : ∃ cn, cn = toldN (orderedOf L) 4 := ⟨_, rfl⟩
          have HCN := Lib.hid hcn
          have hcn4 : 4 ≤ cn := by rw [hcn]; exact HTELL.out.1.c1
          have hcn19 : cn ≤ 19 := by rw [hcn]; exact HTELL.out.1.c2
          have HTD : Hid (Calls Tryd.prog 78 #[.slice (some ⟨b2, 0, none⟩) 19 19, .int .i64 4] wr fun e w' => e = .returned (.int .i64 cn) ∧ wr = w') := by
            rw [hcn]
            exact told_any _ 19 19 (orderedOf L) 4 wr HOR.out (by omega) (by omega) (by omega)
          clear hcn
          have cut := run_cut_h el_int (some ⟨b2, 0, none⟩) 19 19 .i64 (cn : Int) cn rfl hcn19
          go_wp2_with (first | (go_at_call 78; refine HTD.out.mono ?_; rintro e w' ⟨rfl, rfl⟩) | fail)
          obtain ⟨w8, rfl⟩ : ∃ w8, w8 = wr := ⟨wr, rfl⟩
          have HTW : Hid (WAt w8 w8 B gw WA WA bits) := WAt.start (HW.out.upd HU8.out (by simp) (by simp)) (by have := HU8.out.size; omega)
          have AS : Hid (Apart gw WA SA ss.length) := own_apart HW.out HST.out.own HLO1.out.1
          have AC : Hid (Apart gw WA C 19) := own_apart HW.out HC6.out HLO.out.1
          have AT : Hid (Apart gw WA TA 19) := own_apart HW.out HTA6.out HLO.out.1
          have AO : Hid (Apart gw WA (some ⟨b2, 0, none⟩) 19) := new_apart HW.out (by have := HB2.out; have := HLO.out; omega)
          have HCI : Hid (Ints .i64 w8 C 19 (tab L.length (codeOf L))) := Ints.ofOwn HC8.out
          have HTI : Hid (Ints .i64 w8 TA 19 L) := Ints.ofOwn HT8.out
          clear HTD HW HC6 HC8 HTA6 HT8 HO HGL HB2 HLO1
          refine (put_at HTW.out (by omega) ((ln : Int) - 257) 5 (by omega) (by omega)).mono ?_
          rintro e w9 ⟨rfl, W9, hT9, -⟩
          have HT9 := Lib.hid hT9
          clear hT9 HTW
          go_wp2_with fail
          refine (put_at HT9.out (by rw [List.length_append, digits_len]; simp; omega) ((dn : Int) - 1) 5 (by omega) (by omega)).mono ?_
          rintro e w10 ⟨rfl, W10, hT10, -⟩
          have HT10 := Lib.hid hT10
          clear hT10 HT9
          go_wp2_with fail
          refine (put_at HT10.out (by rw [List.length_append, List.length_append, digits_len, digits_len]; simp; omega) ((cn : Int) - 4) 4 (by omega) (by omega)).mono ?_
          rintro e w11 ⟨rfl, W11, hT11, -⟩
          obtain ⟨X3, hX3⟩ : ∃ X3, X3 = bits ++ digits ((ln : Int) - 257) (5 : Int).toNat ++ digits ((dn : Int) - 1) (5 : Int).toNat ++ digits ((cn : Int) - 4) (4 : Int).toNat := ⟨_, rfl⟩
          rw [← hX3] at hT11
          have hx3l : X3.length ≤ 1100 := by rw [hX3]; simp only [List.length_append, digits_len]; show _ + 5 + 5 + 4 ≤ _; omega
          have HX3 := Lib.hid hX3
          have HT11 := Lib.hid hT11
          clear hT11 HT10 hX3
          have HCO : Hid (∀ z ∈ orderedOf L, 0 ≤ z ∧ z ≤ 7) := ordered_bd HTELL.out.2.2.2
          go_wp2
          go_loopw [86] (fun v wx => ∃ (q : Nat) (WB : Option Addr), q ≤ cn ∧ v = .int .i64 q ∧ Hid (WAt w8 wx B gw WA WB (X3 ++ ((orderedOf L).take q).flatMap fun z => digits z 3))) (fun v _ => cn - (intOf v).toNat)
          case atStart => exact ⟨0, W11, by omega, rfl, by simp only [List.take_zero, List.flatMap_nil, List.append_nil]; exact HT11⟩
          case round =>
            clear HT11
            obtain ⟨q, WB, hq, rfl, HT⟩ := hrel
            have hfl : ((((orderedOf L).take q).flatMap fun z => digits z 3)).length = 3 * q := by
              rw [flat3_len, List.length_take, orderedOf_len]
              omega
            by_cases hlq : q < cn
            · have hin := ((HT.out.ints HOR.out AO.out).pre (k := cn) hcn19)
              obtain ⟨x, HX, cx⟩ := hin.int hlq
              have ix := hin.index el_int 19 .i64 q hlq
              have hxo : (orderedOf L)[q]? = some x := by have := HX.out; rw [List.getElem?_take_of_lt hlq] at this; exact this
              have hxb := HCO.out x (List.mem_of_getElem? hxo)
              have HXO := Lib.hid hxo
              have hx3q : (X3 ++ ((orderedOf L).take q).flatMap fun z => digits z 3).length ≤ 2000 := by rw [List.length_append, hfl]; omega
              clear hin HX hxo hfl
              go_wp2_with fail
              refine (put_at HT.out (by omega) x 3 (by omega) (by omega)).mono ?_
              rintro e w12 ⟨rfl, W12, hT12, -⟩
              have HT12 : Hid (WAt w8 w12 B gw WA W12 (X3 ++ ((orderedOf L).take (q + 1)).flatMap fun z => digits z 3)) := by
                show WAt _ _ _ _ _ _ _
                rw [takeI_snoc HXO.out, List.flatMap_append, List.flatMap_singleton, ← List.append_assoc]
                exact hT12
              clear hT12 HT
              go_wp2
              go_roundw
              case rel => exact ⟨q + 1, W12, by omega, by go_num, HT12⟩
              case measure => simp [intOf]; omega
            · obtain rfl : q = cn := by omega
              obtain ⟨X4, hX4⟩ : ∃ X4, X4 = X3 ++ ((orderedOf L).take q).flatMap fun z => digits z 3 := ⟨_, rfl⟩
              rw [← hX4] at HT
              have hx4l : X4.length ≤ 2000 := by rw [hX4, List.length_append, hfl]; omega
              have HX4 := Lib.hid hX4
              clear hX4 hfl
              go_wp2
              go_loopw [96] (fun v wx => ∃ (r : Nat) (WB : Option Addr), r ≤ k ∧ v = .int .i64 r ∧ Hid (WAt w8 wx B gw WA WB (X4 ++ stepsBits L (ss.take r)))) (fun v _ => k - (intOf v).toNat)
              case atStart => exact ⟨0, WB, by omega, rfl, by simp only [List.take_zero, stepsBits, List.flatMap_nil, List.append_nil]; exact HT⟩
              case round =>
                clear HT
                obtain ⟨r, WD, hr, rfl, HT⟩ := hrel
                have HLB : Hid ((X4 ++ stepsBits L (ss.take r)).length ≤ 20000) := by
                  have h1 := stepsBits_len HTELL.out.2.2.2 (ss.take r) fun x hx => StepsOk.bits HST.out.ok x (List.mem_of_mem_take hx)
                  rw [List.length_take] at h1
                  show _ ≤ _
                  rw [List.length_append]
                  have := HM.out
                  omega
                by_cases hlr : r < k
                · have hkp : r < ss.length := by rw [← HM.out]; exact hlr
                  obtain ⟨x, hx⟩ : ∃ x, ss[r]? = some x := ⟨_, List.getElem?_eq_getElem hkp⟩
                  obtain ⟨hc1, hc2, hc3⟩ := scells_get hx
                  have hsw := HT.out.seg (by omega) HS8.out AS.out
                  have p0 := hsw.cell _ _ hc1
                  have p1 := hsw.cell _ _ hc2
                  have p2 := hsw.cell _ _ hc3
                  rw [← Nat.add_assoc] at p1 p2
                  have ix := hsw.index el_step sc .i64 r hkp
                  rw [← HM.out] at ix
                  have hmem := StepsOk.mem HST.out.ok x (List.mem_of_getElem? hx)
                  have hbit := StepsOk.bits HST.out.ok x (List.mem_of_getElem? hx)
                  have HBK : Hid (stepsBits L (ss.take (r + 1)) = stepsBits L (ss.take r) ++ stepBits L x) := by show _ = _; rw [takeS_snoc hx, stepsBits_snoc]
                  obtain ⟨X, hX⟩ : ∃ X, X = X4 ++ stepsBits L (ss.take r) := ⟨_, rfl⟩
                  rw [← hX] at HT HLB
                  have HX := Lib.hid hX
                  have hxl : X.length ≤ 20000 := HLB.out
                  obtain ⟨x1, x2, x3⟩ := x
                  simp only at p0 p1 p2 hmem hbit
                  clear hsw hc1 hc2 hc3 hkp hx hX HLB
                  go_upto_region 27 with (fail)
                  obtain ⟨w13, hw13⟩ : ∃ w13 : World, w13 = wr.alloc (.cells #[.int .i64 x1, .int .i64 x2, .int .i64 x3] 122) := ⟨_, rfl⟩
                  obtain ⟨g20, hg20⟩ : ∃ g20, g20 = wr.heap.size := ⟨_, rfl⟩
                  rw [← hw13, ← hg20]
                  have hu13 : Upd [] wr w13 := by rw [hw13]; exact (Upd.refl _ _).alloc _
                  have HK13 : Hid (Blk w13 g20 122 #[.int .i64 x1, .int .i64 x2, .int .i64 x3]) := by rw [hw13, hg20]; exact Blk.new _ _ _
                  have HT13 := Lib.hid (HT.out.calm hu13)
                  clear hu13 hw13 hg20 p0 p1 p2 ix HT
                  have e0 := HK13.out.cell 0
                  simp at e0
                  obtain ⟨s, rfl⟩ := Int.eq_ofNat_of_zero_le hmem.1
                  have hs : s < 19 := by omega
                  obtain ⟨lv, HLV, cl⟩ := (HT13.out.ints HTI.out AT.out).int hs
                  obtain ⟨cv, HCV, ck⟩ := (HT13.out.ints HCI.out AC.out).int hs
                  have hlvb := HTELL.out.2.2.2 lv (List.mem_of_getElem? HLV.out)
                  have HLD : Hid (L.getD s 0 = lv) := getD_of HLV.out
                  have HCE : Hid (cv = codeOf L s) := by
                    have := HCV.out
                    rw [tab_get _ (by rw [HTELL.out.2.1]; exact hs)] at this
                    injection this with this
                    exact this.symm
                  have il := HTI.out.index el_int tc .i64 s hs
                  have ic := HCI.out.index el_int cc .i64 s hs
                  clear HLV HCV hmem
                  go_still_tail 11, (by kernel_rfl)
                  change wpList _ _ _ _ _ w13.drew
                  have HT14 : Hid (WAt w8 w13.drew B gw WA WD X) := HT13.out.calm ((Upd.refl _ _).drew)
                  have HK14 : Hid (Blk w13.drew g20 122 #[.int .i64 s, .int .i64 x2, .int .i64 x3]) := HK13.out
                  have cl' : w13.drew.cell? ⟨bl TA, ofs TA + s, none⟩ = some (.int .i64 lv) := cl
                  have ck' : w13.drew.cell? ⟨bl C, ofs C + s, none⟩ = some (.int .i64 cv) := ck
                  have e0' : w13.drew.cell? ⟨g20, 0, none⟩ = some (.int .i64 s) := e0
                  generalize w13.drew = w14 at HT14 HK14 cl' ck' e0' ⊢
                  clear HT13 HK13 cl ck e0
                  go_wp2_with fail
                  refine (code_at HT14.out (by omega) HCE.out HLD.out hlvb.1 (by omega)).mono ?_
                  rintro e w15 ⟨rfl, W15, hT15, hv15⟩
                  have HK15 := Lib.hid (HT14.out.blk HK14.out hv15 (by decide) (by decide))
                  have HT15 := Lib.hid hT15
                  have hrl : (rowOf L s).length ≤ 7 := by rw [rowOf_len, HLD.out]; omega
                  have e1 := HK15.out.cell 1
                  have e2 := HK15.out.cell 2
                  simp at e1 e2
                  clear hT15 hv15 HT14 HK14 cl' ck' e0'
                  go_wp2_with fail
                  refine (put_at HT15.out (by rw [List.length_append]; omega) x2 x3 (by omega) (by omega)).mono ?_
                  rintro e w16 ⟨rfl, W16, hT16, -⟩
                  have HT16 : Hid (WAt w8 w16 B gw WA W16 (X4 ++ stepsBits L (ss.take (r + 1)))) := by
                    show WAt _ _ _ _ _ _ _
                    rw [HBK.out]
                    unfold stepBits
                    simp only [Int.toNat_natCast]
                    rw [← List.append_assoc, ← List.append_assoc, ← HX.out]
                    exact hT16
                  clear hT16 HT15 HK15 e1 e2
                  go_wp2
                  go_roundw
                  case rel => exact ⟨r + 1, W16, by omega, by go_num, HT16⟩
                  case measure => simp [intOf]; omega
                · obtain rfl : r = k := by omega
                  go_wp2
                  go_end0
                  refine ⟨rfl, WD, L, q, ss, ⟨by rw [HCN.out]; exact HTELL.out.1, HSI.out, HLF.out, HCN.out⟩, ?_⟩
                  have hT := HT.out
                  rw [List.take_of_length_le (by rw [← HM.out]; exact Nat.le_refl _), HX4.out, HX3.out] at hT
                  have e : bits ++ tellBits lz dz L q ss = bits ++ digits ((ln : Int) - 257) (5 : Int).toNat ++ digits ((dn : Int) - 1) (5 : Int).toNat ++ digits ((q : Int) - 4) (4 : Int).toNat ++ (((orderedOf L).take q).flatMap fun z => digits z 3) ++ stepsBits L ss := by
                    unfold tellBits
                    rw [hLn.out, hDn.out]
                    simp only [List.append_assoc]
                    rfl
                  rw [e]
                  exact ⟨hT.wri, HU8.out.mono (by simp) |>.trans hT.upd, fun b hb => by rcases hT.fresh b hb with h | h; exact Or.inl h; right; have := HU8.out.size; omega, hB⟩

end Go.Proofs.YtolcdlopgbgilaaDoor

/-! Text DefM. -/
namespace Go.Proofs.YtolcdlopgbgilaaDoor
open Go.RowKit Go.Dray

set_option maxRecDepth 100000 in
set_option maxHeartbeats 1000000 in
theorem align_go {w : World} {g n c : Nat} {A : Option Addr} {K : Int} (hb : Blk w g 107 #[.slice A n c, .int .i64 K]) (hn : n ≤ 100000000000) :
    Calls Tryd.prog 66 #[.pointer (some ⟨g, 0, none⟩)] w fun e w' => e = .returned (.tuple #[]) ∧ w' = w.setCell ⟨g, 1, none⟩ (.int .i64 (8 * (n : Int))) := by
  have c0 := hb.cell 0
  have c1 := hb.cell 1
  have f1 := hb.frozen 1
  simp at c0 c1
  clear hb
  go_enter Tryd.func66, Tryd.ntmps66
  go_wp2
  go_end0
  exact ⟨rfl, rfl⟩

theorem fill_al {bs : List Bool} (h : bs.length % 8 = 0) : fill bs = bs := by
  unfold fill
  rw [show 8 * ((bs.length + 7) / 8) - bs.length = 0 from by omega]
  simp
theorem Wr.mk_bytes {w : World} {B g : Nat} {A : Option Addr} {n c : Nat} {ys : List Int} (hb : Blk w g 107 #[.slice A n c, .int .i64 (8 * (n : Int))]) (ho : Own w B 5 1 A n c (ys.map (Value.int .u8))) (hy : ∀ z ∈ ys, 0 ≤ z ∧ z ≤ 255) : Wr w B g A (bitsOf ys) := by
  have hl := ho.len
  rw [List.length_map] at hl
  refine ⟨n, c, ?_, by rw [pack_bits hy]; exact ho⟩
  rw [bitsOf_len, hl, Nat.mul_one, show ((8 * n : Nat) : Int) = 8 * (n : Int) from by omega]
  exact hb

theorem walign_any (w : World) (B g : Nat) (A : Option Addr) (bs : List Bool) (hl : bs.length ≤ 100000000000) (h : Wr w B g A bs) :
    Calls Tryd.prog 66 #[.pointer (some ⟨g, 0, none⟩)] w (WrPost w B g A (fill bs)) := by
  obtain ⟨n, c, hb, ho⟩ := h
  have hn := ho.len
  rw [List.length_map, pack_len, Nat.mul_one] at hn
  refine (align_go hb (by omega)).mono ?_
  rintro e w' ⟨rfl, rfl⟩
  refine ⟨rfl, A, ?_, (Upd.refl _ w).putIn (by simp) _, fun g hg => Or.inl hg⟩
  rw [← fill_pack]
  refine Wr.mk_bytes (c := c) (n := n) (hb.set 1 _) (ho.far (p := ⟨g, 1, none⟩) (ho.neBlk hb (by decide)) _) (pack_bd bs)

set_option maxRecDepth 100000 in
set_option maxHeartbeats 1000000 in
theorem raw_any (w : World) (B g : Nat) (A : Option Addr) (bs : List Bool) (hl : bs.length ≤ 1000000000) (hal : bs.length % 8 = 0) (hB : B ≤ w.heap.size) (h : Wr w B g A bs) (S : Option Addr) (m cs : Nat) (zs : List Int) (hs : Ints .u8 w S m zs) (hz : ∀ z ∈ zs, 0 ≤ z ∧ z ≤ 255) (hm : m ≤ 1000000000) :
    Calls Tryd.prog 67 #[.pointer (some ⟨g, 0, none⟩), .slice S m cs] w (WrPost w B g A (bs ++ bitsOf zs)) := by
  obtain ⟨n, c, hb, ho⟩ := h
  have hn := ho.len
  rw [List.length_map, pack_len, Nat.mul_one] at hn
  have HO := Lib.hid ho
  have HB := Lib.hid hb
  have HS := Lib.hid hs
  have HZ := Lib.hid hz
  have HE : Hid (bs ++ bitsOf zs = bitsOf (pack bs ++ zs)) := by show _ = _; rw [bitsOf_app, fill_pack, fill_al hal]
  have HP : Hid (∀ z ∈ pack bs ++ zs, 0 ≤ z ∧ z ≤ 255) := fun z hz' => by
    rcases List.mem_append.1 hz' with h | h
    · exact pack_bd bs z h
    · exact hz z h
  have hnb : n ≤ 1000000000 := by omega
  have c0 := hb.cell 0
  simp at c0
  clear ho hb hs hz hn hal hl
  go_enter Tryd.func67, Tryd.ntmps67
  go_wp2_with (first | (at_builtin; refine wpList_app rfl rfl el_byte rfl HO.out rfl HS.out (ints_one _ _) (by simp only [maxLen]; omega) (by omega) hB ?_; intro A1 c1 w1 hown1 hu1 hfr1; have HB1 := Lib.hid (HB.out.upd hu1 (by simp; exact fun e => HO.out.neBlk HB.out (by decide) e.symm)); have k0 := HB1.out.cell 0; have kf := HB1.out.frozen 0; simp at k0) | fail)
  have HO2 : Hid (Own (w1.setCell ⟨g, 0, none⟩ (.slice A1 (n + m) c1)) B 5 1 A1 (n + m) c1 ((pack bs ++ zs).map (Value.int .u8))) := by
    show Own _ _ _ _ _ _ _ _
    rw [List.map_append]
    exact hown1.far (p := ⟨g, 0, none⟩) (hown1.neBlk HB1.out (by decide)) _
  have HB2 : Hid (Blk (w1.setCell ⟨g, 0, none⟩ (.slice A1 (n + m) c1)) g 107 #[.slice A1 (n + m) c1, .int .i64 bs.length]) := HB1.out.set 0 _
  have HU2 : Hid (Upd [some g, ob A] w (w1.setCell ⟨g, 0, none⟩ (.slice A1 (n + m) c1))) := (hu1.mono (by simp; intro b hb; exact Or.inr hb)).putIn (by simp) _
  have HFR := Lib.hid hfr1
  generalize w1.setCell ⟨g, 0, none⟩ (.slice A1 (n + m) c1) = w2 at HO2 HB2 HU2 ⊢
  clear HB1 k0 kf hown1 hu1 hfr1
  refine (align_go HB2.out (by omega)).mono ?_
  rintro e w3 ⟨rfl, hw3⟩
  have HW3 := Lib.hid hw3
  clear hw3
  go_wp2
  go_end0
  refine ⟨rfl, A1, ?_, ?_, HFR.out⟩
  · rw [HE.out, HW3.out]
    exact Wr.mk_bytes (HB2.out.set 1 _) (HO2.out.far (p := ⟨g, 1, none⟩) (HO2.out.neBlk HB2.out (by decide)) _) HP.out
  · rw [HW3.out]
    exact HU2.out.putIn (by simp) _

theorem align_at {w wr : World} {B gw : Nat} {WA WB : Option Addr} {bits : List Bool} (h : WAt w wr B gw WA WB bits) (hl : bits.length ≤ 100000000) :
    Calls Tryd.prog 66 #[.pointer (some ⟨gw, 0, none⟩)] wr (StepWr w wr B gw WA WB (fill bits)) := by
  refine (walign_any wr B gw WB bits (by omega) h.wri).mono ?_
  rintro e w' ⟨rfl, WC, hw, hv, hf⟩
  exact ⟨rfl, WC, h.next hw hv hf, hv⟩
theorem raw_at {w wr : World} {B gw : Nat} {WA WB : Option Addr} {bits : List Bool} (h : WAt w wr B gw WA WB bits) (hl : bits.length ≤ 100000000) (hal : bits.length % 8 = 0) (S : Option Addr) (m cs : Nat) (zs : List Int) (hs : Ints .u8 wr S m zs) (hz : ∀ z ∈ zs, 0 ≤ z ∧ z ≤ 255) (hm : m ≤ 1000000000) :
    Calls Tryd.prog 67 #[.pointer (some ⟨gw, 0, none⟩), .slice S m cs] wr (StepWr w wr B gw WA WB (bits ++ bitsOf zs)) := by
  refine (raw_any wr B gw WB bits (by omega) hal (by have := h.bw; have := h.upd.size; omega) h.wri S m cs zs hs hz hm).mono ?_
  rintro e w' ⟨rfl, WC, hw, hv, hf⟩
  exact ⟨rfl, WC, h.next hw hv hf, hv⟩

theorem stAll_len (f : Nat) : ∀ b : List Int, b.length < f → (stAll f b).length ≤ 2 * b.length + 5 := by
  induction f with
  | zero => intro b h; omega
  | succ f ih =>
    intro b h
    rw [stAll]
    split
    · rw [stOne_len]; omega
    · rename_i hb
      rw [List.length_append, stOne_len, List.length_take]
      have := ih (b.drop 65535) (by rw [List.length_drop]; omega)
      rw [List.length_drop] at this
      omega

/-- The state of store between two blocks. -/
def StoreAt (w wr : World) (B gw : Nat) (WA : Option Addr) (xs : List Int) (last : Int) (A1 : Option Addr) (m : Nat) : Prop :=
  ∃ (WB : Option Addr) (ys rest : List Int), WAt w wr B gw WA WB (bitsOf ys) ∧ rest.length = m ∧
    ((last = 0 ∧ Ints .u8 w A1 m rest ∧ Apart gw WA A1 m ∧ (∀ z ∈ rest, 0 ≤ z ∧ z ≤ 255) ∧ ∃ f, m < f ∧ ys ++ stAll f rest = stAll (xs.length + 1) xs) ∨ (last = 1 ∧ ys = stAll (xs.length + 1) xs))

set_option maxRecDepth 100000 in
set_option maxHeartbeats 4000000 in
theorem store_any (w : World) (B gw : Nat) (WA : Option Addr) (hw : Wr w B gw WA []) (hB : B ≤ w.heap.size) (A : Option Addr) (n c : Nat) (xs : List Int) (hs : Ints .u8 w A n xs) (hz : ∀ z ∈ xs, 0 ≤ z ∧ z ≤ 255) (hnc : n ≤ c) (hn : n ≤ 1000000) (ha : Apart gw WA A n) :
    Calls Tryd.prog 36 #[.pointer (some ⟨gw, 0, none⟩), .slice A n c] w (WritePost w B gw WA (bitsOf (stAll (xs.length + 1) xs))) := by
  have HT0 : Hid (WAt w w B gw WA WA []) := WAt.start hw hB
  have HL := hs.len
  have HST : Hid (StoreAt w w B gw WA xs 0 A n) := ⟨WA, [], xs, HT0.out, HL.out, Or.inl ⟨rfl, hs, ha, hz, xs.length + 1, by rw [HL.out]; omega, rfl⟩⟩
  clear hw hs hz ha HT0
  go_enter Tryd.func36, Tryd.ntmps36
  go_wp2
  go_loopw [1, 4] (fun vb vl wr => ∃ (last : Int) (A1 : Option Addr) (m c1 : Nat), vb = .slice A1 m c1 ∧ vl = .int .i64 last ∧ (last = 0 ∨ last = 1) ∧ m ≤ c1 ∧ m ≤ n ∧ Hid (StoreAt w wr B gw WA xs last A1 m)) (fun vb vl _ => if intOf vl = 0 then (match vb with | .slice _ m _ => m + 1 | _ => 0) else 0)
  case atStart => exact ⟨0, A, n, c, rfl, rfl, Or.inl rfl, hnc, Nat.le_refl _, HST⟩
  case round =>
    clear HST
    obtain ⟨last, A1, m, c1, rfl, rfl, hl01, hmc, hmn, HS⟩ := hrel
    rcases hl01 with rfl | rfl
    · obtain ⟨WB, ys, rest, hT, hlr, ⟨-, hI, hAp, hbd, f, hf, hst⟩ | ⟨h, _⟩⟩ := HS.out
      · have HT := Lib.hid hT
        have HI := Lib.hid hI
        have HAP := Lib.hid hAp
        have HBD := Lib.hid hbd
        have HSTE := Lib.hid hst
        have HYL : Hid (ys.length ≤ 2 * n + 5) := by
          have h1 := congrArg List.length hst
          have h2 := stAll_len (xs.length + 1) xs (by omega)
          rw [List.length_append] at h1
          have := HL.out
          show _ ≤ _
          omega
        have HLR := Lib.hid hlr
        obtain ⟨f', rfl⟩ : ∃ f', f = f' + 1 := ⟨f - 1, by omega⟩
        clear hT hI hAp hbd hst hlr HS
        by_cases hbig : m ≤ 65535
        · have m1 : (m : Int) ≤ 65535 := by omega
          go_wp2_with fail
          refine (put_at HT.out (by rw [bitsOf_len]; have := HYL.out; omega) 1 1 (by omega) (by omega)).mono ?_
          rintro e w2 ⟨rfl, W2, hT2, -⟩
          have HT2 := Lib.hid hT2
          clear hT2 HT
          go_wp2_with fail
          refine (put_at HT2.out (by rw [List.length_append, digits_len, bitsOf_len]; have := HYL.out; simp; omega) 0 2 (by omega) (by omega)).mono ?_
          rintro e w3 ⟨rfl, W3, hT3, -⟩
          have HT3 : Hid (WAt w w3 B gw WA W3 (bitsOf ys ++ digits 1 1 ++ digits 0 2)) := hT3
          clear hT3 HT2
          go_wp2_with fail
          refine (align_at HT3.out (by rw [List.length_append, List.length_append, digits_len, digits_len, bitsOf_len]; have := HYL.out; omega)).mono ?_
          rintro e w4 ⟨rfl, W4, hT4, -⟩
          rw [st_head ys (by simp)] at hT4
          have HT4 := Lib.hid hT4
          have HBL : Hid ((bitsOf (ys ++ [(1 : Int)])).length = 8 * (ys.length + 1)) := by show _ = _; rw [bitsOf_len, List.length_append]; rfl
          clear hT4 HT3
          go_wp2_with fail
          refine (put_at HT4.out (by rw [HBL.out]; have := HYL.out; omega) (m : Int) 16 (by omega) (by omega)).mono ?_
          rintro e w5 ⟨rfl, W5, hT5, -⟩
          have HT5 := Lib.hid hT5
          clear hT5 HT4
          go_wp2_with fail
          refine (put_at HT5.out (by rw [List.length_append, digits_len, HBL.out]; have := HYL.out; simp; omega) (65535 - (m : Int)) 16 (by omega) (by omega)).mono ?_
          rintro e w6 ⟨rfl, W6, hT6, -⟩
          have HT6 : Hid (WAt w w6 B gw WA W6 (bitsOf (ys ++ [(1 : Int)]) ++ digits ((m : Nat) : Int) 16 ++ digits (65535 - ((m : Nat) : Int)) 16)) := hT6
          clear hT6 HT5
          have cutH := run_cut_h el_byte A1 m c1 .i64 (m : Int) m rfl (by omega)
          go_wp2_with fail
          refine (raw_at HT6.out (by rw [List.length_append, List.length_append, digits_len, digits_len, HBL.out]; have := HYL.out; omega) (by rw [List.length_append, List.length_append, digits_len, digits_len, HBL.out]; omega) A1 m c1 rest (HT6.out.ints HI.out HAP.out) (HBD.out) (by omega)).mono ?_
          rintro e w7 ⟨rfl, W7, hT7, -⟩
          rw [st_nums ys 1 m (by omega)] at hT7
          have HT7 : Hid (WAt w w7 B gw WA W7 (bitsOf (ys ++ stOne 1 rest))) := by
            show WAt _ _ _ _ _ _ _
            unfold stOne
            rw [HLR.out]
            exact hT7
          clear hT7 HT6 HBL cutH
          have cutL := run_cut_l el_byte A1 m c1 .i64 (m : Int) m rfl (by omega)
          go_wp2
          go_roundw
          case rel => exact ⟨1, cutA 1 A1 c1 m, m - m, c1 - m, by simp, rfl, by simp, by omega, by omega, ⟨W7, ys ++ stOne 1 rest, [], HT7.out, by simp, Or.inr ⟨rfl, by rw [← HSTE.out, stAll, if_pos (by rw [HLR.out]; exact hbig)]⟩⟩⟩
          case measure => simp [intOf]
        · have m1 : (65535 : Int) < m := by omega
          have d1 : ((65535 : Int) == (m : Int)) = false := by simp; omega
          have HCUT : Hid (Ints .u8 w (cutA 1 A1 c1 65535) (m - 65535) (rest.drop 65535) ∧ Apart gw WA (cutA 1 A1 c1 65535) (m - 65535)) := by
            refine ⟨?_, fun hp => ?_⟩
            · have := HI.out.cut (lo := 65535) (hi := m) (c := c1) (by omega) (Nat.le_refl _) hmc
              rw [List.take_of_length_le (by rw [List.length_drop, HLR.out]; exact Nat.le_refl _)] at this
              exact this
            · rw [bl_cut]
              exact HAP.out (by omega)
          go_wp2_with fail
          refine (put_at HT.out (by rw [bitsOf_len]; have := HYL.out; omega) 0 1 (by omega) (by omega)).mono ?_
          rintro e w2 ⟨rfl, W2, hT2, -⟩
          have HT2 := Lib.hid hT2
          clear hT2 HT
          go_wp2_with fail
          refine (put_at HT2.out (by rw [List.length_append, digits_len, bitsOf_len]; have := HYL.out; simp; omega) 0 2 (by omega) (by omega)).mono ?_
          rintro e w3 ⟨rfl, W3, hT3, -⟩
          have HT3 : Hid (WAt w w3 B gw WA W3 (bitsOf ys ++ digits 0 1 ++ digits 0 2)) := hT3
          clear hT3 HT2
          go_wp2_with fail
          refine (align_at HT3.out (by rw [List.length_append, List.length_append, digits_len, digits_len, bitsOf_len]; have := HYL.out; omega)).mono ?_
          rintro e w4 ⟨rfl, W4, hT4, -⟩
          rw [st_head ys (by simp)] at hT4
          have HT4 := Lib.hid hT4
          have HBL : Hid ((bitsOf (ys ++ [(0 : Int)])).length = 8 * (ys.length + 1)) := by show _ = _; rw [bitsOf_len, List.length_append]; rfl
          clear hT4 HT3
          go_wp2_with fail
          refine (put_at HT4.out (by rw [HBL.out]; have := HYL.out; omega) 65535 16 (by omega) (by omega)).mono ?_
          rintro e w5 ⟨rfl, W5, hT5, -⟩
          have HT5 := Lib.hid hT5
          clear hT5 HT4
          go_wp2_with fail
          refine (put_at HT5.out (by rw [List.length_append, digits_len, HBL.out]; have := HYL.out; simp; omega) 0 16 (by omega) (by omega)).mono ?_
          rintro e w6 ⟨rfl, W6, hT6, -⟩
          have HT6 : Hid (WAt w w6 B gw WA W6 (bitsOf (ys ++ [(0 : Int)]) ++ digits ((65535 : Nat) : Int) 16 ++ digits (65535 - ((65535 : Nat) : Int)) 16)) := hT6
          clear hT6 HT5
          have cutH := run_cut_h el_byte A1 m c1 .i64 65535 65535 rfl (by omega)
          go_wp2_with fail
          refine (raw_at HT6.out (by rw [List.length_append, List.length_append, digits_len, digits_len, HBL.out]; have := HYL.out; omega) (by rw [List.length_append, List.length_append, digits_len, digits_len, HBL.out]; omega) A1 65535 c1 (rest.take 65535) ((HT6.out.ints HI.out HAP.out).pre (by omega)) (fun z hz => HBD.out z (List.mem_of_mem_take hz)) (by omega)).mono ?_
          rintro e w7 ⟨rfl, W7, hT7, -⟩
          rw [st_nums ys 0 65535 (by omega)] at hT7
          have HT7 : Hid (WAt w w7 B gw WA W7 (bitsOf (ys ++ stOne 0 (rest.take 65535)))) := by
            show WAt _ _ _ _ _ _ _
            unfold stOne
            rw [List.length_take, HLR.out, Nat.min_eq_left (by omega)]
            exact hT7
          clear hT7 HT6 HBL cutH
          have cutL := run_cut_l el_byte A1 m c1 .i64 65535 65535 rfl (by omega)
          go_wp2
          go_roundw
          case rel => exact ⟨0, cutA 1 A1 c1 65535, m - 65535, c1 - 65535, by simp, rfl, by simp, by omega, by omega, ⟨W7, ys ++ stOne 0 (rest.take 65535), rest.drop 65535, HT7.out, by rw [List.length_drop, HLR.out], Or.inl ⟨rfl, HCUT.out.1, HCUT.out.2, fun z hz => HBD.out z (List.mem_of_mem_drop hz), f', by omega, by rw [← HSTE.out, stAll, if_neg (by rw [HLR.out]; omega), List.append_assoc]⟩⟩⟩
          case measure => simp [intOf]; omega
      · exact absurd h (by decide)
    · obtain ⟨WB, ys, rest, hT, hlr, ⟨h, _⟩ | ⟨-, hys⟩⟩ := HS.out
      · exact absurd h (by decide)
      · have HT := Lib.hid hT
        have HYS := Lib.hid hys
        clear hT hys hlr HS
        go_wp2
        go_end0
        exact ⟨rfl, WB, by rw [← HYS.out]; exact HT.out⟩

end Go.Proofs.YtolcdlopgbgilaaDoor
