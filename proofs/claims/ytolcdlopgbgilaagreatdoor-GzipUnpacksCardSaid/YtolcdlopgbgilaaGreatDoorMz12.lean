/- Merged by wip/tools/merge.py: LenW LenX. -/
import Derived.Test.YtolcdlopgbgilaaGreatDoorMz11

/-! Text LenW. -/
namespace Go.Proofs.YtolcdlopgbgilaaGreatDoor
open Go.RowKit Go.Dray

theorem el_rows : El Tryz.prog 145 142 (.slice none 0 0) 1 24 := ⟨Tryz.underlying145, by kernel_rfl, rfl, by omega⟩

/-- Lengths refuses. -/
def LenErr (v : Int) (w : World) (e : Ending) (w' : World) : Prop := e = .returned (.tuple #[.slice none 0 0, .int .i64 v]) ∧ Upd [] w w'
/-- Lengths hands back lengths that are right. -/
def LenPost (zs : List Int) (most n : Nat) (w : World) (e : Ending) (w' : World) : Prop :=
  ∃ A c L, e = .returned (.tuple #[.slice A n c, .int .i64 0]) ∧ Own w' w.heap.size 3 1 A n c (L.map (Value.int .i64)) ∧ LensOk zs most L ∧ Upd [] w w'

theorem badL_arg {zs : List Int} {most : Int} (h : most < 1 ∨ 15 < most) : badL zs most = 1 := by unfold badL; rw [if_pos h]
theorem badL_large {zs : List Int} {most : Int} (h : 1 ≤ most ∧ most ≤ 15) (hl : 320 < zs.length) : badL zs most = 4 := by unfold badL; rw [if_neg (by omega), if_pos hl]
theorem badL_count {zs : List Int} {most : Int} (h : 1 ≤ most ∧ most ≤ 15) (hl : zs.length ≤ 320) {k : Nat} {x : Int} (hx : zs[k]? = some x) (hb : x < 0 ∨ 4294967296 < x) : badL zs most = 1 := by
  have : zs.all okC = false := by
    rw [List.all_eq_false]
    exact ⟨x, List.mem_of_getElem? hx, by simp [okC]; omega⟩
  unfold badL
  rw [if_neg (by omega), if_neg (by omega), this]
  rfl
theorem badL_many {zs : List Int} {most : Int} (h : 1 ≤ most ∧ most ≤ 15) (hl : zs.length ≤ 320) (hb : ∀ z ∈ zs, 0 ≤ z ∧ z ≤ 4294967296) (hm : 2 ^ most.toNat < (usedI zs zs.length).length) : badL zs most = 4 := by
  have : zs.all okC = true := by rw [List.all_eq_true]; intro z hz; have := hb z hz; simp [okC]; omega
  unfold badL
  rw [if_neg (by omega), if_neg (by omega), this, if_pos rfl, if_pos hm]
theorem badL_ok {zs : List Int} {most : Int} (h : 1 ≤ most ∧ most ≤ 15) (hl : zs.length ≤ 320) (hb : ∀ z ∈ zs, 0 ≤ z ∧ z ≤ 4294967296) (hm : (usedI zs zs.length).length ≤ 2 ^ most.toNat) : badL zs most = 0 := by
  have : zs.all okC = true := by rw [List.all_eq_true]; intro z hz; have := hb z hz; simp [okC]; omega
  unfold badL
  rw [if_neg (by omega), if_neg (by omega), this, if_pos rfl, if_neg (by omega)]

theorem takeC {zs : List Int} {k : Nat} {x : Int} (h : zs[k]? = some x) (hb : ∀ z ∈ zs.take k, 0 ≤ z ∧ z ≤ 4294967296) (hx : 0 ≤ x ∧ x ≤ 4294967296) : ∀ z ∈ zs.take (k + 1), 0 ≤ z ∧ z ≤ 4294967296 := by
  have hk : k < zs.length := (List.getElem?_eq_some_iff.1 h).1
  have hx' : zs[k] = x := (List.getElem?_eq_some_iff.1 h).2
  rw [List.take_succ_eq_append_getElem hk, hx']
  intro z hz
  rcases List.mem_append.1 hz with h' | h'
  · exact hb z h'
  · rw [List.mem_singleton] at h'; subst h'; exact hx

/-- What Lengths does: refused, or right. -/
def LenAny (zs : List Int) (most : Int) (n : Nat) (w : World) (e : Ending) (w' : World) : Prop :=
  (badL zs most ≠ 0 ∧ LenErr (badL zs most) w e w') ∨ (badL zs most = 0 ∧ LenPost zs most.toNat n w e w')

theorem one_ok {zs : List Int} {most : Nat} (hm : 1 ≤ most) (hl : (usedI zs zs.length).length < 2) : LensOk zs most (tab zs.length (LF (usedI zs zs.length) fun _ => 1)) := by
  have hv : ∀ i, LF (usedI zs zs.length) (fun _ => 1) i = if (i : Int) ∈ usedI zs zs.length then 1 else 0 := fun i => rfl
  have hk : ∀ i : Nat, keyOf zs (i : Int) = zs.getD i 0 := fun i => by unfold keyOf; rw [Int.toNat_natCast]
  refine ⟨tab_len _ _, fun i hi => ?_, fun i hi => ?_, fun i k hi hk' h3 h4 h5 => ?_, fun h => by omega, fun _ i hi => ?_, by unfold lensF; rw [if_pos hl]⟩
  · rw [getD_tab _ hi, hv]; split <;> omega
  · rw [getD_tab _ hi, hv, ← hk]
    by_cases hm' : (i : Int) ∈ usedI zs zs.length
    · rw [if_pos hm']
      exact ⟨fun _ => (usedI_mem.1 hm').2.2, fun _ => by omega⟩
    · rw [if_neg hm']
      exact ⟨fun h => by omega, fun h => absurd (usedI_mem.2 ⟨by omega, by omega, h⟩) hm'⟩
  · rw [getD_tab _ hi, getD_tab _ hk', hv, hv]
    rw [getD_tab _ hi, hv] at h3
    split at h3
    · split <;> omega
    · omega
  · rw [getD_tab _ hi, hv]; split <;> omega

/-- 'make([]T, n)', elements of any size. -/
theorem wpList_mkn {P : Program} {w : World} {ops : Array Oper} {rest : List Oper} {o : Oper} {a : Act} {Q : Exit → Act → World → Prop}
    (hg : o.guard = none) {l c : Operand} {t : TypeId} (hop : o.op = Op.makeSlice t l c)
    (B : Nat) {e : TypeId} {z : Value} {sz bytes : Nat} (el : El P t e z sz bytes)
    (n : Nat) {kl kc : IntKind} {L C : Int} (hl : a.eval l = .int kl L) (hc : a.eval c = .int kc C) (hL : L = (n : Int)) (hC : C = (n : Int)) (b2 : bytes * n ≤ 281474976710656) (b3 : n ≤ maxLen) (b4 : B ≤ w.heap.size)
    (hK : ∀ A' w' xs, Own w' B e sz A' n n xs → Upd [] w w' → ob A' = some w.heap.size → wpList P ops Q rest (a.put o.dst (.slice A' n n)) w') :
    wpList P ops Q (o :: rest) a w := by
  obtain ⟨i, hi, hz, hs, hb⟩ := info_get el
  exact wpList_make_full (P := P) w hg l c t hop B e i z sz el.under hi hz hs kl kc L C n hl hc hL hC (by rw [hb]; exact b2) b3 b4 fun w' h1 h2 => hK _ w' _ h1 ⟨h2.os, h2.tape, h2.output, h2.size, fun k hk _ => h2.block k hk (by simp)⟩ rfl

theorem stepG_one (u : List Int) (i : Nat) : LF u (stepG u.length fun _ => 0) i = LF u (fun _ => 1) i := by
  unfold LF
  split
  · rename_i h
    unfold stepG
    rw [if_pos (List.idxOf_lt_length_iff.2 h)]
    rfl
  · rfl
theorem stepG_zero (g : Nat → Int) : stepG 0 g = g := by funext j; unfold stepG; rw [if_neg (by omega)]

theorem take_set2 {xs : List Value} {i : Nat} (h : i * 2 + 1 < xs.length) (a b : Value) : ((xs.set (i * 2) a).set (i * 2 + 1) b).take ((i + 1) * 2) = xs.take (i * 2) ++ [a, b] := by
  apply List.ext_getElem?
  intro k
  rw [List.getElem?_take]
  by_cases hk : k < (i + 1) * 2
  · rw [if_pos hk]
    by_cases h1 : k < i * 2
    · rw [List.getElem?_set_ne (by omega), List.getElem?_set_ne (by omega), List.getElem?_append_left (by rw [List.length_take]; omega), List.getElem?_take_of_lt h1]
    · rw [List.getElem?_append_right (by rw [List.length_take]; omega), List.length_take, show k - min (i * 2) xs.length = k - i * 2 from by omega]
      by_cases h2 : k = i * 2
      · subst h2
        rw [List.getElem?_set_ne (by omega), List.getElem?_set_self (by omega), Nat.sub_self]
        rfl
      · obtain rfl : k = i * 2 + 1 := by omega
        rw [List.getElem?_set_self (by rw [List.length_set]; omega), show i * 2 + 1 - i * 2 = 1 from by omega]
        rfl
  · rw [if_neg hk, List.getElem?_eq_none (by rw [List.length_append, List.length_take]; simp; omega)]

/-- What is said of memory in Lengths: the box, the counts, the symbols used, the lengths. -/
structure GSt (w wr : World) (bx : Nat) (CA : Option Addr) (cn cc : Nat) (zs : List Int) (UA : Option Addr) (un uc : Nat) (u : List Int) (LA : Option Addr) (g : Nat → Int) : Prop where
  bw : w.heap.size = bx
  box : Blk wr bx 64 #[.slice CA cn cc]
  cnt : Ints .i64 wr CA cn zs
  used : Own wr (bx + 1) 3 1 UA un uc (u.map (Value.int .i64))
  lens : Own wr (bx + 1) 3 1 LA cn cn ((tab cn (LF u g)).map (Value.int .i64))
  sep : ∀ x, ob UA = some x → ob LA ≠ some x
  upd : Upd [] w wr

section
variable {w wr wr' : World} {bx : Nat} {CA : Option Addr} {cn cc : Nat} {zs : List Int} {UA : Option Addr} {un uc : Nat} {u : List Int} {LA : Option Addr} {g : Nat → Int}
theorem GSt.grow (h : GSt w wr bx CA cn cc zs UA un uc u LA g) (hu : Upd [] wr wr') : GSt w wr' bx CA cn cc zs UA un uc u LA g :=
  ⟨h.bw, h.box.upd hu (by simp), h.cnt.upd hu (by simp), h.used.upd hu (by simp), h.lens.upd hu (by simp), h.sep, h.upd.trans hu⟩
theorem GSt.far (h : GSt w wr bx CA cn cc zs UA un uc u LA g) {x : Nat} (hu : Upd [some x] wr wr') (hc : Ints .i64 w CA cn zs) (hx : bx + 1 ≤ x) (h1 : ob UA ≠ some x) (h2 : ob LA ≠ some x) : GSt w wr' bx CA cn cc zs UA un uc u LA g :=
  ⟨h.bw, h.box.upd hu (by simp; omega), h.cnt.upd hu (fun hp => by simp; have := hc.lt hp (by omega); have := h.bw; omega), h.used.upd hu (by intro y hy; simp; rintro rfl; exact h1 hy), h.lens.upd hu (by intro y hy; simp; rintro rfl; exact h2 hy), h.sep, h.upd.then hu (by intro b hb; simp at hb; have := h.bw; right; omega)⟩
/-- A length is raised. -/
theorem GSt.raise {t : Nat} (h : GSt w wr bx CA cn cc zs UA un uc u LA (stepG t g)) (hc : Ints .i64 w CA cn zs) (hn : u.Nodup) {p : Nat} (hp : u[t]? = some (p : Int)) (hpn : p < cn) :
    GSt w (wr.setCell ⟨bl LA, ofs LA + p, none⟩ (.int .i64 (LF u (stepG t g) p + 1))) bx CA cn cc zs UA un uc u LA (stepG (t + 1) g) := by
  have hob := h.lens.obl (by omega)
  have hbase := (h.lens.base hob).1
  have hu : Upd [some (bl LA)] wr (wr.setCell ⟨bl LA, ofs LA + p, none⟩ (.int .i64 (LF u (stepG t g) p + 1))) := (Upd.refl _ wr).setCell (p := ⟨bl LA, ofs LA + p, none⟩) (Or.inl (by simp)) _
  refine ⟨h.bw, h.box.upd hu (by simp; omega), h.cnt.upd hu (fun hp' => by simp; have := hc.lt hp' (by omega); have := h.bw; omega), h.used.upd hu (by intro y hy; simp; rintro rfl; exact h.sep _ hy hob), ?_, h.sep, h.upd.then hu (by intro b hb; simp at hb; have := h.bw; right; omega)⟩
  have := h.lens.set (k := p) (by omega) (.int .i64 (LF u (stepG t g) p + 1))
  rw [← List.map_set, tab_set, tab_congr (fun j _ => LF_step hn hp g j)] at this
  exact this
theorem GSt.lenCell (h : GSt w wr bx CA cn cc zs UA un uc u LA g) {p : Nat} (hp : p < cn) : wr.cell? ⟨bl LA, ofs LA + p, none⟩ = some (.int .i64 (LF u g p)) := (Ints.ofOwn h.lens).cell (tab_get _ hp)
end

/-- The levels that are made: the first k of the row VA. -/
structure LvSt (wr : World) (bx : Nat) (VA : Option Addr) (M : Nat) (vs : List Value) (LA : Option Addr) (S : List (Int × Bool)) (k : Nat) : Prop where
  own : Own wr (bx + 1) 142 1 VA M M vs
  lvs : ∀ j, j < k → ∃ A n c, vs[j]? = some (.slice A n c) ∧ Items wr A n c (lv S j) ∧ (0 < n → some (bl A) ≠ ob VA ∧ ob LA ≠ some (bl A))

theorem LvSt.grow {wr wr' : World} {bx : Nat} {VA : Option Addr} {M : Nat} {vs : List Value} {LA : Option Addr} {S : List (Int × Bool)} {k : Nat} (h : LvSt wr bx VA M vs LA S k) (hu : Upd [] wr wr') : LvSt wr' bx VA M vs LA S k :=
  ⟨h.own.upd hu (by simp), fun j hj => by
    obtain ⟨A, n, c, h1, h2, h3⟩ := h.lvs j hj
    exact ⟨A, n, c, h1, h2.upd hu (by simp), h3⟩⟩
theorem LvSt.lens {wr wr' : World} {bx : Nat} {VA : Option Addr} {M : Nat} {vs : List Value} {LA : Option Addr} {S : List (Int × Bool)} {k : Nat} {x : Nat} (h : LvSt wr bx VA M vs LA S k) (hu : Upd [some x] wr wr') (hx : ob LA = some x) (hv : ob VA ≠ some x) : LvSt wr' bx VA M vs LA S k :=
  ⟨h.own.upd hu (by intro y hy; simp; rintro rfl; exact hv hy), fun j hj => by
    obtain ⟨A, n, c, h1, h2, h3⟩ := h.lvs j hj
    exact ⟨A, n, c, h1, h2.upd hu (fun hp => by simp; intro e; exact (h3 hp).2 (by rw [hx, e])), h3⟩⟩
/-- Whatever is laid at a place that no level has yet. -/
theorem LvSt.junk {wr : World} {bx : Nat} {VA : Option Addr} {M : Nat} {vs : List Value} {LA : Option Addr} {S : List (Int × Bool)} {k : Nat} (h : LvSt wr bx VA M vs LA S k) (hk : k < M) (v : Value) : LvSt (wr.setCell ⟨bl VA, ofs VA + k, none⟩ v) bx VA M (vs.set k v) LA S k := by
  have hob := h.own.obl (by omega)
  have hu : Upd [some (bl VA)] wr (wr.setCell ⟨bl VA, ofs VA + k, none⟩ v) := (Upd.refl _ wr).setCell (p := ⟨bl VA, ofs VA + k, none⟩) (Or.inl (by simp)) _
  refine ⟨h.own.set (by omega) _, fun j hj => ?_⟩
  obtain ⟨A', n', c', h1, h2, h3⟩ := h.lvs j hj
  exact ⟨A', n', c', by rw [List.getElem?_set_ne (by omega)]; exact h1, h2.upd hu (fun hp => by simp; intro e; exact (h3 hp).1 (by rw [hob, e])), h3⟩
/-- A level is laid. -/
theorem LvSt.put {wr : World} {bx : Nat} {VA : Option Addr} {M : Nat} {vs : List Value} {LA : Option Addr} {S : List (Int × Bool)} {k : Nat} (h : LvSt wr bx VA M vs LA S k) {A : Option Addr} {n c : Nat} (hk : k < M) (hi : Items wr A n c (lv S k)) (hn : 0 < n → some (bl A) ≠ ob VA ∧ ob LA ≠ some (bl A)) :
    LvSt (wr.setCell ⟨bl VA, ofs VA + k, none⟩ (.slice A n c)) bx VA M (vs.set k (.slice A n c)) LA S (k + 1) := by
  have hob := h.own.obl (by omega)
  have hl : vs.length = M := by have := h.own.len; omega
  have hu : Upd [some (bl VA)] wr (wr.setCell ⟨bl VA, ofs VA + k, none⟩ (.slice A n c)) := (Upd.refl _ wr).setCell (p := ⟨bl VA, ofs VA + k, none⟩) (Or.inl (by simp)) _
  have hup : ∀ {A : Option Addr} {n c : Nat} {l : List (Int × Bool)}, Items wr A n c l → (0 < n → some (bl A) ≠ ob VA) → Items (wr.setCell ⟨bl VA, ofs VA + k, none⟩ (.slice _ _ _)) A n c l := fun hi hn => hi.upd hu (fun hp => by simp; intro e; exact hn hp (by rw [hob, e]))
  refine ⟨h.own.set (by omega) _, fun j hj => ?_⟩
  by_cases e : j = k
  · subst e
    exact ⟨A, n, c, by rw [List.getElem?_set_self (by omega)], hup hi fun hp => (hn hp).1, hn⟩
  · obtain ⟨A', n', c', h1, h2, h3⟩ := h.lvs j (by omega)
    exact ⟨A', n', c', by rw [List.getElem?_set_ne (by omega)]; exact h1, hup h2 fun hp => (h3 hp).1, h3⟩

theorem pow2_le (n : Nat) (h : n ≤ 15) : (1 : Int) ≤ 2 ^ n ∧ (2 : Int) ^ n ≤ 32768 := by
  match n, h with
  | 0, _ | 1, _ | 2, _ | 3, _ | 4, _ | 5, _ | 6, _ | 7, _ | 8, _ | 9, _ | 10, _ | 11, _ | 12, _ | 13, _ | 14, _ | 15, _ => decide
theorem itemsOf_len (zs u : List Int) : (itemsOf zs u).length = u.length := by unfold itemsOf; rw [List.length_map]
theorem lv_few {S : List (Int × Bool)} (h : 1 ≤ S.length) (h2 : S.length ≤ 320) (k : Nat) : (lv S k).length ≤ 639 := by have := (lv_size (S := S) k h).1; omega
theorem lv_bds {S : List (Int × Bool)} (h : Syms S) {k : Nat} (hk : k ≤ 15) : ∀ x ∈ lv S k, 0 ≤ x.1 ∧ x.1 ≤ 140737488355328 := fun x hx => by
  have h1 := lv_bd h k x hx
  have h2 := pow2_le k hk
  omega
theorem sy_succ {l : List (Int × Bool)} {i : Nat} {x : Int × Bool} (h : l[i]? = some x) : sy (l.take (i + 1)) = sy (l.take i) + if x.2 then 1 else 0 := by
  have hk : i < l.length := (List.getElem?_eq_some_iff.1 h).1
  have hx : l[i] = x := (List.getElem?_eq_some_iff.1 h).2
  unfold sy
  rw [List.take_succ_eq_append_getElem hk, hx, List.countP_append]
  simp [List.countP_cons]

end Go.Proofs.YtolcdlopgbgilaaGreatDoor

/-! Text LenX. -/
namespace Go.Proofs.YtolcdlopgbgilaaGreatDoor
open Go.RowKit Go.Dray

theorem pow2_bd {M : Nat} (h1 : 1 ≤ M) (h : M ≤ 15) : (2 : Int) ≤ 2 ^ M ∧ (2 : Int) ^ M ≤ 32768 := by
  match M, h1, h with
  | 1, _, _ | 2, _, _ | 3, _, _ | 4, _, _ | 5, _, _ | 6, _, _ | 7, _, _ | 8, _, _ | 9, _, _ | 10, _, _ | 11, _, _ | 12, _, _ | 13, _, _ | 14, _, _ | 15, _, _ => decide

set_option maxRecDepth 100000 in
set_option maxHeartbeats 4000000 in
theorem lengths_any (CA : Option Addr) (cn cc : Nat) (zs : List Int) (most : Int) (w : World) (hs : Ints .i64 w CA cn zs) :
    Calls Tryz.prog 64 #[.slice CA cn cc, .int .i64 most] w (LenAny zs most cn w) := by
  have HL := hs.len
  have HC := Lib.hid hs
  obtain ⟨bx, hbx⟩ : ∃ bx, bx = w.heap.size := ⟨_, rfl⟩
  have hbox0 : Blk (w.alloc (.cells #[.slice CA cn cc] 64)) bx 64 #[.slice CA cn cc] := by rw [hbx]; exact Blk.new _ _ _
  have hu0 : Upd [] w (w.alloc (.cells #[.slice CA cn cc] 64)) := (Upd.refl [] w).alloc _
  have hsz0 : (w.alloc (.cells #[.slice CA cn cc] 64)).heap.size = bx + 1 := by rw [hbx]; simp
  by_cases hm1 : most < 1
  · have HE : Hid (badL zs most = 1) := badL_arg (Or.inl hm1)
    go_enter Tryz.func64, Tryz.ntmps64
    go_wp2
    go_ret2
    exact Or.inl ⟨by rw [HE.out]; decide, by rw [HE.out]; exact ⟨rfl, hu0⟩⟩
  · by_cases hm2 : 15 < most
    · have HE : Hid (badL zs most = 1) := badL_arg (Or.inr hm2)
      go_enter Tryz.func64, Tryz.ntmps64
      go_wp2
      go_ret2
      exact Or.inl ⟨by rw [HE.out]; decide, by rw [HE.out]; exact ⟨rfl, hu0⟩⟩
    · obtain ⟨M, rfl⟩ := Int.eq_ofNat_of_zero_le (show 0 ≤ most by omega)
      by_cases hbig : 320 < cn
      · have HE : Hid (badL zs M = 4) := badL_large (by omega) (by rw [HL.out]; exact hbig)
        go_enter Tryz.func64, Tryz.ntmps64
        go_wp2
        go_ret2
        exact Or.inl ⟨by rw [HE.out]; decide, by rw [HE.out]; exact ⟨rfl, hu0⟩⟩
      · have hcn : cn ≤ 320 := by omega
        have hM1 : 1 ≤ M := by omega
        have hM2 : M ≤ 15 := by omega
        have hpw := pow2_bd hM1 hM2
        clear hm1 hm2 hbig
        have dM1 : decide ((M : Int) < 1) = false := by simp; omega
        have dM2 : decide ((15 : Int) < M) = false := by simp; omega
        have dM3 : decide ((320 : Int) < cn) = false := by simp; omega
        go_enter Tryz.func64, Tryz.ntmps64
        go_wp2
        generalize hw1 : w.alloc (.cells #[.slice CA cn cc] 64) = w1 at hbox0 hu0 hsz0 ⊢
        rw [← hbx]
        have HBX := Lib.hid hbx
        clear hw1 hbx
        go_loopw [6, 33] (fun v i wr => ∃ k un : Nat, k ≤ cn ∧ un ≤ k ∧ i = .int .i64 k ∧ Hid (∀ z ∈ zs.take k, 0 ≤ z ∧ z ≤ 4294967296) ∧ Hid (un = (usedI zs k).length) ∧ ∃ UA uc, v = .slice UA un uc ∧ Hid (Own wr (bx + 1) 3 1 UA un uc ((usedI zs k).map (Value.int .i64)) ∧ Upd [] w1 wr)) (fun _ i _ => cn - (intOf i).toNat)
        case atStart => exact ⟨0, 0, by omega, by omega, rfl, by intro z hz; simp at hz, rfl, none, 0, rfl, ⟨Own.nil _ _ _ _, Upd.refl _ _⟩⟩
        case round =>
          obtain ⟨k, un, hk, hun, rfl, HB, HU, UA, uc, rfl, HO⟩ := hrel
          have hcr := (hs.upd hu0 (by simp)).upd HO.out.2 (by simp)
          by_cases hlt : k < cn
          · obtain ⟨x, HX, hcell⟩ := hcr.int hlt
            have hix := hs.index el_int cc .i64 k hlt
            clear hcr
            by_cases hx1 : x < 0
            · have HE : Hid (badL zs M = 1) := badL_count (by omega) (by rw [HL.out]; exact hcn) HX.out (Or.inl hx1)
              clear hs
              go_wp2
              go_ret2
              exact Or.inl ⟨by rw [HE.out]; decide, by rw [HE.out]; exact ⟨rfl, hu0.trans HO.out.2⟩⟩
            · by_cases hx2 : 4294967296 < x
              · have HE : Hid (badL zs M = 1) := badL_count (by omega) (by rw [HL.out]; exact hcn) HX.out (Or.inr hx2)
                clear hs
                go_wp2
                go_ret2
                exact Or.inl ⟨by rw [HE.out]; decide, by rw [HE.out]; exact ⟨rfl, hu0.trans HO.out.2⟩⟩
              · have hx0 : 0 ≤ x := by omega
                have hx3 : x ≤ 4294967296 := by omega
                have HG : Hid (zs.getD k 0 = x) := getD_of2 HX.out
                have hO := HO.out.1
                have hsz := HO.out.2.size
                by_cases hpos : 0 < x
                · clear hs hx1 hx2
                  go_wp2_with (at_builtin; refine wpList_app rfl rfl el_int rfl (hO.alloc _) rfl (Seg.one _ _ _) (by simp [Value.oneCell']) (by simp only [maxLen]; omega) (by omega) (by simp; omega) ?_; intro X3 c3 w3 hown3 hu3 hfr3)
                  go_roundw
                  case rel =>
                    refine ⟨k + 1, un + 1, by omega, by omega, by go_num, takeC HX.out HB.out ⟨hx0, hx3⟩, ?_, X3, c3, rfl, ?_, ?_⟩
                    · show _ = _
                      rw [usedI_succ, HG.out, if_pos hpos, List.length_append, ← HU.out]
                      rfl
                    · rw [usedI_succ, HG.out, if_pos hpos, List.map_append]
                      exact hown3
                    · exact (HO.out.2.alloc _).then hu3 (fun b hb => by simp at hb; have := (hO.base hb.symm).1; right; omega)
                  case measure => simp [intOf]; omega
                · clear hs hx1 hx2
                  go_wp2
                  go_roundw
                  case rel =>
                    refine ⟨k + 1, un, by omega, by omega, by go_num, takeC HX.out HB.out ⟨hx0, hx3⟩, ?_, UA, uc, rfl, ?_⟩
                    · show _ = _
                      rw [usedI_succ, HG.out, if_neg (by omega), List.append_nil]
                      exact HU.out
                    · rw [usedI_succ, HG.out, if_neg (by omega), List.append_nil]
                      exact HO.out
                  case measure => simp [intOf]; omega
          · obtain rfl : k = cn := by omega
            have HB2 : Hid (∀ z ∈ zs, 0 ≤ z ∧ z ≤ 4294967296) := by
              have := HB.out
              rw [List.take_of_length_le (by rw [HL.out]; omega)] at this
              exact this
            have HU2 : Hid (un = (usedI zs zs.length).length) := by rw [HL.out]; exact HU.out
            clear hcr HB
            by_cases hmany : (2 : Int) ^ M < un
            · have HE : Hid (badL zs M = 4) := badL_many (by omega) (by rw [HL.out]; exact hcn) HB2.out (by
                rw [← HU2.out, Int.toNat_natCast]
                have e : ((2 ^ M : Nat) : Int) = (2 : Int) ^ M := by simp
                omega)
              clear hs
              go_wp2
              go_ret2
              exact Or.inl ⟨by rw [HE.out]; decide, by rw [HE.out]; exact ⟨rfl, hu0.trans HO.out.2⟩⟩
            · have hfit : un ≤ 2 ^ M := by
                have e : ((2 ^ M : Nat) : Int) = (2 : Int) ^ M := by simp
                omega
              have HE : Hid (badL zs M = 0) := badL_ok (by omega) (by rw [HL.out]; exact hcn) HB2.out (by rw [← HU2.out, Int.toNat_natCast]; exact hfit)
              have HFIT := Lib.hid hfit
              clear hfit
              obtain ⟨us, hus⟩ : ∃ us, us = usedI zs k := ⟨_, rfl⟩
              have HUS := Lib.hid hus
              rw [← hus] at HO HU
              have HND : Hid us.Nodup := by rw [hus]; exact usedI_nodup _ _
              have HMEM : Hid (∀ x ∈ us, 0 ≤ x ∧ x < k) := fun x hx => by rw [hus] at hx; have := usedI_mem.1 hx; exact ⟨this.1, this.2.1⟩
              clear hus
              have hb0 := (hbox0.upd HO.out.2 (by simp)).cell 0
              simp at hb0
              have d4 : decide ((2 : Int) ^ M < un) = false := by simp; omega
              have hsz := HO.out.2.size
              have HUP := Lib.hid (hu0.trans HO.out.2)
              have HBR := Lib.hid (hbox0.upd HO.out.2 (by simp))
              have HCR := Lib.hid ((hs.upd hu0 (by simp)).upd HO.out.2 (by simp))
              have HOU := Lib.hid HO.out.1
              clear hs hmany HO
              have HG0 : Hid (∀ LA w2, Own w2 (bx + 1) 3 1 LA k k (List.replicate k (.int .i64 0)) → Upd [] wr w2 → ob LA = some wr.heap.size → GSt w w2 bx CA k cc zs UA un uc us LA (stepG 0 fun _ => 0)) := by
                intro LA w2 h1 h2 h3
                refine ⟨HBX.out.symm, HBR.out.upd h2 (by simp), HCR.out.upd h2 (by simp), HOU.out.upd h2 (by simp), ?_, ?_, HUP.out.trans h2⟩
                · rw [stepG_zero, tab_congr (fun j _ => LF_zero us j), ← tab_rep, List.map_replicate]
                  exact h1
                · intro x hx e
                  rw [h3] at e
                  injection e with e
                  have := (HOU.out.base hx).2
                  omega
              by_cases hfew : un < 2
              · have d5 : decide ((un : Int) < 2) = true := by simp; omega
                go_wp2_with (at_make; refine wpList_mk rfl rfl (bx + 1) el_int k rfl rfl rfl rfl rfl (by omega) (by simp only [maxLen]; omega) (by omega) ?_; intro LA w2 hlen hu2 hobL)
                have HG := Lib.hid (HG0.out LA w2 hlen hu2 hobL)
                clear hlen hu2 hobL HG0 HBR HCR HOU hb0 HUP
                go_loopw [64] (fun i wr => ∃ t : Nat, t ≤ un ∧ i = .int .i64 t ∧ Hid (GSt w wr bx CA k cc zs UA un uc us LA (stepG t fun _ => 0))) (fun i _ => un - (intOf i).toNat)
                case atStart => exact ⟨0, by omega, rfl, HG⟩
                case round =>
                  clear HG
                  obtain ⟨t, ht, rfl, HG⟩ := hrel
                  by_cases hlt2 : t < un
                  · obtain ⟨x, HX, hcell⟩ := (Ints.ofOwn HG.out.used).int hlt2
                    have hix := (Ints.ofOwn HG.out.used).index el_int uc .i64 t hlt2
                    obtain ⟨hx0, hxk⟩ := HMEM.out x (List.mem_of_getElem? HX.out)
                    obtain ⟨p, rfl⟩ := Int.eq_ofNat_of_zero_le hx0
                    have hpk : p < k := by omega
                    have lix := (Ints.ofOwn HG.out.lens).index el_int k .i64 p hpk
                    have lcell := HG.out.lenCell hpk
                    have lfz := HG.out.lens.frozen (by omega) p
                    have hra := HG.out.raise HC.out HND.out HX.out hpk
                    have e1 : LF us (stepG t fun _ => 0) p + 1 = 1 := by rw [LF_at HND.out HX.out]; unfold stepG; rw [if_neg (by omega)]; rfl
                    rw [e1] at hra
                    have HRA := Lib.hid hra
                    clear e1 hra HG
                    go_wp2
                    go_roundw
                    case rel => exact ⟨t + 1, by omega, by go_num, HRA⟩
                    case measure => simp [intOf]; omega
                  · obtain rfl : t = un := by omega
                    go_wp2
                    go_ret2
                    refine Or.inr ⟨HE.out, LA, k, _, rfl, HG.out.lens.monoB (by have := HBX.out; omega), ?_, HG.out.upd⟩
                    have hone := one_ok (zs := zs) (most := M) hM1 (by rw [← HU2.out]; exact hfew)
                    rw [HL.out, ← HUS.out] at hone
                    have e2 : tab k (LF us (stepG t fun _ => 0)) = tab k (LF us fun _ => 1) := tab_congr fun j _ => by rw [HU.out]; exact stepG_one us j
                    rw [e2, Int.toNat_natCast]
                    exact hone
              · have d5 : decide ((un : Int) < 2) = false := by simp; omega
                have hmf : ∀ (fn : Fn) (first cap : Array Value) (w : World), (Instr.makeFunc fn first cap).run Tryz.prog w = .ok (.func fn first cap) w := fun _ _ _ _ => rfl
                go_wp2_with (at_make; refine wpList_mk rfl rfl (bx + 1) el_int k rfl rfl rfl rfl rfl (by omega) (by simp only [maxLen]; omega) (by omega) ?_; intro LA w2 hlen hu2 hobL)
                have HG := Lib.hid (HG0.out LA w2 hlen hu2 hobL)
                clear hlen hu2 hobL HG0 HBR HCR HOU hb0 HUP hmf
                obtain ⟨d0, hd0⟩ : ∃ d0 : Nat → Int, d0 = fun j => us.getD j 0 := ⟨_, rfl⟩
                have htab : us = tab un d0 := by rw [hd0, HU.out]; exact tab_of us 0
                have HASC : Hid (Asc un d0) := fun i j h1 h2 => by
                  rw [hd0]
                  show us.getD i 0 < us.getD j 0
                  rw [HUS.out]
                  exact usedI_lt h1 (by rw [← HUS.out, ← HU.out]; exact h2)
                have hSS : SS w2 w2 (bx + 1) UA un uc bx CA k cc zs d0 := by
                  have h0 := HG.out.used
                  rw [htab] at h0
                  refine ⟨h0, ⟨?_, HG.out.cnt⟩, Upd.refl _ _, ?_, ?_, ?_, by omega⟩
                  · have := HG.out.box.cell 0
                    simpa using this
                  · intro e; have := (h0.base e).1; omega
                  · intro hp e
                    have h1 := (h0.base e).1
                    have h2 := HC.out.lt hp (by omega)
                    have := HBX.out
                    omega
                  · intro j hj
                    have h1 : d0 j ∈ us := by rw [htab]; exact List.mem_of_getElem? (tab_get d0 hj)
                    exact HMEM.out _ h1
                refine (sortStable_any hSS (by omega) HASC.out).mono ?_
                rintro e w3 ⟨d1, rfl, hS1, hmv, hsd⟩
                have HPM : Hid ((tab un d1).Perm us) := by rw [htab]; exact perm_of_mv hmv
                have HSD := Lib.hid hsd
                have HG1 : Hid (GSt w w3 bx CA k cc zs UA un uc (tab un d1) LA fun _ => 0) := by
                  refine ⟨HG.out.bw, HG.out.box.upd hS1.upd (by simp; exact fun e => hSS.far e.symm), hS1.cmp.2, hS1.own, ?_, HG.out.sep, HG.out.upd.then hS1.upd ?_⟩
                  · have := HG.out.lens.upd hS1.upd (by intro y hy; simp; intro e; exact HG.out.sep y e.symm hy)
                    rw [stepG_zero, tab_congr (fun j _ => LF_zero us j)] at this
                    rw [tab_congr (fun j _ => LF_zero (tab un d1) j)]
                    exact this
                  · intro b hb
                    simp at hb
                    have := (HG.out.used.base hb.symm).1
                    have := HBX.out
                    right; omega
                have HGD := Lib.hid hS1.good
                clear hS1 hmv hsd hSS htab hd0 HG
                have HSY : Hid (Syms (itemsOf zs (tab un d1))) := syms_of (fun i j g1 g2 g3 => by
                  have b1 := HGD.out i (by omega)
                  have b2 := HGD.out j g3
                  exact key2_of (HSD.out i j g1 g2 g3) b1.1 (by omega)) fun j hj => by
                  have := HGD.out j hj
                  unfold keyOf
                  rw [List.getD]
                  cases hx : zs[(d1 j).toNat]? with
                  | none => simp
                  | some z => exact HB2.out z (List.mem_of_getElem? hx)
                have HND1 : Hid (tab un d1).Nodup := HPM.out.nodup_iff.2 HND.out
                have hun2 : 2 ≤ un := by omega
                have hsz3 : bx + 1 ≤ w3.heap.size := by have := HG1.out.upd.size; have := HBX.out; have := HG1.out.box.lt; omega
                go_wp2_with (at_make; refine wpList_mkn rfl rfl (bx + 1) el_item un rfl rfl rfl rfl (by omega) (by simp only [maxLen]; omega) hsz3 ?_; intro SA w4 xs hsym hu4 hobS)
                have HG2 := Lib.hid (HG1.out.grow hu4)
                have HX2 : Hid (Own w4 (bx + 1) 144 2 SA un un xs ∧ xs.take (0 * 2) = itemV (itemsOf zs (tab 0 d1))) := ⟨hsym, by simp [tab, itemsOf, itemV]⟩
                clear hsym hu4 hobS HG1
                go_loopw [81] (fun i wr => ∃ t : Nat, t ≤ un ∧ i = .int .i64 t ∧ ∃ xs, Hid (GSt w wr bx CA k cc zs UA un uc (tab un d1) LA fun _ => 0) ∧ Hid (Own wr (bx + 1) 144 2 SA un un xs ∧ xs.take (t * 2) = itemV (itemsOf zs (tab t d1)))) (fun i _ => un - (intOf i).toNat)
                case atStart => exact ⟨0, by omega, rfl, xs, HG2, HX2⟩
                case round =>
                  clear HG2 HX2
                  obtain ⟨t, ht, rfl, xs, HG, HXS⟩ := hrel
                  by_cases hlt3 : t < un
                  · have uix := (Ints.ofOwn HG.out.used).index el_int uc .i64 t hlt3
                    have ucell := (Ints.ofOwn HG.out.used).cell (tab_get d1 hlt3)
                    obtain ⟨hx0, hxk⟩ := HGD.out t hlt3
                    obtain ⟨p, hp⟩ := Int.eq_ofNat_of_zero_le hx0
                    rw [hp] at ucell hxk
                    have hpk : p < k := by omega
                    obtain ⟨v, HV, ccell⟩ := HG.out.cnt.int hpk
                    have cix := HG.out.cnt.index el_int cc .i64 p hpk
                    have hb0 := HG.out.box.cell 0
                    simp at hb0
                    have hown := HXS.out.1
                    have hxl := hown.len
                    have six := run_index el_item hown.seg.at_ un .i64 t hlt3
                    have sc0 := hown.seg.cell (t * 2) _ (List.getElem?_eq_getElem (show t * 2 < xs.length by omega))
                    have sc1 := hown.seg.cell (t * 2 + 1) _ (List.getElem?_eq_getElem (show t * 2 + 1 < xs.length by omega))
                    have sf0 := hown.frozen (by omega) (t * 2)
                    have sf1 := hown.frozen (by omega) (t * 2 + 1)
                    rw [← Nat.add_assoc] at sc1 sf1
                    have HP := Lib.hid hp
                    clear hp hx0 hxk
                    go_wp2
                    go_roundw
                    case rel =>
                      have hob := hown.obl (by omega)
                      have hsu : Upd [some (bl SA)] wr ((wr.setCell ⟨bl SA, ofs SA + t * 2, none⟩ (.int .i64 v)).setCell ⟨bl SA, ofs SA + t * 2 + 1, none⟩ (.bool true)) := ((Upd.refl _ wr).setCell (p := ⟨bl SA, ofs SA + t * 2, none⟩) (Or.inl (by simp)) _).setCell (p := ⟨bl SA, ofs SA + t * 2 + 1, none⟩) (Or.inl (by simp)) _
                      have hset := (hown.set (k := t * 2) (by omega) (.int .i64 v)).set (k := t * 2 + 1) (by omega) (.bool true)
                      rw [← Nat.add_assoc] at hset
                      refine ⟨t + 1, by omega, by go_num, _, HG.out.far hsu HC.out (hown.base hob).1 ?_ ?_, hset, ?_⟩
                      · intro e; exact HG.out.used.neOwn hown (by decide) e hob
                      · intro e; exact HG.out.lens.neOwn hown (by decide) e hob
                      · rw [take_set2 (by omega), HXS.out.2, tab_snoc, itemsOf, itemsOf, List.map_append, itemV_app]
                        have hv : keyOf zs (d1 t) = v := by unfold keyOf; rw [HP.out, Int.toNat_natCast]; exact getD_of2 HV.out
                        rw [List.map_cons, hv]
                        rfl
                    case measure => simp [intOf]; omega
                  · obtain rfl : t = un := by omega
                    obtain ⟨S, hS⟩ : ∃ S, S = itemsOf zs (tab t d1) := ⟨_, rfl⟩
                    have HSE := Lib.hid hS
                    have HSL : Hid (S.length = t) := by show _ = _; rw [hS, itemsOf_len, tab_len]
                    have HSYM : Hid (Own wr (bx + 1) 144 2 SA t t (itemV S)) := by
                      have h1 := HXS.out.1
                      have h2 := HXS.out.2
                      rw [List.take_of_length_le (by rw [h1.len]; omega), ← hS] at h2
                      rw [← h2]
                      exact h1
                    rw [← hS] at HSY
                    clear hS HXS
                    have hszr : bx + 1 ≤ wr.heap.size := by have := HG.out.box.lt; omega
                    have hmk := fun (ops : Array Oper) => (rfl : ops = ops)
                    clear hmk
                    go_wp2_with (at_make; refine wpList_mk rfl rfl (bx + 1) el_rows M rfl rfl rfl rfl rfl (by omega) (by simp only [maxLen]; omega) hszr ?_; intro VA w5 hlv hu5 hobV)
                    have HG5 := Lib.hid (HG.out.grow hu5)
                    have HS5 := Lib.hid (HSYM.out.upd hu5 (by simp))
                    have HV5 : Hid (LvSt w5 bx VA M (List.replicate M (.slice none 0 0)) LA S 0) := ⟨hlv, fun j hj => by omega⟩
                    clear hlv hu5 hobV HG HSYM
                    go_loopw [98] (fun i wr => ∃ j : Nat, j ≤ M ∧ i = .int .i64 j ∧ ∃ vs, Hid (GSt w wr bx CA k cc zs UA t uc (tab t d1) LA fun _ => 0) ∧ Hid (Own wr (bx + 1) 144 2 SA t t (itemV S)) ∧ Hid (LvSt wr bx VA M vs LA S j)) (fun i _ => M - (intOf i).toNat)
                    case atStart => exact ⟨0, by omega, rfl, _, HG5, HS5, HV5⟩
                    case round =>
                      clear HG5 HS5 HV5
                      obtain ⟨j, hj, rfl, vs, HG, HSYM, HLV⟩ := hrel
                      by_cases hjM : j < M
                      · have hvl := HLV.out.own.len
                        have vix := run_index el_rows HLV.out.own.seg.at_ M .i64 j hjM
                        have vcell := HLV.out.own.seg.cell j _ (List.getElem?_eq_getElem (show j < vs.length by omega))
                        have vfz := HLV.out.own.frozen (by omega) j
                        rw [Nat.mul_one] at vix
                        have hobv := HLV.out.own.obl (by omega)
                        have hobs := HSYM.out.obl (by omega)
                        have hsv : some (bl SA) ≠ ob VA := fun e => HSYM.out.neOwn HLV.out.own (by decide) hobs e.symm
                        have hsl : ob LA ≠ some (bl SA) := fun e => HSYM.out.neOwn HG.out.lens (by decide) hobs e
                        have hitS : Items wr SA t t S := ⟨HSYM.out.seg, Nat.le_refl _⟩
                        have hju := Lib.hid (HLV.out.junk hjM (.slice SA t t))
                        have hvu : Upd [some (bl VA)] wr (wr.setCell ⟨bl VA, ofs VA + j, none⟩ (.slice SA t t)) := (Upd.refl _ wr).setCell (p := ⟨bl VA, ofs VA + j, none⟩) (Or.inl (by simp)) _
                        have hgv : GSt w (wr.setCell ⟨bl VA, ofs VA + j, none⟩ (.slice SA t t)) bx CA k cc zs UA t uc (tab t d1) LA (fun _ => 0) := HG.out.far hvu HC.out (HLV.out.own.base hobv).1 (fun e => HG.out.used.neOwn HLV.out.own (by decide) e hobv) (fun e => HG.out.lens.neOwn HLV.out.own (by decide) e hobv)
                        have HGV := Lib.hid hgv
                        have HSV := Lib.hid (HSYM.out.upd hvu (by intro y hy; simp; rintro rfl; exact hsv (by rw [← hobs, hy, hobv])))
                        by_cases hj0 : j = 0
                        · have HP0 := Lib.hid (HLV.out.put (A := SA) (n := t) (c := t) hjM (by rw [hj0]; exact hitS) (fun _ => ⟨hsv, hsl⟩))
                          have d6 : decide ((0 : Int) < j) = false := by simp; omega
                          have d7 : decide (0 < j) = false := by simp; omega
                          have d8 : ¬ 0 < j := by omega
                          have HJ0 := Lib.hid hj0
                          clear hj0 hju hvu hgv hitS hsv hsl hobs hobv HLV HG HSYM
                          go_wp2
                          go_roundw
                          case rel => exact ⟨j + 1, by omega, by go_num, _, HGV, HSV, HP0⟩
                          case measure => simp [intOf]; omega
                        · obtain ⟨jp, rfl⟩ : ∃ jp, j = jp + 1 := ⟨j - 1, by omega⟩
                          obtain ⟨PA, pn, pc, hpv, hpi, hpn⟩ := hju.out.lvs jp (by omega)
                          have pix := run_index el_rows hju.out.own.seg.at_ M .i64 jp (by omega)
                          have pcell := hju.out.own.seg.cell jp _ hpv
                          rw [Nat.mul_one] at pix
                          have vix' : ∀ W : World, (Instr.indexAt 145 (.slice VA M M) (.int .i64 ((jp : Int) + 1))).run Tryz.prog W = .ok (.pointer (some ⟨bl VA, ofs VA + (jp + 1), none⟩)) W := vix
                          have pix' : ∀ W : World, (Instr.indexAt 145 (.slice VA M M) (.int .i64 (jp : Int))).run Tryz.prog W = .ok (.pointer (some ⟨bl VA, ofs VA + jp, none⟩)) W := pix
                          have HPI := Lib.hid hpi
                          clear hpi hitS vix pix hpv hpn
                          obtain ⟨q, hq⟩ : ∃ q, q = ofs VA + (jp + 1) := ⟨_, rfl⟩
                          obtain ⟨q0, hq0⟩ : ∃ q0, q0 = ofs VA + jp := ⟨_, rfl⟩
                          rw [← hq] at vix' vcell vfz hju hvu hgv HGV HSV pcell
                          rw [← hq0] at pix' pcell
                          rw [← hq] at HPI
                          have HQ := Lib.hid hq
                          clear hq hq0 hobs hsv hsl hvu hgv HLV HG HSYM
                          go_wp2_with fail
                          generalize wr.setCell ⟨bl VA, q, none⟩ (.slice SA t t) = w6 at HGV HSV HPI hju pcell ⊢
                          have hlen6 : pn ≤ 639 := by have := HPI.out.len; have := lv_few (S := S) (by rw [HSL.out]; omega) (by rw [HSL.out]; omega) jp; omega
                          refine (level_any SA PA t t pn pc S (lv S jp) w6 ⟨HSV.out.seg, Nat.le_refl _⟩ HPI.out (by omega) (by omega) (by have := lv_bds HSY.out (k := 0) (by omega); exact this) (lv_bds HSY.out (by omega))).mono ?_
                          rintro e w7 ⟨RA, rm, rc, rfl, hrm, hrown, hru⟩
                          have hju7 := hju.out.grow hru
                          have HG7 := Lib.hid (HGV.out.grow hru)
                          have HS7 := Lib.hid (HSV.out.upd hru (by simp))
                          have hob7 := hju7.own.obl (by omega)
                          have hrb : 0 < rm → some (bl RA) ≠ ob VA ∧ ob LA ≠ some (bl RA) := fun hp => ⟨fun e => hrown.neOwn hju7.own (by decide) (hrown.obl hp) e.symm, fun e => hrown.neOwn HG7.out.lens (by decide) (hrown.obl hp) e⟩
                          have HP7 := Lib.hid (hju7.put (A := RA) (n := rm) (c := rc) hjM ⟨hrown.seg, hrown.le⟩ hrb)
                          have hvl7 := hju7.own.len
                          have vc7 := hju7.own.seg.cell (jp + 1) _ (List.getElem?_eq_getElem (show jp + 1 < (vs.set (jp + 1) (.slice SA t t)).length by omega))
                          have vf7 := hju7.own.frozen (by omega) (jp + 1)
                          have hv7 : Upd [some (bl VA)] w7 (w7.setCell ⟨bl VA, q, none⟩ (.slice RA rm rc)) := (Upd.refl _ w7).setCell (p := ⟨bl VA, q, none⟩) (Or.inl (by simp)) _
                          have HGE := Lib.hid (HG7.out.far hv7 HC.out (hju7.own.base hob7).1 (fun e => HG7.out.used.neOwn hju7.own (by decide) e hob7) (fun e => HG7.out.lens.neOwn hju7.own (by decide) e hob7))
                          have HSF := Lib.hid (HS7.out.upd hv7 (by intro y hy; simp; rintro rfl; exact HS7.out.neOwn hju7.own (by decide) hy hob7))
                          rw [← HQ.out] at HP7 vc7 vf7
                          clear hrm hju7 hru hrown hrb hv7 hju HGV HSV HG7 HS7 HPI hob7 vcell vfz pcell
                          go_wp2
                          go_roundw
                          case rel => exact ⟨jp + 1 + 1, by omega, by go_num, _, HGE, HSF, HP7⟩
                          case measure => simp [intOf]; omega
                      · obtain rfl : j = M := by omega
                        have hks : bx + 1 ≤ wr.heap.size := by have := HG.out.box.lt; omega
                        clear hks HSYM
                        have htop := lv_top (S := S) (k := j - 1) (by rw [HSL.out]; omega) (by rw [HSL.out, show j - 1 + 1 = j from by omega]; exact HFIT.out)
                        rw [HSL.out] at htop
                        have HT0 : Hid ((0 < j → 2 * t - 2 ≤ (lv S (j - 1)).length) ∧ ∀ i : Nat, (0 : Int) ≤ (fun _ => 0 : Nat → Int) i ∧ (fun _ => 0 : Nat → Int) i ≤ 15 - (j : Int)) := ⟨fun _ => htop, fun i => ⟨Int.le_refl _, by show (0 : Int) ≤ _; omega⟩⟩
                        clear htop
                        go_wp2
                        go_loopw [17, 18] (fun v i wr => ∃ (kk T : Nat) (g : Nat → Int), kk ≤ j ∧ T ≤ 2000 ∧ v = .int .i64 T ∧ i = .int .i64 ((kk : Int) - 1) ∧ Hid (fin S kk T g = lensG S j) ∧ Hid ((0 < kk → T ≤ (lv S (kk - 1)).length) ∧ ∀ i, 0 ≤ g i ∧ g i ≤ 15 - (kk : Int)) ∧ Hid (GSt w wr bx CA k cc zs UA t uc (tab t d1) LA g) ∧ Hid (LvSt wr bx VA j vs LA S j)) (fun _ i _ => (intOf i + 1).toNat)
                        case atStart => exact ⟨j, 2 * t - 2, fun _ => 0, by omega, by omega, by go_num, rfl, by show _ = _; unfold lensG; rw [HSL.out], HT0, HG, HLV⟩
                        case round =>
                          clear HG HLV HT0
                          obtain ⟨kk, T, g, hkk, hT, rfl, rfl, HF, HT, HG, HLV⟩ := hrel
                          by_cases hk0 : 1 ≤ kk
                          · obtain ⟨kp, rfl⟩ : ∃ kp, kk = kp + 1 := ⟨kk - 1, by omega⟩
                            have ekp : ((kp + 1 : Nat) : Int) - 1 = (kp : Int) := by omega
                            rw [ekp]
                            obtain ⟨QA, qn, qc, hqv, hqi, hqn⟩ := HLV.out.lvs kp (by omega)
                            have hTl : T ≤ qn := by have := HT.out.1 (by omega); rw [show kp + 1 - 1 = kp from rfl] at this; rw [← hqi.len]; exact this
                            have hql : qn ≤ 639 := by have := hqi.len; have := lv_few (S := S) (by rw [HSL.out]; omega) (by rw [HSL.out]; omega) kp; omega
                            have qix := run_index el_rows HLV.out.own.seg.at_ j .i64 kp (by omega)
                            rw [Nat.mul_one] at qix
                            have qcell := HLV.out.own.seg.cell kp _ hqv
                            have qcut := run_cut_h el_item QA qn qc .i64 (T : Int) T rfl (by have := hqi.le; omega)
                            have HPRE : Hid (∀ W, Items W QA qn qc (lv S kp) → Items W QA T qc ((lv S kp).take T)) := fun W h => h.pre hTl
                            have HQV := Lib.hid hqv
                            have HQN := Lib.hid hqn
                            clear hqv hqi hqn ekp
                            go_wp2
                            clear qcut qcell qix
                            obtain ⟨wo, rfl⟩ : ∃ wo : World, wo = wr := ⟨_, rfl⟩
                            have HG0 : Hid (GSt w wo bx CA k cc zs UA t uc (tab t d1) LA (stepG 0 g)) := by rw [stepG_zero]; exact HG
                            go_loopw [19, 135] (fun v i wr => ∃ i' tk : Nat, i' ≤ T ∧ tk ≤ i' ∧ v = .int .i64 tk ∧ i = .int .i64 i' ∧ Hid (tk = sy ((lv S kp).take i')) ∧ Hid (GSt w wr bx CA k cc zs UA t uc (tab t d1) LA (stepG tk g)) ∧ Hid (LvSt wr bx VA j vs LA S j)) (fun _ i _ => T - (intOf i).toNat)
                            case atStart => exact ⟨0, 0, by omega, by omega, rfl, rfl, rfl, HG0, HLV⟩
                            case round =>
                              clear HG HLV HG0
                              obtain ⟨i, tk, hi, htk, rfl, rfl, HTK, HG, HLV⟩ := hrel
                              by_cases hlt6 : i < T
                              · obtain ⟨QA', qn', qc', hqv', hqi, hqn⟩ := HLV.out.lvs kp (by omega)
                                rw [HQV.out] at hqv'
                                injection hqv' with hqv'
                                injection hqv' with e1 e2 e3
                                subst e1 e2 e3
                                have hpre := HPRE.out wr hqi
                                have hlen := hpre.len
                                obtain ⟨x, hx⟩ : ∃ x, ((lv S kp).take T)[i]? = some x := ⟨_, List.getElem?_eq_getElem (by omega)⟩
                                have HXI : Hid ((lv S kp)[i]? = some x) := by rw [List.getElem?_take_of_lt hlt6] at hx; exact hx
                                obtain ⟨cx0, cx1⟩ := hpre.cells hx
                                have xix := hpre.ix i (i : Int) rfl hlt6
                                obtain ⟨xv, xb⟩ := x
                                simp only at cx0 cx1
                                have hst := sy_succ HXI.out
                                have hstl := lv_sy_take HSY.out kp (i + 1)
                                rw [HSL.out] at hstl
                                rw [← HTK.out] at hst
                                have hal : Upd [] wr (wr.alloc (.cells #[.int .i64 xv, .bool xb] 144)) := (Upd.refl [] wr).alloc _
                                have HGA := Lib.hid (HG.out.grow hal)
                                have HLA := Lib.hid (HLV.out.grow hal)
                                obtain ⟨gx, hgx⟩ : ∃ gx, gx = wr.heap.size := ⟨_, rfl⟩
                                clear hpre hlen hx hqi hqn
                                cases xb with
                                | true =>
                                  have htt : tk < t := by simp only [if_true] at hst; omega
                                  have uix := (Ints.ofOwn HGA.out.used).index el_int uc .i64 tk htt
                                  have ucell := (Ints.ofOwn HGA.out.used).cell (tab_get d1 htt)
                                  obtain ⟨hx0, hxk⟩ := HGD.out tk htt
                                  obtain ⟨p, hp⟩ := Int.eq_ofNat_of_zero_le hx0
                                  rw [hp] at ucell hxk
                                  have hpk : p < k := by omega
                                  have HPT : Hid ((tab t d1)[tk]? = some (p : Int)) := by rw [← hp]; exact tab_get d1 htt
                                  have lix := (Ints.ofOwn HGA.out.lens).index el_int k .i64 p hpk
                                  have lcell := HGA.out.lenCell hpk
                                  have lfz := HGA.out.lens.frozen (by omega) p
                                  have hra := HGA.out.raise HC.out HND1.out HPT.out hpk
                                  have hobl := HGA.out.lens.obl (by omega)
                                  obtain ⟨lv0, hlv0⟩ : ∃ lv0, lv0 = LF (tab t d1) (stepG tk g) p := ⟨_, rfl⟩
                                  have hlvb : 0 ≤ lv0 ∧ lv0 ≤ 15 := by
                                    rw [hlv0, LF_at HND1.out HPT.out]
                                    unfold stepG
                                    rw [if_neg (by omega)]
                                    have := HT.out.2 tk
                                    omega
                                  have hlu : Upd [some (bl LA)] (wr.alloc (.cells #[.int .i64 xv, .bool true] 144)) ((wr.alloc (.cells #[.int .i64 xv, .bool true] 144)).setCell ⟨bl LA, ofs LA + p, none⟩ (.int .i64 (lv0 + 1))) := (Upd.refl _ _).setCell (p := ⟨bl LA, ofs LA + p, none⟩) (Or.inl (by simp)) _
                                  have HLB := Lib.hid (HLA.out.lens hlu hobl (fun e => HLA.out.own.neOwn HGA.out.lens (by decide) e hobl))
                                  rw [← hlv0] at lcell hra
                                  have HRA := Lib.hid hra
                                  have HST : Hid (tk + 1 = sy ((lv S kp).take (i + 1))) := by show _ = _; rw [hst]; rfl
                                  clear hlv0 hra hobl hlu hp hx0 hxk hst hstl hal hgx
                                  go_wp2
                                  go_roundw
                                  case rel => exact ⟨i + 1, tk + 1, by omega, by omega, by go_num, by go_num, HST, HRA, HLB⟩
                                  case measure => simp [intOf]; omega
                                | false =>
                                  have HST : Hid (tk = sy ((lv S kp).take (i + 1))) := by show _ = _; rw [hst]; rfl
                                  clear hst hstl hal hgx
                                  go_wp2
                                  go_roundw
                                  case rel => exact ⟨i + 1, tk, by omega, by omega, rfl, by go_num, HST, HGA, HLA⟩
                                  case measure => simp [intOf]; omega
                              · obtain rfl : i = T := by omega
                                have hroom : 0 < kp → 2 * (i - tk) ≤ (lv S (kp - 1)).length := fun h => by
                                  obtain ⟨kq, rfl⟩ : ∃ kq, kp = kq + 1 := ⟨kp - 1, by omega⟩
                                  have := lv_room HSY.out kq i (by have := HT.out.1 (by omega); exact this)
                                  rw [← HTK.out] at this
                                  exact this
                                have HROOM := Lib.hid hroom
                                clear hroom
                                go_wp2
                                go_roundw
                                case rel =>
                                  refine ⟨kp, 2 * (i - tk), stepG tk g, by omega, by omega, by go_num, rfl, ?_, ⟨HROOM.out, ?_⟩, HG, HLV⟩
                                  · have := HF.out
                                    rw [fin, ← HTK.out] at this
                                    exact this
                                  · intro x
                                    have := HT.out.2 x
                                    unfold stepG
                                    split <;> omega
                                case measure => simp [intOf]
                          · obtain rfl : kk = 0 := by omega
                            go_wp2
                            go_ret2
                            have hfin : g = lensG S j := HF.out
                            have hlens := HG.out.lens
                            rw [hfin, HSE.out] at hlens
                            refine Or.inr ⟨HE.out, LA, k, _, rfl, hlens.monoB (by have := HBX.out; omega), ?_, HG.out.upd⟩
                            rw [Int.toNat_natCast, ← HL.out]
                            exact lens_ok hM1 hM2 (by rw [HL.out, ← HUS.out]; exact HPM.out) HSD.out (by rw [HL.out]; omega) HB2.out hun2 HFIT.out

end Go.Proofs.YtolcdlopgbgilaaGreatDoor
