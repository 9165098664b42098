/- The walk of huff.Lengths. -/
import Derived.Test.YtndgijcjpkoooaaSortS
import Derived.Test.YtndgijcjpkoooaaLenL
namespace Go.Proofs.Ytndgijcjpkoooaa
open Go.RowKit Go.Dray

theorem el_rows : El Try.prog 79 76 (.slice none 0 0) 1 24 := ⟨Try.underlying79, by kernel_rfl, rfl, by omega⟩

/-- Lengths refuses. -/
def LenErr (v : Int) (w : World) (e : Ending) (w' : World) : Prop := e = .returned (.tuple #[.slice none 0 0, .int .i64 v]) ∧ Upd [] w w'
/-- Lengths hands back lengths that are right. -/
def LenPost (zs : List Int) (most n : Nat) (w : World) (e : Ending) (w' : World) : Prop :=
  ∃ A c L, e = .returned (.tuple #[.slice A n c, .int .i64 0]) ∧ Own w' w.heap.size 3 1 A n c (L.map (Value.int .i64)) ∧ LensOk zs most L ∧ Upd [] w w'

theorem badL_arg {zs : List Int} {most : Int} (h : most < 1 ∨ 15 < most) : badL zs most = 1 := by unfold badL; rw [if_pos h]
theorem badL_large {zs : List Int} {most : Int} (h : 1 ≤ most ∧ most ≤ 15) (hl : 320 < zs.length) : badL zs most = 4 := by unfold badL; rw [if_neg (by omega), if_pos hl]
theorem badL_count {zs : List Int} {most : Int} (h : 1 ≤ most ∧ most ≤ 15) (hl : zs.length ≤ 320) {k : Nat} {x : Int} (hx : zs[k]? = some x) (hb : x < 0 ∨ 4294967296 < x) : badL zs most = 1 := by
  have : zs.all okC = false := by
    rw [List.all_eq_false]
    exact ⟨x, List.mem_of_getElem? hx, by simp [okC]; omega⟩
  unfold badL
  rw [if_neg (by omega), if_neg (by omega), this]
  rfl
theorem badL_many {zs : List Int} {most : Int} (h : 1 ≤ most ∧ most ≤ 15) (hl : zs.length ≤ 320) (hb : ∀ z ∈ zs, 0 ≤ z ∧ z ≤ 4294967296) (hm : 2 ^ most.toNat < (usedI zs zs.length).length) : badL zs most = 4 := by
  have : zs.all okC = true := by rw [List.all_eq_true]; intro z hz; have := hb z hz; simp [okC]; omega
  unfold badL
  rw [if_neg (by omega), if_neg (by omega), this, if_pos rfl, if_pos hm]
theorem badL_ok {zs : List Int} {most : Int} (h : 1 ≤ most ∧ most ≤ 15) (hl : zs.length ≤ 320) (hb : ∀ z ∈ zs, 0 ≤ z ∧ z ≤ 4294967296) (hm : (usedI zs zs.length).length ≤ 2 ^ most.toNat) : badL zs most = 0 := by
  have : zs.all okC = true := by rw [List.all_eq_true]; intro z hz; have := hb z hz; simp [okC]; omega
  unfold badL
  rw [if_neg (by omega), if_neg (by omega), this, if_pos rfl, if_neg (by omega)]

theorem takeC {zs : List Int} {k : Nat} {x : Int} (h : zs[k]? = some x) (hb : ∀ z ∈ zs.take k, 0 ≤ z ∧ z ≤ 4294967296) (hx : 0 ≤ x ∧ x ≤ 4294967296) : ∀ z ∈ zs.take (k + 1), 0 ≤ z ∧ z ≤ 4294967296 := by
  have hk : k < zs.length := (List.getElem?_eq_some_iff.1 h).1
  have hx' : zs[k] = x := (List.getElem?_eq_some_iff.1 h).2
  rw [List.take_succ_eq_append_getElem hk, hx']
  intro z hz
  rcases List.mem_append.1 hz with h' | h'
  · exact hb z h'
  · rw [List.mem_singleton] at h'; subst h'; exact hx

/-- What Lengths does: refused, or right. -/
def LenAny (zs : List Int) (most : Int) (n : Nat) (w : World) (e : Ending) (w' : World) : Prop :=
  (badL zs most ≠ 0 ∧ LenErr (badL zs most) w e w') ∨ (badL zs most = 0 ∧ LenPost zs most.toNat n w e w')

theorem one_ok {zs : List Int} {most : Nat} (hm : 1 ≤ most) (hl : (usedI zs zs.length).length < 2) : LensOk zs most (tab zs.length (LF (usedI zs zs.length) fun _ => 1)) := by
  have hv : ∀ i, LF (usedI zs zs.length) (fun _ => 1) i = if (i : Int) ∈ usedI zs zs.length then 1 else 0 := fun i => rfl
  have hk : ∀ i : Nat, keyOf zs (i : Int) = zs.getD i 0 := fun i => by unfold keyOf; rw [Int.toNat_natCast]
  refine ⟨tab_len _ _, fun i hi => ?_, fun i hi => ?_, fun i k hi hk' h3 h4 h5 => ?_, fun h => by omega, fun _ i hi => ?_⟩
  · rw [getD_tab _ hi, hv]; split <;> omega
  · rw [getD_tab _ hi, hv, ← hk]
    by_cases hm' : (i : Int) ∈ usedI zs zs.length
    · rw [if_pos hm']
      exact ⟨fun _ => (usedI_mem.1 hm').2.2, fun _ => by omega⟩
    · rw [if_neg hm']
      exact ⟨fun h => by omega, fun h => absurd (usedI_mem.2 ⟨by omega, by omega, h⟩) hm'⟩
  · rw [getD_tab _ hi, getD_tab _ hk', hv, hv]
    rw [getD_tab _ hi, hv] at h3
    split at h3
    · split <;> omega
    · omega
  · rw [getD_tab _ hi, hv]; split <;> omega

/-- 'make([]T, n)', elements of any size. -/
theorem wpList_mkn {P : Program} {w : World} {ops : Array Oper} {rest : List Oper} {o : Oper} {a : Act} {Q : Exit → Act → World → Prop}
    (hg : o.guard = none) {l c : Operand} {t : TypeId} (hop : o.op = Op.makeSlice t l c)
    (B : Nat) {e : TypeId} {z : Value} {sz bytes : Nat} (el : El P t e z sz bytes)
    (n : Nat) {kl kc : IntKind} {L C : Int} (hl : a.eval l = .int kl L) (hc : a.eval c = .int kc C) (hL : L = (n : Int)) (hC : C = (n : Int)) (b2 : bytes * n ≤ 281474976710656) (b3 : n ≤ maxLen) (b4 : B ≤ w.heap.size)
    (hK : ∀ A' w' xs, Own w' B e sz A' n n xs → Upd [] w w' → ob A' = some w.heap.size → wpList P ops Q rest (a.put o.dst (.slice A' n n)) w') :
    wpList P ops Q (o :: rest) a w := by
  obtain ⟨i, hi, hz, hs, hb⟩ := info_get el
  exact wpList_make_full (P := P) w hg l c t hop B e i z sz el.under hi hz hs kl kc L C n hl hc hL hC (by rw [hb]; exact b2) b3 b4 fun w' h1 h2 => hK _ w' _ h1 ⟨h2.os, h2.tape, h2.output, h2.size, fun k hk _ => h2.block k hk (by simp)⟩ rfl

theorem stepG_one (u : List Int) (i : Nat) : LF u (stepG u.length fun _ => 0) i = LF u (fun _ => 1) i := by
  unfold LF
  split
  · rename_i h
    unfold stepG
    rw [if_pos (List.idxOf_lt_length_iff.2 h)]
    rfl
  · rfl
theorem stepG_zero (g : Nat → Int) : stepG 0 g = g := by funext j; unfold stepG; rw [if_neg (by omega)]

theorem take_set2 {xs : List Value} {i : Nat} (h : i * 2 + 1 < xs.length) (a b : Value) : ((xs.set (i * 2) a).set (i * 2 + 1) b).take ((i + 1) * 2) = xs.take (i * 2) ++ [a, b] := by
  apply List.ext_getElem?
  intro k
  rw [List.getElem?_take]
  by_cases hk : k < (i + 1) * 2
  · rw [if_pos hk]
    by_cases h1 : k < i * 2
    · rw [List.getElem?_set_ne (by omega), List.getElem?_set_ne (by omega), List.getElem?_append_left (by rw [List.length_take]; omega), List.getElem?_take_of_lt h1]
    · rw [List.getElem?_append_right (by rw [List.length_take]; omega), List.length_take, show k - min (i * 2) xs.length = k - i * 2 from by omega]
      by_cases h2 : k = i * 2
      · subst h2
        rw [List.getElem?_set_ne (by omega), List.getElem?_set_self (by omega), Nat.sub_self]
        rfl
      · obtain rfl : k = i * 2 + 1 := by omega
        rw [List.getElem?_set_self (by rw [List.length_set]; omega), show i * 2 + 1 - i * 2 = 1 from by omega]
        rfl
  · rw [if_neg hk, List.getElem?_eq_none (by rw [List.length_append, List.length_take]; simp; omega)]

/-- What is said of memory in Lengths: the box, the counts, the symbols used, the lengths. -/
structure GSt (w wr : World) (bx : Nat) (CA : Option Addr) (cn cc : Nat) (zs : List Int) (UA : Option Addr) (un uc : Nat) (u : List Int) (LA : Option Addr) (g : Nat → Int) : Prop where
  bw : w.heap.size = bx
  box : Blk wr bx 22 #[.slice CA cn cc]
  cnt : Ints .i64 wr CA cn zs
  used : Own wr (bx + 1) 3 1 UA un uc (u.map (Value.int .i64))
  lens : Own wr (bx + 1) 3 1 LA cn cn ((tab cn (LF u g)).map (Value.int .i64))
  sep : ∀ x, ob UA = some x → ob LA ≠ some x
  upd : Upd [] w wr

section
variable {w wr wr' : World} {bx : Nat} {CA : Option Addr} {cn cc : Nat} {zs : List Int} {UA : Option Addr} {un uc : Nat} {u : List Int} {LA : Option Addr} {g : Nat → Int}
theorem GSt.grow (h : GSt w wr bx CA cn cc zs UA un uc u LA g) (hu : Upd [] wr wr') : GSt w wr' bx CA cn cc zs UA un uc u LA g :=
  ⟨h.bw, h.box.upd hu (by simp), h.cnt.upd hu (by simp), h.used.upd hu (by simp), h.lens.upd hu (by simp), h.sep, h.upd.trans hu⟩
theorem GSt.far (h : GSt w wr bx CA cn cc zs UA un uc u LA g) {x : Nat} (hu : Upd [some x] wr wr') (hc : Ints .i64 w CA cn zs) (hx : bx + 1 ≤ x) (h1 : ob UA ≠ some x) (h2 : ob LA ≠ some x) : GSt w wr' bx CA cn cc zs UA un uc u LA g :=
  ⟨h.bw, h.box.upd hu (by simp; omega), h.cnt.upd hu (fun hp => by simp; have := hc.lt hp (by omega); have := h.bw; omega), h.used.upd hu (by intro y hy; simp; rintro rfl; exact h1 hy), h.lens.upd hu (by intro y hy; simp; rintro rfl; exact h2 hy), h.sep, h.upd.then hu (by intro b hb; simp at hb; have := h.bw; right; omega)⟩
/-- A length is raised. -/
theorem GSt.raise {t : Nat} (h : GSt w wr bx CA cn cc zs UA un uc u LA (stepG t g)) (hc : Ints .i64 w CA cn zs) (hn : u.Nodup) {p : Nat} (hp : u[t]? = some (p : Int)) (hpn : p < cn) :
    GSt w (wr.setCell ⟨bl LA, ofs LA + p, none⟩ (.int .i64 (LF u (stepG t g) p + 1))) bx CA cn cc zs UA un uc u LA (stepG (t + 1) g) := by
  have hob := h.lens.obl (by omega)
  have hbase := (h.lens.base hob).1
  have hu : Upd [some (bl LA)] wr (wr.setCell ⟨bl LA, ofs LA + p, none⟩ (.int .i64 (LF u (stepG t g) p + 1))) := (Upd.refl _ wr).setCell (p := ⟨bl LA, ofs LA + p, none⟩) (Or.inl (by simp)) _
  refine ⟨h.bw, h.box.upd hu (by simp; omega), h.cnt.upd hu (fun hp' => by simp; have := hc.lt hp' (by omega); have := h.bw; omega), h.used.upd hu (by intro y hy; simp; rintro rfl; exact h.sep _ hy hob), ?_, h.sep, h.upd.then hu (by intro b hb; simp at hb; have := h.bw; right; omega)⟩
  have := h.lens.set (k := p) (by omega) (.int .i64 (LF u (stepG t g) p + 1))
  rw [← List.map_set, tab_set, tab_congr (fun j _ => LF_step hn hp g j)] at this
  exact this
theorem GSt.lenCell (h : GSt w wr bx CA cn cc zs UA un uc u LA g) {p : Nat} (hp : p < cn) : wr.cell? ⟨bl LA, ofs LA + p, none⟩ = some (.int .i64 (LF u g p)) := (Ints.ofOwn h.lens).cell (tab_get _ hp)
end

/-- The levels that are made: the first k of the row VA. -/
structure LvSt (wr : World) (bx : Nat) (VA : Option Addr) (M : Nat) (vs : List Value) (LA : Option Addr) (S : List (Int × Bool)) (k : Nat) : Prop where
  own : Own wr (bx + 1) 76 1 VA M M vs
  lvs : ∀ j, j < k → ∃ A n c, vs[j]? = some (.slice A n c) ∧ Items wr A n c (lv S j) ∧ (0 < n → some (bl A) ≠ ob VA ∧ ob LA ≠ some (bl A))

theorem LvSt.grow {wr wr' : World} {bx : Nat} {VA : Option Addr} {M : Nat} {vs : List Value} {LA : Option Addr} {S : List (Int × Bool)} {k : Nat} (h : LvSt wr bx VA M vs LA S k) (hu : Upd [] wr wr') : LvSt wr' bx VA M vs LA S k :=
  ⟨h.own.upd hu (by simp), fun j hj => by
    obtain ⟨A, n, c, h1, h2, h3⟩ := h.lvs j hj
    exact ⟨A, n, c, h1, h2.upd hu (by simp), h3⟩⟩
theorem LvSt.lens {wr wr' : World} {bx : Nat} {VA : Option Addr} {M : Nat} {vs : List Value} {LA : Option Addr} {S : List (Int × Bool)} {k : Nat} {x : Nat} (h : LvSt wr bx VA M vs LA S k) (hu : Upd [some x] wr wr') (hx : ob LA = some x) (hv : ob VA ≠ some x) : LvSt wr' bx VA M vs LA S k :=
  ⟨h.own.upd hu (by intro y hy; simp; rintro rfl; exact hv hy), fun j hj => by
    obtain ⟨A, n, c, h1, h2, h3⟩ := h.lvs j hj
    exact ⟨A, n, c, h1, h2.upd hu (fun hp => by simp; intro e; exact (h3 hp).2 (by rw [hx, e])), h3⟩⟩
/-- Whatever is laid at a place that no level has yet. -/
theorem LvSt.junk {wr : World} {bx : Nat} {VA : Option Addr} {M : Nat} {vs : List Value} {LA : Option Addr} {S : List (Int × Bool)} {k : Nat} (h : LvSt wr bx VA M vs LA S k) (hk : k < M) (v : Value) : LvSt (wr.setCell ⟨bl VA, ofs VA + k, none⟩ v) bx VA M (vs.set k v) LA S k := by
  have hob := h.own.obl (by omega)
  have hu : Upd [some (bl VA)] wr (wr.setCell ⟨bl VA, ofs VA + k, none⟩ v) := (Upd.refl _ wr).setCell (p := ⟨bl VA, ofs VA + k, none⟩) (Or.inl (by simp)) _
  refine ⟨h.own.set (by omega) _, fun j hj => ?_⟩
  obtain ⟨A', n', c', h1, h2, h3⟩ := h.lvs j hj
  exact ⟨A', n', c', by rw [List.getElem?_set_ne (by omega)]; exact h1, h2.upd hu (fun hp => by simp; intro e; exact (h3 hp).1 (by rw [hob, e])), h3⟩
/-- A level is laid. -/
theorem LvSt.put {wr : World} {bx : Nat} {VA : Option Addr} {M : Nat} {vs : List Value} {LA : Option Addr} {S : List (Int × Bool)} {k : Nat} (h : LvSt wr bx VA M vs LA S k) {A : Option Addr} {n c : Nat} (hk : k < M) (hi : Items wr A n c (lv S k)) (hn : 0 < n → some (bl A) ≠ ob VA ∧ ob LA ≠ some (bl A)) :
    LvSt (wr.setCell ⟨bl VA, ofs VA + k, none⟩ (.slice A n c)) bx VA M (vs.set k (.slice A n c)) LA S (k + 1) := by
  have hob := h.own.obl (by omega)
  have hl : vs.length = M := by have := h.own.len; omega
  have hu : Upd [some (bl VA)] wr (wr.setCell ⟨bl VA, ofs VA + k, none⟩ (.slice A n c)) := (Upd.refl _ wr).setCell (p := ⟨bl VA, ofs VA + k, none⟩) (Or.inl (by simp)) _
  have hup : ∀ {A : Option Addr} {n c : Nat} {l : List (Int × Bool)}, Items wr A n c l → (0 < n → some (bl A) ≠ ob VA) → Items (wr.setCell ⟨bl VA, ofs VA + k, none⟩ (.slice _ _ _)) A n c l := fun hi hn => hi.upd hu (fun hp => by simp; intro e; exact hn hp (by rw [hob, e]))
  refine ⟨h.own.set (by omega) _, fun j hj => ?_⟩
  by_cases e : j = k
  · subst e
    exact ⟨A, n, c, by rw [List.getElem?_set_self (by omega)], hup hi fun hp => (hn hp).1, hn⟩
  · obtain ⟨A', n', c', h1, h2, h3⟩ := h.lvs j (by omega)
    exact ⟨A', n', c', by rw [List.getElem?_set_ne (by omega)]; exact h1, hup h2 fun hp => (h3 hp).1, h3⟩

theorem pow2_le (n : Nat) (h : n ≤ 15) : (1 : Int) ≤ 2 ^ n ∧ (2 : Int) ^ n ≤ 32768 := by
  match n, h with
  | 0, _ | 1, _ | 2, _ | 3, _ | 4, _ | 5, _ | 6, _ | 7, _ | 8, _ | 9, _ | 10, _ | 11, _ | 12, _ | 13, _ | 14, _ | 15, _ => decide
theorem itemsOf_len (zs u : List Int) : (itemsOf zs u).length = u.length := by unfold itemsOf; rw [List.length_map]
theorem lv_few {S : List (Int × Bool)} (h : 1 ≤ S.length) (h2 : S.length ≤ 320) (k : Nat) : (lv S k).length ≤ 639 := by have := (lv_size (S := S) k h).1; omega
theorem lv_bds {S : List (Int × Bool)} (h : Syms S) {k : Nat} (hk : k ≤ 15) : ∀ x ∈ lv S k, 0 ≤ x.1 ∧ x.1 ≤ 140737488355328 := fun x hx => by
  have h1 := lv_bd h k x hx
  have h2 := pow2_le k hk
  omega
theorem sy_succ {l : List (Int × Bool)} {i : Nat} {x : Int × Bool} (h : l[i]? = some x) : sy (l.take (i + 1)) = sy (l.take i) + if x.2 then 1 else 0 := by
  have hk : i < l.length := (List.getElem?_eq_some_iff.1 h).1
  have hx : l[i] = x := (List.getElem?_eq_some_iff.1 h).2
  unfold sy
  rw [List.take_succ_eq_append_getElem hk, hx, List.countP_append]
  simp [List.countP_cons]

end Go.Proofs.Ytndgijcjpkoooaa
