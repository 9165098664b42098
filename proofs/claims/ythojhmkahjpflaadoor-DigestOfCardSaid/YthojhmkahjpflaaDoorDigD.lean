/- What the sums are, plainly: a block's words, a block's step, all blocks, the filled-up message; a hash on its way. -/
import Derived.Test.YthojhmkahjpflaaDoorDigSha2
import Derived.Test.YthojhmkahjpflaaDoorCodecLe
namespace Go.Proofs.YthojhmkahjpflaaDoor
open Go.RowKit Go.Dray

/-- A block's words. -/
def wordK (kind : Int) (tl : List Int) (i : Nat) : Int := if kind = 1 then leNum ((tl.drop (4 * i)).take 4) else beNum ((tl.drop (4 * i)).take 4)
def wordsK (kind : Int) (tl : List Int) : List Int := tab 16 (wordK kind tl)
theorem wordsK_len (kind : Int) (tl : List Int) : (wordsK kind tl).length = 16 := tab_len _ _
theorem wordsK_take (kind : Int) (tl : List Int) {k : Nat} (h : k < 16) : (wordsK kind tl).take (k + 1) = (wordsK kind tl).take k ++ [wordK kind tl k] := by
  have hl : k < (wordsK kind tl).length := by rw [wordsK_len]; exact h
  rw [List.take_succ_eq_append_getElem hl]
  have := List.getElem?_eq_getElem hl
  unfold wordsK at this
  rw [tab_get _ h] at this
  injection this with this
  unfold wordsK
  rw [← this]
theorem wordK_bd (kind : Int) {tl : List Int} (h : ∀ z ∈ tl, 0 ≤ z ∧ z ≤ 255) (i : Nat) : 0 ≤ wordK kind tl i ∧ wordK kind tl i ≤ 4294967295 := by
  have hb : ∀ z ∈ (tl.drop (4 * i)).take 4, 0 ≤ z ∧ z ≤ 255 := fun z hz => h z (List.mem_of_mem_drop (List.mem_of_mem_take hz))
  have hl : ((tl.drop (4 * i)).take 4).length ≤ 4 := List.length_take_le _ _
  have h3 := Nat.pow_le_pow_right (n := 2) (by omega) (show 8 * ((tl.drop (4 * i)).take 4).length ≤ 32 by omega)
  have e : ((2 ^ (8 * ((tl.drop (4 * i)).take 4).length) : Nat) : Int) = (2 : Int) ^ (8 * ((tl.drop (4 * i)).take 4).length) := by simp
  have h1 := leNum_bd _ hb
  have h2 := beNum_bd _ hb
  rw [← e] at h1 h2
  unfold wordK
  split <;> omega

/-- How many words a sum has. -/
def nwK (kind : Int) : Nat := if kind = 1 then 4 else if kind = 2 then 5 else 8
def initK (kind : Int) : List Int :=
  if kind = 1 then [1732584193, 4023233417, 2562383102, 271733878] else if kind = 2 then [1732584193, 4023233417, 2562383102, 271733878, 3285377520]
  else [1779033703, 3144134277, 1013904242, 2773480762, 1359893119, 2600822924, 528734635, 1541459225]

def comp1 (s0 s1 s2 s3 : Int) (ws : List Int) : List Int :=
  [add32 s0 (md5Run ws 64 ⟨s0, s1, s2, s3⟩).a, add32 s1 (md5Run ws 64 ⟨s0, s1, s2, s3⟩).b, add32 s2 (md5Run ws 64 ⟨s0, s1, s2, s3⟩).c, add32 s3 (md5Run ws 64 ⟨s0, s1, s2, s3⟩).d]
def comp2 (s0 s1 s2 s3 s4 : Int) (ws : List Int) : List Int :=
  [add32 s0 (sha1Run (ext1 ws 64) 80 ⟨s0, s1, s2, s3, s4⟩).a, add32 s1 (sha1Run (ext1 ws 64) 80 ⟨s0, s1, s2, s3, s4⟩).b, add32 s2 (sha1Run (ext1 ws 64) 80 ⟨s0, s1, s2, s3, s4⟩).c, add32 s3 (sha1Run (ext1 ws 64) 80 ⟨s0, s1, s2, s3, s4⟩).d, add32 s4 (sha1Run (ext1 ws 64) 80 ⟨s0, s1, s2, s3, s4⟩).e]
def comp3 (s0 s1 s2 s3 s4 s5 s6 s7 : Int) (ws : List Int) : List Int :=
  [add32 s0 (shaRun (ext2 ws 48) 64 ⟨s0, s1, s2, s3, s4, s5, s6, s7⟩).a, add32 s1 (shaRun (ext2 ws 48) 64 ⟨s0, s1, s2, s3, s4, s5, s6, s7⟩).b, add32 s2 (shaRun (ext2 ws 48) 64 ⟨s0, s1, s2, s3, s4, s5, s6, s7⟩).c, add32 s3 (shaRun (ext2 ws 48) 64 ⟨s0, s1, s2, s3, s4, s5, s6, s7⟩).d,
   add32 s4 (shaRun (ext2 ws 48) 64 ⟨s0, s1, s2, s3, s4, s5, s6, s7⟩).e, add32 s5 (shaRun (ext2 ws 48) 64 ⟨s0, s1, s2, s3, s4, s5, s6, s7⟩).f, add32 s6 (shaRun (ext2 ws 48) 64 ⟨s0, s1, s2, s3, s4, s5, s6, s7⟩).g, add32 s7 (shaRun (ext2 ws 48) 64 ⟨s0, s1, s2, s3, s4, s5, s6, s7⟩).h]
/-- A block's step. -/
def compK (kind : Int) (s ws : List Int) : List Int :=
  if kind = 1 then comp1 (at0 s 0) (at0 s 1) (at0 s 2) (at0 s 3) ws else if kind = 2 then comp2 (at0 s 0) (at0 s 1) (at0 s 2) (at0 s 3) (at0 s 4) ws
  else comp3 (at0 s 0) (at0 s 1) (at0 s 2) (at0 s 3) (at0 s 4) (at0 s 5) (at0 s 6) (at0 s 7) ws
/-- The first n blocks. -/
def runB (kind : Int) (bs : List Int) : Nat → List Int
  | 0 => initK kind
  | n + 1 => compK kind (runB kind bs n) (wordsK kind ((bs.drop (64 * n)).take 64))
theorem compK_len (kind : Int) (s ws : List Int) : (compK kind s ws).length = nwK kind := by
  unfold compK nwK
  split
  · rfl
  · split <;> rfl
theorem runB_len (kind : Int) (bs : List Int) (n : Nat) : (runB kind bs n).length = nwK kind := by
  cases n with
  | zero =>
    unfold runB initK nwK
    split
    · rfl
    · split <;> rfl
  | succ n => exact compK_len _ _ _
theorem runB_app (kind : Int) (bs cs : List Int) (n : Nat) (h : 64 * n ≤ bs.length) : runB kind (bs ++ cs) n = runB kind bs n := by
  induction n with
  | zero => rfl
  | succ n ih => rw [runB, runB, ih (by omega), List.drop_append_of_le_length (by omega), List.take_append_of_le_length (by rw [List.length_drop]; omega)]

/-- How many noughts are put behind so many bytes and a byte more. -/
def padN (n : Nat) : Nat := (119 - n % 64) % 64
/-- A message with what is put behind it. -/
def numB (kind v : Int) (n : Nat) : List Int := if kind = 1 then leB v n else beB v n
def padded (kind : Int) (bs : List Int) : List Int := bs ++ [128] ++ List.replicate (padN bs.length) 0 ++ numB kind (8 * bs.length) 8
theorem numB_len (kind v : Int) (n : Nat) : (numB kind v n).length = n := by
  unfold numB
  split
  · exact leB_len _ _
  · exact beB_len _ _
theorem numB_bd (kind v : Int) (n : Nat) : ∀ z ∈ numB kind v n, 0 ≤ z ∧ z ≤ 255 := by
  unfold numB
  split
  · exact leB_bd _ _
  · exact beB_bd _ _
theorem padded_len (kind : Int) (bs : List Int) : (padded kind bs).length = bs.length + 1 + padN bs.length + 8 := by simp [padded, numB_len]; omega
theorem padN_spec (n : Nat) : (n + 1 + padN n) % 64 = 56 ∧ padN n < 64 := by unfold padN; omega
/-- The words' bytes. -/
def bytesK (kind : Int) (s : List Int) : List Int := s.flatMap fun x => numB kind x 4
/-- The sum of bytes. -/
def sumK (kind : Int) (bs : List Int) : List Int := bytesK kind (runB kind (padded kind bs) ((padded kind bs).length / 64))
theorem bytesK_len (kind : Int) (s : List Int) : (bytesK kind s).length = 4 * s.length := by
  unfold bytesK
  induction s with
  | nil => rfl
  | cons x s ih => rw [List.flatMap_cons, List.length_append, ih, numB_len]; simp; omega
theorem bytesK_snoc (kind : Int) (s : List Int) (x : Int) : bytesK kind (s ++ [x]) = bytesK kind s ++ numB kind x 4 := by simp [bytesK]

theorem add32_comm (a b : Int) : add32 a b = add32 b a := by unfold add32; rw [Int.add_comm]
theorem add32_zero : add32 0 0 = 0 := by decide +kernel

/-- The tail of a hash reads as bytes. -/
theorem HashAt.tailInts {w : World} {g : Nat} {kind : Int} {st tl : List Int} {size : Int} (h : HashAt w g kind st tl size) : Ints .u8 w (some ⟨g, 9, none⟩) 64 tl :=
  ⟨by rw [List.length_map, h.ltl], fun _ => rfl, fun k u hu => by
    rw [List.getElem?_map] at hu
    cases hx : tl[k]? with
    | none => rw [hx] at hu; cases hu
    | some x =>
      rw [hx] at hu
      injection hu with hu
      subst hu
      exact h.tail hx⟩

/-- A place of an array of eight words. -/
theorem agg8_index (s0 s1 s2 s3 s4 s5 s6 s7 : Int) (k : Nat) (hk : k < 8) (w : World) :
    (Instr.index 47 (.agg #[.int .u32 s0, .int .u32 s1, .int .u32 s2, .int .u32 s3, .int .u32 s4, .int .u32 s5, .int .u32 s6, .int .u32 s7]) (.int .i64 k)).run Tryd.prog w = .ok (.int .u32 (at0 [s0, s1, s2, s3, s4, s5, s6, s7] k)) w := by
  rcases k with _ | _ | _ | _ | _ | _ | _ | _ | k
  · kernel_rfl
  · kernel_rfl
  · kernel_rfl
  · kernel_rfl
  · kernel_rfl
  · kernel_rfl
  · kernel_rfl
  · kernel_rfl
  · omega

/-- The state in the midst of the last loop. -/
def addSt (new old : List Int) (k : Nat) : List Int := tab 8 fun i => if i < k then add32 (at0 new i) (at0 old i) else at0 new i
theorem addSt_zero (new old : List Int) (h : new.length = 8) : addSt new old 0 = new := by
  unfold addSt
  conv => rhs; rw [tab_of new 0, h]
  exact tab_congr fun j _ => by simp [at0]
theorem addSt_get (new old : List Int) {k : Nat} (h : k < 8) : (addSt new old k)[k]? = some (at0 new k) := by
  unfold addSt
  rw [tab_get _ h]
  simp
theorem addSt_set (new old : List Int) (k : Nat) : (addSt new old k).set k (add32 (at0 new k) (at0 old k)) = addSt new old (k + 1) := by
  unfold addSt
  rw [tab_set]
  refine tab_congr fun j _ => ?_
  by_cases e : j = k
  · subst e; rw [if_pos rfl, if_pos (by omega)]
  · rw [if_neg e]
    by_cases e2 : j < k
    · rw [if_pos e2, if_pos (by omega)]
    · rw [if_neg e2, if_neg (by omega)]
theorem addSt_8 (n0 n1 n2 n3 n4 n5 n6 n7 s0 s1 s2 s3 s4 s5 s6 s7 : Int) : addSt [n0, n1, n2, n3, n4, n5, n6, n7] [s0, s1, s2, s3, s4, s5, s6, s7] 8 =
    [add32 s0 n0, add32 s1 n1, add32 s2 n2, add32 s3 n3, add32 s4 n4, add32 s5 n5, add32 s6 n6, add32 s7 n7] := by
  rw [add32_comm s0, add32_comm s1, add32_comm s2, add32_comm s3, add32_comm s4, add32_comm s5, add32_comm s6, add32_comm s7]
  rfl

end Go.Proofs.YthojhmkahjpflaaDoor
