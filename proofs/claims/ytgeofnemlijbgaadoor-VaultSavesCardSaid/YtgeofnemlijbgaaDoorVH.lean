/- Plan and Save as data. No program here. -/
import Derived.Test.YtgeofnemlijbgaaDoorVG
import Derived.Test.YtgeofnemlijbgaaDoorPlain2
namespace Go.Proofs.YtgeofnemlijbgaaDoor
open Go.RowKit
set_option linter.unusedVariables false

/-! ### The head -/
theorem num8_be8 {n : Nat} (hn : n < 18446744073709551616) : num8 (be8 n) = n := by
  have h : ∀ j, j ≤ 8 → num8 ((be8 n).take j) = n / 256 ^ (8 - j) := by
    intro j
    induction j with
    | zero => intro _; rw [List.take_zero]; simp [num8]; omega
    | succ j ih =>
      intro hj
      rw [be8_at n (by omega), num8_snoc, ih (by omega)]
      have e : (be8at n j).toNat = n / 256 ^ (7 - j) % 256 := by unfold be8at; simp
      have e2 : 8 - j = (7 - j) + 1 := by omega
      have e3 : 8 - (j + 1) = 7 - j := by omega
      rw [e, e2, e3, Nat.pow_succ, ← Nat.div_div_eq_div_mul]
      omega
  have := h 8 (Nat.le_refl _)
  rw [List.take_of_length_le (by rw [be8_len]; exact Nat.le_refl _)] at this
  simpa using this
theorem head_seq {n : Nat} (m : Nat) (hn : n < 18446744073709551616) : seqOf (headL n m) = n := by
  unfold seqOf headL
  have : (([1] ++ be8 n ++ be8 m ++ zeros 46 ++ [1]).drop 1).take 8 = be8 n := by
    have e : ([1] ++ be8 n ++ be8 m ++ zeros 46 ++ [1] : List UInt8) = 1 :: (be8 n ++ (be8 m ++ zeros 46 ++ [1])) := by simp
    rw [e, List.drop_one, List.tail_cons, List.take_append_of_le_length (by rw [be8_len]; exact Nat.le_refl _), List.take_of_length_le (by rw [be8_len]; exact Nat.le_refl _)]
  rw [this, num8_be8 hn]
theorem head_lenOf {n m : Nat} (hm : m < 18446744073709551616) : lenOf (headL n m) = m := by
  unfold lenOf headL
  have : (([1] ++ be8 n ++ be8 m ++ zeros 46 ++ [1]).drop 9).take 8 = be8 m := by
    have e : ([1] ++ be8 n ++ be8 m ++ zeros 46 ++ [1] : List UInt8) = ([1] ++ be8 n) ++ (be8 m ++ (zeros 46 ++ [1])) := by simp
    have e9 : ([1] ++ be8 n : List UInt8).length = 9 := by simp [be8_len]
    rw [e, List.drop_append_of_le_length (by omega), List.drop_of_length_le (by omega), List.nil_append, List.take_append_of_le_length (by rw [be8_len]; exact Nat.le_refl _), List.take_of_length_le (by rw [be8_len]; exact Nat.le_refl _)]
  rw [this, num8_be8 hm]
theorem readH_head {n m : Nat} {room : Int} (hn : n ≤ 4611686018427387903) (hm : (m : Int) ≤ room) (hr : room ≤ 1000000) : readH (headL n m) room = some (n, m) := by
  have e1 := head_seq (n := n) m (by omega)
  have e2 := head_lenOf (n := n) (m := m) (by omega)
  unfold readH
  rw [e1, e2, if_pos ⟨headL_len n m, hn, hm, rfl⟩]

/-! ### Writes that succeed -/
def setsL (ss : List (List UInt8)) (l : List Wr) : List (List UInt8) := l.foldl (fun s x => s.set x.1.toNat x.2) ss
def OkW (n : Nat) (x : Wr) : Prop := 0 ≤ x.1 ∧ x.1 < (n : Int) ∧ x.2.length = 64
theorem sets_len (ss : List (List UInt8)) (l : List Wr) : (setsL ss l).length = ss.length := by
  induction l generalizing ss with
  | nil => rfl
  | cons x l ih => show (setsL (ss.set _ _) l).length = _; rw [ih]; simp
theorem sets_app (ss : List (List UInt8)) (l m : List Wr) : setsL ss (l ++ m) = setsL (setsL ss l) m := by simp [setsL, List.foldl_append]
theorem sets_miss {ss : List (List UInt8)} {l : List Wr} {i : Nat} (h : ∀ x ∈ l, x.1.toNat ≠ i) : (setsL ss l)[i]? = ss[i]? := by
  induction l generalizing ss with
  | nil => rfl
  | cons x l ih =>
    show (setsL (ss.set _ _) l)[i]? = _
    rw [ih (fun y hy => h y (List.mem_cons_of_mem _ hy)), List.getElem?_set_ne (h x (List.mem_cons_self ..))]
/-- A disk that is on, without a limit. -/
def OnD (d : Dsk) : Prop := d.off = false ∧ d.left = -1
theorem wrD_on {d : Dsk} {x : Wr} (h : OnD d) (hx : OkW d.secs.length x) : wrD d x = ({ d with secs := d.secs.set x.1.toNat x.2, done := wrap64 (d.done + 1) }, 0) := by
  obtain ⟨s, lf, t, o, dn⟩ := d
  obtain ⟨ho, hl⟩ := h
  obtain ⟨h0, h1, h2⟩ := hx
  dsimp only at ho hl h1
  subst ho
  subst hl
  have hb : badW ⟨s, -1, t, false, dn⟩ x = false := by
    simp only [badW, Bool.or_eq_false_iff, decide_eq_false_iff_not, ne_eq, Decidable.not_not]
    omega
  unfold wrD
  rw [hb]
  have hne : ¬ ((-1 : Int) = 0) := by omega
  have hp : ¬ ((0 : Int) < -1) := by omega
  simp only [hne, if_false, Bool.false_eq_true, hp]
theorem doL_on {d : Dsk} {l : List Wr} (h : OnD d) (hl : ∀ x ∈ l, OkW d.secs.length x) : ∃ dn, doL d l = ({ d with secs := setsL d.secs l, done := dn }, 0) := by
  induction l generalizing d with
  | nil => exact ⟨d.done, rfl⟩
  | cons x l ih =>
    have e := wrD_on h (hl x (List.mem_cons_self ..))
    obtain ⟨dn, hd⟩ := ih (d := { d with secs := d.secs.set x.1.toNat x.2, done := wrap64 (d.done + 1) }) h (fun y hy => by simpa using hl y (List.mem_cons_of_mem _ hy))
    exact ⟨dn, by rw [doL_go (by rw [e]), e, hd]; rfl⟩
theorem doD_on {d : Dsk} {l : List Wr} (h : OnD d) (hck : checkB d.secs = true) (hl : ∀ x ∈ l, OkW d.secs.length x) : ∃ dn, doD d l = ({ d with secs := setsL d.secs l, done := dn }, 0) := by
  unfold doD
  rw [hck, if_pos rfl]
  exact doL_on h hl

/-! ### A text's pieces -/
def piecesW (a : Nat) (t : List UInt8) (k : Nat) : List Wr := (List.range k).map fun i => (((a + 1 + i : Nat) : Int), pieceL t i)
theorem piecesW_len (a : Nat) (t : List UInt8) (k : Nat) : (piecesW a t k).length = k := by simp [piecesW]
theorem piecesW_succ (a : Nat) (t : List UInt8) (k : Nat) : piecesW a t (k + 1) = piecesW a t k ++ [(((a + 1 + k : Nat) : Int), pieceL t k)] := by simp [piecesW, List.range_succ]
theorem piecesW_mem {a : Nat} {t : List UInt8} {k : Nat} {x : Wr} (h : x ∈ piecesW a t k) : ∃ i, i < k ∧ x = (((a + 1 + i : Nat) : Int), pieceL t i) := by
  simp only [piecesW, List.mem_map, List.mem_range] at h
  obtain ⟨i, hi, rfl⟩ := h
  exact ⟨i, hi, rfl⟩
theorem pieces_at {ss : List (List UInt8)} {a : Nat} {t : List UInt8} {k i : Nat} (hi : i < k) (hl : a + 1 + k ≤ ss.length) : (setsL ss (piecesW a t k))[a + 1 + i]? = some (pieceL t i) := by
  induction k with
  | zero => omega
  | succ k ih =>
    rw [piecesW_succ, sets_app]
    show ((setsL ss (piecesW a t k)).set ((a + 1 + k : Nat) : Int).toNat (pieceL t k))[a + 1 + i]? = _
    rw [Int.toNat_natCast]
    by_cases e : i = k
    · subst e
      rw [List.getElem?_set_self (by rw [sets_len]; omega)]
    · rw [List.getElem?_set_ne (by omega)]
      exact ih (by omega) (by omega)
theorem zeros_app (a b : Nat) : zeros a ++ zeros b = zeros (a + b) := by simp [zeros, List.replicate_append_replicate]
theorem pieces_flat (t : List UInt8) (k : Nat) (hk : k ≤ pn t) : ((List.range k).map (pieceL t)).flatten = t.take (k * 64) ++ zeros (k * 64 - t.length) := by
  induction k with
  | zero => simp [zeros]
  | succ k ih =>
    have hlt : k * 64 < t.length := by unfold pn at hk; omega
    rw [List.range_succ, List.map_append, List.flatten_append, ih (by omega)]
    have e0 : k * 64 - t.length = 0 := by omega
    have e1 : (k + 1) * 64 = k * 64 + 64 := by omega
    rw [e0, e1, List.take_add]
    simp only [zeros, List.replicate_zero, List.append_nil, List.map_cons, List.map_nil, List.flatten_cons, List.flatten_nil, List.append_assoc, List.append_cancel_left_eq]
    unfold pieceL zeros
    rw [List.length_take, List.length_drop]
    congr 2
    omega
theorem pieces_text (t : List UInt8) (r : List UInt8) : (((List.range (pn t)).map (pieceL t)).flatten ++ r).take t.length = t := by
  rw [pieces_flat t (pn t) (Nat.le_refl _), List.take_of_length_le (l := t) (by unfold pn; omega), List.append_assoc, List.take_append_of_le_length (Nat.le_refl _), List.take_of_length_le (Nat.le_refl _)]

/-! ### Plan -/
/-- Which area has the next text, and its number. -/
def tgtD (d : Dsk) : Nat × Nat := match newestD d with
  | some (k, n, _) => (1 - k, n + 1)
  | none => (0, 0)
def maxD (d : Dsk) : Bool := match newestD d with
  | some (_, n, _) => decide (4611686018427387903 ≤ n)
  | none => false
def fullD (d : Dsk) (t : List UInt8) : Bool := maxD d || decide (roomN d.secs.length < t.length)
def toD (d : Dsk) : Nat := atD d (tgtD d).1
/-- The writes by which a disk has another text, but for those that clean. -/
def plan0 (d : Dsk) (t : List UInt8) : List Wr := ((toD d : Int), zeros 64) :: (piecesW (toD d) t (pn t) ++ [((toD d : Int), headL (tgtD d).2 t.length)])
def behindD (d : Dsk) (t : List UInt8) : Dsk := (doD (onD d) (plan0 d t)).1
def planD (d : Dsk) (t : List UInt8) : List Wr × Int :=
  if checkB d.secs then if fullD d t then ([], 180) else (plan0 d t ++ (scrubD (behindD d t)).1, 0) else ([], 1)
theorem tgt_le (d : Dsk) : (tgtD d).1 ≤ 1 := by
  unfold tgtD
  split
  · exact Nat.sub_le _ _
  · exact Nat.zero_le _
theorem full_num {d : Dsk} {t : List UInt8} (h : fullD d t = false) : (tgtD d).2 ≤ 4611686018427387903 ∧ (t.length : Int) ≤ roomN d.secs.length := by
  unfold fullD maxD at h
  unfold tgtD
  rw [Bool.or_eq_false_iff] at h
  obtain ⟨h1, h2⟩ := h
  refine ⟨?_, by simpa using h2⟩
  split at h1
  · rename_i k n m hn
    simp at h1
    dsimp only
    omega
  · exact Nat.zero_le _
theorem room_half {d : Dsk} (hck : checkB d.secs = true) : roomN d.secs.length = (64 * (halfD d - 1) : Nat) := by
  obtain ⟨h1, h2, h3, h4⟩ := halfD_eq hck
  unfold roomN
  omega
theorem pn_half {d : Dsk} {t : List UInt8} (hck : checkB d.secs = true) (h : (t.length : Int) ≤ roomN d.secs.length) : pn t ≤ halfD d - 1 := by
  rw [room_half hck] at h
  unfold pn
  omega
theorem plan0_ok {d : Dsk} {t : List UInt8} (hck : checkB d.secs = true) (hf : fullD d t = false) : ∀ x ∈ plan0 d t, OkW d.secs.length x := by
  obtain ⟨h1, h2⟩ := full_num hf
  have h3 := pn_half hck h2
  have h4 := atD_le hck (tgtD d).1
  obtain ⟨g1, g2, g3, g4⟩ := halfD_eq hck
  have h5 : toD d + halfD d ≤ d.secs.length := h4
  intro x hx
  rcases List.mem_cons.1 hx with rfl | hx
  · exact ⟨by omega, by show ((toD d : Nat) : Int) < _; omega, zeros_length 64⟩
  · rcases List.mem_append.1 hx with hx | hx
    · obtain ⟨i, hi, rfl⟩ := piecesW_mem hx
      exact ⟨by omega, by show ((toD d + 1 + i : Nat) : Int) < _; omega, pieceL_len t i⟩
    · rcases List.mem_singleton.1 hx with rfl
      exact ⟨by omega, by show ((toD d : Nat) : Int) < _; omega, headL_len _ _⟩
theorem plan0_len (d : Dsk) (t : List UInt8) : (plan0 d t).length = pn t + 2 := by simp [plan0, piecesW_len]
theorem plan0_do {d : Dsk} {t : List UInt8} (hck : checkB d.secs = true) (hf : fullD d t = false) : ∃ dn, doD (onD d) (plan0 d t) = ({ onD d with secs := setsL d.secs (plan0 d t), done := dn }, 0) :=
  doD_on (d := onD d) ⟨rfl, rfl⟩ hck (plan0_ok hck hf)
theorem behind_eq {d : Dsk} {t : List UInt8} (hck : checkB d.secs = true) (hf : fullD d t = false) : (doD (onD d) (plan0 d t)).2 = 0 ∧ (behindD d t).secs = setsL d.secs (plan0 d t) ∧ OnD (behindD d t) ∧ checkB (behindD d t).secs = true := by
  obtain ⟨dn, h⟩ := plan0_do hck hf
  refine ⟨by rw [h], by unfold behindD; rw [h], by unfold behindD; rw [h]; exact ⟨rfl, rfl⟩, doD_check _ hck⟩
/-- What lies where behind the plan's first writes. -/
theorem plan0_at {d : Dsk} {t : List UInt8} (hck : checkB d.secs = true) (hf : fullD d t = false) :
    (setsL d.secs (plan0 d t))[toD d]? = some (headL (tgtD d).2 t.length) ∧
    (∀ i, i < pn t → (setsL d.secs (plan0 d t))[toD d + 1 + i]? = some (pieceL t i)) ∧
    (∀ i, (i < toD d ∨ toD d + 1 + pn t ≤ i) → (setsL d.secs (plan0 d t))[i]? = d.secs[i]?) := by
  obtain ⟨h1, h2⟩ := full_num hf
  have h3 := pn_half hck h2
  have h4 : toD d + halfD d ≤ d.secs.length := atD_le hck (tgtD d).1
  obtain ⟨g1, g2, g3, g4⟩ := halfD_eq hck
  have e : setsL d.secs (plan0 d t) = (setsL (d.secs.set (toD d) (zeros 64)) (piecesW (toD d) t (pn t))).set (toD d) (headL (tgtD d).2 t.length) := by
    show setsL (d.secs.set ((toD d : Nat) : Int).toNat (zeros 64)) (piecesW (toD d) t (pn t) ++ [((toD d : Int), headL (tgtD d).2 t.length)]) = _
    rw [sets_app, Int.toNat_natCast]
    show ((setsL (d.secs.set (toD d) (zeros 64)) (piecesW (toD d) t (pn t))).set ((toD d : Nat) : Int).toNat (headL (tgtD d).2 t.length)) = _
    rw [Int.toNat_natCast]
  rw [e]
  refine ⟨List.getElem?_set_self (by rw [sets_len, List.length_set]; omega), fun i hi => ?_, fun i hi => ?_⟩
  · rw [List.getElem?_set_ne (by omega)]
    exact pieces_at hi (by rw [List.length_set]; omega)
  · rw [List.getElem?_set_ne (by omega), sets_miss, List.getElem?_set_ne (by omega)]
    intro x hx
    obtain ⟨j, hj, rfl⟩ := piecesW_mem hx
    show ((toD d + 1 + j : Nat) : Int).toNat ≠ i
    omega
theorem secN_of {d : Dsk} {i : Nat} {s : List UInt8} (h : d.secs[i]? = some s) : secN d i = s := by
  unfold secN
  rw [List.getD_eq_getElem?_getD, h, Option.getD_some]
theorem secN_eq {d e : Dsk} {i : Nat} (h : d.secs[i]? = e.secs[i]?) : secN d i = secN e i := by
  unfold secN
  rw [List.getD_eq_getElem?_getD, List.getD_eq_getElem?_getD, h]
theorem newest_none {d : Dsk} (h : newestD d = none) : head0 d = none ∧ head1 d = none := by
  unfold newestD at h
  rcases h0 : head0 d with _ | ⟨a, b⟩ <;> rcases h1 : head1 d with _ | ⟨a', b'⟩ <;> simp only [h0, h1, newV] at h
  · exact ⟨rfl, rfl⟩
  · cases h
  · cases h
  · split at h <;> cases h
/-- Whatever disk has the heads that d has, but for the new one, has the new text. -/
theorem newest_next {d x : Dsk} {m : Nat} (hl : x.secs.length = d.secs.length) (hmax : maxD d = false) (hm : (m : Int) ≤ roomN d.secs.length) (hto : secN x (toD d) = headL (tgtD d).2 m) (hot : secN x (atD d (1 - (tgtD d).1)) = secN d (atD d (1 - (tgtD d).1))) :
    newestD x = some ((tgtD d).1, (tgtD d).2, m) := by
  have hh : halfD x = halfD d := by unfold halfD; rw [hl]
  have hr : roomN d.secs.length ≤ 1000000 := by have := halfN_rng d.secs.length; unfold roomN; omega
  have e0 : head0 x = readH (secN x 0) (roomN d.secs.length) := by unfold head0; rw [hl]
  have e1 : head1 x = readH (secN x (halfD d)) (roomN d.secs.length) := by unfold head1; rw [hl, hh]
  unfold toD at hto
  unfold newestD
  rw [e0, e1]
  rcases hn : newestD d with _ | ⟨k, n, m'⟩
  · obtain ⟨g0, g1⟩ := newest_none hn
    have et : tgtD d = (0, 0) := by unfold tgtD; rw [hn]
    rw [et] at hto hot ⊢
    simp only [atD, if_true, Nat.sub_zero, Nat.one_ne_zero, if_false] at hto hot
    rw [hto, hot, readH_head (by omega) hm hr]
    have g1' : readH (secN d (halfD d)) (roomN d.secs.length) = none := g1
    rw [g1']
    rfl
  · have hmx : n < 4611686018427387903 := by unfold maxD at hmax; rw [hn] at hmax; simpa using hmax
    have et : tgtD d = (1 - k, n + 1) := by unfold tgtD; rw [hn]
    rw [et] at hto hot ⊢
    rcases newV_some hn with ⟨rfl, g⟩ | ⟨rfl, g⟩
    · simp only [atD, Nat.sub_zero, Nat.sub_self, Nat.one_ne_zero, if_true, if_false] at hto hot
      have g' : readH (secN d 0) (roomN d.secs.length) = some (n, m') := g
      rw [hto, hot, g', readH_head (by omega) hm hr]
      simp [newV]
    · simp only [atD, Nat.sub_zero, Nat.sub_self, Nat.one_ne_zero, if_true, if_false] at hto hot
      have g' : readH (secN d (halfD d)) (roomN d.secs.length) = some (n, m') := g
      rw [hto, hot, g', readH_head (by omega) hm hr]
      have : ¬ n + 1 < n := by omega
      simp [newV, this]
theorem at_other {d : Dsk} (hck : checkB d.secs = true) : atD d (1 - (tgtD d).1) < toD d ∨ toD d + halfD d ≤ atD d (1 - (tgtD d).1) := by
  obtain ⟨g1, g2, g3, g4⟩ := halfD_eq hck
  have := tgt_le d
  unfold toD atD
  rcases (by omega : (tgtD d).1 = 0 ∨ (tgtD d).1 = 1) with h | h <;> rw [h] <;> simp <;> omega
theorem behind_newest {d : Dsk} {t : List UInt8} (hck : checkB d.secs = true) (hf : fullD d t = false) : newestD (behindD d t) = some ((tgtD d).1, (tgtD d).2, t.length) := by
  obtain ⟨_, hs, _, hc⟩ := behind_eq hck hf
  obtain ⟨p1, p2, p3⟩ := plan0_at hck hf
  obtain ⟨h1, h2⟩ := full_num hf
  have h3 := pn_half hck h2
  obtain ⟨g1, g2, g3, g4⟩ := halfD_eq hck
  have ho := at_other hck
  have hmax : maxD d = false := by unfold fullD at hf; rw [Bool.or_eq_false_iff] at hf; exact hf.1
  refine newest_next (by rw [hs, sets_len]) hmax h2 (secN_of (by rw [hs]; exact p1)) (secN_eq ?_)
  rw [hs]
  exact p3 _ (by omega)
theorem plan_scrub {d : Dsk} {t : List UInt8} (hck : checkB d.secs = true) (hf : fullD d t = false) : (scrubD (behindD d t)).2 = 0 := by
  obtain ⟨_, hs, _, hc⟩ := behind_eq hck hf
  unfold scrubD
  rw [hc, if_pos rfl, behind_newest hck hf]
end Go.Proofs.YtgeofnemlijbgaaDoor
