/- What is on a disk behind a save; load and recovery of it. No program here. -/
import Derived.Test.YtgeofnemlijbgaaDoorVK
namespace Go.Proofs.YtgeofnemlijbgaaDoor
open Go.RowKit
set_option linter.unusedVariables false

/-! ### Cleaning -/
theorem dts_mem {ss : List (List UInt8)} {a k i : Nat} (h : i ∈ dts ss a k) : a ≤ i ∧ i < a + k := by
  induction k with
  | zero => simp [dts] at h
  | succ k ih =>
    simp only [dts, List.mem_append] at h
    rcases h with h | h
    · have := ih h; omega
    · split at h
      · simp at h; omega
      · simp at h
theorem dts_nil {ss : List (List UInt8)} {a k : Nat} (h : ∀ i, a ≤ i → i < a + k → dirtyB (ss.getD i []) = false) : dts ss a k = [] := by
  induction k with
  | zero => rfl
  | succ k ih =>
    rw [dts, ih (fun i h1 h2 => h i h1 (by omega)), h (a + k) (by omega) (by omega)]
    rfl
theorem zeros_clean (n : Nat) : dirtyB (zeros n) = false := by
  unfold dirtyB zeros
  rw [List.any_eq_false]
  intro b hb
  have := List.eq_of_mem_replicate hb
  simp [this]
theorem clean_zeros {l : List UInt8} (h : l.length = 64) (hd : dirtyB l = false) : l = zeros 64 := by
  unfold zeros
  rw [List.eq_replicate_iff]
  refine ⟨h, fun b hb => ?_⟩
  unfold dirtyB at hd
  rw [List.any_eq_false] at hd
  have := hd b hb
  simpa using this
/-- Behind the cleaning of a range, all of it is bytes 0. -/
theorem wipe_at {ss s0 : List (List UInt8)} {a k i : Nat} (h64 : ∀ (j : Nat) (l : List UInt8), ss[j]? = some l → l.length = 64) (hl : a + k ≤ ss.length) (hss : ∀ j, a ≤ j → j < a + k → s0[j]? = ss[j]?) (hi : a ≤ i) (hi2 : i < a + k) :
    (setsL s0 (wipe (dts ss a k)))[i]? = some (zeros 64) := by
  induction k with
  | zero => omega
  | succ k ih =>
    have hlen0 : i < s0.length := by
      have h1 := hss i hi hi2
      rw [List.getElem?_eq_getElem (by omega : i < ss.length)] at h1
      exact (List.getElem?_eq_some_iff.1 h1).1
    rcases Nat.lt_or_ge i (a + k) with h | h
    · have h1 := ih (by omega) (fun j h1 h2 => hss j h1 (by omega)) h
      rw [dts]
      split
      · unfold wipe at h1 ⊢
        rw [List.map_append, sets_app]
        show ((setsL s0 (wipe (dts ss a k))).set ((a + k : Nat) : Int).toNat (zeros 64))[i]? = _
        rw [Int.toNat_natCast, List.getElem?_set_ne (by omega)]
        exact h1
      · rw [List.append_nil]; exact h1
    · have e : i = a + k := by omega
      subst e
      rw [dts]
      split
      · unfold wipe
        rw [List.map_append, sets_app]
        show ((setsL s0 (wipe (dts ss a k))).set ((a + k : Nat) : Int).toNat (zeros 64))[a + k]? = _
        rw [Int.toNat_natCast, List.getElem?_set_self (by rw [sets_len]; exact hlen0)]
      · rename_i hd
        rw [List.append_nil, sets_miss]
        · rw [hss _ hi hi2]
          have hg : ss[a + k]? = some (ss.getD (a + k) []) := by rw [List.getD_eq_getElem?_getD, List.getElem?_eq_getElem (by omega)]; rfl
          rw [hg, clean_zeros (h64 _ _ hg) (by simpa using hd)]
        · intro x hx
          unfold wipe at hx
          simp only [List.mem_map] at hx
          obtain ⟨j, hj, rfl⟩ := hx
          have := dts_mem hj
          show ((j : Nat) : Int).toNat ≠ a + k
          omega
theorem wipe_miss {ss s0 : List (List UInt8)} {a k i : Nat} (hi : i < a ∨ a + k ≤ i) : (setsL s0 (wipe (dts ss a k)))[i]? = s0[i]? := by
  refine sets_miss fun x hx => ?_
  unfold wipe at hx
  simp only [List.mem_map] at hx
  obtain ⟨j, hj, rfl⟩ := hx
  have := dts_mem hj
  show ((j : Nat) : Int).toNat ≠ i
  omega
theorem wipe_ok {ss : List (List UInt8)} {a k n : Nat} (h : a + k ≤ n) : ∀ x ∈ wipe (dts ss a k), OkW n x := by
  intro x hx
  unfold wipe at hx
  simp only [List.mem_map] at hx
  obtain ⟨j, hj, rfl⟩ := hx
  have := dts_mem hj
  exact ⟨by show (0 : Int) ≤ (j : Int); omega, by show ((j : Nat) : Int) < _; omega, zeros_length 64⟩
theorem scrub_eq {x : Dsk} {k n m : Nat} (hck : checkB x.secs = true) (hn : newestD x = some (k, n, m)) : scrubD x = (wipe (dts x.secs (atD x (1 - k)) (halfD x)) ++ wipe (dts x.secs (atD x k + 1 + (m + 63) / 64) (halfD x - 1 - (m + 63) / 64)), 0) := by
  unfold scrubD; rw [hck, if_pos rfl, hn]
theorem used_le {x : Dsk} {k n m : Nat} (hck : checkB x.secs = true) (hn : newestD x = some (k, n, m)) : (m + 63) / 64 ≤ halfD x - 1 ∧ k ≤ 1 := by
  obtain ⟨hk, _, hm⟩ := newest_le hn
  rw [room_half hck] at hm
  omega
theorem scrub_ok {x : Dsk} {k n m : Nat} (hck : checkB x.secs = true) (hn : newestD x = some (k, n, m)) : ∀ y ∈ (scrubD x).1, OkW x.secs.length y := by
  obtain ⟨h1, h2⟩ := used_le hck hn
  obtain ⟨g1, g2, g3, g4⟩ := halfD_eq hck
  have l1 := atD_le hck (1 - k)
  have l2 := atD_le hck k
  rw [scrub_eq hck hn]
  intro y hy
  rcases List.mem_append.1 hy with hy | hy
  · exact wipe_ok l1 y hy
  · exact wipe_ok (by omega) y hy
/-- Two areas: where each begins. -/
theorem areas_at {x : Dsk} (hck : checkB x.secs = true) {k : Nat} (hk : k ≤ 1) : (k = 0 ∧ atD x k = 0 ∧ atD x (1 - k) = halfD x) ∨ (k = 1 ∧ atD x k = halfD x ∧ atD x (1 - k) = 0) := by
  rcases (by omega : k = 0 ∨ k = 1) with rfl | rfl
  · exact .inl ⟨rfl, rfl, rfl⟩
  · exact .inr ⟨rfl, rfl, rfl⟩
/-- What lies where behind a cleaning. -/
theorem scrub_at {x : Dsk} {k n m : Nat} (hck : checkB x.secs = true) (hn : newestD x = some (k, n, m)) :
    (∀ i, atD x (1 - k) ≤ i → i < atD x (1 - k) + halfD x → (setsL x.secs (scrubD x).1)[i]? = some (zeros 64)) ∧
    (∀ i, atD x k + 1 + (m + 63) / 64 ≤ i → i < atD x k + halfD x → (setsL x.secs (scrubD x).1)[i]? = some (zeros 64)) ∧
    (∀ i, (atD x k ≤ i ∧ i < atD x k + 1 + (m + 63) / 64) ∨ 2 * halfD x ≤ i → (setsL x.secs (scrubD x).1)[i]? = x.secs[i]?) := by
  obtain ⟨h1, h2⟩ := used_le hck hn
  obtain ⟨g1, g2, g3, g4⟩ := halfD_eq hck
  have l1 := atD_le hck (1 - k)
  have l2 := atD_le hck k
  have h64 : ∀ (j : Nat) (l : List UInt8), x.secs[j]? = some l → l.length = 64 := fun j l h => checkB_at hck h
  rw [scrub_eq hck hn]
  dsimp only
  rw [sets_app]
  have ha := areas_at hck h2
  refine ⟨fun i h3 h4 => ?_, fun i h3 h4 => ?_, fun i h3 => ?_⟩
  · rw [wipe_miss (by omega)]
    exact wipe_at h64 l1 (fun _ _ _ => rfl) h3 h4
  · exact wipe_at h64 (by omega) (fun j h5 h6 => wipe_miss (by omega)) h3 (by omega)
  · rw [wipe_miss (by omega), wipe_miss (by omega)]
/-! ### Load -/
/-- A disk whose newest area has a text's pieces has that text. -/
theorem load_of {x : Dsk} {k n : Nat} {t : List UInt8} (hck : checkB x.secs = true) (hn : newestD x = some (k, n, t.length)) (hp : ∀ i, i < pn t → x.secs[atD x k + 1 + i]? = some (pieceL t i)) : loadD x = (t, (n : Int), 0) := by
  obtain ⟨h1, h2⟩ := used_le hck hn
  obtain ⟨ho, _, _⟩ := load_read hck h2
  have l2 := atD_le hck k
  obtain ⟨g1, g2, g3, g4⟩ := halfD_eq hck
  have hpn : pn t ≤ halfD x - 1 := h1
  unfold loadD
  rw [hck, if_pos rfl, hn]
  dsimp only
  unfold readD
  rw [if_pos ho]
  simp only [Int.toNat_natCast]
  have e : ((x.secs.drop (atD x k + 1)).take (halfD x - 1)) = (List.range (pn t)).map (pieceL t) ++ ((x.secs.drop (atD x k + 1)).take (halfD x - 1)).drop (pn t) := by
    conv => lhs; rw [← List.take_append_drop (pn t) ((x.secs.drop (atD x k + 1)).take (halfD x - 1))]
    congr 1
    refine List.ext_getElem? fun i => ?_
    rcases Nat.lt_or_ge i (pn t) with hi | hi
    · rw [List.getElem?_take_of_lt hi, List.getElem?_take_of_lt (by omega), List.getElem?_drop, hp i hi, List.getElem?_map, List.getElem?_range hi]
      rfl
    · rw [List.getElem?_eq_none (by rw [List.length_take]; omega), List.getElem?_eq_none (by simp; omega)]
  rw [e, List.flatten_append, pieces_text]
/-! ### Behind a save -/
/-- A disk with a text, and nothing else but, maybe, an odd sector. -/
structure Has (x : Dsk) (k n : Nat) (t : List UInt8) : Prop where
  ck : checkB x.secs = true
  on : OnD x
  new : newestD x = some (k, n, t.length)
  head : x.secs[atD x k]? = some (headL n t.length)
  pcs : ∀ i, i < pn t → x.secs[atD x k + 1 + i]? = some (pieceL t i)
  rest : ∀ i, atD x k + 1 + pn t ≤ i → i < atD x k + halfD x → x.secs[i]? = some (zeros 64)
  other : ∀ i, atD x (1 - k) ≤ i → i < atD x (1 - k) + halfD x → x.secs[i]? = some (zeros 64)
theorem getD_z {ss : List (List UInt8)} {i : Nat} (h : ss[i]? = some (zeros 64)) : dirtyB (ss.getD i []) = false := by
  rw [List.getD_eq_getElem?_getD, h]; exact zeros_clean 64
theorem Has.load {x : Dsk} {k n : Nat} {t : List UInt8} (h : Has x k n t) : loadD x = (t, (n : Int), 0) := load_of h.ck h.new h.pcs
theorem Has.scrub {x : Dsk} {k n : Nat} {t : List UInt8} (h : Has x k n t) : scrubD x = ([], 0) := by
  obtain ⟨h1, h2⟩ := used_le h.ck h.new
  rw [scrub_eq h.ck h.new, dts_nil (fun i h3 h4 => getD_z (h.other i h3 h4)), dts_nil (a := atD x k + 1 + (t.length + 63) / 64) (fun i h3 h4 => getD_z (h.rest i h3 (by omega)))]
  rfl
theorem on_eq {x : Dsk} (h : OnD x) : onD x = x := by
  obtain ⟨s, l, t, o, dn⟩ := x
  obtain ⟨h1, h2⟩ := h
  dsimp only at h1 h2
  subst h1
  subst h2
  rfl
theorem lim_eq (x : Dsk) : limD x x.left x.torn = x := rfl
theorem Has.rec_ {x : Dsk} {k n : Nat} {t : List UInt8} (h : Has x k n t) : recD x = (x, t, (n : Int), 0) := by
  unfold recD
  rw [h.ck, if_pos rfl, on_eq h.on, h.load, h.scrub, if_pos rfl]
  have : doD x [] = (x, 0) := by unfold doD; rw [h.ck, if_pos rfl]; rfl
  rw [this]
/-- Cleaned behind its newest text's writes, a disk has it, and nothing else. -/
theorem has_scrub {x : Dsk} {k n : Nat} {t : List UInt8} (hck : checkB x.secs = true) (hon : OnD x) (hn : newestD x = some (k, n, t.length)) (hh : x.secs[atD x k]? = some (headL n t.length)) (hp : ∀ i, i < pn t → x.secs[atD x k + 1 + i]? = some (pieceL t i)) (dn : Int) :
    Has { x with secs := setsL x.secs (scrubD x).1, done := dn } k n t := by
  obtain ⟨s1, s2, s3⟩ := scrub_at hck hn
  obtain ⟨h1, h2⟩ := used_le hck hn
  obtain ⟨hk, hn1, hm⟩ := newest_le hn
  obtain ⟨g1, g2, g3, g4⟩ := halfD_eq hck
  have ha := areas_at hck h2
  have hl : (setsL x.secs (scrubD x).1).length = x.secs.length := sets_len _ _
  obtain ⟨y, hy⟩ : ∃ y : Dsk, y = { x with secs := setsL x.secs (scrubD x).1, done := dn } := ⟨_, rfl⟩
  have hys : y.secs = setsL x.secs (scrubD x).1 := by rw [hy]
  have hyl : y.secs.length = x.secs.length := by rw [hys, hl]
  have hyh : halfD y = halfD x := by unfold halfD; rw [hyl]
  have hya : ∀ j, atD y j = atD x j := fun j => by unfold atD; rw [hyh]
  have hpn : pn t = (t.length + 63) / 64 := rfl
  have hcky : checkB y.secs = true := by
    refine checkB_true (by rw [hyl]; exact (checkB_len hck).1) (by rw [hyl]; exact (checkB_len hck).2) fun i l hi => ?_
    rw [hys] at hi
    rcases Nat.lt_or_ge i (2 * halfD x) with hlt | hge
    · by_cases hr : atD x k ≤ i ∧ i < atD x k + 1 + (t.length + 63) / 64
      · rw [s3 i (.inl hr)] at hi; exact checkB_at hck hi
      · by_cases ho : atD x (1 - k) ≤ i ∧ i < atD x (1 - k) + halfD x
        · rw [s1 i ho.1 ho.2] at hi; injection hi with hi; rw [← hi]; exact zeros_length 64
        · rw [s2 i (by omega) (by omega)] at hi; injection hi with hi; rw [← hi]; exact zeros_length 64
    · rw [s3 i (.inr hge)] at hi; exact checkB_at hck hi
  have hhead : y.secs[atD x k]? = some (headL n t.length) := by rw [hys, s3 _ (.inl ⟨Nat.le_refl _, by omega⟩)]; exact hh
  have hz : y.secs[atD x (1 - k)]? = some (zeros 64) := by rw [hys]; exact s1 _ (Nat.le_refl _) (by omega)
  have hnew : newestD y = some (k, n, t.length) := by
    have e0 : head0 y = readH (secN y 0) (roomN x.secs.length) := by unfold head0; rw [hyl]
    have e1 : head1 y = readH (secN y (halfD x)) (roomN x.secs.length) := by unfold head1; rw [hyl, hyh]
    have hr : roomN x.secs.length ≤ 1000000 := by have := halfN_rng x.secs.length; unfold roomN; omega
    have hzr : readH (zeros 64) (roomN x.secs.length) = none := by
      refine readH_none fun h => ?_
      have h2 := h.2.2.2
      have : (zeros 64)[0]? = (headL (seqOf (zeros 64)) (lenOf (zeros 64)))[0]? := by rw [← h2]
      simp [zeros, headL] at this
    have hrh := readH_head hn1 hm hr
    unfold newestD
    rw [e0, e1]
    rcases ha with ⟨rfl, a0, a1⟩ | ⟨rfl, a0, a1⟩
    · rw [a0] at hhead
      rw [a1] at hz
      rw [secN_of hhead, secN_of hz, hrh, hzr]
      rfl
    · rw [a0] at hhead
      rw [a1] at hz
      rw [secN_of hhead, secN_of hz, hrh, hzr]
      rfl
  rw [← hy]
  refine ⟨hcky, by rw [hy]; exact hon, hnew, by rw [hya]; exact hhead, fun i hi => ?_, fun i h3 h4 => ?_, fun i h3 h4 => ?_⟩
  · rw [hya, hys, s3 _ (.inl ⟨by omega, by omega⟩)]; exact hp i hi
  · rw [hya] at h3 h4; rw [hyh] at h4; rw [hys]; exact s2 i (by omega) h4
  · rw [hya] at h3 h4; rw [hyh] at h4; rw [hys]; exact s1 i h3 h4
theorem atD_len {x y : Dsk} (h : x.secs.length = y.secs.length) (k : Nat) : atD x k = atD y k := by unfold atD halfD; rw [h]
/-- Behind a save that is not too long. -/
theorem save_has {d : Dsk} {t : List UInt8} (hck : checkB d.secs = true) (hon : OnD d) (hf : fullD d t = false) :
    (saveD d t).2 = 0 ∧ Has (saveD d t).1 (tgtD d).1 (tgtD d).2 t ∧ (saveD d t).1.secs.length = d.secs.length ∧ (saveD d t).1.torn = d.torn ∧
      (∀ i, 2 * halfD d ≤ i → (saveD d t).1.secs[i]? = d.secs[i]?) := by
  obtain ⟨b1, b2, b3, b4⟩ := behind_eq hck hf
  obtain ⟨p1, p2, p3⟩ := plan0_at hck hf
  have bn := behind_newest hck hf
  have bl : (behindD d t).secs.length = d.secs.length := by rw [b2, sets_len]
  have hbt : (behindD d t).torn = d.torn := by
    obtain ⟨dn, h⟩ := plan0_do hck hf
    unfold behindD; rw [h]; rfl
  have e1 : planD d t = (plan0 d t ++ (scrubD (behindD d t)).1, 0) := by unfold planD; rw [hck, if_pos rfl, hf]; rfl
  obtain ⟨dn, e2⟩ := doD_on b3 b4 (scrub_ok b4 bn)
  have e3 : doD d (plan0 d t ++ (scrubD (behindD d t)).1) = ({ behindD d t with secs := setsL (behindD d t).secs (scrubD (behindD d t)).1, done := dn }, 0) := by
    have e : doD d (plan0 d t) = (behindD d t, 0) := by have h1 : doD (onD d) (plan0 d t) = (behindD d t, 0) := Prod.ext rfl b1; rw [on_eq hon] at h1; exact h1
    rw [parts_go (by rw [e]), e]
    exact e2
  have e4 : saveD d t = ({ behindD d t with secs := setsL (behindD d t).secs (scrubD (behindD d t)).1, done := dn }, 0) := by unfold saveD; rw [e1, if_pos rfl, e3]
  have eto : atD (behindD d t) (tgtD d).1 = toD d := atD_len bl _
  have hh := has_scrub (k := (tgtD d).1) (n := (tgtD d).2) (t := t) b4 b3 bn (by rw [eto, b2]; exact p1) (fun i hi => by rw [eto, b2]; exact p2 i hi) dn
  rw [e4]
  refine ⟨rfl, hh, by show (setsL _ _).length = _; rw [sets_len, bl], hbt, fun i hi => ?_⟩
  obtain ⟨s1, s2, s3⟩ := scrub_at b4 bn
  have hbh : halfD (behindD d t) = halfD d := by unfold halfD; rw [bl]
  show (setsL _ _)[i]? = _
  rw [s3 i (.inr (by rw [hbh]; exact hi)), b2]
  refine p3 i (.inr ?_)
  obtain ⟨h1, h2⟩ := full_num hf
  have h3 := pn_half hck h2
  obtain ⟨g1, g2, g3, g4⟩ := halfD_eq hck
  have h4 := areas_at hck (tgt_le d)
  have h5 : toD d = atD d (tgtD d).1 := rfl
  omega
theorem save_full {d : Dsk} {t : List UInt8} (hck : checkB d.secs = true) (hf : fullD d t = true) : saveD d t = (d, 180) := by
  have e1 : planD d t = ([], 180) := by unfold planD; rw [hck, if_pos rfl, hf]; rfl
  unfold saveD
  rw [e1]
  rfl
/-- The number that is next. -/
theorem load_next {d : Dsk} (hck : checkB d.secs = true) : ((tgtD d).2 : Int) = (if (loadD d).2.2 = 0 then (loadD d).2.1 else -1) + 1 ∧ ((loadD d).2.2 = 0 ∨ (loadD d).2.2 = 181) := by
  unfold loadD tgtD
  rw [hck, if_pos rfl]
  rcases newestD d with _ | ⟨k, n, m⟩
  · simp
  · simp
end Go.Proofs.YtgeofnemlijbgaaDoor
