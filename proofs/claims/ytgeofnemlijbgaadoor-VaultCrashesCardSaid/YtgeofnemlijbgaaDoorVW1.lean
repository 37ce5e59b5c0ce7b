/- What a disk has behind a power that goes, at whatever write of a save, or of a cleaning. No program here. -/
import Derived.Test.YtgeofnemlijbgaaDoorVL
namespace Go.Proofs.YtgeofnemlijbgaaDoor
open Go.RowKit
set_option linter.unusedVariables false

/-! ### Heads that are torn -/
theorem readH_z (s : List UInt8) (T : Nat) (room : Int) : readH (zeros T ++ s.drop T) room = readH s room ∨ readH (zeros T ++ s.drop T) room = none := by
  rcases T with _ | T
  · exact .inl (by simp [zeros])
  · refine .inr (readH_none fun h => ?_)
    have h2 := h.2.2.2
    have h3 : (zeros (T + 1) ++ s.drop (T + 1))[0]? = some 0 := by simp [zeros, List.replicate_succ]
    rw [h2] at h3
    simp [headL] at h3
theorem headL_last (n m : Nat) : (headL n m)[63]? = some 1 := by
  have e : (([1] ++ be8 n ++ be8 m ++ zeros 46 : List UInt8)).length = 63 := by simp [be8_len, zeros_length]
  unfold headL
  rw [List.getElem?_append_right (by omega), e]
  rfl
theorem readH_torn (n m T : Nat) (room : Int) : (headL n m).take T ++ (zeros 64).drop T = headL n m ∨ readH ((headL n m).take T ++ (zeros 64).drop T) room = none := by
  rcases Nat.lt_or_ge T 64 with h | h
  · refine .inr (readH_none fun hh => ?_)
    have h2 := hh.2.2.2
    have hl : ((headL n m).take T).length = T := by rw [List.length_take, headL_len]; omega
    have h3 : ((headL n m).take T ++ (zeros 64).drop T)[63]? = some 0 := by
      rw [List.getElem?_append_right (by omega), hl, List.getElem?_drop]
      unfold zeros
      rw [List.getElem?_replicate, if_pos (by omega)]
    rw [h2, headL_last] at h3
    cases h3
  · refine .inl ?_
    rw [List.take_of_length_le (by rw [headL_len]; omega), List.drop_of_length_le (by rw [zeros_length]; omega), List.append_nil]
theorem readH_zeros (room : Int) : readH (zeros 64) room = none := by
  refine readH_none fun h => ?_
  have h2 := h.2.2.2
  have : (zeros 64)[0]? = (headL (seqOf (zeros 64)) (lenOf (zeros 64)))[0]? := by rw [← h2]
  simp [zeros, headL] at this
theorem newV_less {r0 r1 r0' r1' : Option (Nat × Nat)} {k n m : Nat} (h : newV r0 r1 = some (k, n, m)) (h0 : k = 0 → r0' = r0 ∧ (r1' = r1 ∨ r1' = none)) (h1 : k = 1 → r1' = r1 ∧ (r0' = r0 ∨ r0' = none)) : newV r0' r1' = some (k, n, m) := by
  rcases newV_some h with ⟨rfl, e⟩ | ⟨rfl, e⟩
  · obtain ⟨rfl, rfl | rfl⟩ := h0 rfl
    · exact h
    · subst e; rfl
  · obtain ⟨rfl, rfl | rfl⟩ := h1 rfl
    · exact h
    · subst e; rfl
/-! ### Disks alike where the newest text is -/
section
variable {x y : Dsk} {k n m : Nat}
theorem same_new (hl : y.secs.length = x.secs.length) (hn : newestD x = some (k, n, m)) (ho : secN y (atD x k) = secN x (atD x k))
    (ht : readH (secN y (atD x (1 - k))) (roomN x.secs.length) = readH (secN x (atD x (1 - k))) (roomN x.secs.length) ∨ readH (secN y (atD x (1 - k))) (roomN x.secs.length) = none) : newestD y = some (k, n, m) := by
  have hh : halfD y = halfD x := by unfold halfD; rw [hl]
  unfold newestD head0 head1 at hn ⊢
  rw [hl, hh]
  refine newV_less hn (fun e => ?_) (fun e => ?_)
  · subst e
    simp only [atD, if_true, Nat.sub_zero, Nat.one_ne_zero, if_false] at ho ht
    exact ⟨by rw [ho], ht⟩
  · subst e
    simp only [atD, if_true, Nat.sub_self, Nat.one_ne_zero, if_false] at ho ht
    exact ⟨by rw [ho], ht⟩
theorem flat_take {A B : List (List UInt8)} {u m : Nat} (hA : ∀ l ∈ A, l.length = 64) (hu : u ≤ A.length) (hm : m ≤ u * 64) (h : A.take u = B.take u) : A.flatten.take m = B.flatten.take m := by
  have hf : (A.take u).flatten.length = u * 64 := by
    rw [flat_len (fun l hl => hA l (List.mem_of_mem_take hl)), List.length_take, Nat.min_eq_left hu]
  have e1 : A.flatten = (A.take u).flatten ++ (A.drop u).flatten := by rw [← List.flatten_append, List.take_append_drop]
  have e2 : B.flatten = (A.take u).flatten ++ (B.drop u).flatten := by rw [h, ← List.flatten_append, List.take_append_drop]
  rw [e1, e2, List.take_append_of_le_length (by omega), List.take_append_of_le_length (by omega)]
theorem same_load (hl : y.secs.length = x.secs.length) (hx : checkB x.secs = true) (hy : checkB y.secs = true) (hn : newestD x = some (k, n, m)) (hn' : newestD y = some (k, n, m))
    (ho : ∀ i, atD x k ≤ i → i < atD x k + 1 + (m + 63) / 64 → y.secs[i]? = x.secs[i]?) : loadD y = loadD x := by
  obtain ⟨u1, u2⟩ := used_le hx hn
  obtain ⟨o1, _, _⟩ := load_read hx u2
  obtain ⟨o2, _, _⟩ := load_read hy u2
  obtain ⟨g1, g2, g3, g4⟩ := halfD_eq hx
  have l2 := atD_le hx k
  have ea : atD y k = atD x k := atD_len hl k
  have eh : halfD y = halfD x := by unfold halfD; rw [hl]
  unfold loadD
  rw [hx, hy, if_pos rfl, if_pos rfl, hn, hn']
  dsimp only
  rw [ea, eh] at o2 ⊢
  unfold readD
  rw [if_pos o1, if_pos o2]
  simp only [Int.toNat_natCast]
  refine congrArg (fun z : List UInt8 => (z, (n : Int), (0 : Int))) ?_
  refine flat_take (u := (m + 63) / 64) (fun l hl' => ?_) (by rw [List.length_take, List.length_drop]; omega) (by omega) ?_
  · obtain ⟨i, hi⟩ := List.getElem?_of_mem (List.mem_of_mem_drop (List.mem_of_mem_take hl'))
    exact checkB_at hy hi
  · refine List.ext_getElem? fun i => ?_
    rcases Nat.lt_or_ge i ((m + 63) / 64) with hi | hi
    · rw [List.getElem?_take_of_lt hi, List.getElem?_take_of_lt hi, List.getElem?_take_of_lt (by omega), List.getElem?_take_of_lt (by omega), List.getElem?_drop, List.getElem?_drop]
      exact ho _ (by omega) (by omega)
    · rw [List.getElem?_eq_none (by rw [List.length_take]; omega), List.getElem?_eq_none (by rw [List.length_take]; omega)]
end
/-! ### Zeros over a beginning of some sectors -/
/-- Not a place of the text in area k, nor one behind the areas. -/
def Out (x : Dsk) (k m i : Nat) : Prop := ¬ ((atD x k ≤ i ∧ i < atD x k + 1 + (m + 63) / 64) ∨ 2 * halfD x ≤ i)
structure Worn (x y : Dsk) (k m : Nat) : Prop where
  len : y.secs.length = x.secs.length
  own : ∀ i, ¬ Out x k m i → y.secs[i]? = x.secs[i]?
  any : ∀ (i : Nat) (s : List UInt8), x.secs[i]? = some s → ∃ T, T ≤ 64 ∧ y.secs[i]? = some (zeros T ++ s.drop T)
section
variable {x y d : Dsk} {k n m : Nat}
theorem Worn.of (h : y.secs = x.secs) : Worn x y k m := ⟨by rw [h], fun i _ => by rw [h], fun i s hs => ⟨0, by omega, by rw [h, hs]; simp [zeros]⟩⟩
theorem Worn.to (h : Worn x y k m) {y' : Dsk} (e : y'.secs = y.secs) : Worn x y' k m := ⟨by rw [e]; exact h.len, fun i hi => by rw [e]; exact h.own i hi, fun i s hs => by rw [e]; exact h.any i s hs⟩
theorem Worn.ck (h : Worn x y k m) (hck : checkB x.secs = true) : checkB y.secs = true := by
  refine checkB_true (by rw [h.len]; exact (checkB_len hck).1) (by rw [h.len]; exact (checkB_len hck).2) fun i l hi => ?_
  have hlt := (List.getElem?_eq_some_iff.1 hi).1
  have hx : x.secs[i]? = some (x.secs[i]'(by rw [← h.len]; exact hlt)) := List.getElem?_eq_getElem _
  obtain ⟨T, hT, hy⟩ := h.any i _ hx
  have := checkB_at hck hx
  rw [hi] at hy
  injection hy with hy
  rw [hy, List.length_append, zeros_length, List.length_drop]
  omega
theorem Worn.set (h : Worn x d k m) {i T : Nat} {s : List UInt8} (hs : x.secs[i]? = some s) (hT : T ≤ 64) (hp : Out x k m i) {d' : Dsk} (hd : d'.secs = d.secs.set i (zeros T ++ s.drop T)) : Worn x d' k m := by
  refine ⟨by rw [hd, List.length_set]; exact h.len, fun j hj => ?_, fun j r hr => ?_⟩
  · have hne : i ≠ j := fun e => hj (e ▸ hp)
    rw [hd, List.getElem?_set_ne hne]
    exact h.own j hj
  · by_cases hij : i = j
    · subst hij
      rw [hs] at hr
      injection hr with hr
      subst hr
      exact ⟨T, hT, by rw [hd, List.getElem?_set_self (by rw [h.len]; exact (List.getElem?_eq_some_iff.1 hs).1)]⟩
    · rw [hd, List.getElem?_set_ne hij]
      exact h.any j r hr
theorem zeros_over (s : List UInt8) (t T : Nat) (ht : t ≤ 64) (hT : T ≤ 64) : ∃ T', T' ≤ 64 ∧ (zeros 64).take t ++ (zeros T ++ s.drop T).drop t = zeros T' ++ s.drop T' := by
  have e0 : (zeros 64).take t = zeros t := by unfold zeros; rw [List.take_replicate, Nat.min_eq_left ht]
  rw [e0]
  rcases Nat.le_total t T with h | h
  · refine ⟨T, hT, ?_⟩
    rw [List.drop_append_of_le_length (by rw [zeros_length]; exact h), ← List.append_assoc]
    congr 1
    unfold zeros
    rw [List.drop_replicate, List.replicate_append_replicate]
    congr 1
    omega
  · refine ⟨t, ht, ?_⟩
    congr 1
    rw [List.drop_append, zeros_length, List.drop_of_length_le (by rw [zeros_length]; exact h), List.nil_append, List.drop_drop]
    congr 1
    omega
theorem worn_wr (hck : checkB x.secs = true) (h : Worn x d k m) (hoff : d.off = false) {w : Wr} (hw : OkW x.secs.length w) (hz : w.2 = zeros 64) (hp : Out x k m w.1.toNat) :
    Worn x (wrD d w).1 k m ∧ (((wrD d w).2 = 0 ∧ (wrD d w).1.off = false) ∨ (wrD d w).2 = 170) := by
  obtain ⟨h0, h1, h2⟩ := hw
  have hb : badW d w = false := by
    have := h.len
    simp only [badW, Bool.or_eq_false_iff, decide_eq_false_iff_not, ne_eq, Decidable.not_not]
    omega
  have hlt : w.1.toNat < x.secs.length := by omega
  have hs : x.secs[w.1.toNat]? = some (x.secs[w.1.toNat]) := List.getElem?_eq_getElem hlt
  obtain ⟨T, hT, hy⟩ := h.any _ _ hs
  have h64 := checkB_at hck hs
  generalize x.secs[w.1.toNat] = s at hs hy h64
  have hsec : secAt d w.1 = zeros T ++ s.drop T := by unfold secAt; rw [List.getD_eq_getElem?_getD, hy]; rfl
  unfold wrD
  rw [hb, hoff]
  by_cases hl : d.left = 0
  · simp only [hl, if_true, Bool.false_eq_true, if_false]
    refine ⟨?_, by simp⟩
    obtain ⟨T', hT', e⟩ := zeros_over s (tornN d.torn) T (tornN_le _) hT
    exact h.set hs hT' hp (by rw [hz, hsec, e])
  · simp only [hl, Bool.false_eq_true, if_false]
    refine ⟨h.set hs (T := 64) (Nat.le_refl _) hp ?_, by simp⟩
    show d.secs.set w.1.toNat w.2 = _
    rw [hz, List.drop_of_length_le (by omega), List.append_nil]
theorem worn_do (hck : checkB x.secs = true) {l : List Wr} (hl : ∀ w ∈ l, OkW x.secs.length w ∧ w.2 = zeros 64 ∧ Out x k m w.1.toNat) : ∀ {d : Dsk}, Worn x d k m → d.off = false →
    Worn x (doL d l).1 k m ∧ ((doL d l).2 = 0 ∨ (doL d l).2 = 170) := by
  induction l with
  | nil => intro d h _; exact ⟨h, .inl rfl⟩
  | cons w l ih =>
    intro d h ho
    obtain ⟨g1, g2, g3⟩ := hl w (List.mem_cons_self ..)
    obtain ⟨k1, k2⟩ := worn_wr hck h ho g1 g2 g3
    rcases k2 with ⟨e, o⟩ | e
    · rw [doL_go e]
      exact ih (fun v hv => hl v (List.mem_cons_of_mem _ hv)) k1 o
    · rw [doL_stop (by rw [e]; decide)]
      exact ⟨k1, .inr e⟩
theorem scrub_mem (hck : checkB x.secs = true) (hn : newestD x = some (k, n, m)) : ∀ w ∈ (scrubD x).1, OkW x.secs.length w ∧ w.2 = zeros 64 ∧ Out x k m w.1.toNat := by
  obtain ⟨h1, h2⟩ := used_le hck hn
  obtain ⟨g1, g2, g3, g4⟩ := halfD_eq hck
  have ha := areas_at hck h2
  intro w hw
  refine ⟨scrub_ok hck hn w hw, ?_⟩
  rw [scrub_eq hck hn] at hw
  unfold Out
  rcases List.mem_append.1 hw with hw | hw
  · unfold wipe at hw
    simp only [List.mem_map] at hw
    obtain ⟨j, hj, rfl⟩ := hw
    have := dts_mem hj
    refine ⟨rfl, ?_⟩
    show ¬ (_ ∨ _ ≤ ((j : Nat) : Int).toNat)
    rw [Int.toNat_natCast]
    omega
  · unfold wipe at hw
    simp only [List.mem_map] at hw
    obtain ⟨j, hj, rfl⟩ := hw
    have := dts_mem hj
    refine ⟨rfl, ?_⟩
    show ¬ (_ ∨ _ ≤ ((j : Nat) : Int).toNat)
    rw [Int.toNat_natCast]
    omega
theorem sec_some {d : Dsk} {i : Nat} (hi : i < d.secs.length) : ∃ s, d.secs[i]? = some s ∧ secN d i = s := ⟨_, sec_at hi, rfl⟩
theorem Worn.new (h : Worn x y k m) (hck : checkB x.secs = true) (hn : newestD x = some (k, n, m)) : newestD y = some (k, n, m) := by
  obtain ⟨h1, h2⟩ := used_le hck hn
  obtain ⟨g1, g2, g3, g4⟩ := halfD_eq hck
  have ha := areas_at hck h2
  refine same_new h.len hn (secN_eq (h.own _ ?_)) ?_
  · unfold Out; omega
  · obtain ⟨s, hs, e⟩ := sec_some (d := x) (i := atD x (1 - k)) (by omega)
    obtain ⟨T, hT, hy⟩ := h.any _ _ hs
    rw [e, secN_of hy]
    exact readH_z s T _
theorem Worn.load (h : Worn x y k m) (hck : checkB x.secs = true) (hn : newestD x = some (k, n, m)) : loadD y = loadD x :=
  same_load h.len hck (h.ck hck) hn (h.new hck hn) fun i h1 h2 => h.own i (fun ho => ho (.inl ⟨h1, h2⟩))
theorem Worn.scrub (h : Worn x y k m) (hck : checkB x.secs = true) (hn : newestD x = some (k, n, m)) : setsL y.secs (scrubD y).1 = setsL x.secs (scrubD x).1 := by
  obtain ⟨h1, h2⟩ := used_le hck hn
  obtain ⟨g1, g2, g3, g4⟩ := halfD_eq hck
  have ha := areas_at hck h2
  obtain ⟨s1, s2, s3⟩ := scrub_at hck hn
  obtain ⟨t1, t2, t3⟩ := scrub_at (h.ck hck) (h.new hck hn)
  have ea : ∀ j, atD y j = atD x j := fun j => atD_len h.len j
  have eh : halfD y = halfD x := by unfold halfD; rw [h.len]
  simp only [ea, eh] at t1 t2 t3
  refine List.ext_getElem? fun i => ?_
  by_cases c1 : (atD x k ≤ i ∧ i < atD x k + 1 + (m + 63) / 64) ∨ 2 * halfD x ≤ i
  · rw [s3 i c1, t3 i c1]
    exact h.own i (fun ho => ho c1)
  · by_cases c2 : atD x (1 - k) ≤ i ∧ i < atD x (1 - k) + halfD x
    · rw [s1 i c2.1 c2.2, t1 i c2.1 c2.2]
    · rw [s2 i (by omega) (by omega), t2 i (by omega) (by omega)]
end
/-! ### Recovery -/
/-- But for how many writes there were, and what is torn. -/
def noLim (d : Dsk) : Dsk := { d with torn := 0, done := 0 }
theorem rec_eq {a : Dsk} {k n m : Nat} (hck : checkB a.secs = true) (hn : newestD (onD a) = some (k, n, m)) :
    ∃ dn, recD a = ({ onD a with secs := setsL a.secs (scrubD (onD a)).1, done := dn }, (loadD (onD a)).1, (n : Int), 0) := by
  have hck' : checkB (onD a).secs = true := hck
  have hl : (loadD (onD a)).2.1 = (n : Int) ∧ (loadD (onD a)).2.2 = 0 := by unfold loadD; rw [hck', if_pos rfl, hn]; exact ⟨rfl, rfl⟩
  obtain ⟨dn, e⟩ := doD_on (d := onD a) ⟨rfl, rfl⟩ hck' (scrub_ok hck' hn)
  refine ⟨dn, ?_⟩
  unfold recD
  rw [hck, if_pos rfl, if_pos hl.2, e, hl.1]
  rfl
theorem rec_none {a : Dsk} (hck : checkB a.secs = true) (hn : newestD (onD a) = none) : recD a = (onD a, [], 0, 181) := by
  have hck' : checkB (onD a).secs = true := hck
  have hl : (loadD (onD a)).2.2 = 181 := by unfold loadD; rw [hck', if_pos rfl, hn]
  unfold recD
  rw [hck, if_pos rfl, hl, if_neg (by decide)]
/-- Behind one more power that goes, while it is cleaned, all is as without. -/
theorem again_law {a : Dsk} {k n m : Nat} (hck : checkB a.secs = true) (hn : newestD (onD a) = some (k, n, m)) (L torn : Int) :
    (scrubD (onD a)).2 = 0 ∧ ∃ b p, doD (limD (onD a) L torn) (scrubD (onD a)).1 = (b, p) ∧ (p = 0 ∨ p = 170) ∧ checkB b.secs = true ∧
      ∃ y, recD b = (y, (loadD (onD a)).1, (n : Int), 0) ∧ noLim y = noLim (recD a).1 := by
  have hck' : checkB (onD a).secs = true := hck
  have hs : (scrubD (onD a)).2 = 0 := by rw [scrub_eq hck' hn]
  refine ⟨hs, ?_⟩
  have hw : Worn (onD a) (limD (onD a) L torn) k m := Worn.of rfl
  obtain ⟨k1, k2⟩ := worn_do hck' (scrub_mem hck' hn) hw rfl
  have hdo : doD (limD (onD a) L torn) (scrubD (onD a)).1 = doL (limD (onD a) L torn) (scrubD (onD a)).1 := by
    have : checkB (limD (onD a) L torn).secs = true := hck
    unfold doD; rw [this, if_pos rfl]
  rw [hdo]
  generalize doL (limD (onD a) L torn) (scrubD (onD a)).1 = r at k1 k2
  obtain ⟨b, p⟩ := r
  dsimp only at k1 k2
  have kb := k1.ck hck'
  have ko : Worn (onD a) (onD b) k m := k1.to rfl
  have kn := ko.new hck' hn
  obtain ⟨dn, e⟩ := rec_eq (a := b) kb kn
  obtain ⟨dn', e'⟩ := rec_eq (a := a) hck hn
  refine ⟨b, p, rfl, k2, kb, _, (by rw [e, ko.load hck' hn]), ?_⟩
  rw [e']
  have := ko.scrub hck' hn
  have : setsL b.secs (scrubD (onD b)).1 = setsL a.secs (scrubD (onD a)).1 := this
  unfold noLim onD
  simp only [onD] at this
  rw [this]
end Go.Proofs.YtgeofnemlijbgaaDoor
