/- Plain laws of writes, one behind the other: in two calls; at a limit; what is read behind them. No program here. -/
import Derived.Test.YtgeofnemlijbgaaDoorPlain
import Derived.Test.YtgeofnemlijbgaaDoorD2
import Derived.Test.YtgeofnemlijbgaaDoorD6
namespace Go.Proofs.YtgeofnemlijbgaaDoor
open Go.RowKit

theorem doL_append (d : Dsk) (l m : List Wr) : doL d (l ++ m) = if (doL d l).2 = 0 then doL (doL d l).1 m else doL d l := by
  induction l generalizing d with
  | nil => simp [doL]
  | cons x l ih =>
    by_cases h : (wrD d x).2 = 0
    · rw [List.cons_append, doL_go h, doL_go h, ih]
    · rw [List.cons_append, doL_stop h, doL_stop h, if_neg h]
theorem wrD_check {d : Dsk} (x : Wr) (h : checkB d.secs = true) : checkB (wrD d x).1.secs = true := by
  have hl := checkB_len h
  have hg : ∀ (i : Nat) (l : List UInt8), (wrD d x).1.secs[i]? = some l → l.length = 64 := by
    unfold wrD
    cases hb : badW d x
    · obtain ⟨h0, h1, h2⟩ := badW_false hb
      cases ho : d.off
      · by_cases hz : d.left = 0
        · simp only [hz, if_true, Bool.false_eq_true, if_false]
          refine set_all (fun i l hi => checkB_at h hi) fun hk => ?_
          have ht := tornN_le d.torn
          have h3 : (secAt d x.1).length = 64 := checkB_at h (k := x.1.toNat) (by unfold secAt; rw [List.getD_eq_getElem?_getD, List.getElem?_eq_getElem hk]; rfl)
          simp only [List.length_append, List.length_take, List.length_drop]
          omega
        · simp only [hz, Bool.false_eq_true, if_false]
          exact set_all (fun i l hi => checkB_at h hi) fun _ => h2
      · simpa using fun i l hi => checkB_at h hi
    · simpa using fun i l hi => checkB_at h hi
  exact checkB_true (by rw [wrD_len]; exact hl.1) (by rw [wrD_len]; exact hl.2) hg
theorem doL_check {d : Dsk} (l : List Wr) (h : checkB d.secs = true) : checkB (doL d l).1.secs = true := by
  induction l generalizing d with
  | nil => exact h
  | cons x l ih =>
    by_cases hx : (wrD d x).2 = 0
    · rw [doL_go hx]; exact ih (wrD_check x h)
    · rw [doL_stop hx]; exact wrD_check x h
theorem doL_len (d : Dsk) (l : List Wr) : (doL d l).1.secs.length = d.secs.length := by
  induction l generalizing d with
  | nil => rfl
  | cons x l ih =>
    by_cases hx : (wrD d x).2 = 0
    · rw [doL_go hx, ih, wrD_len]
    · rw [doL_stop hx, wrD_len]
theorem doL_left {d : Dsk} (l : List Wr) (h : d.left ≤ 9223372036854775807) : (doL d l).1.left ≤ 9223372036854775807 := by
  have hw : ∀ (d : Dsk) (x : Wr), d.left ≤ 9223372036854775807 → (wrD d x).1.left ≤ 9223372036854775807 := by
    intro d x h
    unfold wrD
    repeat' split
    all_goals first | exact h | (dsimp only; omega)
  induction l generalizing d with
  | nil => exact h
  | cons x l ih =>
    by_cases hx : (wrD d x).2 = 0
    · rw [doL_go hx]; exact ih (hw d x h)
    · rw [doL_stop hx]; exact hw d x h
theorem doD_check {d : Dsk} (l : List Wr) (h : checkB d.secs = true) : checkB (doD d l).1.secs = true := by
  simp only [doD, h, if_true]; exact doL_check l h
theorem doD_len (d : Dsk) (l : List Wr) : (doD d l).1.secs.length = d.secs.length := by
  unfold doD
  split
  · exact doL_len d l
  · rfl
theorem doD_left {d : Dsk} (l : List Wr) (h : d.left ≤ 9223372036854775807) : (doD d l).1.left ≤ 9223372036854775807 := by
  unfold doD
  split
  · exact doL_left l h
  · exact h
theorem parts_stop {d : Dsk} {l m : List Wr} (h : (doD d l).2 ≠ 0) : doD d (l ++ m) = doD d l := by
  cases hc : checkB d.secs
  · simp [doD, hc]
  · simp only [doD, hc, if_true] at h ⊢
    rw [doL_append, if_neg h]
theorem parts_go {d : Dsk} {l m : List Wr} (h : (doD d l).2 = 0) : doD d (l ++ m) = doD (doD d l).1 m := by
  cases hc : checkB d.secs
  · simp [doD, hc] at h
  · have h2 := doL_check l hc
    simp only [doD, hc, if_true] at h ⊢
    rw [if_pos h2, doL_append, if_pos h]

/-! ### At a limit -/
theorem wrap_wrap (a k : Int) : wrap64 (wrap64 (a + 1) + k) = wrap64 (a + (k + 1)) := by unfold wrap64; omega
theorem wrap_back (a k : Int) (h0 : 0 ≤ k) (h1 : k ≤ 10000) : wrap64 (wrap64 (a + k) - a) = k := by unfold wrap64; omega

/-- Of the writes l, the disk a behind them with a limit of n, e its error, just k are done; b is the disk behind those k. -/
structure Cut (l : List Wr) (n : Nat) (torn done : Int) (k : Nat) (a b : Dsk) (e : Int) : Prop where
  kl : k ≤ l.length
  kn : k ≤ n
  done : a.done = wrap64 (done + k)
  ok : e = 0 → k = l.length
  nk : e ≠ 0 → k < l.length
  off : e = 170 → a.off = true ∧ k = n
  secs : a.secs = b.secs ∨ (e = 170 ∧ ∃ x : Wr, l[k]? = some x ∧ 0 ≤ x.1 ∧ x.1 < b.secs.length ∧ x.2.length = 64 ∧ a.secs = b.secs.set x.1.toNat (x.2.take (tornN torn) ++ (secAt b x.1).drop (tornN torn)))

theorem cut_of (l : List Wr) : ∀ (n : Nat) (s : List (List UInt8)) (torn t2 done : Int), wrap64 done = done →
    ∃ k b, doL ⟨s, -1, t2, false, done⟩ (l.take k) = (b, 0) ∧ Cut l n torn done k (doL ⟨s, n, torn, false, done⟩ l).1 b (doL ⟨s, n, torn, false, done⟩ l).2 := by
  induction l with
  | nil =>
    intro n s torn t2 done hw
    refine ⟨0, _, rfl, ⟨Nat.zero_le _, Nat.zero_le _, ?_, fun _ => rfl, fun h => absurd rfl h, fun h => by simp [doL] at h, .inl rfl⟩⟩
    simpa [doL] using hw.symm
  | cons x l ih =>
    intro n s torn t2 done hw
    have hbw : ∀ (lf t : Int), badW ⟨s, lf, t, false, done⟩ x = badW ⟨s, 0, 0, false, done⟩ x := fun _ _ => rfl
    cases hb : badW ⟨s, 0, 0, false, done⟩ x
    · obtain ⟨h0, h1, h2⟩ := badW_false hb
      rcases n with _ | n
      · have e1 : wrD ⟨s, ((0 : Nat) : Int), torn, false, done⟩ x = (⟨s.set x.1.toNat (x.2.take (tornN torn) ++ (secAt ⟨s, 0, torn, false, done⟩ x.1).drop (tornN torn)), 0, torn, true, done⟩, 170) := by
          unfold wrD
          rw [hbw, hb]
          simp
        rw [doL_stop (by rw [e1]; simp), e1]
        refine ⟨0, _, rfl, ⟨Nat.zero_le _, Nat.zero_le _, ?_, fun h => absurd h (by simp), fun _ => by simp, fun _ => ⟨rfl, rfl⟩, .inr ⟨rfl, x, rfl, h0, h1, h2, rfl⟩⟩⟩
        simpa using hw.symm
      · have e1 : wrD ⟨s, ((n + 1 : Nat) : Int), torn, false, done⟩ x = (⟨s.set x.1.toNat x.2, n, torn, false, wrap64 (done + 1)⟩, 0) := by
          unfold wrD
          rw [hbw, hb]
          have hne : ¬ (((n + 1 : Nat) : Int) = 0) := by omega
          have hp : (0 : Int) < ((n + 1 : Nat) : Int) := by omega
          have hs : ((n + 1 : Nat) : Int) - 1 = n := by omega
          simp only [hne, if_false, Bool.false_eq_true, hp, if_true, hs]
        have e2 : wrD ⟨s, -1, t2, false, done⟩ x = (⟨s.set x.1.toNat x.2, -1, t2, false, wrap64 (done + 1)⟩, 0) := by
          unfold wrD
          rw [hbw, hb]
          have hne : ¬ ((-1 : Int) = 0) := by omega
          have hp : ¬ ((0 : Int) < -1) := by omega
          simp only [hne, if_false, Bool.false_eq_true, hp]
        obtain ⟨k, b, hd, hc⟩ := ih n (s.set x.1.toNat x.2) torn t2 (wrap64 (done + 1)) (by unfold wrap64; omega)
        refine ⟨k + 1, b, ?_, ?_⟩
        · rw [List.take_succ_cons, doL_go (by rw [e2]), e2]
          exact hd
        · rw [doL_go (by rw [e1]), e1]
          refine ⟨by simpa using hc.kl, by have := hc.kn; omega, ?_, fun h => by rw [hc.ok h]; rfl, fun h => by simpa using hc.nk h, fun h => ⟨(hc.off h).1, by rw [(hc.off h).2]⟩, ?_⟩
          · rw [hc.done, wrap_wrap]; simp
          · rcases hc.secs with h | ⟨he, y, hy, r⟩
            · exact .inl h
            · exact .inr ⟨he, y, by simpa using hy, r⟩
    · have e1 : wrD ⟨s, (n : Int), torn, false, done⟩ x = (⟨s, n, torn, false, done⟩, 1) := by
        unfold wrD
        rw [hbw, hb]
        rfl
      rw [doL_stop (by rw [e1]; simp), e1]
      refine ⟨0, _, rfl, ⟨Nat.zero_le _, Nat.zero_le _, ?_, fun h => absurd h (by simp), fun _ => by simp, fun h => absurd h (by simp), .inl rfl⟩⟩
      simpa using hw.symm

theorem keeps_at {l : List Wr} {n : Nat} {torn done : Int} {k : Nat} {a b : Dsk} {e : Int} (h : Cut l n torn done k a b e) (hck : checkB b.secs = true) {i : Nat} {sa sb : List UInt8} (ha : a.secs[i]? = some sa) (hb : b.secs[i]? = some sb) (hne : sa ≠ sb) :
    e = 170 ∧ k < l.length ∧ ∃ x : Wr, l[k]? = some x ∧ x.1 = i ∧ 1 ≤ torn ∧ sa.length = 64 ∧ sb.length = 64 ∧ x.2.length = 64 ∧ sa.take (min torn 64).toNat = x.2.take (min torn 64).toNat ∧ sa.drop (min torn 64).toNat = sb.drop (min torn 64).toNat := by
  rcases h.secs with h1 | ⟨he, x, hx, h0, h1, h2, h3⟩
  · rw [h1, hb] at ha
    injection ha with ha
    exact absurd ha.symm hne
  · have hsb := checkB_at hck hb
    by_cases hi : x.1.toNat = i
    · subst hi
      have hl : x.1.toNat < b.secs.length := (List.getElem?_eq_some_iff.1 hb).1
      have hs : secAt b x.1 = sb := by unfold secAt; rw [List.getD_eq_getElem?_getD, hb]; rfl
      rw [h3, List.getElem?_set_self hl, hs] at ha
      injection ha with ha
      have ht : 1 ≤ torn := by
        rcases Int.lt_or_le torn 1 with hlt | hge
        · exfalso
          have h0 : tornN torn = 0 := by unfold tornN; omega
          rw [h0] at ha
          exact hne (by rw [← ha]; simp)
        · exact hge
      have htn : tornN torn = (min torn 64).toNat := by unfold tornN; omega
      have htl := tornN_le torn
      rw [← htn]
      have hlt : (x.2.take (tornN torn)).length = tornN torn := by rw [List.length_take]; omega
      refine ⟨he, h.nk (by omega), x, hx, by omega, ht, ?_, hsb, h2, ?_, ?_⟩
      · rw [← ha]; simp; omega
      · rw [← ha, List.take_append_of_le_length (by omega), List.take_of_length_le (by omega)]
      · rw [← ha, List.drop_append_of_le_length (by omega), List.drop_of_length_le (by omega)]; rfl
    · rw [h3, List.getElem?_set_ne hi, hb] at ha
      injection ha with ha
      exact absurd ha.symm hne

/-! ### Two writes to one sector -/
theorem reads_two {d : Dsk} (hc : checkB d.secs = true) {at_ : Int} (h0 : 0 ≤ at_) (h1 : at_ < d.secs.length) {b1 b2 : List UInt8} (hb1 : b1.length = 64) (hb2 : b2.length = 64) :
    (doD (onD d) [(at_, b1), (at_, b2)]).2 = 0 ∧ (doD (onD d) [(at_, b1), (at_, b2)]).1.secs = d.secs.set at_.toNat b2 := by
  have hb : ∀ (d' : Dsk) (x : List UInt8), d'.secs.length = d.secs.length → x.length = 64 → badW d' (at_, x) = false := by
    intro d' x hl hx
    simp only [badW, Bool.or_eq_false_iff, decide_eq_false_iff_not, ne_eq, Decidable.not_not]
    omega
  have step : ∀ (d' : Dsk) (x : List UInt8), d'.secs.length = d.secs.length → x.length = 64 → d'.off = false → d'.left = -1 → wrD d' (at_, x) = ({ d' with secs := d'.secs.set at_.toNat x, done := wrap64 (d'.done + 1) }, 0) := by
    intro d' x hl hx ho hlf
    obtain ⟨s, lf, t, o, dn⟩ := d'
    dsimp only at ho hlf hl
    subst ho
    subst hlf
    unfold wrD
    rw [hb _ x hl hx]
    have hne : ¬ ((-1 : Int) = 0) := by omega
    have hp : ¬ ((0 : Int) < -1) := by omega
    simp only [hne, if_false, Bool.false_eq_true, hp]
  have e1 := step (onD d) b1 rfl hb1 rfl rfl
  have e2 := step { onD d with secs := (onD d).secs.set at_.toNat b1, done := wrap64 ((onD d).done + 1) } b2 (by simp [onD]) hb2 rfl rfl
  have hd : doD (onD d) [(at_, b1), (at_, b2)] = doL (onD d) [(at_, b1), (at_, b2)] := by
    have : checkB (onD d).secs = true := hc
    simp [doD, this]
  rw [hd, doL_go (by rw [e1]), e1, doL_go (by rw [e2]), e2]
  exact ⟨rfl, by simp [doL, onD]⟩
theorem okR_of {d : Dsk} (hc : checkB d.secs = true) {a n : Int} (h0 : 0 ≤ a) (h1 : 0 ≤ n) (h2 : a + n ≤ d.secs.length) : okR d a n = true := by
  have e1 : decide (0 ≤ a) = true := by simpa using h0
  have e2 : decide (0 ≤ n) = true := by simpa using h1
  have e3 : decide (a ≤ d.secs.length) = true := by simp; omega
  have e4 : decide (n ≤ d.secs.length - a) = true := by simp; omega
  simp [okR, hc, e1, e2, e3, e4]
theorem readD_of {d : Dsk} (hc : checkB d.secs = true) {a n : Int} (h0 : 0 ≤ a) (h1 : 0 ≤ n) (h2 : a + n ≤ d.secs.length) : readD d a n = (((d.secs.drop a.toNat).take n.toNat).flatten, 0) := by
  simp [readD, okR_of hc h0 h1 h2]
theorem reads_at {x d : Dsk} {at_ : Int} {b2 : List UInt8} (hc : checkB x.secs = true) (hd : checkB d.secs = true) (hx : x.secs = d.secs.set at_.toNat b2) (h0 : 0 ≤ at_) (h1 : at_ < d.secs.length) :
    readD x at_ 1 = (b2, 0) ∧ readD x 0 at_ = ((d.secs.take at_.toNat).flatten, 0) ∧ readD d 0 at_ = ((d.secs.take at_.toNat).flatten, 0) ∧ readD x (at_ + 1) (d.secs.length - at_ - 1) = readD d (at_ + 1) (d.secs.length - at_ - 1) ∧ (readD d (at_ + 1) (d.secs.length - at_ - 1)).2 = 0 := by
  have hl : x.secs.length = d.secs.length := by rw [hx]; simp
  have hk : at_.toNat < d.secs.length := by omega
  refine ⟨?_, ?_, ?_, ?_, ?_⟩
  · rw [readD_of hc h0 (by omega) (by omega), hx]
    have : (d.secs.set at_.toNat b2)[at_.toNat]? = some b2 := List.getElem?_set_self hk
    rw [drop_at this]
    simp
  · rw [readD_of hc (by omega) h0 (by omega), hx]
    simp [List.take_set_of_le]
  · rw [readD_of hd (by omega) h0 (by omega)]
    simp
  · rw [readD_of hc (by omega) (by omega) (by omega), readD_of hd (by omega) (by omega) (by omega), hx]
    have : (at_ + 1).toNat = at_.toNat + 1 := by omega
    rw [this, List.drop_set_of_lt (by omega)]
  · rw [readD_of hd (by omega) (by omega) (by omega)]
end Go.Proofs.YtgeofnemlijbgaaDoor
