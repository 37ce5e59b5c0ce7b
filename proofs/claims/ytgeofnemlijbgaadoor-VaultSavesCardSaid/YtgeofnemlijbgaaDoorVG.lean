/- vault.pieces: the iterator over a text's sectors. -/
import Derived.Test.YtgeofnemlijbgaaDoorVF
namespace Go.Proofs.YtgeofnemlijbgaaDoor
open Go.RowKit Go.Shelf
set_option linter.unusedVariables false
set_option linter.unusedSimpArgs false
attribute [local go_sem] Oper.semAt_some

/-- A text's piece, filled up with bytes 0. -/
def pieceL (t : List UInt8) (i : Nat) : List UInt8 := ((t.drop (i * 64)).take 64) ++ zeros (64 - ((t.drop (i * 64)).take 64).length)
theorem pieceL_len (t : List UInt8) (i : Nat) : (pieceL t i).length = 64 := by
  unfold pieceL
  rw [List.length_append, zeros_length]
  have : ((t.drop (i * 64)).take 64).length ≤ 64 := List.length_take_le ..
  omega
/-- How many. -/
def pn (t : List UInt8) : Nat := (t.length + 63) / 64

section
variable {F : Fence} {n : Nat} {P : Program} (w : World)
theorem wpListIn_copy_any {ops : Array Oper} {rest : List Oper} {o : Oper} {a : Act} {Q : Exit → Act → World → Prop} (hgd : o.guard = none) (s x : Operand) (t sT : TypeId)
    (ho : o.op = .call { callee := .builtin .copy, args := #[s, x], argTypes := #[t, sT] })
    (base : Nat) (e : TypeId) (ht : P.underlying t = some (.slice e)) (hi : (P.info? e).map (·.size) = some 1)
    (v : Value) (n' : Nat) (xs : List Value) (hs : a.eval s = v) (hown : w.ownsRow base e 1 v n' xs)
    (B : Nat) (A : Option Addr) (m c : Nat) (news : List Value) (hx : a.eval x = .slice A m c) (hr : Rd w B A m news) (h1 : ∀ u ∈ news, u.oneCell' = true)
    (h : ∀ k w', w'.ownsRow base e 1 v n' (news.take n' ++ xs.drop m) → w.grownBy w' v.ownBlock → wpListIn F n P ops Q rest (a.put o.dst (goInt k)) w') : wpListIn F n P ops Q (o :: rest) a w := by
  refine wpListIn_plain hgd fun K hK => ?_
  obtain ⟨k, w', hrun, h2, h3⟩ := run_copy_any (P := P) w base t sT o.type e ht hi v n' xs hown B A m c news hr h1
  unfold Oper.wpIn
  refine ⟨?_, ?_⟩
  · simp [Oper.about, ho, resolve, Target.leads, Sem.run_pure]
  · rw [Oper.semAt_plain F _ _ (by rw [ho]; intro c hc'; cases hc')]
    simp [execOp, ho, resolve, invoke, builtin, hs, hx, hrun, Result.andThen]
    exact hK _ _ (h k w' h2 h3)
end
theorem run_mid (ad : Addr) (n c f t : Nat) (w : World) (h0 : f < t) (h1 : t ≤ c) : (Instr.slice 25 (.slice (some ad) n c) (some (.int .i64 (f : Int))) (some (.int .i64 (t : Int))) (some (.int .i64 (t : Int)))).run Tryd.prog w = .ok (.slice (some (ad.add f)) (t - f) (t - f)) w := by
  have hsz : (sizeOf (Tryd.prog.elem 25)).run Tryd.prog w = .ok 1 w := by
    obtain ⟨i2, hi2, hz2, hs2, hb2⟩ := info_parts infoTB
    have he : Tryd.prog.elem 25 = 5 := by kernel_rfl
    simp [he, sizeOf, typeInfo, hi2, hs2]
  have hr := run_slice_lhm (P := Tryd.prog) w 25 (some ad) n c (by kernel_rfl) .i64 .i64 .i64 (f : Int) (t : Int) (t : Int) (by omega) (by omega) (by omega) (by omega)
  rw [hsz] at hr
  simp only [Result.andThen, Int.toNat_natCast] at hr
  rw [hr]
  unfold sliced
  rw [if_neg (by omega), Nat.mul_one]
  rfl
theorem run_min_l {P : Program} (ts : Array TypeId) (t : TypeId) (k k' : IntKind) (x y : Int) (w : World) (h : ¬ y < x) : (Builtin.min_ ts t #[.int k x, .int k' y]).run P w = .ok (.int k x) w := by
  have := run_min_int2 (P := P) w ts t k k' x y
  rwa [if_neg h] at this
theorem run_min_r {P : Program} (ts : Array TypeId) (t : TypeId) (k k' : IntKind) (x y : Int) (w : World) (h : y < x) : (Builtin.min_ ts t #[.int k x, .int k' y]).run P w = .ok (.int k y) w := by
  have := run_min_int2 (P := P) w ts t k k' x y
  rwa [if_pos h] at this
attribute [local go_sem high] run_min_l run_min_r
/-- The middle of a row of bytes. -/
theorem mid_rd {w : World} {B f t : Nat} {ad : Addr} {l : List UInt8} (h : Rd w B (some ad) l.length (bvs l)) (ht : t ≤ l.length) (hf : f < t) : Rd w B (some (ad.add f)) (t - f) (bvs ((l.drop f).take (t - f))) := by
  have h1 := rest_rd h (t := f) (by omega)
  have e : (l.drop f).length = l.length - f := by rw [List.length_drop]
  rw [← e] at h1
  exact begin_rd h1 (by rw [e]; omega)
theorem grown_new {w w' : World} {o : Obj} (h : (w.alloc o).grownBy w' (some w.heap.size)) : w.grownBy w' none :=
  ⟨h.os, h.tape, h.output, by have := h.size; simp at this; omega, fun i hi _ => (h.block i (by simp; omega) (by simp; omega)).trans (Below.heap_alloc w o i (by omega))⟩
theorem piece_close (t : List UInt8) (i e : Nat) (he : e = min (i * 64 + 64) t.length) (hi : i * 64 < t.length) : (bvs ((t.drop (i * 64)).take (e - i * 64))).take 64 ++ (bvs (zeros 64)).drop (e - i * 64) = bvs (pieceL t i) := by
  have h1 : (t.drop (i * 64)).take (e - i * 64) = (t.drop (i * 64)).take 64 := by
    rcases Nat.le_total (i * 64 + 64) t.length with h | h
    · rw [he, Nat.min_eq_left h]; congr 1; omega
    · rw [he, Nat.min_eq_right h, List.take_of_length_le (by rw [List.length_drop]; omega), List.take_of_length_le (by rw [List.length_drop]; omega)]
  have h2 : ((t.drop (i * 64)).take 64).length = e - i * 64 := by
    rw [List.length_take, List.length_drop, he]
    omega
  rw [h1, List.take_of_length_le (by rw [bvs_length]; exact List.length_take_le ..)]
  unfold pieceL
  rw [bvs_append, h2]
  congr 1
  rw [bvs_drop]
  unfold zeros
  rw [List.drop_replicate]

theorem piece_close' (t : List UInt8) (i e f : Nat) (hf : f = i * 64) (he : e = min (i * 64 + 64) t.length) (hi : i * 64 < t.length) : (bvs ((t.drop f).take (e - f))).take 64 ++ (bvs (zeros 64)).drop (e - f) = bvs (pieceL t i) := by
  subst hf; exact piece_close t i e he hi
theorem grown_below {w w' : World} (h : w.grownBy w' none) : Below w.heap.size w w' := (Below.refl _ w).grown h (Nat.le_refl _) (fun k e => by cases e)
theorem piece_own {w5 : World} {n₀ b f e i g : Nat} {t : List UInt8} {sz : Nat} (h : w5.ownsRow n₀ 5 1 (.slice (some ⟨b, 0, none⟩) 64 64) 64 ((bvs ((t.drop f).take (e - f))).take 64 ++ (bvs (zeros 64)).drop sz)) (hc : (bvs ((t.drop f).take (e - f))).take 64 ++ (bvs (zeros 64)).drop sz = bvs (pieceL t i)) (hg : g = b) : w5.ownsRow n₀ 5 1 (.slice (some ⟨g, 0, none⟩) 64 64) 64 (bvs (pieceL t i)) := by
  rw [hg, ← hc]; exact h
theorem pieces_in (n : Nat) (A : Option Addr) (m c : Nat) (w : World) :
    CallsIn Fence.wide n Tryd.prog 41 #[.slice A m c] w fun e w' => e = .returned (.func (.func 53) #[] #[.pointer (some ⟨w.heap.size, 0, none⟩)]) ∧ w' = w.alloc (.cells #[.slice A m c] 25) := by
  refine callsIn_of_wp Tryd.func41 rfl trivial ?_ rfl
  simp only [Tryd.ntmps41, List.size_toArray, List.length_cons, List.length_nil, Nat.reduceAdd, Nat.reduceSub, Array.replicate_succ, Array.replicate_zero, List.push_toArray, List.append_toArray, List.nil_append, List.cons_append]
  gi_wp2
  go_ret
  exact ⟨rfl, rfl⟩
/-- What a round keeps: what lay below n₀, and the text's box. -/
def KpP (n₀ Bb : Nat) (W W' : World) : Prop := Below n₀ W W' ∧ W'.heap[Bb]? = W.heap[Bb]?
theorem KpP.trans {n₀ Bb : Nat} {A B C : World} (h : KpP n₀ Bb A B) (h' : KpP n₀ Bb B C) : KpP n₀ Bb A C := ⟨h.1.trans h'.1, h'.2.trans h.2⟩
/-- What is told of a piece: its place, and what its sector holds. -/
def TP (n₀ : Nat) (t : List UInt8) : Told (Nat × Nat) := fun pre x W => x.1 = pre.length ∧ x.1 < pn t ∧ W.ownsRow n₀ 5 1 (.slice (some ⟨x.2, 0, none⟩) 64 64) 64 (bvs (pieceL t x.1))

set_option maxRecDepth 100000 in
set_option maxHeartbeats 2000000 in
theorem pieces1_in (n : Nat) (hn : 1 ≤ n) (l Bb n₀ : Nat) (A : Option Addr) (c : Nat) (t : List UInt8) (ht : t.length ≤ 100000) (htc : t.length ≤ c) (J : List (Nat × Nat) → World → Prop)
    (W : World) (hJ : AbidesFrom W.heap.size J) (hn0 : n₀ ≤ W.heap.size)
    (hY : ∀ pre (x : Nat × Nat) W1, J pre W1 → TP n₀ t pre x W1 → YieldAt Fence.wide (n - 1) Tryd.prog l #[.int .i64 (x.1 : Int), .slice (some ⟨x.2, 0, none⟩) 64 64] W1 fun e W' => e = .returned (.bool true) ∧ J (pre ++ [x]) W' ∧ KpP n₀ Bb W1 W')
    (hBb : W.cell? ⟨Bb, 0, none⟩ = some (.slice A t.length c)) (hbb : Bb < W.heap.size) (hE : Rd W n₀ A t.length (bvs t)) (h0 : J [] W) :
    CallsIn Fence.wide n Tryd.prog 53 #[.func (.yield l) #[] #[], .pointer (some ⟨Bb, 0, none⟩)] W fun e W' => (∃ v, e = .returned v) ∧ ∃ xs, xs.length = pn t ∧ J xs W' := by
  have hmk := run_make64
  refine callsIn_of_wp Tryd.func53 rfl trivial ?_ rfl
  simp only [Tryd.ntmps53, List.size_toArray, List.length_cons, List.length_nil, Nat.reduceAdd, Nat.reduceSub, Array.replicate_succ, Array.replicate_zero, List.push_toArray, List.append_toArray, List.nil_append, List.cons_append]
  have HE := Lib.hid hE
  have hpn : pn t = (t.length + 63) / 64 := rfl
  clear hE
  gi_wp2
  gi_loopw [3] (fun i wr => ∃ (j : Nat) (ys : List (Nat × Nat)), j ≤ pn t ∧ i = .int .i64 (j : Int) ∧ ys.length = j ∧ J ys wr ∧ KpP n₀ Bb W wr ∧ W.heap.size ≤ wr.heap.size) (fun i _ => pn t - (intOf i).toNat)
  case atStart => exact ⟨0, [], Nat.zero_le _, rfl, rfl, h0, ⟨Below.refl _ _, rfl⟩, Nat.le_refl _⟩
  case round =>
    obtain ⟨j, ys, hj, rfl, hys, hJs, ⟨hB, hBb'⟩, hsz⟩ := hrel
    have HYS := Lib.hid hys
    have HB := Lib.hid hB
    have HBB := Lib.hid hBb'
    have q2 : wr.cell? ⟨Bb, 0, none⟩ = some (.slice A t.length c) := (World.cell?_of_block (a := ⟨Bb, 0, none⟩) hBb').trans hBb
    have q2a := fun o => (World.cell?_alloc_lt wr o ⟨Bb, 0, none⟩ (by show Bb < wr.heap.size; omega)).trans q2
    obtain ⟨f, hf⟩ : ∃ f, f = j * 64 := ⟨_, rfl⟩
    have hf1 : (j : Int) * 64 = (f : Int) := by omega
    have hw1 : IntKind.i64.wrap ((j : Int) * 64) = (f : Int) := by rw [IntWalk.i64_in _ (by omega)]; exact hf1
    have HF := Lib.hid hf
    clear hys hB hBb' hf
    by_cases hlt : j < pn t
    · have hft : f < t.length := by have := HF.out; omega
      have hc1 : decide ((f : Int) < (t.length : Int)) = true := decide_eq_true (by omega)
      have hc2 : (f : Int) < (t.length : Int) := by omega
      obtain ⟨ad, rfl, _⟩ := HE.out.2 (by omega)
      obtain ⟨f2, hf2⟩ : ∃ f2, f2 = f + 64 := ⟨_, rfl⟩
      have hw2 : IntKind.i64.wrap ((f : Int) + 64) = (f2 : Int) := by rw [IntWalk.i64_in _ (by omega)]; omega
      have hf3 : (f : Int) + 64 = (f2 : Int) := by omega
      obtain ⟨e, he⟩ : ∃ e, e = min f2 t.length := ⟨_, rfl⟩
      have hfe : f < e := by omega
      have het : e ≤ t.length := by omega
      have hmid := fun w' : World => run_mid ad t.length c f e w' hfe (Nat.le_trans het htc)
      have RM := Lib.hid (mid_rd (HE.out.below HB.out) het hfe)
      have PC := Lib.hid (piece_close' t j e f HF.out (by rw [he, hf2, HF.out]) (by have := HF.out; omega))
      have o1 := Lib.hid (own_z64 wr n₀ (Nat.le_trans hn0 hsz))
      have RM2 := Lib.hid (RM.out.below ((below_one wr (.cells z64 5)).mono (Nat.le_trans hn0 hsz)))
      have H2 := Lib.hid hf2
      have HYL : Hid (ys.length = j) := HYS
      obtain ⟨g, hg⟩ : ∃ g, g = wr.heap.size := ⟨_, rfl⟩
      have HG := Lib.hid hg
      by_cases hmn : t.length < f2
      · obtain rfl : e = t.length := by omega
        have hm1 : (t.length : Int) < (f2 : Int) := by omega
        clear he hf2 hg
        gi_wp2_with ((with_reducible show wpListIn _ _ _ _ _ (⟨some 28, _, _, _, _, _⟩ :: _) _ _); refine wpListIn_copy_any _ rfl (.tmp 22) (.tmp 27) 25 25 rfl n₀ 5 Tryd.underlying25 sizeTB (.slice (some ⟨wr.heap.size, 0, none⟩) 64 64) 64 (bvs (zeros 64)) rfl o1.out _ _ _ _ (bvs ((t.drop f).take (t.length - f))) rfl RM2.out (bvs_one _) ?_; intro kk w5 hown5 hgr5; have hgn := grown_new hgr5; have HB5 := Lib.hid (grown_below hgn); have hown6 := Lib.hid (piece_own hown5 PC.out HG.out); obtain ⟨fn, tmps, assign, body, hy, hR⟩ := hY ys (j, g) w5 (hJ ys wr w5 none hJs hgn (fun r e => by cases e)) ⟨HYL.out.symm, hlt, hown6.out⟩; have HR := Lib.hid hR; rw [HG.out] at hy; clear hown5 hgr5 hgn hR)
        refine HR.out.mono ?_
        rintro e W3 ⟨rfl, hJ3, hk3⟩
        have HJ3 := Lib.hid hJ3
        have hB3 : Hid (KpP n₀ Bb W W3) := Lib.hid (KpP.trans ⟨HB.out, HBB.out⟩ (KpP.trans ⟨HB5.out.mono (Nat.le_trans hn0 hsz), HB5.out.block Bb (Nat.lt_of_lt_of_le hbb hsz)⟩ hk3))
        have hs3 : W.heap.size ≤ W3.heap.size := Nat.le_trans hsz (Nat.le_trans HB5.out.size hk3.1.size)
        clear hJ3 hk3
        gi_wp2
        go_roundw
        case rel => exact ⟨j + 1, ys ++ [(j, g)], by omega, by go_num, by simp [HYS.out], HJ3.out, hB3.out, hs3⟩
        case measure => simp [intOf]; omega
      · obtain rfl : e = f2 := by omega
        have hm1 : ¬ (t.length : Int) < (e : Int) := by omega
        clear he hf2 hg
        gi_wp2_with ((with_reducible show wpListIn _ _ _ _ _ (⟨some 28, _, _, _, _, _⟩ :: _) _ _); refine wpListIn_copy_any _ rfl (.tmp 22) (.tmp 27) 25 25 rfl n₀ 5 Tryd.underlying25 sizeTB (.slice (some ⟨wr.heap.size, 0, none⟩) 64 64) 64 (bvs (zeros 64)) rfl o1.out _ _ _ _ (bvs ((t.drop f).take (e - f))) rfl RM2.out (bvs_one _) ?_; intro kk w5 hown5 hgr5; have hgn := grown_new hgr5; have HB5 := Lib.hid (grown_below hgn); have hown6 := Lib.hid (piece_own hown5 PC.out HG.out); obtain ⟨fn, tmps, assign, body, hy, hR⟩ := hY ys (j, g) w5 (hJ ys wr w5 none hJs hgn (fun r e => by cases e)) ⟨HYL.out.symm, hlt, hown6.out⟩; have HR := Lib.hid hR; rw [HG.out] at hy; clear hown5 hgr5 hgn hR)
        refine HR.out.mono ?_
        rintro e W3 ⟨rfl, hJ3, hk3⟩
        have HJ3 := Lib.hid hJ3
        have hB3 : Hid (KpP n₀ Bb W W3) := Lib.hid (KpP.trans ⟨HB.out, HBB.out⟩ (KpP.trans ⟨HB5.out.mono (Nat.le_trans hn0 hsz), HB5.out.block Bb (Nat.lt_of_lt_of_le hbb hsz)⟩ hk3))
        have hs3 : W.heap.size ≤ W3.heap.size := Nat.le_trans hsz (Nat.le_trans HB5.out.size hk3.1.size)
        clear hJ3 hk3
        gi_wp2
        go_roundw
        case rel => exact ⟨j + 1, ys ++ [(j, g)], by omega, by go_num, by simp [HYS.out], HJ3.out, hB3.out, hs3⟩
        case measure => simp [intOf]; omega
    · have hjk : j = pn t := by omega
      have hjn : ¬ (f : Int) < (t.length : Int) := by have := HF.out; omega
      have hjn2 : decide ((f : Int) < (t.length : Int)) = false := decide_eq_false hjn
      gi_wp2
      go_end0
      exact ⟨⟨_, rfl⟩, ys, by rw [HYS.out, hjk]; rfl, hJs⟩
theorem pieces_told (n : Nat) (hn : 1 ≤ n) (Bb n₀ : Nat) (A : Option Addr) (c : Nat) (t : List UInt8) (ht : t.length ≤ 100000) (htc : t.length ≤ c) (w : World) (hn0 : n₀ ≤ w.heap.size)
    (hBb : w.cell? ⟨Bb, 0, none⟩ = some (.slice A t.length c)) (hbb : Bb < w.heap.size) (hE : Rd w n₀ A t.length (bvs t)) :
    SeqTold n Tryd.prog 53 #[.pointer (some ⟨Bb, 0, none⟩)] (fun x : Nat × Nat => #[.int .i64 (x.1 : Int), .slice (some ⟨x.2, 0, none⟩) 64 64]) (KpP n₀ Bb) (TP n₀ t) (fun xs => xs.length = pn t) w := fun l J W hW hJ hY h0 =>
  pieces1_in n hn l Bb n₀ A c t ht htc J W hJ (Nat.le_trans hn0 hW.size) hY ((hW.cell (p := ⟨Bb, 0, none⟩) hbb).trans hBb) (Nat.lt_of_lt_of_le hbb hW.size) (hE.below (hW.mono hn0)) h0
end Go.Proofs.YtgeofnemlijbgaaDoor
