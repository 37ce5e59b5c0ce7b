/- epoch.of: the iterator over the entries of a label. -/
import Derived.RangeFuncNested
import Derived.RangeFuncBound
import Derived.RangeFuncCalls
import Derived.RangeFuncLeaves
import Derived.Shelf.Abstract
import Derived.Shelf.RegionOpen
import Derived.WalkKit
import Derived.OwnWalkIn
import Derived.TacticsInMore
import Derived.LoopNIn
import Derived.LoopIn
import Derived.Test.YtkiijbbcfbkecaaF3
namespace Go.Proofs.Ytkiijbbcfbkecaa
open Go.RowKit Go.Shelf
set_option linter.unusedVariables false
attribute [local go_sem] Oper.semAt_some

/-- What a round is handed: a place, and an entry's value. -/
structure RE where
  i : Nat
  Al : Option Addr
  nl : Nat
  cl : Nat
  Av : Option Addr
  nv : Nat
  cv : Nat
  ver : Int
  ep : Int
  er : Bool
abbrev RE.val (x : RE) : Value := env x.Al x.nl x.cl x.Av x.nv x.cv x.ver x.ep x.er
abbrev RE.encs (x : RE) : Array Value := #[.int .i64 (x.i : Int), x.val]
def RE.proj (x : RE) : Nat × Int × Int := (x.i, x.ver, x.ep)
/-- The entries of a label among the first k. -/
def mts (l : List Ent) (lab : List UInt8) : Nat → List (Nat × Int × Int)
  | 0 => []
  | k + 1 => mts l lab k ++ match l[k]? with
    | some e => if e.label = lab then [(k, e.ver, e.ep)] else []
    | none => []
theorem mts_yes {l : List Ent} {lab : List UInt8} {k : Nat} {e : Ent} (h : l[k]? = some e) (hl : e.label = lab) : mts l lab (k + 1) = mts l lab k ++ [(k, e.ver, e.ep)] := by simp [mts, h, hl]
theorem mts_no {l : List Ent} {lab : List UInt8} {k : Nat} {e : Ent} (h : l[k]? = some e) (hl : ¬ e.label = lab) : mts l lab (k + 1) = mts l lab k := by simp [mts, h, hl]
theorem mts_len (l : List Ent) (lab : List UInt8) (k : Nat) : (mts l lab k).length ≤ k := by
  induction k with
  | zero => simp [mts]
  | succ k ih =>
    simp only [mts, List.length_append]
    split
    · split <;> simp <;> omega
    · simp; omega

theorem of_in (n : Nat) (A : Option Addr) (m c : Nat) (eps : Int) (Al : Option Addr) (nl cl : Nat) (w : World) :
    CallsIn Fence.wide n Try.prog 27 #[bkv A m c eps, .slice Al nl cl] w fun e w' => e = .returned (.func (.func 41) #[] #[.pointer (some ⟨w.heap.size, 0, none⟩), .pointer (some ⟨w.heap.size + 1, 0, none⟩)]) ∧ w' = (w.alloc (.cells #[.slice A m c, .int .i64 eps] 25)).alloc (.cells #[.slice Al nl cl] 26) := by
  refine callsIn_of_wp Try.func27 rfl trivial ?_ rfl
  simp only [Try.ntmps27, List.size_toArray, List.length_cons, List.length_nil, Nat.reduceAdd, Nat.reduceSub, Array.replicate_succ, Array.replicate_zero, List.push_toArray, List.append_toArray, List.nil_append, List.cons_append]
  gi_wp2
  go_ret
  exact ⟨rfl, rfl⟩

/-- What a round that goes on keeps: what lay below n₀, and the block of the label's box. -/
def KpL (n₀ Bl : Nat) (W W' : World) : Prop := Below n₀ W W' ∧ W'.heap[Bl]? = W.heap[Bl]?
theorem KpL.trans {n₀ Bl : Nat} {A B C : World} (h : KpL n₀ Bl A B) (h' : KpL n₀ Bl B C) : KpL n₀ Bl A C := ⟨h.1.trans h'.1, h'.2.trans h.2⟩

set_option maxRecDepth 100000 in
set_option maxHeartbeats 2000000 in
theorem of1_in (n : Nat) (hn : 1 ≤ n) (l Bb Bl n₀ : Nat) (A : Option Addr) (c : Nat) (eps : Int) (ents : List Ent) (Al : Option Addr) (cl : Nat) (lab : List UInt8) (hlen : ents.length ≤ 1000) (J Jx : List RE → World → Prop)
    (W : World) (hJ : AbidesFrom W.heap.size J) (hn0 : n₀ ≤ W.heap.size)
    (hY : ∀ pre (x : RE) W1, J pre W1 → pre.length < 1001 → YieldAt Fence.wide (n - 1) Try.prog l x.encs W1 fun e W' =>
      (e = .returned (.bool true) ∧ J (pre ++ [x]) W' ∧ KpL n₀ Bl W1 W') ∨ (e = .returned (.bool false) ∧ Jx (pre ++ [x]) W'))
    (hBb : W.cell? ⟨Bb, 0, none⟩ = some (.slice A ents.length c)) (hBl : W.cell? ⟨Bl, 0, none⟩ = some (.slice Al lab.length cl)) (hbl : Bl < W.heap.size)
    (hE : Ents W n₀ A ents.length ents) (hL : Rd W n₀ Al lab.length (bvs lab)) (h0 : J [] W) :
    CallsIn Fence.wide n Try.prog 41 #[.func (.yield l) #[] #[], .pointer (some ⟨Bb, 0, none⟩), .pointer (some ⟨Bl, 0, none⟩)] W fun e W' => (∃ v, e = .returned v) ∧
      ((∃ ys, ys.map RE.proj = mts ents lab ents.length ∧ J ys W') ∨ (∃ pre, (∃ k, k ≤ ents.length ∧ pre.map RE.proj = mts ents lab k) ∧ Jx pre W')) := by
  refine callsIn_of_wp Try.func41 rfl trivial ?_ rfl
  simp only [Try.ntmps41, List.size_toArray, List.length_cons, List.length_nil, Nat.reduceAdd, Nat.reduceSub, Array.replicate_succ, Array.replicate_zero, List.push_toArray, List.append_toArray, List.nil_append, List.cons_append]
  have HE := Lib.hid hE
  have HL := Lib.hid hL
  clear hE hL
  gi_wp2
  gi_loopw [9] (fun i wr => ∃ (k : Nat) (ys : List RE), k ≤ ents.length ∧ i = .int .i64 k ∧ ys.map RE.proj = mts ents lab k ∧ J ys wr ∧ KpL n₀ Bl W wr ∧ W.heap.size ≤ wr.heap.size) (fun i _ => ents.length - (intOf i).toNat)
  case atStart => exact ⟨0, [], Nat.zero_le _, rfl, rfl, h0, ⟨Below.refl _ _, rfl⟩, Nat.le_refl _⟩
  case round =>
    obtain ⟨k, ys, hk, rfl, hys, hJs, ⟨hB, hBl'⟩, hsz⟩ := hrel
    have HYS := Lib.hid hys
    have HB := Lib.hid hB
    have q2 : wr.cell? ⟨Bl, 0, none⟩ = some (.slice Al lab.length cl) := (World.cell?_of_block (a := ⟨Bl, 0, none⟩) hBl').trans hBl
    have HBL := Lib.hid hBl'
    have q2a := fun o => (World.cell?_alloc_lt wr o ⟨Bl, 0, none⟩ (by show Bl < wr.heap.size; omega)).trans q2
    clear hys hB hBl'
    by_cases hlt : k < ents.length
    · obtain ⟨xb, xo, ⟨xl, xv, xver, xep, xer⟩, Ax, cx, Ay, cy, rfl, hb, hx, c1, c2, c3, c4, c5, p1, p2, p3, s1, s2, s3⟩ := (HE.out.below HB.out).at_ hlt
      have X := Lib.hid hx
      have P3 := Lib.hid p3
      dsimp only at c1 c2 c3 c4 c5 p1 p2 s1 s2
      clear hx p3 s3
      have hk0 : (0 : Int) ≤ (k : Int) := by omega
      have hk1 : (k : Int) < (ents.length : Int) := by omega
      have hJ1 := hJ ys wr (wr.alloc (.cells #[.slice Ax xl.length cx, .slice Ay xv.length cy, .int .i64 xver, .int .i64 xep, .bool xer] 49)) none hJs (World.grownBy_alloc wr _ none) (fun r e => by cases e)
      have hB1 : Below n₀ wr (wr.alloc (.cells #[.slice Ax xl.length cx, .slice Ay xv.length cy, .int .i64 xver, .int .i64 xep, .bool xer] 49)) := (below_one wr _).mono (by omega)
      have HB1 := Lib.hid hB1
      have HJ1 := Lib.hid hJ1
      have hyl : ys.length < 1001 := by have := congrArg List.length HYS.out; rw [List.length_map] at this; have := mts_len ents lab k; omega
      by_cases hl : xl = lab
      · have heq : eqB xl lab = true := by simp [eqB, hl]
        obtain ⟨fn, tmps, assign, body, hy, hR⟩ := hY ys ⟨k, Ax, xl.length, cx, Ay, xv.length, cy, xver, xep, xer⟩ _ hJ1 hyl
        simp only [RE.encs, RE.val] at hy
        have HEQ := Lib.hid hl
        have HR := Lib.hid hR
        clear hl hB1 hJ1 hR
        gi_wp2_with (refine ⟨trivial, ?_⟩; gi_at_call 42; refine (callsIn_wide.2 (equal_any Ax Al cx cl xl lab _ (P3.out.below HB1.out) ((HL.out.below HB.out).below HB1.out))).mono ?_; rw [heq]; rintro e w3 ⟨rfl, rfl⟩)
        refine HR.out.mono ?_
        rintro e W3 (⟨rfl, hJ3, hk3⟩ | ⟨rfl, hJx3⟩)
        · have HJ3 := Lib.hid hJ3
          have hal : (wr.alloc (.cells #[.slice Ax xl.length cx, .slice Ay xv.length cy, .int .i64 xver, .int .i64 xep, .bool xer] 49)).heap[Bl]? = wr.heap[Bl]? := Below.heap_alloc wr _ Bl (by omega)
          have hB3 : Hid (KpL n₀ Bl W W3) := Lib.hid ⟨(HB.out.trans HB1.out).trans hk3.1, hk3.2.trans (hal.trans HBL.out)⟩
          have hs3 : W.heap.size ≤ W3.heap.size := by have := hk3.1.size; simp at this; omega
          clear hJ3 hk3 hal
          gi_wp2
          go_roundw
          case rel => exact ⟨k + 1, ys ++ [⟨k, Ax, xl.length, cx, Ay, xv.length, cy, xver, xep, xer⟩], by omega, by go_num, by rw [List.map_append, HYS.out, mts_yes X.out HEQ.out]; rfl, HJ3.out, hB3.out, hs3⟩
          case measure => simp [intOf]; omega
        · gi_wp2
          refine bodyPost_ret (results_none rfl _ _ _) rfl ?_
          exact ⟨⟨_, rfl⟩, .inr ⟨_, ⟨k + 1, by omega, by rw [List.map_append, HYS.out, mts_yes X.out HEQ.out]; rfl⟩, hJx3⟩⟩
      · have heq : eqB xl lab = false := by simp [eqB, hl]
        have HEQ := Lib.hid hl
        clear hl hB1 hJ1
        gi_wp2_with (refine ⟨trivial, ?_⟩; gi_at_call 42; refine (callsIn_wide.2 (equal_any Ax Al cx cl xl lab _ (P3.out.below HB1.out) ((HL.out.below HB.out).below HB1.out))).mono ?_; rw [heq]; rintro e w3 ⟨rfl, rfl⟩)
        refine ⟨fun _ h => (by cases h), ?_⟩
        gi_wp2
        go_roundw
        case rel => exact ⟨k + 1, ys, by omega, by go_num, by rw [HYS.out, mts_no X.out HEQ.out], HJ1.out, ⟨HB.out.trans HB1.out, (Below.heap_alloc wr _ Bl (by omega)).trans HBL.out⟩, by simp; omega⟩
        case measure => simp [intOf]; omega
    · have hjn : ¬ (k : Int) < (ents.length : Int) := by omega
      have hkn : k = ents.length := by omega
      have HKN := Lib.hid hkn
      clear hkn
      gi_wp2
      go_end0
      exact ⟨⟨_, rfl⟩, .inl ⟨ys, by rw [HYS.out, HKN.out], hJs⟩⟩
/-- The iterator's contract, as the caller's law wants it. -/
theorem of_stops (n : Nat) (hn : 1 ≤ n) (Bb Bl n₀ : Nat) (A : Option Addr) (c : Nat) (eps : Int) (ents : List Ent) (Al : Option Addr) (cl : Nat) (lab : List UInt8) (hlen : ents.length ≤ 1000) (w : World) (hn0 : n₀ ≤ w.heap.size)
    (hBb : w.cell? ⟨Bb, 0, none⟩ = some (.slice A ents.length c)) (hBl : w.cell? ⟨Bl, 0, none⟩ = some (.slice Al lab.length cl)) (hbb : Bb < w.heap.size) (hbl : Bl < w.heap.size)
    (hE : Ents w n₀ A ents.length ents) (hL : Rd w n₀ Al lab.length (bvs lab)) :
    SeqStopsK Fence.wide n Try.prog 41 #[.pointer (some ⟨Bb, 0, none⟩), .pointer (some ⟨Bl, 0, none⟩)] RE.encs (KpL n₀ Bl) (fun ys => ys.map RE.proj = mts ents lab ents.length) (fun pre => ∃ k, k ≤ ents.length ∧ pre.map RE.proj = mts ents lab k) 1001 w := fun l J Jx W hW hJ hJx hY h0 =>
  of1_in n hn l Bb Bl n₀ A c eps ents Al cl lab hlen J Jx W hJ (Nat.le_trans hn0 hW.size) hY ((hW.cell (p := ⟨Bb, 0, none⟩) hbb).trans hBb) ((hW.cell (p := ⟨Bl, 0, none⟩) hbl).trans hBl) (Nat.lt_of_lt_of_le hbl hW.size) (hE.below (hW.mono hn0)) (hL.below (hW.mono hn0)) h0
end Go.Proofs.Ytkiijbbcfbkecaa
