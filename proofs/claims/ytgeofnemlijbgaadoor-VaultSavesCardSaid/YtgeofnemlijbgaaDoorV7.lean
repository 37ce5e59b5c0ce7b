/- vault.Load. -/
import Derived.Test.YtgeofnemlijbgaaDoorV6
namespace Go.Proofs.YtgeofnemlijbgaaDoor
open Go.RowKit
set_option linter.unusedVariables false
set_option linter.unusedSimpArgs false

/-- Where an area begins. -/
def atD (d : Dsk) (k : Nat) : Nat := if k = 0 then 0 else halfD d
/-- The text that a disk has, its number, and the error. -/
def loadD (d : Dsk) : List UInt8 × Int × Int :=
  if checkB d.secs then match newestD d with
    | some (k, n, m) => (((readD d (atD d k + 1 : Nat) (halfD d - 1 : Nat)).1).take m, (n : Int), 0)
    | none => ([], 0, 181)
  else ([], 0, 1)
/-- A call hands back bytes that read so, a number, and an error. -/
def LRet (w : World) (r : List UInt8 × Int × Int) (e : Ending) (w' : World) : Prop :=
  ∃ A c, e = .returned (.tuple #[.slice A r.1.length c, .int .i64 r.2.1, .int .i64 r.2.2]) ∧ r.1.length ≤ c ∧ c ≤ maxLen ∧ Rd w' w'.heap.size A r.1.length (bvs r.1) ∧ Below w.heap.size w w' ∧ ∀ ad, A = some ad → w.heap.size ≤ ad.block
theorem readH_some {s : List UInt8} {room : Int} {n m : Nat} (h : readH s room = some (n, m)) : s.length = 64 ∧ n ≤ 4611686018427387903 ∧ (m : Int) ≤ room ∧ s = headL n m ∧ n = seqOf s ∧ m = lenOf s := by
  unfold readH at h
  split at h
  · rename_i hc
    simp only [Option.some.injEq, Prod.mk.injEq] at h
    obtain ⟨rfl, rfl⟩ := h
    exact ⟨hc.1, hc.2.1, hc.2.2.1, hc.2.2.2, rfl, rfl⟩
  · cases h
theorem newV_some {r0 r1 : Option (Nat × Nat)} {k n m : Nat} (h : newV r0 r1 = some (k, n, m)) : (k = 0 ∧ r0 = some (n, m)) ∨ (k = 1 ∧ r1 = some (n, m)) := by
  rcases r0 with _ | ⟨a, b⟩ <;> rcases r1 with _ | ⟨a', b'⟩ <;> simp only [newV] at h
  · cases h
  · injection h with h; simp only [Prod.mk.injEq] at h; obtain ⟨rfl, rfl, rfl⟩ := h; exact .inr ⟨rfl, rfl⟩
  · injection h with h; simp only [Prod.mk.injEq] at h; obtain ⟨rfl, rfl, rfl⟩ := h; exact .inl ⟨rfl, rfl⟩
  · split at h
    · injection h with h; simp only [Prod.mk.injEq] at h; obtain ⟨rfl, rfl, rfl⟩ := h; exact .inr ⟨rfl, rfl⟩
    · injection h with h; simp only [Prod.mk.injEq] at h; obtain ⟨rfl, rfl, rfl⟩ := h; exact .inl ⟨rfl, rfl⟩
theorem newest_le {d : Dsk} {k n m : Nat} (h : newestD d = some (k, n, m)) : k ≤ 1 ∧ n ≤ 4611686018427387903 ∧ (m : Int) ≤ roomN d.secs.length := by
  rcases newV_some h with ⟨rfl, h'⟩ | ⟨rfl, h'⟩
  · obtain ⟨_, h1, h2, _⟩ := readH_some h'; exact ⟨by omega, h1, h2⟩
  · obtain ⟨_, h1, h2, _⟩ := readH_some h'; exact ⟨by omega, h1, h2⟩
theorem flat_len {ss : List (List UInt8)} (h : ∀ l ∈ ss, l.length = 64) : ss.flatten.length = ss.length * 64 := by
  induction ss with
  | nil => rfl
  | cons a t ih =>
    rw [List.flatten_cons, List.length_append, ih (fun l hl => h l (List.mem_cons_of_mem _ hl)), h a (List.mem_cons_self ..), List.length_cons]
    omega
theorem load_read {d : Dsk} (hck : checkB d.secs = true) {k : Nat} (hk : k ≤ 1) : okR d (atD d k + 1 : Nat) (halfD d - 1 : Nat) = true ∧ (readD d (atD d k + 1 : Nat) (halfD d - 1 : Nat)).2 = 0 ∧ ((readD d (atD d k + 1 : Nat) (halfD d - 1 : Nat)).1.length : Int) = roomN d.secs.length := by
  obtain ⟨h1, h2, h3, h4⟩ := halfD_eq hck
  have hat : atD d k + 1 + (halfD d - 1) ≤ d.secs.length := by unfold atD; split <;> omega
  have hok : okR d (atD d k + 1 : Nat) (halfD d - 1 : Nat) = true := by
    unfold okR
    simp only [hck, Bool.true_and, Bool.and_eq_true, decide_eq_true_eq]
    omega
  refine ⟨hok, by unfold readD; rw [if_pos hok], ?_⟩
  unfold readD
  rw [if_pos hok]
  simp only [Int.toNat_natCast]
  rw [flat_len]
  · rw [List.length_take, List.length_drop]
    have hr := halfN_rng d.secs.length
    unfold roomN
    omega
  · intro l hl
    have hl' := List.mem_of_mem_drop (List.mem_of_mem_take hl)
    obtain ⟨i, hi⟩ := List.getElem?_of_mem hl'
    exact checkB_at hck hi
theorem run_cut3 (a : Option Addr) (n c m : Nat) (w : World) (h1 : m ≤ c) : (Instr.slice 25 (.slice a n c) none (some (.int .i64 (m : Int))) (some (.int .i64 (m : Int)))).run Tryd.prog w = .ok (.slice a m m) w := by
  have hsz : (sizeOf (Tryd.prog.elem 25)).run Tryd.prog w = .ok 1 w := by
    obtain ⟨i2, hi2, hz2, hs2, hb2⟩ := info_parts infoTB
    have he : Tryd.prog.elem 25 = 5 := by kernel_rfl
    simp [he, sizeOf, typeInfo, hi2, hs2]
  have hr := run_slice_hm (P := Tryd.prog) w 25 a n c (by kernel_rfl) .i64 .i64 (m : Int) (m : Int) (by omega) (by omega) (by omega)
  rw [hsz] at hr
  simp only [Result.andThen, Int.toNat_natCast] at hr
  rw [hr]
  unfold sliced
  rcases a with _ | ad
  · by_cases hc : m = 0 <;> simp
  · by_cases hc : m = 0 <;> simp [Addr.add]
theorem own_ge {w : World} {base size n c m : Nat} {e : TypeId} {A : Option Addr} {xs : List Value} {ad : Addr} (h : w.ownsRow base e size (.slice A m c) n xs) (ha : A = some ad) : base ≤ ad.block := by
  subst ha
  obtain ⟨_, _, hh, _⟩ := own_block h (g := ad.block) rfl
  exact hh
attribute [local go_sem high] run_cut3

set_option maxRecDepth 100000 in
set_option maxHeartbeats 4000000 in
theorem load_any (A : Option Addr) (c : Nat) (d : Dsk) (w : World) (hd : Bss w w.heap.size A d.secs.length d.secs) (h1 : d.secs.length ≤ c) (h2 : c ≤ maxLen) (hs : Sm d.secs) :
    Calls Tryd.prog 18 #[dvD A c d] w (LRet w (loadD d)) := by
  have D0 := Lib.hid (DBox.arg hd h1 h2)
  have HS := Lib.hid hs
  have hml : d.secs.length ≤ maxLen := by have := hs.1; unfold maxLen; omega
  have HML := Lib.hid hml
  obtain ⟨q0, q1, q2, q3, q4⟩ := D0.out.cells
  clear hd h1 h2 hs hml
  cases hck : checkB d.secs
  · have hr : loadD d = ([], 0, 1) := by unfold loadD; rw [hck]; rfl
    rw [hr]
    have HCK := Lib.hid hck
    clear hr hck
    go_enter Tryd.func18, Tryd.ntmps18
    go_wp2_with (go_at_call 11; refine (check_any A d.secs.length c d.left d.torn d.off d.done d.secs _ D0.out.secs HML.out).mono ?_; rw [HCK.out]; rintro e w2 ⟨rfl, hB2⟩)
    refine bodyPost_ret (v := .tuple #[.slice none 0 0, .int .i64 0, .int .i64 1]) (by simp [results, Tryd.results18, go_sem]) rfl ?_
    exact ⟨none, 0, rfl, Nat.le_refl _, Nat.zero_le _, Rd.none_ _, keepB hB2 (below_one w _), fun _ h => by cases h⟩
  · have HCK := Lib.hid hck
    have CHK : Hid (∀ w' : World, Bss w' w'.heap.size A d.secs.length d.secs → Calls Tryd.prog 11 #[dvD A c d] w' fun e w'' => e = .returned (.bool true) ∧ Below w'.heap.size w' w'') := Lib.hid (fun w' hb => (check_any A d.secs.length c d.left d.torn d.off d.done d.secs _ hb HML.out).mono (by rw [hck]; exact fun _ _ h => h))
    rcases hn : newestD d with _ | ⟨k, n, m⟩
    · have hr : loadD d = ([], 0, 181) := by unfold loadD; rw [hck, if_pos rfl, hn]
      rw [hr]
      have HN := Lib.hid hn
      clear hr hck hn
      go_enter Tryd.func18, Tryd.ntmps18
      go_wp2_with (first
        | (go_at_call 11; refine (CHK.out _ D0.out.secs).mono ?_; rintro e w2 ⟨rfl, hB2⟩; have D2 := Lib.hid (D0.out.after hB2); have HB2 := Lib.hid (keepB hB2 (below_one w _)); clear hB2 q0 q1 q2 q3 q4; obtain ⟨q0, q1, q2, q3, q4⟩ := D2.out.cells)
        | (go_at_call 34; refine (newest_any A c d _ D2.out.secs D2.out.cap D2.out.cm HCK.out).mono ?_; rw [HN.out]; simp only [txC, Option.isSome_none]; rintro e w3 ⟨rfl, hB3⟩))
      refine bodyPost_ret (v := .tuple #[.slice none 0 0, .int .i64 0, .int .i64 181]) (by simp [results, Tryd.results18, go_sem]) rfl ?_
      exact ⟨none, 0, rfl, Nat.le_refl _, Nat.zero_le _, Rd.none_ _, bel_al (keepB hB3 HB2.out), fun _ h => by cases h⟩
    · obtain ⟨hk, hn62, hm⟩ := newest_le hn
      obtain ⟨ho, hrc, hrl⟩ := load_read hck hk
      obtain ⟨g1, g2, g3, g4⟩ := halfD_eq hck
      have har : areaN d.secs.length k = ((atD d k : Int), (halfD d : Int)) := by
        unfold areaN atD
        rcases (by omega : k = 0 ∨ k = 1) with rfl | rfl
        · simp [g1]
        · simp [g1]
      have hr : loadD d = (((readD d (atD d k + 1 : Nat) (halfD d - 1 : Nat)).1).take m, (n : Int), 0) := by unfold loadD; rw [hck, if_pos rfl, hn]
      rw [hr]
      have hat : atD d k ≤ 2048 := by have := (checkB_len hck).2; unfold atD; split <;> omega
      have hhf : 2 ≤ halfD d ∧ halfD d ≤ 2048 := by have := (checkB_len hck).2; omega
      obtain ⟨r, hre⟩ : ∃ r, r = (readD d (atD d k + 1 : Nat) (halfD d - 1 : Nat)).1 := ⟨_, rfl⟩
      rw [← hre] at hrl ⊢
      have hml2 : m ≤ r.length := by omega
      have HRE := Lib.hid hre
      have HRC := Lib.hid hrc
      have HAR := Lib.hid har
      have HN := Lib.hid hn
      obtain ⟨a, ha⟩ : ∃ a, a = atD d k := ⟨_, rfl⟩
      obtain ⟨hf, hhe⟩ : ∃ a, a = halfD d := ⟨_, rfl⟩
      rw [← ha, ← hhe] at HAR HRE HRC
      rw [← ha] at hat
      rw [← hhe] at hhf
      obtain ⟨hf1, hf2⟩ := hhf
      have cst1 : (a : Int) + 1 = ((a + 1 : Nat) : Int) := by omega
      have cst2 : (hf : Int) - 1 = ((hf - 1 : Nat) : Int) := by omega
      have C1 := Lib.hid cst1
      have C2 := Lib.hid cst2
      have hw1 : IntKind.i64.wrap ((a : Int) + 1) = (a : Int) + 1 := IntWalk.i64_in _ (by omega)
      have hw2 : IntKind.i64.wrap ((hf : Int) - 1) = (hf : Int) - 1 := IntWalk.i64_in _ (by omega)
      have HL2 := Lib.hid hml2
      clear hr hck hn ho hrc har hre ha hhe g1 g2 g3 g4 hrl hm cst1 cst2 hml2
      go_enter Tryd.func18, Tryd.ntmps18
      go_wp2_with (first
        | (go_at_call 11; refine (CHK.out _ D0.out.secs).mono ?_; rintro e w2 ⟨rfl, hB2⟩; have D2 := Lib.hid (D0.out.after hB2); have HB2 := Lib.hid (keepB hB2 (below_one w _)); clear hB2 q0 q1 q2 q3 q4; obtain ⟨q0, q1, q2, q3, q4⟩ := D2.out.cells)
        | (go_at_call 34; refine (newest_any A c d _ D2.out.secs D2.out.cap D2.out.cm HCK.out).mono ?_; rw [HN.out]; simp only [txC, Option.isSome_some]; rintro e w3 ⟨rfl, hB3⟩; have D3 := Lib.hid ((D2.out.after hB3).alloc (.cells #[.int .i64 (k : Int), .int .i64 (n : Int), .int .i64 (m : Int)] 53)); have HB3 := Lib.hid (bel_al (o := .cells #[.int .i64 (k : Int), .int .i64 (n : Int), .int .i64 (m : Int)] 53) (keepB hB3 HB2.out)); have BT := Lib.hid (Blk.new w3 53 #[.int .i64 (k : Int), .int .i64 (n : Int), .int .i64 (m : Int)]); have ct := BT.out.cell; clear hB3 q0 q1 q2 q3 q4; obtain ⟨q0, q1, q2, q3, q4⟩ := D3.out.cells)
        | (go_at_call 15; refine (area_any _ _ _).mono ?_; rw [HAR.out]; rintro e w4 ⟨rfl, hB4⟩; have D4 := Lib.hid (D3.out.after hB4); have BT4 := Lib.hid (BT.out.below hB4 BT.out.lt); have HB4 := Lib.hid (keepB hB4 HB3.out); clear hB4 q0 q1 q2 q3 q4 ct; obtain ⟨q0, q1, q2, q3, q4⟩ := D4.out.cells)
        | (go_at_call 37; rw [C1.out, C2.out]; refine (read_any A c d _ _ _ D4.out.secs D4.out.cap D4.out.cm HS.out (by omega) (by omega)).mono ?_; rw [HRC.out, ← HRE.out]; rintro e w5 ⟨v5, rfl, hO5, hB5⟩; obtain ⟨A5, c5, rfl, e5, e6⟩ := own_form hO5; have R5 := Lib.hid (own_rd hO5); have G5 := Lib.hid (fun ad (e : A5 = some ad) => own_ge hO5 e); have bt5 := BT4.out.below hB5 BT4.out.lt; have ct := bt5.cell; have HB5 := Lib.hid (keepB hB5 HB4.out); have hmc : m ≤ c5 := Nat.le_trans HL2.out e5; clear hO5 hB5 bt5 q0 q1 q2 q3 q4))
      go_quiet (fail)
      go_wp2
      refine bodyPost_ret (v := .tuple #[.slice A5 m m, .int .i64 (n : Int), .int .i64 0]) (by simp [results, Tryd.results18, go_sem]) rfl ?_
      have hl : (r.take m).length = m := by rw [List.length_take]; have := HL2.out; omega
      refine ⟨A5, m, by rw [hl], by rw [hl]; exact Nat.le_refl _, Nat.le_trans hmc e6, ?_, below_drewN HB5.out nq, fun ad e => Nat.le_trans HB4.out.size (G5.out ad e)⟩
      rw [hl]
      exact (begin_rd R5.out HL2.out).drewN nq
end Go.Proofs.YtgeofnemlijbgaaDoor
