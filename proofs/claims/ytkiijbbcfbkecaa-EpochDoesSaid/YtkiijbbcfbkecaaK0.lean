/- What the laws' walks share. -/
import Derived.Test.YtkiijbbcfbkecaaJ6
import Derived.Test.YtkiijbbcfbkecaaH4
namespace Go.Proofs.Ytkiijbbcfbkecaa
open Go.RowKit
set_option linter.unusedVariables false

theorem ret_tt {b : Bool} (h : b = true) : Ending.returned (.bool b) = .returned (.bool true) := by rw [h]
theorem sm_check {k : Bk} (h : checkBk k = true) : SmE k.ents := by
  obtain ⟨⟨_, _, h3⟩, h4⟩ := (check_fits k).1 h
  refine ⟨by omega, fun i x hx => ?_⟩
  obtain ⟨⟨hi, _⟩, _⟩ := fitsB_iff.1 (h4 i x hx)
  simp only [itemB, Bool.and_eq_true, decide_eq_true_eq] at hi
  omega
theorem BBox.new {w : World} {base : Nat} {A : Option Addr} {c : Nat} {xs : List Value} {k : Bk} (h : OwnE w base (.slice A k.ents.length c) xs k.ents) : BBox (w.alloc (.cells #[.slice A k.ents.length c, .int .i64 k.eps] 25)) w.heap.size A c k := by
  obtain ⟨A', c', e, h1, h2⟩ := h.form
  simp only [Value.slice.injEq] at e
  obtain ⟨_, _, rfl⟩ := e
  exact BBox.arg h.ents h1 h2
theorem pvs_ivs (l : List Nat) : pvs l = ivs (l.map fun (p : Nat) => (p : Int)) := by simp [pvs, ivs]
section
variable {A : Option Addr} {c : Nat} {k k' : Bk} {Al : Option Addr} {cl : Nat} {lab : List UInt8} {Av : Option Addr} {cv : Nat} {val : List UInt8} {ver ef : Int} {w : World} {ps : List Nat}
theorem pub_r (hk : pubK k lab val = k') (he : pubE k lab val = ef) (hA : Ents w w.heap.size A k.ents.length k.ents) (h1 : k.ents.length ≤ c) (h2 : c ≤ maxLen) (hs : SmE k.ents) (hL : Rd w w.heap.size Al lab.length (bvs lab)) (hV : Rd w w.heap.size Av val.length (bvs val)) (h3 : lab.length ≤ 1000) (h4 : val.length ≤ 1000) :
    Calls Try.prog 19 #[bkv A k.ents.length c k.eps, .slice Al lab.length cl, .slice Av val.length cv] w (BkRet w k' (withErr ef)) := by
  rw [← hk, ← he]
  exact publish_any A c k Al cl lab Av cv val w hA h1 h2 hs hL hV h3 h4
theorem era_r (hk : eraK k lab ver = k') (he : eraE k lab ver = ef) (hA : Ents w w.heap.size A k.ents.length k.ents) (h1 : k.ents.length ≤ c) (h2 : c ≤ maxLen) (hs : SmE k.ents) (hL : Rd w w.heap.size Al lab.length (bvs lab)) :
    Calls Try.prog 23 #[bkv A k.ents.length c k.eps, .slice Al lab.length cl, .int .i64 ver] w (BkRet w k' (withErr ef)) := by
  rw [← hk, ← he]
  exact erase_any A c k Al cl lab ver w hA h1 h2 hs hL
theorem tick_r (hk : tickK k = k') (he : tickE k = ef) (hp : tickPl k = ps) (hA : Ents w w.heap.size A k.ents.length k.ents) (h1 : k.ents.length ≤ c) (h2 : c ≤ maxLen) (hs : SmE k.ents) :
    Calls Try.prog 21 #[bkv A k.ents.length c k.eps] w (TkRet w k' ps ef) := by
  rw [← hk, ← he, ← hp]
  exact tick_any A c k w hA h1 h2 hs
theorem lat_r {n m : Int} (hn : latH k lab = n) (hm : latA k lab = m) (hA : Ents w w.heap.size A k.ents.length k.ents) (h1 : k.ents.length ≤ c) (h2 : c ≤ maxLen) (hL : Rd w w.heap.size Al lab.length (bvs lab)) :
    Calls Try.prog 11 #[bkv A k.ents.length c k.eps, .slice Al lab.length cl] w fun e w' => e = .returned (.tuple #[.int .i64 n, .int .i64 m]) ∧ Below w.heap.size w w' := by
  rw [← hn, ← hm]
  exact latest_any A c k Al cl lab w hA h1 h2 hL
theorem get_r {n : Int} {b : Bool} (hn : getI k lab ver = n) (hm : getOk k lab ver = b) (hA : Ents w w.heap.size A k.ents.length k.ents) (h1 : k.ents.length ≤ c) (h2 : c ≤ maxLen) (hL : Rd w w.heap.size Al lab.length (bvs lab)) :
    Calls Try.prog 13 #[bkv A k.ents.length c k.eps, .slice Al lab.length cl, .int .i64 ver] w fun e w' => e = .returned (.tuple #[.int .i64 n, .bool b]) ∧ Below w.heap.size w w' := by
  rw [← hn, ← hm]
  exact get_any A c k Al cl lab ver w hA h1 h2 hL
end
theorem cell_mark (w : World) (C : Array Value) (t : TypeId) (f : Nat × Nat) (j : Nat) : (w.alloc (.cells C t f)).cell? ⟨w.heap.size, j, none⟩ = C[j]? := cell_of_row _ _ j C t f (heap_alloc_new w _)
theorem rd_lit (w : World) (b : UInt8) (f : Nat × Nat) : Rd (w.alloc (.cells #[.int .u8 (b.toNat : Int)] 5 f)) (w.alloc (.cells #[.int .u8 (b.toNat : Int)] 5 f)).heap.size (some ⟨w.heap.size, 0, none⟩) [b].length (bvs [b]) :=
  ⟨rfl, fun _ => ⟨_, rfl, by simp, fun j u hu => by
    rw [Addr.add_lit, Nat.zero_add, cell_mark, ← hu]
    simp [bvs, bv]⟩⟩
theorem rd_lit1 (w : World) (b b' : UInt8) (f f' : Nat × Nat) : Rd ((w.alloc (.cells #[.int .u8 (b.toNat : Int)] 5 f)).alloc (.cells #[.int .u8 (b'.toNat : Int)] 5 f')) ((w.alloc (.cells #[.int .u8 (b.toNat : Int)] 5 f)).alloc (.cells #[.int .u8 (b'.toNat : Int)] 5 f')).heap.size (some ⟨w.heap.size, 0, none⟩) [b].length (bvs [b]) :=
  rd_after (rd_lit w b f) (below_one _ _)
theorem rd_lit2 (w : World) (b b' : UInt8) (f f' : Nat × Nat) : Rd ((w.alloc (.cells #[.int .u8 (b.toNat : Int)] 5 f)).alloc (.cells #[.int .u8 (b'.toNat : Int)] 5 f')) ((w.alloc (.cells #[.int .u8 (b.toNat : Int)] 5 f)).alloc (.cells #[.int .u8 (b'.toNat : Int)] 5 f')).heap.size (some ⟨w.heap.size + 1, 0, none⟩) [b'].length (bvs [b']) := by
  have := rd_lit (w.alloc (.cells #[.int .u8 (b.toNat : Int)] 5 f)) b' f'
  rw [World.size_alloc w] at this
  exact this

/- The books of awake. -/
def aB0 : Bk := ⟨[], 0⟩
def aB1 : Bk := ⟨[⟨[97], [118], 1, 0, false⟩], 0⟩
def aB2 : Bk := ⟨[⟨[97], [118], 1, 0, false⟩, ⟨[97], [119], 2, 0, false⟩], 0⟩
def aB3 : Bk := ⟨[⟨[97], [118], 1, 1, false⟩, ⟨[97], [119], 2, 1, false⟩], 1⟩
def aB4 : Bk := ⟨[⟨[97], [], 1, 1, true⟩, ⟨[97], [119], 2, 1, false⟩], 1⟩
def aS : Bk := ⟨[], 16⟩
def aT : Bk := ⟨[], 17⟩
def zs33 : List UInt8 := List.replicate 33 0
theorem a_p1 : pubE aB0 [97] [118] = 0 := by decide +kernel
theorem a_k1 : pubK aB0 [97] [118] = aB1 := by unfold pubK; rw [if_pos a_p1]; rfl
theorem a_p2 : pubE aB1 [97] [119] = 0 := by decide +kernel
theorem a_k2 : pubK aB1 [97] [119] = aB2 := by unfold pubK; rw [if_pos a_p2]; rfl
theorem a_t3 : tickE aB2 = 0 := by decide +kernel
theorem a_k3 : tickK aB2 = aB3 := by unfold tickK; rw [if_pos a_t3]; rfl
theorem a_l3 : tickPl aB2 = [0, 1] := by decide +kernel
theorem a_h4 : latH aB2 [97] = 0 := by decide +kernel
theorem a_a4 : latA aB2 [97] = 2 := by decide +kernel
theorem a_h5 : latH aB3 [97] = 2 := by decide +kernel
theorem a_a5 : latA aB3 [97] = 2 := by decide +kernel
theorem a_g6 : getI aB3 [97] 2 = 1 := by decide +kernel
theorem a_o6 : getOk aB3 [97] 2 = true := by decide +kernel
theorem a_e7 : eraE aB3 [97] 1 = 0 := by decide +kernel
theorem a_k7 : eraK aB3 [97] 1 = aB4 := by unfold eraK; rw [if_pos a_e7]; rfl
theorem a_e8 : eraE aB2 [97] 1 = 192 := by decide +kernel
theorem a_p9 : pubE aB1 zs33 [] = 100 := by decide +kernel
theorem a_t10 : tickE aS = 193 := by decide +kernel
theorem a_t11 : tickE aT = 190 := by decide +kernel
theorem a_w : waitN aB2 = 2 := by decide +kernel
theorem a_c : checkBk aB3 = true := by decide +kernel
theorem a_c1 : checkBk aB1 = true := by decide +kernel
theorem a_c2 : checkBk aB2 = true := by decide +kernel
end Go.Proofs.Ytkiijbbcfbkecaa
