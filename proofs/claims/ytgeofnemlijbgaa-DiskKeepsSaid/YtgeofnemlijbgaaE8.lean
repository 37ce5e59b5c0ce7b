/- The laws' block: a sector that begins with a byte. -/
import Derived.Test.YtgeofnemlijbgaaD6
namespace Go.Proofs.Ytgeofnemlijbgaa
open Go.RowKit
set_option linter.unusedVariables false

theorem infoTBi : ∃ i, Try.prog.info? 5 = some i ∧ i.zero = some (.int .u8 0) ∧ i.size = 1 ∧ i.bytes = 1 := info_parts infoTB
theorem run_append_z63 (w : World) (ty : TypeId) (g : Nat) (v0 : Value) (hc : w.cell? ⟨g, 0, none⟩ = some v0) :
    (Builtin.append_ #[30, 3] ty #[.slice (some ⟨g, 0, none⟩) 1 1, .int .i64 63]).run Try.prog w =
      .ok (.slice (some ⟨w.heap.size, 0, none⟩) 64 (grownCap w 64 1 5)) (w.drew.alloc (.cells (#[v0] ++ Builtin.zeroCells #[.int .u8 0] 63 ++ Builtin.zeroCells #[.int .u8 0] (grownCap w 64 1 5 - 64)) 5)) := by
  obtain ⟨i, hi, hz, hs, hb⟩ := infoTBi
  have hfo := run_firstCells_some (P := Try.prog) w.drew i.size 1 ⟨g, 0, none⟩ 1 1 [v0] (by rw [hs]; rfl) (fun j v hj => by
    match j, hj with
    | 0, hj => simp at hj; subst hj; simpa [Addr.add] using hc)
  rw [hs] at hfo
  have h48 : ¬ (281474976710656 < Builtin.nextslicecap 64 1) := by decide
  have h63 : IntKind.i64.wrap 63 = 63 := by decide
  simp [Builtin.append_, run_underlying Try.underlying30, run_underlying Try.underlying3, sizeOf, typeInfo, zeroValue, hi, hz, hs, hb, Builtin.lenOf, Question.forced, hfo, newRow, grownCap, asInt, asIntOf, h63, h48, Value.cells]
  intro h
  exact absurd h (by decide)

/-- A sector that begins with a byte. -/
def blockL (b : UInt8) : List UInt8 := b :: zeros 63
theorem blockL_length (b : UInt8) : (blockL b).length = 64 := by simp [blockL, zeros]
theorem own_z63 (w : World) (b : UInt8) (base : Nat) (hb : base ≤ w.heap.size) : (w.drew.alloc (.cells (#[.int .u8 (b.toNat : Int)] ++ Builtin.zeroCells #[.int .u8 0] 63 ++ Builtin.zeroCells #[.int .u8 0] (grownCap w 64 1 5 - 64)) 5)).ownsRow base 5 1 (.slice (some ⟨w.heap.size, 0, none⟩) 64 (grownCap w 64 1 5)) (blockL b).length (bvs (blockL b)) := by
  have h1 := grownCap_ge w 64 1 5
  have h2 := grownCap_le_maxLen w 64 1 5 (by unfold maxLen; omega)
  have e : (Builtin.zeroCells #[.int .u8 0] 63).toList = bvs (zeros 63) := made_zeros 63
  refine ⟨by simp [bvs, blockL_length], .inr ⟨w.heap.size, _, _, by rw [blockL_length], hb, heap_alloc_new w.drew _, by rw [blockL_length]; exact h1, h2, ?_, ?_⟩⟩
  · simp only [Array.size_append, size_zeroCells, List.size_toArray, List.length_cons, List.length_nil]
    omega
  · rw [blockL_length]
    simp only [Array.toList_append, List.append_assoc, e]
    rw [← List.append_assoc, List.take_append_of_le_length (by simp [bvs, zeros])]
    rw [List.take_of_length_le (by simp [bvs, zeros])]
    rfl

theorem wpList_append_z63 (w : World) {ops : Array Oper} {rest : List Oper} {o : Oper} {a : Act} {Q : Exit → Act → World → Prop} (hgd : o.guard = none) (s x : Operand)
    (ho : o.op = .call { callee := .builtin .append, args := #[s, x], argTypes := #[30, 3] })
    (g : Nat) (v0 : Value) (hc : w.cell? ⟨g, 0, none⟩ = some v0) (hs : a.eval s = .slice (some ⟨g, 0, none⟩) 1 1) (hx : a.eval x = .int .i64 63)
    (h : wpList Try.prog ops Q rest (a.put o.dst (.slice (some ⟨w.heap.size, 0, none⟩) 64 (grownCap w 64 1 5))) (w.drew.alloc (.cells (#[v0] ++ Builtin.zeroCells #[.int .u8 0] 63 ++ Builtin.zeroCells #[.int .u8 0] (grownCap w 64 1 5 - 64)) 5))) : wpList Try.prog ops Q (o :: rest) a w := by
  refine wpList_plain hgd fun K hK => ?_
  unfold Oper.wp execOp
  simp only [ho, resolve, invoke, builtin, Sem.run_bind, Sem.run_pure, Result.andThen_ok, List.map_toArray, List.map_cons, List.map_nil, hs, hx, run_append_z63 w o.type g v0 hc]
  exact hK _ _ h

theorem block_any (b : UInt8) (w : World) : Calls Try.prog 25 #[.int .u8 (b.toNat : Int)] w (BRet w (blockL b) id) := by
  have hb : (b.toNat : Int) < 256 := by have := b.toNat_lt; omega
  have hc := (Blk.new w 5 #[.int .u8 (b.toNat : Int)]).cell 0
  have HC := Lib.hid hc
  clear hc
  go_enter Try.func25, Try.ntmps25
  go_wp2_with (at_builtin; refine wpList_append_z63 _ rfl _ _ rfl w.heap.size (.int .u8 (b.toNat : Int)) HC.out rfl rfl ?_; generalize hX : (Obj.cells (#[Value.int .u8 (b.toNat : Int)] ++ Builtin.zeroCells #[.int .u8 0] 63 ++ Builtin.zeroCells #[.int .u8 0] (grownCap _ 64 1 5 - 64)) 5) = X)
  go_ret
  subst hX
  have h := own_z63 (w.alloc (.cells #[.int .u8 (b.toNat : Int)] 5)) b w.heap.size (by simp)
  rw [World.size_alloc] at h
  exact ⟨.slice (some ⟨w.heap.size + 1, 0, none⟩) 64 (grownCap (w.alloc (.cells #[.int .u8 (b.toNat : Int)] 5)) 64 1 5), rfl, h, (below_two w _ _).drew⟩
end Go.Proofs.Ytgeofnemlijbgaa
