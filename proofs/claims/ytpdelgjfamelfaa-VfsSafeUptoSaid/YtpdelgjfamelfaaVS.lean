import Derived.Test.YtpdelgjfamelfaaVR
namespace Go.Proofs.Ytpdelgjfamelfaa
open Go.RowKit Go.Lib Go.Vfs Go.Par Go.Shelf
set_option linter.unusedVariables false

section
variable {l n : Nat} {Q : Exit → Act → World → Prop} {a : Act} {w w' : World} {K : Act → World → Prop}
theorem wpOpIn_value {ops : Array Oper} {i : Nat} {o : Oper} {v : Value} (ho : ops[i]? = some o) (hg : o.guard = none) (hnd : ∀ c, o.op ≠ .defer c) (hrun : (execOp a.eval o).run Try.prog w = .ok (.value v) w') (hK : K (a.put o.dst v) w') :
    wpOpIn (Fence.wide.inRound l) n Try.prog ops Q i K a w := by
  unfold wpOpIn
  simp only [ho]
  rw [if_pos (by simp [Region.wanted, hg])]
  refine ⟨fun _ _ => trivial, ?_⟩
  rw [show (Fence.wide.inRound l).round = some l from rfl, Oper.semAt_some l a.eval o hnd, hrun]
  exact hK
theorem wpOpIn_skip {ops : Array Oper} {i : Nat} {o : Oper} (ho : ops[i]? = some o) (hg : o.guard = none) (hnd : ∀ c, o.op ≠ .defer c) (hrun : (execOp a.eval o).run Try.prog w = .ok .skip w') (hK : K (a.put o.dst undef) w') :
    wpOpIn (Fence.wide.inRound l) n Try.prog ops Q i K a w := by
  unfold wpOpIn
  simp only [ho]
  rw [if_pos (by simp [Region.wanted, hg])]
  refine ⟨fun _ _ => trivial, ?_⟩
  rw [show (Fence.wide.inRound l).round = some l from rfl, Oper.semAt_some l a.eval o hnd, hrun]
  exact hK
theorem wpOpIn_enter {ops : Array Oper} {i : Nat} {o : Oper} {f : Nat} {args : Array Value} (ho : ops[i]? = some o) (hg : o.guard = none) (hnd : ∀ c, o.op ≠ .defer c) (hrun : (execOp a.eval o).run Try.prog w = .ok (.enter f args) w)
    (hC : Calls Try.prog f args w fun e w' => ∃ v, e = .returned v ∧ K (a.put o.dst v) w') :
    wpOpIn (Fence.wide.inRound l) n Try.prog ops Q i K a w := by
  unfold wpOpIn
  simp only [ho]
  rw [if_pos (by simp [Region.wanted, hg])]
  refine ⟨fun _ _ => trivial, ?_⟩
  rw [show (Fence.wide.inRound l).round = some l from rfl, Oper.semAt_some l a.eval o hnd, hrun]
  refine ⟨(fun h => by cases h), CallsIn.inRound l (callsIn_wide.2 (hC.mono fun e w' ⟨v, he, hk⟩ => ?_))⟩
  subst he
  exact hk

variable {o : Oper} {ρ : Operand → Value}
theorem run_move {x : Operand} (h : o.op = Op.move x) : (execOp ρ o).run Try.prog w = .ok (.value (ρ x)) w := by
  simp [execOp, h]
theorem run_nilCheck {x : Operand} {ad : Addr} (h : o.op = Op.nilCheck x) (hx : ρ x = .pointer (some ad)) : (execOp ρ o).run Try.prog w = .ok (.value (.pointer (some ad))) w := by
  simp [execOp, h, hx, go_sem]
theorem run_fieldFS {x : Operand} {b : Nat} (h : o.op = Op.fieldAddr 84 x 0) (hx : ρ x = .pointer (some ⟨b, 0, none⟩)) : (execOp ρ o).run Try.prog w = .ok (.value (.pointer (some ⟨b, 0, none⟩))) w := by
  simp [execOp, h, hx, go_sem]
theorem run_fieldFile {x : Operand} {b : Nat} (h : o.op = Op.fieldAddr 89 x 0) (hx : ρ x = .pointer (some ⟨b, 0, none⟩)) : (execOp ρ o).run Try.prog w = .ok (.value (.pointer (some ⟨b, 0, none⟩))) w := by
  simp [execOp, h, hx, go_sem]
theorem run_loadPFS {x : Operand} {ad : Addr} {v : Value} (h : o.op = Op.load 24 x) (hx : ρ x = .pointer (some ad)) (hc : w.cell? ad = some v) : (execOp ρ o).run Try.prog w = .ok (.value v) w := by
  simp [execOp, h, hx, go_sem, hc]
theorem run_loadMap {x : Operand} {ad : Addr} {v : Value} (h : o.op = Op.load 82 x) (hx : ρ x = .pointer (some ad)) (hc : w.cell? ad = some v) : (execOp ρ o).run Try.prog w = .ok (.value v) w := by
  simp [execOp, h, hx, go_sem, hc]
theorem run_loadBytes {x : Operand} {ad : Addr} {v : Value} (h : o.op = Op.load 22 x) (hx : ρ x = .pointer (some ad)) (hc : w.cell? ad = some v) : (execOp ρ o).run Try.prog w = .ok (.value v) w := by
  simp [execOp, h, hx, go_sem, hc]
theorem run_slice11 {x y : Operand} {A : Option Addr} {L c N : Nat} (h : o.op = Op.slice 22 x none (some y) none) (hx : ρ x = .slice A L c) (hy : ρ y = .int .i64 (N : Int)) (hN : N ≤ c) : (execOp ρ o).run Try.prog w = .ok (.value (.slice A N c)) w := by
  have hs := slice_to A L c N w hN
  simp [execOp, h, hx, hy, go_sem, hs]
theorem run_build {x y : Operand} {u v : Value} (h : o.op = Op.build 89 #[(0, x), (1, y)]) (hx : ρ x = u) (hy : ρ y = v) (hu : ∃ A n c, u = .slice A n c) (hv : ∃ k, v = .int .i64 k) : (execOp ρ o).run Try.prog w = .ok (.value (.agg #[u, v])) w := by
  obtain ⟨A, n, c, rfl⟩ := hu
  obtain ⟨k, rfl⟩ := hv
  simp [execOp, h, hx, hy, go_sem]
theorem run_boxFile {x : Operand} {u v : Value} (h : o.op = Op.box 89 x) (hx : ρ x = .agg #[u, v]) (hu : ∃ A n c, u = .slice A n c) (hv : ∃ k, v = .int .i64 k) : (execOp ρ o).run Try.prog w = .ok (.value (.pointer (some ⟨w.heap.size, 0, none⟩))) (w.alloc (.cells #[u, v] 89)) := by
  obtain ⟨A, n, c, rfl⟩ := hu
  obtain ⟨k, rfl⟩ := hv
  simp [execOp, h, hx, go_sem]
theorem run_update {m x v : Operand} {key val : Value} {b : Nat} (h : o.op = Op.mapUpdate 82 m x v) (hm : ρ m = .map (some b)) (hx : ρ x = key) (hv : ρ v = val) (hr : (Instr.mapUpdate 82 (.map (some b)) key val).run Try.prog w = .ok () w') : (execOp ρ o).run Try.prog w = .ok .skip w' := by
  simp [execOp, h, hm, hx, hv, hr]
theorem run_callClone {x : Operand} (h : o.op = Op.call { callee := .value (.func 52), args := #[x], argTypes := #[22] }) (hf : ρ (.func 52) = .func (.func 52) #[] #[]) : (execOp ρ o).run Try.prog w = .ok (.enter 52 #[ρ x]) w := by
  simp [execOp, h, hf, go_sem]
end
end Go.Proofs.Ytpdelgjfamelfaa
