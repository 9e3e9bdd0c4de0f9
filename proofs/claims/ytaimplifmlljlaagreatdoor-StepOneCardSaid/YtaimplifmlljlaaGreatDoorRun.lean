/- The abstract interpreter's run of the law StepOne: for every two numbers it answers true. -/
import Derived.Test.YtaimplifmlljlaaGreatDoorRunA
namespace Go.Proofs.YtaimplifmlljlaaGreatDoor
open Go.AI
set_option maxRecDepth 100000

theorem blk_of {h : Heap} {b : Nat} {cs : List Value} (hne : cs ≠ []) (H : (match h.tr.get b with | some (.blk cs _ _ _) => cs | _ => []) = cs) : ∃ ro o s, h.tr.get b = some (.blk cs ro o s) := by
  split at H
  · rename_i c ro o s he
    subst H
    exact ⟨ro, o, s, he⟩
  · exact absurd H.symm hne

theorem stepOne_tail (m n : Int) {e : Env} {h : Heap} (f0 : Env.get e 0 = .int .i64 m) (f1 : Env.get e 1 = .int .i64 n) (f5 : Env.get e 5 = .pointer (some ⟨1153, 0, none⟩)) (f6 : Env.get e 6 = .pointer (some ⟨1154, 0, none⟩))
    (wf : ∀ b o, h.tr.get b = some o → b < h.next)
    (H : [1153, 1154, 316, 1061, 734, 1041, 1056, 751].map (fun b => match h.tr.get b with | some (.blk cs _ _ _) => cs | _ => []) = [
      [.slice none 0 0, .slice (some ⟨316, 0, none⟩) 2 2], [.int .i64 0, .int .i64 0],
      [.string ⟨⟨[109, 97, 105, 110]⟩⟩, .int .i64 0, .int .i64 0, .slice (some ⟨460, 0, none⟩) 1 1, .string ⟨⟨[102]⟩⟩, .int .i64 1, .int .i64 7, .slice (some ⟨1061, 0, none⟩) 3 3],
      [.slice none 0 0, .slice none 0 0, .int .i64 2, .bool false, .int .i64 0, .slice (some ⟨479, 0, none⟩) 1 1, .slice (some ⟨734, 0, none⟩) 2 2, .slice (some ⟨751, 0, none⟩) 5 5, .int .i64 3, .bool true, .int .i64 6, .slice (some ⟨493, 0, none⟩) 2 2, .slice none 0 0, .slice none 0 0, .int .i64 1, .bool false, .int .i64 0, .slice none 0 0],
      [.int .i64 1, .slice (some ⟨1041, 0, none⟩) 2 2, .int .i64 2, .slice (some ⟨1056, 0, none⟩) 2 2],
      [.bool false, .int .i64 n, .bool true, .int .i64 4], [.bool false, .int .i64 (IntKind.i64.wrap (n * m)), .bool true, .int .i64 5],
      [.int .i64 1, .int .i64 3, .bool true, .int .i64 2, .bool false, .int .i64 0, .int .i64 0, .slice none 0 0, .int .i64 22, .int .i64 (-1), .bool true, .int .i64 3, .bool false, .int .i64 0, .int .i64 0, .slice none 0 0,
        .int .i64 2, .int .i64 4, .bool true, .int .i64 1, .bool false, .int .i64 3, .int .i64 0, .slice none 0 0, .int .i64 2, .int .i64 5, .bool true, .int .i64 2, .bool false, .int .i64 (IntKind.i64.wrap (3 * m)), .int .i64 0, .slice none 0 0,
        .int .i64 21, .int .i64 6, .bool false, .int .i64 0, .bool false, .int .i64 0, .int .i64 0, .slice none 0 0]]) :
    Runs FX tailA e h (EndsQ [.tmp 4] (fun v _ => v = .bool true)) := by
  simp only [List.map_cons, List.map_nil, List.cons.injEq, and_true] at H
  obtain ⟨H1, H2, H3, H4, H5, H6, H7, H8⟩ := H
  obtain ⟨_, _, _, b1⟩ := blk_of (by simp) H1
  obtain ⟨_, _, _, b2⟩ := blk_of (by simp) H2
  obtain ⟨_, _, _, b3⟩ := blk_of (by simp) H3
  obtain ⟨_, _, _, b4⟩ := blk_of (by simp) H4
  obtain ⟨_, _, _, b5⟩ := blk_of (by simp) H5
  obtain ⟨_, _, _, b7⟩ := blk_of (by simp) H7
  obtain ⟨_, _, _, b8⟩ := blk_of (by simp) H8
  clear H1 H2 H3 H4 H5 H6 H7 H8
  have hn : 1154 < h.next := wf _ _ b2
  have n1 : ¬ 1153 = h.next := by omega
  have n2 : ¬ 316 = h.next := by omega
  have n3 : ¬ 1061 = h.next := by omega
  have n4 : ¬ 734 = h.next := by omega
  have n5 : ¬ 1056 = h.next := by omega
  have n6 : ¬ 751 = h.next := by omega
  generalize hx : IntKind.i64.wrap (n * m) = x at *
  have hx' : IntKind.i64.wrap (m * n) = x := by rw [Int.mul_comm]; exact hx
  generalize hy : IntKind.i64.wrap (3 * m) = y at *
  have w1 : IntKind.i64.wrap 1 = 1 := wrap_i64 _ (by omega) (by omega)
  have w2 : IntKind.i64.wrap 2 = 2 := wrap_i64 _ (by omega) (by omega)
  have w3 : IntKind.i64.wrap 3 = 3 := wrap_i64 _ (by omega) (by omega)
  have w4 : IntKind.i64.wrap 4 = 4 := wrap_i64 _ (by omega) (by omega)
  have w5 : IntKind.i64.wrap 5 = 5 := wrap_i64 _ (by omega) (by omega)
  have w6 : IntKind.i64.wrap (2 + 1) = 3 := wrap_i64 _ (by omega) (by omega)
  unfold tailA
  simp [f0, f1, f5, f6, b1, b2, b3, b4, b5, b7, hx', n4, n5]
  rw [runs_loop]
  unfold r_turnerylaw4_StepOne_0
  simp [b8, n6, w1]
  rw [runs_loop]
  simp [b8, n6, w2]
  rw [runs_loop]
  simp [b5, b8, n4, n6, w3]
  rw [runs_loop]
  simp [f0, b5, b8, hy, n4, n6, w4]
  rw [runs_loop]
  simp [b8, n6, w5]
  rw [runs_loop]
  simp

theorem stepOne_does (m n : Int) : Does FX 3 [.int .i64 m, .int .i64 n] (heap1 waysCells) (fun v _ => v = .bool true) := by
  refine Does.of (show FX 3 = some ⟨[.tmp 4], b_turnerylaw4_StepOne, .no⟩ by kernel_rfl) ?_
  rw [b_split, runs_seq, runs_ops]
  simp only [q_op (show calls (.mv (.const (.bool false))) = false from rfl), opV, ev_const, nextR_some, q_nil, putE_some, then_normal]
  rw [runs_seq, runs_ops]
  have hpre := stepOne_pre m n
  cases hop : opsF FX (run FX 100000) opsA (Tr.set (params .nil 0 [.int .i64 m, .int .i64 n]) 4 (.bool false)) (heap1 waysCells) with
  | none => rw [hop] at hpre; cases hpre
  | some x =>
    obtain ⟨e1, h1⟩ := x
    rw [hop] at hpre
    simp only [Option.map_some, Option.some.injEq, List.cons_append, List.nil_append, List.cons.injEq, and_true] at hpre
    obtain ⟨⟨f0, f1, f5, f6⟩, H⟩ := hpre
    refine ⟨100000, e1, h1, hop, ?_⟩
    have hwf : WF h1 := (opsF_keeps (run_keeps 100000) opsA hop).wf (by
      intro b o hb
      cases b with
      | zero => exact Nat.zero_lt_one
      | succ b =>
        simp only [heap1, Tr.get] at hb
        cases hc : Nat.beq (b % 2) 0 <;> rw [hc] at hb <;> simp at hb)
    exact stepOne_tail m n f0 f1 f5 f6 hwf H

theorem stepOne_run (m n : Int) : ∃ fuel, (call FX fuel 3 [.int .i64 m, .int .i64 n] (heap1 waysCells)).map (·.1) = some (.bool true) := by
  obtain ⟨k, v, h', hr, hv⟩ := (stepOne_does m n).answer
  exact ⟨k, by rw [hr, Option.map_some, hv]⟩
end Go.Proofs.YtaimplifmlljlaaGreatDoor
