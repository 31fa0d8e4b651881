/- A part of the law's closed computation, run in the kernel. -/
import Derived.Test.YtcllhahbhmehkaaGreatDoorV6
namespace Go.Proofs.YtcllhahbhmehkaaGreatDoor.U
open Go Go.Ai Go.Ai.Fl Go.Proofs
set_option maxRecDepth 1000000
set_option linter.unusedVariables false
theorem q5x0 : k5x0 = comp env0 b5x0 := by kernel_rfl
theorem q5x1 : k5x1 = comp env0 b5x1 := by kernel_rfl
theorem q5x2 : k5x2 = comp env0 b5x2 := by kernel_rfl
theorem q5x3 : k5x3 = comp env0 b5x3 := by kernel_rfl
theorem q5x4 : k5x4 = comp env0 b5x4 := by kernel_rfl
theorem q5x5 : k5x5 = comp env0 b5x5 := by kernel_rfl
theorem q5x6 : k5x6 = comp env0 b5x6 := by kernel_rfl
theorem q5x7 : k5x7 = comp env0 b5x7 := by kernel_rfl
theorem q5x8 : k5x8 = comp env0 b5x8 := by kernel_rfl
theorem q5x9 : k5x9 = comp env0 b5x9 := by kernel_rfl
theorem q5r : k5r = comp env0 b5r := by kernel_rfl
theorem codes5 : CodesOk (E4 p0) k5l b5l := .cons (by rw [q5x0]; exact comp_ok (E4 p0) b5x0) (.cons (by rw [q5x1]; exact comp_ok (E4 p0) b5x1) (.cons (by rw [q5x2]; exact comp_ok (E4 p0) b5x2) (.cons (by rw [q5x3]; exact comp_ok (E4 p0) b5x3) (.cons (by rw [q5x4]; exact comp_ok (E4 p0) b5x4) (.cons (by rw [q5x5]; exact comp_ok (E4 p0) b5x5) (.cons (by rw [q5x6]; exact comp_ok (E4 p0) b5x6) (.cons (by rw [q5x7]; exact comp_ok (E4 p0) b5x7) (.cons (by rw [q5x8]; exact comp_ok (E4 p0) b5x8) (.cons (by rw [q5x9]; exact comp_ok (E4 p0) b5x9) (.nil))))))))))
theorem code5r : CodeOk (E4 p0) k5r b5r := by rw [q5r]; exact comp_ok (E4 p0) b5r
theorem body5 : codeOf Tryz.prog [7, 13, 14, 17] Tryz.f5 = seqs b5l (.seq b5w b5r) := by kernel_rfl
theorem w_run (fr : T V) (w a b k : Int) (h : fr.get 0 = some (.int .i64 w)) (h1 : binV .rem (.int .i64 w) (.int .i64 6) = some (.int .i64 a)) (h2 : binV .add (.int .i64 a) (.int .i64 6) = some (.int .i64 b)) (h3 : binV .rem (.int .i64 b) (.int .i64 6) = some (.int .i64 k)) (n : Nat) (st : St) :
    exec (E4 p0) (n + 1) b5w fr st = some (.nrm, ((((fr.set 45 (.int .i64 w)).set 46 (.int .i64 a)).set 47 (.int .i64 b)).set 48 (.int .i64 k)).set 12 (.int .i64 k), st) := by
  simp [exec, b5w, runOps, wantedV, runOp, ev, h, plain, v1, put, T.get_set, h1, h2, h3]
theorem ups_ent (w : Int) : ∃ n st lg, rcall (E4 p0) (exec (E4 p0) n) 5 [.int .i64 w] .bare = some (.bool true, st, lg) := by
  obtain ⟨a, b, k, hk, h1, h2, h3⟩ := six_run w
  have hr := ups_run p0 w a b (isI w)
  have hr : run5 p0 w a b (isI w) = some (.bool true, .bare) := by
    rw [hr]
    unfold isI
    exact if_pos rfl
  have hf0 : FRel (pt 0 fNone (.int .i64 w)) (T.ofList [.int .i64 w]) := FRel.put (fr := .lf) (fun i _ => by rw [gt_fNone]; rfl) (by decide) _
  obtain ⟨f', fr', st', h4, h5, h6⟩ := runL_inv (callN_ok ok4 1000) codes5 hf0 hr
  obtain ⟨h7, h8⟩ := isI_inv h4
  obtain ⟨st2, h9⟩ := and6_inv h8 hk
  have h10 : fr'.get 0 = some (.int .i64 w) := by rw [h5 0 (by decide)]; exact h7
  have hfw : FRel (fW w a b k f') (((((fr'.set 45 (.int .i64 w)).set 46 (.int .i64 a)).set 47 (.int .i64 b)).set 48 (.int .i64 k)).set 12 (.int .i64 k)) :=
    ((((h5.put (by decide) _).put (by decide) _).put (by decide) _).put (by decide) _).put (by decide) _
  obtain ⟨e, f3, fr3, st3, h11, h12, n, h13⟩ := code5r (C4 p0) (callN_ok ok4 1000) _ _ _ _ _ hfw h9
  have h14 : exec (E4 p0) (n + 2) (.seq b5w b5r) fr' st' = some (e, fr3, st3) := by
    have h15 := w_run fr' w a b k h10 h1 h2 h3 n st'
    have h16 := exec_mono (X := E4 p0) (Nat.le_succ n) _ _ _ _ h13
    show (match exec (E4 p0) (n + 1) b5w fr' st' with | some (.nrm, fr, st) => exec (E4 p0) (n + 1) b5r fr st | r => r) = _
    rw [h15]
    exact h16
  obtain ⟨m, h17⟩ := h6 _ _ _ h14
  have hfn : fnI 5 = some ⟨Tryz.f5.ntmps, codeOf Tryz.prog [7, 13, 14, 17] Tryz.f5, [.t 2], 1⟩ := fnI_eq ▸ fnOf_at Tryz.func5 (by kernel_rfl) (by kernel_rfl) (by kernel_rfl) (by kernel_rfl)
  rw [body5] at hfn
  obtain ⟨lg, h18⟩ := rcall_of (X := E4 p0) (g := 5) (vs := [.int .i64 w]) (st := .bare) rfl rfl hfn (bleT (by kernel_rfl)) h17 h12 h11
  exact ⟨m, st2, lg, h18⟩
theorem walk (w0 : Int) (w : World) : Calls Tryz.prog 5 #[.int .i64 w0] w fun e w' => e = .returned (.bool true) ∧ Kept w w' := by
  obtain ⟨n, st, lg, h⟩ := ups_ent w0
  refine (calls_of_run (base.valid (m4_ok _)) rfl h (g := .nil) rfl (nil_sim rfl w) (by simp [Reps, Rep, RepL])).mono fun e w' he => ?_
  obtain ⟨u, g', rfl, hu, hk⟩ := he
  simp only [Rep, RepL] at hu
  subst hu
  exact ⟨rfl, hk⟩

end Go.Proofs.YtcllhahbhmehkaaGreatDoor.U
