/- A verified interpreter of the model's code, part 2: what it runs is a run of the program. -/
import Derived.Test.YtcllhahbhmehkaaGreatDoorA1
import Derived.KernelRfl
/-! Rounds of a range over a function. -/
namespace Go.Ai
open Go
set_option linter.unusedSimpArgs false

theorem Hop.toStep {P : Program} {X : Env} {g g' : G} {st st' : St} {w w' : World} {fr fr' : T V} (hn : ∀ id, ¬ Go.Ai.mine fr id) (h : Hop P X g st w fr g' st' w' fr') : Step P X g st w g' st' w' :=
  ⟨h.le, h.sim, h.next, h.size, fun b o hb hl => h.keep b o hb fun l e => ⟨hl l e, hn l⟩, h.born, h.dead, h.os, h.out, h.tape, h.old, h.fzo⟩

section
variable {P : Program} {X : Env} {F : Fence} {g g1 g' : G} {st st1 st' : St} {w w1 : World}

theorem FrP.frR {fr : T V} {tmps : Array Value} (h : FrP g fr tmps) : FrR g st w fr tmps ∧ ∀ id, ¬ mine fr id := by
  refine ⟨⟨fun i v hi => ?_, fun i j id cs cs' hi _ => ?_⟩, fun id hm => ?_⟩
  · obtain ⟨h1, h2, h3⟩ := h i v hi
    exact ⟨h2, (VR_plain h1).2 h3⟩
  · have := (h i _ hi).1
    simp [plain] at this
  · obtain ⟨i, cs, hi⟩ := hm
    have := (h i _ hi).1
    simp [plain] at this

theorem setAll_spec : ∀ {ps : List Nat} {vs : List V} {us : List Value} {fr fr0 : T V} {tmps : Array Value}, setAll fr ps vs = some fr0 → Reps g vs us → (∀ p ∈ ps, p < tmps.size) → FrP g fr tmps →
    ps.length = us.length ∧ FrP g fr0 ((ps.zip us).foldl (fun tmps (x : Nat × Value) => tmps.setIfInBounds x.1 x.2) tmps) ∧ ((ps.zip us).foldl (fun tmps (x : Nat × Value) => tmps.setIfInBounds x.1 x.2) tmps).size = tmps.size
  | [], [], us, fr, fr0, tmps, h, hr, hs, hf => by
    simp [setAll] at h; subst h
    simp [Reps] at hr; subst hr
    exact ⟨rfl, hf, rfl⟩
  | [], _ :: _, us, fr, fr0, tmps, h, hr, hs, hf => by simp [setAll] at h
  | _ :: _, [], us, fr, fr0, tmps, h, hr, hs, hf => by simp [setAll] at h
  | p :: ps, v :: vs, us, fr, fr0, tmps, h, hr, hs, hf => by
    simp only [setAll] at h
    simp only [Reps] at hr
    obtain ⟨u, r, rfl, h1, h2⟩ := hr
    have hp : p < tmps.size := hs p (by simp)
    obtain ⟨h3, h4, h5⟩ := setAll_spec (tmps := tmps.setIfInBounds p u) h h2 (fun q hq => by simpa using hs q (by simp [hq])) (fun i x hi => by
      rw [T.get_set] at hi
      rw [getD_set _ _ _ _ hp]
      by_cases e : p = i
      · subst e
        simp at hi; subst hi
        simp only [if_true]
        exact ⟨rep_plain h1, by simpa using hp, h1⟩
      · simp only [e, if_false] at hi ⊢
        obtain ⟨k1, k2, k3⟩ := hf i x hi
        exact ⟨k1, by simpa using k2, k3⟩)
    exact ⟨by simp [h3], by simpa using h4, by simpa using h5⟩

/-- a round is opened, a round is shut -/
theorem run_beginRound {bb : Nat} {L : Loop} (h : w.heap[bb]? = some (.loop L)) (hr : L.state = .ready) : (Instr.beginRound bb).run P w = .ok () { w with heap := w.heap.setIfInBounds bb (.loop { L with state := .busy }) } := by
  simp only [Instr.beginRound, Sem.run_bind, run_getLoop h, Result.andThen_ok, run_setLoop h, hr]
  rfl
theorem run_endRound {bb : Nat} {L : Loop} (h : w.heap[bb]? = some (.loop L)) (jump : Option Code) : (Instr.endRound bb jump).run P w = .ok (.bool jump.isNone) { w with heap := w.heap.setIfInBounds bb (.loop { L with state := if jump.isNone then .ready else .done, pending := jump }) } := by
  simp only [Instr.endRound, Sem.run_bind, run_getLoop h, Result.andThen_ok, run_setLoop h]
  rfl

theorem round_ok (hW : Wide F) {ex : IR → T V → St → ER} (hex : ∀ bb, ExecOk P X (F.inRound bb) ex) : YieldOk P X F (round ex) := by
  intro l vs st v st' log h g w us bb top hs hr hl
  unfold round at h
  split at h
  case h_2 => cases h
  rename_i fr ps a b hget
  split at h
  case h_2 => cases h
  rename_i fr0 hset
  split at h
  case h_2 => cases h
  rename_i fr1 st1 hass
  split at h
  case h_2 => cases h
  rename_i fr2 ps2 a2 b2 hget1
  split at h
  case h_2 => cases h
  rename_i e frx st2 hbody
  split at h
  case h_2 => cases h
  rename_i fr3 ps3 a3 b3 hget2
  obtain ⟨L, hL, hLR⟩ := loop_at hs hget hl
  obtain ⟨nt, pm, c1, c2, c3, c4, c5⟩ := hLR.code
  obtain ⟨s1, s2, s3⟩ := setAll_spec hset hr hLR.small hLR.frame
  obtain ⟨f1, f2⟩ := FrP.frR (st := st) (w := w) s2
  have hyield : (Instr.yield bb us).run P w = .ok (.round bb L.fn ((ps.zip us.toList).foldl (fun tmps (x : Nat × Value) => tmps.setIfInBounds x.1 x.2) L.tmps) L.assign L.body) w := by
    have hsz : us.size = L.params.size := by rw [hLR.params]; simpa using s1.symm
    simp only [Instr.yield, Sem.run_bind, run_getLoop hL, Result.andThen_ok]
    rw [if_neg (by simpa using hsz)]
    simp only [Sem.run_pure, Sem.run_bind, Result.andThen_ok]
    congr 2
    rw [hLR.params, ← Array.foldl_toList]
    simp
  refine ⟨_, _, _, _, hyield, roundIn_of_wpIn (hW.fn _) ?_⟩
  have hass' := hex bb L.assign nt pm (.inr c4) fr0 st .nrm fr1 st1 (by rw [c1]; exact hass) g w { tmps := (ps.zip us.toList).foldl (fun tmps (x : Nat × Value) => tmps.setIfInBounds x.1 x.2) L.tmps, defers := [] } 0 hs f1 (s3.trans c3) (Nat.zero_le _)
  refine wpIn_mono hass' fun e1 a1 w1 hp => ?_
  obtain ⟨rfl, g1, p1, p2, p3, p4⟩ := hp
  simp only [exitOf, Exit.then]
  obtain ⟨L1, hL1, hLR1⟩ := loop_at p1.sim hget1 (p1.le.loc _ _ hl)
  refine ⟨_, run_beginRound hL1 hLR1.state, ?_⟩
  have stp1 : Step P X g1 st1 w1 g1 (st1.putBlk l (.loop 1 fr2 ps2 a2 b2 .nrm) [(l, 0)]) _ := Step.put p1.sim hget1 rfl (p1.le.loc _ _ hl) (Wput.setObj hL1) (bl := .loop 1 fr2 ps2 a2 b2 .nrm) (o := .loop { L1 with state := .busy }) fun _ =>
    ⟨rfl, _, rfl, rfl, hLR1.pend, hLR1.params, hLR1.code, hLR1.small, hLR1.frame⟩
  have hop1 := Hop.trans hs p1 (.ofStep stp1)
  refine wpIn_mono (hex bb L.body nt pm (.inr c5) fr1 _ e frx st2 (by rw [c2]; exact hbody) g1 _ a1 0 stp1.sim (p2.step p1.sim stp1) p3 (p4.hop (fr := fr1) (.ofStep stp1))) fun e2 a2' w3 hq => ?_
  all_goals try exact 0
  obtain ⟨he, g2, q1, q2, q3, q4⟩ := hq
  have hop2 := Hop.trans hs hop1 q1
  obtain ⟨L2, hL2, hLR2⟩ := loop_at q1.sim hget2 (hop2.le.loc _ _ hl)
  have fin : ∀ (j : Option Code) (s : Nat) (st'' : St) (lg : List Tc), (if j.isNone then LoopState.ready else .done) = stateOf s → (e : Ex) → j = jumpOf e → st' = st2.putBlk l (.loop s fr3 ps3 a3 b3 e) lg → v = .bool j.isNone →
      ∃ v' w', (Instr.endRound bb j).run P w3 = .ok v' w' ∧ CallPost P X g st w v st' (.returned v') w' := by
    intro j s st'' lg e1 e e2 e3 e4
    refine ⟨_, _, run_endRound hL2 j, _, g2, rfl, ?_, ?_⟩
    · have stp2 : Step P X g2 st2 w3 g2 (st2.putBlk l (.loop s fr3 ps3 a3 b3 e) lg) _ := Step.put q1.sim hget2 rfl (hop2.le.loc _ _ hl) (Wput.setObj hL2) (bl := .loop s fr3 ps3 a3 b3 e) (o := .loop { L2 with state := if j.isNone then .ready else .done, pending := j }) fun _ =>
        ⟨rfl, _, rfl, e1, e2, hLR2.params, hLR2.code, hLR2.small, hLR2.frame⟩
      rw [e3]
      exact Hop.toStep f2 (Hop.trans hs hop2 (.ofStep stp2))
    · rw [e4]; simp [Rep, RepL]
  cases e with
  | nrm =>
    simp at h
    obtain ⟨rfl, rfl, _⟩ := h
    simp only [exitOf] at he; subst he
    exact fin none 0 st2 _ rfl .nrm rfl rfl rfl
  | exit i =>
    simp at h
    obtain ⟨rfl, rfl, _⟩ := h
    simp only [exitOf] at he; subst he
    exact fin (some (.exit i)) 2 st2 _ rfl (.exit i) rfl rfl rfl
  | ret =>
    simp at h
    obtain ⟨rfl, rfl, _⟩ := h
    simp only [exitOf] at he; subst he
    exact fin (some .ret) 2 st2 _ rfl .ret rfl rfl rfl
end
end Go.Ai
/-! The interpreter is sound. -/
namespace Go.Ai
open Go
set_option linter.unusedSimpArgs false

section
variable {P : Program} {X : Env}

theorem CallEnt.anyRound {F : Fence} {ext : Nat → List V → Option V} {call : CallF} (h : CallEnt P X F.plain ext call) : CallEnt P X F ext call := h
theorem Wide.plain {F : Fence} (h : Wide F) : Wide F.plain := ⟨h.fn, h.depth⟩
theorem Wide.inRound {F : Fence} (h : Wide F) (l : Nat) : Wide (F.inRound l) := ⟨h.fn, h.depth⟩

theorem exec_ok (hV : Valid P X) : ∀ n k, k ≤ n → ∀ F, Wide F → ExecOk P X F (exec X k)
  | 0, k, hk, F, hW => by
    obtain rfl : k = 0 := by omega
    intro c nt pm _ fr st r fr' st' h
    simp [exec] at h
  | n + 1, k, hk, F, hW => by
    rcases Nat.lt_or_ge k (n + 1) with h | h
    · exact exec_ok hV n k (by omega) F hW
    obtain rfl : k = n + 1 := by omega
    have hp : ExecOk P X F.plain (exec X n) := exec_ok hV n n (Nat.le_refl _) _ hW.plain
    exact exec_step hV.memo.unw hW hV.mixed hV.ok (fun j hj => exec_ok hV n j hj F hW) (rcall_ok hW.plain rfl hV hp (exec_unw hV.memo.unw n)).anyRound (rcall_ent hW.plain rfl hV hp (exec_unw hV.memo.unw n)).anyRound
      (round_ok hW fun bb => exec_ok hV n n (Nat.le_refl _) _ (hW.inRound bb))

/-- a call that the interpreter makes is a call of the program -/
theorem call_ok (hV : Valid P X) (n : Nat) {F : Fence} (hW : Wide F) (hro : F.round = none) : CallOk P X F (rcall X (exec X n)) :=
  rcall_ok hW hro hV (exec_ok hV n n (Nat.le_refl _) F hW) (exec_unw hV.memo.unw n)
theorem call_ent (hV : Valid P X) (n : Nat) {F : Fence} (hW : Wide F) (hro : F.round = none) : CallEnt P X F X.ext (rcall X (exec X n)) :=
  rcall_ent hW hro hV (exec_ok hV n n (Nat.le_refl _) F hW) (exec_unw hV.memo.unw n)
end
end Go.Ai
/-! The fast layer: frames, cases. -/
namespace Go.Ai.Fl
open Go Go.Ai
set_option linter.unusedVariables false
set_option linter.unusedSimpArgs false

structure N16 (α : Type) where
  mk ::
  p0 : α
  p1 : α
  p2 : α
  p3 : α
  p4 : α
  p5 : α
  p6 : α
  p7 : α
  p8 : α
  p9 : α
  p10 : α
  p11 : α
  p12 : α
  p13 : α
  p14 : α
  p15 : α
abbrev F := N16 (N16 (Option V))
noncomputable def g16 {α : Type} (d : Nat) (x : N16 α) : α := Nat.rec (motive := fun _ => α) (Nat.rec (motive := fun _ => α) x.p0 (fun n _ => Nat.rec (motive := fun _ => α) x.p1 (fun n _ => Nat.rec (motive := fun _ => α) x.p2 (fun _ _ => x.p3) n) n) (d % 4)) (fun n _ => Nat.rec (motive := fun _ => α) (Nat.rec (motive := fun _ => α) x.p4 (fun n _ => Nat.rec (motive := fun _ => α) x.p5 (fun n _ => Nat.rec (motive := fun _ => α) x.p6 (fun _ _ => x.p7) n) n) (d % 4)) (fun n _ => Nat.rec (motive := fun _ => α) (Nat.rec (motive := fun _ => α) x.p8 (fun n _ => Nat.rec (motive := fun _ => α) x.p9 (fun n _ => Nat.rec (motive := fun _ => α) x.p10 (fun _ _ => x.p11) n) n) (d % 4)) (fun _ _ => (Nat.rec (motive := fun _ => α) x.p12 (fun n _ => Nat.rec (motive := fun _ => α) x.p13 (fun n _ => Nat.rec (motive := fun _ => α) x.p14 (fun _ _ => x.p15) n) n) (d % 4))) n) n) (d / 4)
def u16 {α : Type} (d : Nat) (x : N16 α) (y : α) : N16 α := match d with
  | 0 => ⟨y, x.p1, x.p2, x.p3, x.p4, x.p5, x.p6, x.p7, x.p8, x.p9, x.p10, x.p11, x.p12, x.p13, x.p14, x.p15⟩
  | 1 => ⟨x.p0, y, x.p2, x.p3, x.p4, x.p5, x.p6, x.p7, x.p8, x.p9, x.p10, x.p11, x.p12, x.p13, x.p14, x.p15⟩
  | 2 => ⟨x.p0, x.p1, y, x.p3, x.p4, x.p5, x.p6, x.p7, x.p8, x.p9, x.p10, x.p11, x.p12, x.p13, x.p14, x.p15⟩
  | 3 => ⟨x.p0, x.p1, x.p2, y, x.p4, x.p5, x.p6, x.p7, x.p8, x.p9, x.p10, x.p11, x.p12, x.p13, x.p14, x.p15⟩
  | 4 => ⟨x.p0, x.p1, x.p2, x.p3, y, x.p5, x.p6, x.p7, x.p8, x.p9, x.p10, x.p11, x.p12, x.p13, x.p14, x.p15⟩
  | 5 => ⟨x.p0, x.p1, x.p2, x.p3, x.p4, y, x.p6, x.p7, x.p8, x.p9, x.p10, x.p11, x.p12, x.p13, x.p14, x.p15⟩
  | 6 => ⟨x.p0, x.p1, x.p2, x.p3, x.p4, x.p5, y, x.p7, x.p8, x.p9, x.p10, x.p11, x.p12, x.p13, x.p14, x.p15⟩
  | 7 => ⟨x.p0, x.p1, x.p2, x.p3, x.p4, x.p5, x.p6, y, x.p8, x.p9, x.p10, x.p11, x.p12, x.p13, x.p14, x.p15⟩
  | 8 => ⟨x.p0, x.p1, x.p2, x.p3, x.p4, x.p5, x.p6, x.p7, y, x.p9, x.p10, x.p11, x.p12, x.p13, x.p14, x.p15⟩
  | 9 => ⟨x.p0, x.p1, x.p2, x.p3, x.p4, x.p5, x.p6, x.p7, x.p8, y, x.p10, x.p11, x.p12, x.p13, x.p14, x.p15⟩
  | 10 => ⟨x.p0, x.p1, x.p2, x.p3, x.p4, x.p5, x.p6, x.p7, x.p8, x.p9, y, x.p11, x.p12, x.p13, x.p14, x.p15⟩
  | 11 => ⟨x.p0, x.p1, x.p2, x.p3, x.p4, x.p5, x.p6, x.p7, x.p8, x.p9, x.p10, y, x.p12, x.p13, x.p14, x.p15⟩
  | 12 => ⟨x.p0, x.p1, x.p2, x.p3, x.p4, x.p5, x.p6, x.p7, x.p8, x.p9, x.p10, x.p11, y, x.p13, x.p14, x.p15⟩
  | 13 => ⟨x.p0, x.p1, x.p2, x.p3, x.p4, x.p5, x.p6, x.p7, x.p8, x.p9, x.p10, x.p11, x.p12, y, x.p14, x.p15⟩
  | 14 => ⟨x.p0, x.p1, x.p2, x.p3, x.p4, x.p5, x.p6, x.p7, x.p8, x.p9, x.p10, x.p11, x.p12, x.p13, y, x.p15⟩
  | _ => ⟨x.p0, x.p1, x.p2, x.p3, x.p4, x.p5, x.p6, x.p7, x.p8, x.p9, x.p10, x.p11, x.p12, x.p13, x.p14, y⟩
noncomputable def gt (i : Nat) (f : F) : Option V := g16 (i % 16) (g16 (i / 16 % 16) f)
noncomputable def pt (i : Nat) (f : F) (v : V) : F := u16 (i / 16 % 16) f (u16 (i % 16) (g16 (i / 16 % 16) f) (some v))
theorem lt16 {d : Nat} (h : d < 16) : d = 0 ∨ d = 1 ∨ d = 2 ∨ d = 3 ∨ d = 4 ∨ d = 5 ∨ d = 6 ∨ d = 7 ∨ d = 8 ∨ d = 9 ∨ d = 10 ∨ d = 11 ∨ d = 12 ∨ d = 13 ∨ d = 14 ∨ d = 15 := by omega
theorem g16_u16 {α : Type} {d e : Nat} (hd : d < 16) (he : e < 16) (x : N16 α) (y : α) : g16 d (u16 e x y) = if d = e then y else g16 d x := by
  rcases lt16 hd with rfl | rfl | rfl | rfl | rfl | rfl | rfl | rfl | rfl | rfl | rfl | rfl | rfl | rfl | rfl | rfl <;> rcases lt16 he with rfl | rfl | rfl | rfl | rfl | rfl | rfl | rfl | rfl | rfl | rfl | rfl | rfl | rfl | rfl | rfl <;> rfl
theorem gt_pt {i j : Nat} (hi : i < 256) (hj : j < 256) (f : F) (v : V) : gt i (pt j f v) = if i = j then some v else gt i f := by
  unfold gt pt
  have m : ∀ n : Nat, n % 16 < 16 := fun n => Nat.mod_lt _ (by decide)
  rw [g16_u16 (m _) (m _)]
  by_cases h1 : i / 16 % 16 = j / 16 % 16
  · rw [if_pos h1, g16_u16 (m _) (m _)]
    by_cases h4 : i % 16 = j % 16
    · rw [if_pos h4, if_pos (by omega)]
    · rw [if_neg h4, if_neg (by omega), h1]
  · rw [if_neg h1, if_neg (by omega)]
def fr1 {α : Type} (x : α) : N16 α := ⟨x, x, x, x, x, x, x, x, x, x, x, x, x, x, x, x⟩
def fNone : F := fr1 (fr1 none)
theorem gt_fNone {i : Nat} : gt i fNone = none := by
  have m : ∀ n : Nat, n % 16 < 16 := fun n => Nat.mod_lt _ (by decide)
  unfold gt
  generalize hd : i % 16 = d
  generalize he : i / 16 % 16 = e
  have h1 : d < 16 := hd ▸ m _
  have h2 : e < 16 := he ▸ m _
  rcases lt16 h1 with rfl | rfl | rfl | rfl | rfl | rfl | rfl | rfl | rfl | rfl | rfl | rfl | rfl | rfl | rfl | rfl <;> rcases lt16 h2 with rfl | rfl | rfl | rfl | rfl | rfl | rfl | rfl | rfl | rfl | rfl | rfl | rfl | rfl | rfl | rfl <;> rfl

/-- a fast frame is the interpreter's -/
def FRel (f : F) (fr : T V) : Prop := ∀ i, i < 256 → fr.get i = gt i f
theorem FRel.put {f : F} {fr : T V} (h : FRel f fr) {d : Nat} (hd : d < 256) (v : V) : FRel (pt d f v) (fr.set d v) := fun i hi => by
  rw [T.get_set, gt_pt hi hd]
  by_cases e : d = i
  · subst e; simp
  · rw [if_neg e, if_neg (fun q => e q.symm), h i hi]

abbrev Rho := Option (V × St)
abbrev KV := V → Rho
abbrev CALL := Nat → List V → St → Rho
abbrev D2 := F → V → (F → Rho) → Rho
def dNo (f : F) (_ : V) (k : F → Rho) : Rho := k f
noncomputable def ptK (d : Nat) (f : F) (v : V) (k : F → Rho) : Rho := k (pt d f v)

noncomputable def onSome (o : Option V) (k : KV) : Rho := Option.rec (motive := fun _ => KV → Rho) (fun _ => none) (fun v k => k v) o k
theorem onSome_inv {o : Option V} {k : KV} {a : V × St} (h : onSome o k = some a) : ∃ v, o = some v ∧ k v = some a := by
  cases o with
  | none => exact nomatch (show (none : Rho) = some a from h)
  | some v => exact ⟨v, rfl, h⟩
noncomputable def onB (b : Bool) (x y : Rho) : Rho := Bool.rec (motive := fun _ => Rho) y x b
theorem onB_inv {b : Bool} {x y : Rho} {a : V × St} (h : onB b x y = some a) : (b = true ∧ x = some a) ∨ (b = false ∧ y = some a) := by
  cases b with
  | true => exact .inl ⟨rfl, h⟩
  | false => exact .inr ⟨rfl, h⟩
noncomputable def onR (r : Rho) (k : V → St → Rho) : Rho := Option.rec (motive := fun _ => (V → St → Rho) → Rho) (fun _ => none) (fun p k => k p.1 p.2) r k
theorem onR_inv {r : Rho} {k : V → St → Rho} {a : V × St} (h : onR r k = some a) : ∃ v st, r = some (v, st) ∧ k v st = some a := by
  cases r with
  | none => exact nomatch (show (none : Rho) = some a from h)
  | some p => exact ⟨p.1, p.2, rfl, h⟩

/-- a value that no local is -/
noncomputable def onPl (v : V) (k : KV) : Rho :=
  V.rec (motive_1 := fun _ => KV → Rho) (motive_2 := fun _ => PUnit) (motive_3 := fun _ => PUnit) (motive_4 := fun _ => PUnit)
    (fun b k => k (.bool b))
    (fun kd n k => k (.int kd n))
    (fun n k => k (.str n))
    (fun k => k (.nilp))
    (fun l off k => k (.ptr l off))
    (fun g k => k (.gptr g))
    (fun cs _ k => k (.eptr cs))
    (fun k => k (.nils))
    (fun k => k (.emp))
    (fun k => k (.non0))
    (fun sz xs tight _ k => k (.sl sz xs tight))
    (fun sz n t _ k => k (.big sz n t))
    (fun n k => k (.bytes n))
    (fun sz l off len k => k (.row sz l off len))
    (fun k => k (.nilm))
    (fun l k => k (.map l))
    (fun k => k (.nilf))
    (fun fn first cap _ _ k => k (.fn fn first cap))
    (fun k => k (.nili))
    (fun t v _ k => k (.iface t v))
    (fun cs _ k => k (.agg cs))
    (fun vs _ k => k (.tuple vs))
    (fun k => k (.junk))
    (fun _ _ _ _ => none)
    (fun _ _ _ _ => none)
    PUnit.unit (fun _ _ _ _ => PUnit.unit) PUnit.unit (fun _ _ _ _ _ _ => PUnit.unit) PUnit.unit (fun _ _ => PUnit.unit) v k

theorem onPl_inv {v : V} {k : KV} {a : V × St} (h : onPl v k = some a) : plain v = true ∧ k v = some a := by
  cases v <;> first | exact ⟨rfl, h⟩ | exact nomatch (show (none : Rho) = some a from h)

noncomputable def onBool (v : V) (x : Rho) (y : Rho) : Rho :=
  V.rec (motive_1 := fun _ => Rho → Rho → Rho) (motive_2 := fun _ => PUnit) (motive_3 := fun _ => PUnit) (motive_4 := fun _ => PUnit)
    (fun b x y => Bool.rec (motive := fun _ => Rho) y x b)
    (fun _ _ _ _ => none)
    (fun _ _ _ => none)
    (fun _ _ => none)
    (fun _ _ _ _ => none)
    (fun _ _ _ => none)
    (fun _ _ _ _ => none)
    (fun _ _ => none)
    (fun _ _ => none)
    (fun _ _ => none)
    (fun _ _ _ _ _ _ => none)
    (fun _ _ _ _ _ _ => none)
    (fun _ _ _ => none)
    (fun _ _ _ _ _ _ => none)
    (fun _ _ => none)
    (fun _ _ _ => none)
    (fun _ _ => none)
    (fun _ _ _ _ _ _ _ => none)
    (fun _ _ => none)
    (fun _ _ _ _ _ => none)
    (fun _ _ _ _ => none)
    (fun _ _ _ _ => none)
    (fun _ _ => none)
    (fun _ _ _ _ _ => none)
    (fun _ _ _ _ _ => none)
    PUnit.unit (fun _ _ _ _ => PUnit.unit) PUnit.unit (fun _ _ _ _ _ _ => PUnit.unit) PUnit.unit (fun _ _ => PUnit.unit) v x y

theorem onBool_inv {v : V} {x y : Rho} {a : V × St} (h : onBool v x y = some a) : (v = .bool true ∧ x = some a) ∨ (v = .bool false ∧ y = some a) := by
  cases v with
  | bool b => cases b with
    | true => exact .inl ⟨rfl, h⟩
    | false => exact .inr ⟨rfl, h⟩
  | _ => exact nomatch (show (none : Rho) = some a from h)

noncomputable def onInt (v : V) (k : IntKind → Int → Rho) : Rho :=
  V.rec (motive_1 := fun _ => (IntKind → Int → Rho) → Rho) (motive_2 := fun _ => PUnit) (motive_3 := fun _ => PUnit) (motive_4 := fun _ => PUnit)
    (fun _ _ => none)
    (fun kd n k => k kd n)
    (fun _ _ => none)
    (fun _ => none)
    (fun _ _ _ => none)
    (fun _ _ => none)
    (fun _ _ _ => none)
    (fun _ => none)
    (fun _ => none)
    (fun _ => none)
    (fun _ _ _ _ _ => none)
    (fun _ _ _ _ _ => none)
    (fun _ _ => none)
    (fun _ _ _ _ _ => none)
    (fun _ => none)
    (fun _ _ => none)
    (fun _ => none)
    (fun _ _ _ _ _ _ => none)
    (fun _ => none)
    (fun _ _ _ _ => none)
    (fun _ _ _ => none)
    (fun _ _ _ => none)
    (fun _ => none)
    (fun _ _ _ _ => none)
    (fun _ _ _ _ => none)
    PUnit.unit (fun _ _ _ _ => PUnit.unit) PUnit.unit (fun _ _ _ _ _ _ => PUnit.unit) PUnit.unit (fun _ _ => PUnit.unit) v k

theorem onInt_inv {v : V} {k} {a : V × St} (h : onInt v k = some a) : ∃ kd n, v = .int kd n ∧ k kd n = some a := by
  cases v <;> first | exact ⟨_, _, rfl, h⟩ | exact nomatch (show (none : Rho) = some a from h)

noncomputable def onStr (v : V) (k : Nat → Rho) : Rho :=
  V.rec (motive_1 := fun _ => (Nat → Rho) → Rho) (motive_2 := fun _ => PUnit) (motive_3 := fun _ => PUnit) (motive_4 := fun _ => PUnit)
    (fun _ _ => none)
    (fun _ _ _ => none)
    (fun n k => k n)
    (fun _ => none)
    (fun _ _ _ => none)
    (fun _ _ => none)
    (fun _ _ _ => none)
    (fun _ => none)
    (fun _ => none)
    (fun _ => none)
    (fun _ _ _ _ _ => none)
    (fun _ _ _ _ _ => none)
    (fun _ _ => none)
    (fun _ _ _ _ _ => none)
    (fun _ => none)
    (fun _ _ => none)
    (fun _ => none)
    (fun _ _ _ _ _ _ => none)
    (fun _ => none)
    (fun _ _ _ _ => none)
    (fun _ _ _ => none)
    (fun _ _ _ => none)
    (fun _ => none)
    (fun _ _ _ _ => none)
    (fun _ _ _ _ => none)
    PUnit.unit (fun _ _ _ _ => PUnit.unit) PUnit.unit (fun _ _ _ _ _ _ => PUnit.unit) PUnit.unit (fun _ _ => PUnit.unit) v k

theorem onStr_inv {v : V} {k} {a : V × St} (h : onStr v k = some a) : ∃ n, v = .str n ∧ k n = some a := by
  cases v <;> first | exact ⟨_, rfl, h⟩ | exact nomatch (show (none : Rho) = some a from h)

noncomputable def onTuple (v : V) (k : List V → Rho) : Rho :=
  V.rec (motive_1 := fun _ => (List V → Rho) → Rho) (motive_2 := fun _ => PUnit) (motive_3 := fun _ => PUnit) (motive_4 := fun _ => PUnit)
    (fun _ _ => none)
    (fun _ _ _ => none)
    (fun _ _ => none)
    (fun _ => none)
    (fun _ _ _ => none)
    (fun _ _ => none)
    (fun _ _ _ => none)
    (fun _ => none)
    (fun _ => none)
    (fun _ => none)
    (fun _ _ _ _ _ => none)
    (fun _ _ _ _ _ => none)
    (fun _ _ => none)
    (fun _ _ _ _ _ => none)
    (fun _ => none)
    (fun _ _ => none)
    (fun _ => none)
    (fun _ _ _ _ _ _ => none)
    (fun _ => none)
    (fun _ _ _ _ => none)
    (fun _ _ _ => none)
    (fun vs _ k => k vs)
    (fun _ => none)
    (fun _ _ _ _ => none)
    (fun _ _ _ _ => none)
    PUnit.unit (fun _ _ _ _ => PUnit.unit) PUnit.unit (fun _ _ _ _ _ _ => PUnit.unit) PUnit.unit (fun _ _ => PUnit.unit) v k

theorem onTuple_inv {v : V} {k} {a : V × St} (h : onTuple v k = some a) : ∃ vs, v = .tuple vs ∧ k vs = some a := by
  cases v <;> first | exact ⟨_, rfl, h⟩ | exact nomatch (show (none : Rho) = some a from h)

noncomputable def onAgg (v : V) (k : List V → Rho) : Rho :=
  V.rec (motive_1 := fun _ => (List V → Rho) → Rho) (motive_2 := fun _ => PUnit) (motive_3 := fun _ => PUnit) (motive_4 := fun _ => PUnit)
    (fun _ _ => none)
    (fun _ _ _ => none)
    (fun _ _ => none)
    (fun _ => none)
    (fun _ _ _ => none)
    (fun _ _ => none)
    (fun _ _ _ => none)
    (fun _ => none)
    (fun _ => none)
    (fun _ => none)
    (fun _ _ _ _ _ => none)
    (fun _ _ _ _ _ => none)
    (fun _ _ => none)
    (fun _ _ _ _ _ => none)
    (fun _ => none)
    (fun _ _ => none)
    (fun _ => none)
    (fun _ _ _ _ _ _ => none)
    (fun _ => none)
    (fun _ _ _ _ => none)
    (fun cs _ k => k cs)
    (fun _ _ _ => none)
    (fun _ => none)
    (fun _ _ _ _ => none)
    (fun _ _ _ _ => none)
    PUnit.unit (fun _ _ _ _ => PUnit.unit) PUnit.unit (fun _ _ _ _ _ _ => PUnit.unit) PUnit.unit (fun _ _ => PUnit.unit) v k

theorem onAgg_inv {v : V} {k} {a : V × St} (h : onAgg v k = some a) : ∃ cs, v = .agg cs ∧ k cs = some a := by
  cases v <;> first | exact ⟨_, rfl, h⟩ | exact nomatch (show (none : Rho) = some a from h)

noncomputable def onBytes (v : V) (k : Nat → Rho) : Rho :=
  V.rec (motive_1 := fun _ => (Nat → Rho) → Rho) (motive_2 := fun _ => PUnit) (motive_3 := fun _ => PUnit) (motive_4 := fun _ => PUnit)
    (fun _ _ => none)
    (fun _ _ _ => none)
    (fun _ _ => none)
    (fun _ => none)
    (fun _ _ _ => none)
    (fun _ _ => none)
    (fun _ _ _ => none)
    (fun _ => none)
    (fun _ => none)
    (fun _ => none)
    (fun _ _ _ _ _ => none)
    (fun _ _ _ _ _ => none)
    (fun n k => k n)
    (fun _ _ _ _ _ => none)
    (fun _ => none)
    (fun _ _ => none)
    (fun _ => none)
    (fun _ _ _ _ _ _ => none)
    (fun _ => none)
    (fun _ _ _ _ => none)
    (fun _ _ _ => none)
    (fun _ _ _ => none)
    (fun _ => none)
    (fun _ _ _ _ => none)
    (fun _ _ _ _ => none)
    PUnit.unit (fun _ _ _ _ => PUnit.unit) PUnit.unit (fun _ _ _ _ _ _ => PUnit.unit) PUnit.unit (fun _ _ => PUnit.unit) v k

theorem onBytes_inv {v : V} {k} {a : V × St} (h : onBytes v k = some a) : ∃ n, v = .bytes n ∧ k n = some a := by
  cases v <;> first | exact ⟨_, rfl, h⟩ | exact nomatch (show (none : Rho) = some a from h)

noncomputable def onLoc (v : V) (k : Nat → List V → Rho) : Rho :=
  V.rec (motive_1 := fun _ => (Nat → List V → Rho) → Rho) (motive_2 := fun _ => PUnit) (motive_3 := fun _ => PUnit) (motive_4 := fun _ => PUnit)
    (fun _ _ => none)
    (fun _ _ _ => none)
    (fun _ _ => none)
    (fun _ => none)
    (fun _ _ _ => none)
    (fun _ _ => none)
    (fun _ _ _ => none)
    (fun _ => none)
    (fun _ => none)
    (fun _ => none)
    (fun _ _ _ _ _ => none)
    (fun _ _ _ _ _ => none)
    (fun _ _ => none)
    (fun _ _ _ _ _ => none)
    (fun _ => none)
    (fun _ _ => none)
    (fun _ => none)
    (fun _ _ _ _ _ _ => none)
    (fun _ => none)
    (fun _ _ _ _ => none)
    (fun _ _ _ => none)
    (fun _ _ _ => none)
    (fun _ => none)
    (fun id cs _ k => k id cs)
    (fun _ _ _ _ => none)
    PUnit.unit (fun _ _ _ _ => PUnit.unit) PUnit.unit (fun _ _ _ _ _ _ => PUnit.unit) PUnit.unit (fun _ _ => PUnit.unit) v k

theorem onLoc_inv {v : V} {k} {a : V × St} (h : onLoc v k = some a) : ∃ id cs, v = .loc id cs ∧ k id cs = some a := by
  cases v <;> first | exact ⟨_, _, rfl, h⟩ | exact nomatch (show (none : Rho) = some a from h)


/-! ### operands -/
abbrev X2 := F → Option V
def xc (v : V) (_ : F) : Option V := some v
def xn (_ : F) : Option V := none
noncomputable def cX : Opd → X2
  | .t i => bif Nat.blt i 256 then gt i else xn
  | .c v => bif plain v then xc v else xn
  | .g i => xc (.gptr i)
  | .f i => xc (.fn (.func i) [] [])
noncomputable def evK (x : X2) (f : F) (k : KV) : Rho := onSome (x f) (fun v => onPl v k)
theorem cX_spec {f : F} {fr : T V} (h : FRel f fr) {x : Opd} {v : V} (hx : cX x f = some v) (hp : plain v = true) : ev fr x = some v := by
  cases x with
  | t i =>
    simp only [cX] at hx
    cases hb : Nat.blt i 256 with
    | false => simp [hb, xn] at hx
    | true =>
      simp only [hb, cond_true] at hx
      simp only [ev]
      rw [h i (bltT hb), hx]
      simp [hp]
  | c v =>
    simp only [cX] at hx
    cases hb : plain v with
    | false => simp [hb, xn] at hx
    | true => simp [hb, xc] at hx; subst hx; rfl
  | g i => simp [cX, xc] at hx; subst hx; rfl
  | f i => simp [cX, xc] at hx; subst hx; rfl
theorem evK_inv {f : F} {fr : T V} (h : FRel f fr) {x : Opd} {k : KV} {a : V × St} (hk : evK (cX x) f k = some a) : ∃ v, ev fr x = some v ∧ plain v = true ∧ k v = some a := by
  obtain ⟨v, h1, h2⟩ := onSome_inv hk
  obtain ⟨h3, h4⟩ := onPl_inv h2
  exact ⟨v, cX_spec h h1 h3, h3, h4⟩
theorem cXt_inv {f : F} {fr : T V} (h : FRel f fr) {i : Nat} {v : V} (hx : cX (.t i) f = some v) : i < 256 ∧ fr.get i = some v := by
  simp only [cX] at hx
  cases hb : Nat.blt i 256 with
  | false => simp [hb, xn] at hx
  | true =>
    simp only [hb, cond_true] at hx
    exact ⟨bltT hb, by rw [h i (bltT hb), hx]⟩
end Go.Ai.Fl
/-! More fuel, the same answer. -/
namespace Go.Ai
open Go
set_option linter.unusedVariables false
set_option linter.unusedSimpArgs false

def CallLe (c c' : CallF) : Prop := ∀ f vs st r, c f vs st = some r → c' f vs st = some r
def YieldLe (y y' : Nat → List V → St → R) : Prop := ∀ l vs st r, y l vs st = some r → y' l vs st = some r
def ExLe (e e' : IR → T V → St → ER) : Prop := ∀ c fr st r, e c fr st = some r → e' c fr st = some r

section
variable {X : Env} {c c' : CallF} {y y' : Nat → List V → St → R} {fr : T V} {st : St}

theorem r1_mono {x x' : R} (h : ∀ r, x = some r → x' = some r) {r} (hr : r1 fr x = some r) : r1 fr x' = some r := by
  cases x with
  | none => simp [r1] at hr
  | some q => rw [h q rfl]; exact hr
theorem callVal_mono (hc : CallLe c c') (hy : YieldLe y y') {x : V} {vs : List V} {r} (h : callVal c y x vs st = some r) : callVal c' y' x vs st = some r := by
  unfold callVal at h ⊢
  split at h
  · exact hc _ _ _ _ h
  · exact hy _ _ _ _ h
  · cases h
theorem runOp_mono (hc : CallLe c c') (hy : YieldLe y y') {o : IOp} {r} (h : runOp X c y fr st o = some r) : runOp X c' y' fr st o = some r := by
  cases o <;> (try exact h)
  case call f args =>
    simp only [runOp] at h ⊢
    split at h
    · exact r1_mono (fun r hr => hc _ _ _ _ hr) h
    · cases h
  case callv x args =>
    simp only [runOp] at h ⊢
    split at h
    · exact r1_mono (fun r hr => callVal_mono hc hy hr) h
    · cases h
theorem runOps_mono (hc : CallLe c c') (hy : YieldLe y y') : ∀ {os : List IOpr} {fr : T V} {st : St} {r}, runOps X c y os fr st = some r → runOps X c' y' os fr st = some r
  | [], fr, st, r, h => h
  | o :: os, fr, st, r, h => by
    simp only [runOps] at h ⊢
    split at h
    · split at h
      · rename_i hr
        rw [runOp_mono hc hy hr]
        exact runOps_mono hc hy h
      · cases h
    · exact runOps_mono hc hy h
    · cases h
theorem runK_mono (hc : CallLe c c') (hy : YieldLe y y') {base : Nat} {o : IOp} {k : Kd} {r} (h : runK X c y base fr st o k = some r) : runK X c' y' base fr st o k = some r := by
  cases k with
  | pure =>
    simp only [runK] at h ⊢
    cases hp : pureOp o with
    | false => simp [hp] at h
    | true =>
      simp only [hp, cond_true] at h ⊢
      split at h
      · rename_i hr
        rw [runOp_mono hc hy hr]; exact h
      · cases h
  | read =>
    simp only [runK] at h ⊢
    cases hp : readOp o with
    | false => simp [hp] at h
    | true => simp only [hp, cond_true] at h ⊢; exact runOp_mono hc hy h
  | slot k => exact h
  | eff =>
    simp only [runK] at h ⊢
    split at h
    · rename_i hr
      rw [runOp_mono hc hy hr]; exact h
    · cases h
theorem stepD_mono (hc : CallLe c c') (hy : YieldLe y y') {base : Nat} {o : DOpr} {r} (h : stepD X c y base o fr st = some r) : stepD X c' y' base o fr st = some r := by
  simp only [stepD] at h ⊢
  cases hq : holdsLoc fr o.o.dst with
  | true => simp [hq] at h
  | false =>
    simp only [hq, cond_false] at h ⊢
    split at h
    · split at h
      · rename_i hr
        rw [runK_mono hc hy hr]; exact h
      · cases h
    · exact h
    · cases h
theorem runOpsD_mono (hc : CallLe c c') (hy : YieldLe y y') {base top : Nat} : ∀ {os : List DOpr} {logs : List (List Tc)} {fr : T V} {st : St} {r}, runOpsD X c y base top os logs fr st = some r → runOpsD X c' y' base top os logs fr st = some r
  | [], logs, fr, st, r, h => h
  | o :: os, logs, fr, st, r, h => by
    simp only [runOpsD] at h ⊢
    split at h
    · rename_i hr
      rw [stepD_mono hc hy hr]
      simp only
      cases hb : (apartAll _ logs o.far && (!o.chk || below top _)) with
      | false => rw [hb] at h; simp at h
      | true =>
        rw [hb] at h
        simp only [cond_true] at h ⊢
        exact runOpsD_mono hc hy h
    · cases h
theorem rcall_mono {e e' : IR → T V → St → ER} (he : ExLe e e') : CallLe (rcall X e) (rcall X e') := by
  intro f vs st r h
  unfold rcall at h ⊢
  split at h
  · exact h
  · split at h
    · exact h
    · split at h
      · rename_i nt body res mode _
        cases hb : Nat.blt nt vs.length with
        | true => simp [hb] at h
        | false =>
          simp only [hb, cond_false] at h ⊢
          split at h
          · rename_i hr; rw [he _ _ _ _ hr]; exact h
          · rename_i hr; rw [he _ _ _ _ hr]; exact h
          · cases h
      · cases h
theorem round_mono {e e' : IR → T V → St → ER} (he : ExLe e e') : YieldLe (round e) (round e') := by
  intro l vs st r h
  unfold round at h ⊢
  split at h
  · split at h
    · split at h
      · rename_i hr
        rw [he _ _ _ _ hr]
        simp only
        split at h
        · split at h
          · rename_i hr2
            rw [he _ _ _ _ hr2]
            exact h
          · cases h
        · cases h
      · cases h
    · cases h
  · cases h
/-- one layer of the interpreter -/
def execS (X : Env) (ex : IR → T V → St → ER) (c : IR) (fr : T V) (st : St) : ER := match c with
    | .skip => some (.nrm, fr, st)
    | .reg ops => match runOps X (rcall X ex) (round ex) ops fr st with
      | some (fr, st) => some (.nrm, fr, st)
      | none => none
    | .regd ops k pub old => match runOpsD X (rcall X ex) (round ex) st.next (st.next + k) ops [] (retire old fr) { heap := st.heap, next := st.next + k, lim := st.lim, wr := st.wr } with
      | some (fr, st1) => match publish st.next pub fr st1 with
        | some (fr, st) => some (.nrm, fr, st)
        | none => none
      | none => none
    | .seq a b => match ex a fr st with
      | some (.nrm, fr, st) => ex b fr st
      | r => r
    | .cond x a b => match ev fr x with
      | some (.bool true) => ex a fr st
      | some (.bool false) => ex b fr st
      | _ => none
    | .block id b => match ex b fr st with
      | some (.exit j, fr, st) => some (bif Nat.beq j id then .nrm else .exit j, fr, st)
      | r => r
    | .loop b => match ex b fr st with
      | some (.nrm, fr, st) => ex (.loop b) fr st
      | r => r
    | .exit id => some (.exit id, fr, st)
    | .ret => some (.ret, fr, st)
    | .rfn f ps a b => bif noLoc fr then (match ev fr f with
      | some (.fn (.func h) x y) => match X.ext h (x ++ [.fn (.yield st.next) [] []] ++ y) with
        | none => (match rcall X ex h (x ++ [.fn (.yield st.next) [] []] ++ y) (st.new (.loop 0 fr ps a b .nrm)) with
          | some (_, st', _) => match st'.heap.get st.next with
            | some (.loop 0 _ _ _ _ .nrm) => some (.nrm, fr, st'.putBlk st.next .gone [])
            | some (.loop 2 _ _ _ _ e) => some (e, fr, st'.putBlk st.next .gone [])
            | _ => none
          | none => none)
        | some _ => none
      | _ => none) else none
    | .bad => none
theorem exec_succ (n : Nat) (c : IR) (fr : T V) (st : St) : exec X (n + 1) c fr st = execS X (exec X n) c fr st := by cases c <;> rfl
theorem execS_mono {e e' : IR → T V → St → ER} (ih : ExLe e e') : ExLe (execS X e) (execS X e') := by
  have hc := rcall_mono (X := X) ih
  have hy := round_mono ih
  intro c fr st r h
  cases c with
  | skip => exact h
  | exit i => exact h
  | ret => exact h
  | bad => simp [execS] at h
  | reg ops =>
    simp only [execS] at h ⊢
    split at h
    · rename_i hr; rw [runOps_mono hc hy hr]; exact h
    · cases h
  | regd ops k p o =>
    simp only [execS] at h ⊢
    split at h
    · rename_i hr; rw [runOpsD_mono hc hy hr]; exact h
    · cases h
  | seq a b =>
    simp only [execS] at h ⊢
    cases ha : e a fr st with
    | none => simp [ha] at h
    | some q =>
      rw [ih _ _ _ _ ha]
      obtain ⟨x, fr1, st1⟩ := q
      simp only [ha] at h
      cases x with
      | nrm => exact ih _ _ _ _ h
      | exit i => exact h
      | ret => exact h
  | cond x a b =>
    simp only [execS] at h ⊢
    split at h
    · exact ih _ _ _ _ h
    · exact ih _ _ _ _ h
    · cases h
  | block i b =>
    simp only [execS] at h ⊢
    cases hb : e b fr st with
    | none => simp [hb] at h
    | some q =>
      rw [ih _ _ _ _ hb]
      simp only [hb] at h
      exact h
  | loop b =>
    simp only [execS] at h ⊢
    cases ha : e b fr st with
    | none => simp [ha] at h
    | some q =>
      rw [ih _ _ _ _ ha]
      obtain ⟨x, fr1, st1⟩ := q
      simp only [ha] at h
      cases x with
      | nrm => exact ih _ _ _ _ h
      | exit i => exact h
      | ret => exact h
  | rfn f ps a b =>
    simp only [execS] at h ⊢
    cases hn : noLoc fr with
    | false => simp [hn] at h
    | true =>
      simp only [hn, cond_true] at h ⊢
      split at h
      · split at h
        · split at h
          · rename_i hr; rw [hc _ _ _ _ hr]; exact h
          · cases h
        · cases h
      · cases h
theorem exec_mono1 : ∀ n, ExLe (exec X n) (exec X (n + 1))
  | 0 => fun c fr st r h => by simp [exec] at h
  | n + 1 => fun c fr st r h => by
    rw [exec_succ] at h ⊢
    exact execS_mono (exec_mono1 n) c fr st r h
theorem exec_mono {n m : Nat} (h : n ≤ m) : ExLe (exec X n) (exec X m) := by
  induction h with
  | refl => exact fun _ _ _ _ h => h
  | step _ ih => exact fun c fr st r hr => exec_mono1 _ c fr st r (ih c fr st r hr)
theorem call_mono {n m : Nat} (h : n ≤ m) : CallLe (rcall X (exec X n)) (rcall X (exec X m)) := rcall_mono (exec_mono h)
theorem yield_mono {n m : Nat} (h : n ≤ m) : YieldLe (round (exec X n)) (round (exec X m)) := round_mono (exec_mono h)
end
end Go.Ai
/-! The fast layer: values. -/
namespace Go.Ai.Fl
open Go Go.Ai
set_option linter.unusedVariables false
set_option linter.unusedSimpArgs false

/-! ### integers -/
noncomputable def kNum (k : IntKind) : Nat := IntKind.rec (motive := fun _ => Nat) 0 1 2 3 4 5 6 7 k
noncomputable def kLim (k : IntKind) : Nat := IntKind.rec (motive := fun _ => Nat) 127 32767 2147483647 9223372036854775807 255 65535 4294967295 18446744073709551615 k
theorem kNum_inj {k k' : IntKind} (h : Nat.beq (kNum k) (kNum k') = true) : k = k' := by cases k <;> cases k' <;> first | rfl | (exact absurd h (by decide))
theorem wrap_small {k : IntKind} {m : Nat} (h : m ≤ kLim k) : k.wrap (.ofNat m) = .ofNat m := by
  cases k <;> simp only [kLim] at h <;> simp [IntKind.wrap, IntKind.bits, IntKind.signed] <;> omega
noncomputable def wrapF (k : IntKind) (n : Int) : Int := Int.rec (motive := fun _ => IntKind → Int) (fun m k => Bool.rec (motive := fun _ => Int) (k.wrap (.ofNat m)) (.ofNat m) (Nat.ble m (kLim k))) (fun m k => k.wrap (.negSucc m)) n k
theorem wrapF_eq (k : IntKind) (n : Int) : wrapF k n = k.wrap n := by
  cases n with
  | negSucc m => rfl
  | ofNat m =>
    show Bool.rec (motive := fun _ => Int) (k.wrap (.ofNat m)) (.ofNat m) (Nat.ble m (kLim k)) = _
    cases h : Nat.ble m (kLim k) with
    | false => rfl
    | true => exact (wrap_small (bleT h)).symm
noncomputable def addF (a b : Int) : Int := Int.rec (motive := fun _ => Int → Int) (fun m b => Int.rec (motive := fun _ => Nat → Int) (fun n m => .ofNat (Nat.add m n)) (fun n m => Int.add (.ofNat m) (.negSucc n)) b m) (fun m b => Int.add (.negSucc m) b) a b
theorem addF_eq (a b : Int) : addF a b = a + b := by cases a <;> cases b <;> rfl
noncomputable def subF (a b : Int) : Int := Int.rec (motive := fun _ => Int → Int) (fun m b => Int.rec (motive := fun _ => Nat → Int) (fun n m => Bool.rec (motive := fun _ => Int) (Int.sub (.ofNat m) (.ofNat n)) (.ofNat (Nat.sub m n)) (Nat.ble n m)) (fun n m => Int.sub (.ofNat m) (.negSucc n)) b m) (fun m b => Int.sub (.negSucc m) b) a b
theorem subF_eq (a b : Int) : subF a b = a - b := by
  cases a with
  | negSucc m => cases b <;> rfl
  | ofNat m =>
    cases b with
    | negSucc n => rfl
    | ofNat n =>
      show Bool.rec (motive := fun _ => Int) (Int.sub (.ofNat m) (.ofNat n)) (.ofNat (Nat.sub m n)) (Nat.ble n m) = _
      cases h : Nat.ble n m with
      | false => rfl
      | true =>
        have := bleT h
        show Int.ofNat (m - n) = Int.ofNat m - Int.ofNat n
        simp only [Int.ofNat_eq_natCast]
        omega
noncomputable def ltF (a b : Int) : Bool := Int.rec (motive := fun _ => Int → Bool) (fun m b => Int.rec (motive := fun _ => Nat → Bool) (fun n m => Nat.blt m n) (fun _ _ => false) b m) (fun m b => Int.rec (motive := fun _ => Nat → Bool) (fun _ _ => true) (fun n m => Nat.blt n m) b m) a b
theorem blt_dec (m n : Nat) : Nat.blt m n = decide (m < n) := by
  by_cases h : m < n
  · rw [decide_eq_true h]; exact Nat.ble_eq_true_of_le h
  · rw [decide_eq_false h]
    cases hb : Nat.blt m n with
    | false => rfl
    | true => exact absurd (bltT hb) h
theorem ltF_eq (a b : Int) : ltF a b = decide (a < b) := by
  cases a with
  | ofNat m => cases b with
    | ofNat n => show Nat.blt m n = _; rw [blt_dec]; simp
    | negSucc n => show false = _; simp [Int.negSucc_lt_zero]; exact Int.le_of_lt (Int.lt_of_lt_of_le (Int.negSucc_lt_zero n) (Int.natCast_nonneg m))
  | negSucc m => cases b with
    | ofNat n => show true = _; simp; exact Int.lt_of_lt_of_le (Int.negSucc_lt_zero m) (Int.natCast_nonneg n)
    | negSucc n => show Nat.blt n m = _; rw [blt_dec]; simp; omega
noncomputable def eqF (a b : Int) : Bool := Int.rec (motive := fun _ => Int → Bool) (fun m b => Int.rec (motive := fun _ => Nat → Bool) (fun n m => Nat.beq m n) (fun _ _ => false) b m) (fun m b => Int.rec (motive := fun _ => Nat → Bool) (fun _ _ => false) (fun n m => Nat.beq n m) b m) a b
theorem beq_dec (m n : Nat) : Nat.beq m n = decide (m = n) := by
  by_cases h : m = n
  · subst h; simp
  · rw [beqF h, decide_eq_false h]
theorem eqF_eq (a b : Int) : eqF a b = decide (a = b) := by
  cases a with
  | ofNat m => cases b with
    | ofNat n => show Nat.beq m n = _; rw [beq_dec]; by_cases h : m = n <;> simp [h] <;> omega
    | negSucc n => show false = _; simp
  | negSucc m => cases b with
    | ofNat n => show false = _; simp
    | negSucc n => show Nat.beq n m = _; rw [beq_dec]; simp [eq_comm]

/-! ### lengths of strings: the kernel has no quick log2 -/
noncomputable def slenG (n : Nat) : Nat := List.rec (motive := fun _ => Nat → Nat) (fun l => l) (fun b _ ih l => Bool.rec (motive := fun _ => Nat) (ih (l + b)) (ih l) (Nat.beq (Nat.shiftRight n (8 * (l + b))) 0)) [8192, 4096, 2048, 1024, 512, 256, 128, 64, 32, 16, 8, 4, 2, 1] 0
noncomputable def slenC (n l : Nat) : Nat := Bool.rec (motive := fun _ => Nat) (slen n) (Bool.rec (motive := fun _ => Nat) (slen n) l (Nat.blt n (2 ^ (8 * l + 8)))) (Nat.ble (2 ^ (8 * l)) n)
noncomputable def slenF (n : Nat) : Nat := slenC n (slenG n)
theorem slenC_eq (n l : Nat) : slenC n l = slen n := by
  unfold slenC
  cases h1 : Nat.ble (2 ^ (8 * l)) n with
  | false => rfl
  | true =>
    cases h2 : Nat.blt n (2 ^ (8 * l + 8)) with
    | false => rfl
    | true =>
      have h3 := bleT h1
      have h4 := bltT h2
      have hn : n ≠ 0 := by
        have : 0 < 2 ^ (8 * l) := Nat.two_pow_pos _
        omega
      have h5 : 8 * l ≤ n.log2 := (Nat.le_log2 hn).2 h3
      have h6 : n.log2 < 8 * l + 8 := (Nat.log2_lt hn).2 h4
      show l = slen n
      unfold slen
      omega
theorem slenF_eq (n : Nat) : slenF n = slen n := slenC_eq n _
noncomputable def satF (n i : Nat) : Nat := Nat.mod (Nat.shiftRight n (8 * (slenF n - 1 - i))) 256
theorem p256 (k : Nat) : (256 : Nat) ^ k = 2 ^ (8 * k) := by rw [show (256 : Nat) = 2 ^ 8 from rfl, ← Nat.pow_mul]
theorem satF_eq (n i : Nat) : satF n i = sat n i := by
  unfold satF sat
  rw [slenF_eq, p256]
  show (n >>> _) % 256 = _
  rw [Nat.shiftRight_eq_div_pow]
noncomputable def ssubF (n lo hi len : Nat) : Nat := Nat.add (Nat.mod (Nat.shiftRight n (8 * (len - hi))) (2 ^ (8 * (hi - lo)))) (2 ^ (8 * (hi - lo)))
theorem ssubF_eq (n lo hi : Nat) : ssubF n lo hi (slen n) = ssub n lo hi := by
  unfold ssubF ssub
  rw [p256, p256]
  show (n >>> _) % _ + _ = _
  rw [Nat.shiftRight_eq_div_pow]

/-! ### numbers are worked out -/
noncomputable def nrmN (s : Nat) (k : Nat → Rho) : Rho := k s
theorem nrmN_eq (s : Nat) (k : Nat → Rho) : nrmN s k = k s := rfl
noncomputable def nrmI (n : Int) (k : Int → Rho) : Rho := Int.rec (motive := fun _ => (Int → Rho) → Rho) (fun m k => nrmN m (fun m => k (.ofNat m))) (fun m k => k (.negSucc m)) n k
theorem nrmI_eq (n : Int) (k : Int → Rho) : nrmI n k = k n := by
  cases n with
  | ofNat m => rfl
  | negSucc m => rfl
noncomputable def nrmV (v : V) (k : KV) : Rho :=
  V.rec (motive_1 := fun _ => KV → Rho) (motive_2 := fun _ => PUnit) (motive_3 := fun _ => PUnit) (motive_4 := fun _ => PUnit)
    (fun b k => k (.bool b))
    (fun kd n k => nrmI n (fun n => k (.int kd n)))
    (fun n k => nrmN n (fun n => k (.str n)))
    (fun k => k (.nilp))
    (fun l off k => nrmN l (fun l => nrmN off (fun off => k (.ptr l off))))
    (fun g k => k (.gptr g))
    (fun cs _ k => k (.eptr cs))
    (fun k => k (.nils))
    (fun k => k (.emp))
    (fun k => k (.non0))
    (fun sz xs tight _ k => k (.sl sz xs tight))
    (fun sz n t _ k => k (.big sz n t))
    (fun n k => nrmN n (fun n => k (.bytes n)))
    (fun sz l off len k => nrmN l (fun l => nrmN off (fun off => nrmN len (fun len => k (.row sz l off len)))))
    (fun k => k (.nilm))
    (fun l k => k (.map l))
    (fun k => k (.nilf))
    (fun fn first cap _ _ k => k (.fn fn first cap))
    (fun k => k (.nili))
    (fun t v _ k => k (.iface t v))
    (fun cs _ k => k (.agg cs))
    (fun vs _ k => k (.tuple vs))
    (fun k => k (.junk))
    (fun id cs _ k => k (.loc id cs))
    (fun slot off id k => k (.der slot off id))
    PUnit.unit (fun _ _ _ _ => PUnit.unit) PUnit.unit (fun _ _ _ _ _ _ => PUnit.unit) PUnit.unit (fun _ _ => PUnit.unit) v k

theorem nrmV_eq (v : V) (k : KV) : nrmV v k = k v := by
  cases v <;> try rfl
  exact nrmI_eq _ (fun n => k (.int _ n))
noncomputable def nrmL (w : List Tc) (k : List Tc → Rho) : Rho := List.rec (motive := fun _ => (List Tc → Rho) → Rho) (fun k => k []) (fun x t _ k => k (x :: t)) w k
theorem nrmL_eq (w : List Tc) (k : List Tc → Rho) : nrmL w k = k w := by cases w <;> rfl
noncomputable def nrmS (st : St) (k : St → Rho) : Rho := St.rec (motive := fun _ => (St → Rho) → Rho) (fun h n l w k => nrmN n (fun n => nrmN l (fun l => nrmL w (fun w => k { heap := h, next := n, lim := l, wr := w })))) st k
theorem nrmS_eq (st : St) (k : St → Rho) : nrmS st k = k st := by
  obtain ⟨h, n, l, w⟩ := st
  show nrmN n (fun n => nrmN l (fun l => nrmL w (fun w => k { heap := h, next := n, lim := l, wr := w }))) = _
  rw [nrmN_eq, nrmN_eq, nrmL_eq]

/-! ### what the interpreter does -/
theorem bin_add {k : IntKind} {a b : Int} : binV .add (.int k a) (.int k b) = some (.int k (k.wrap (a + b))) := by simp [binV, ofSem, binOp, Op.intArith, ofScalar]; rfl
theorem bin_sub {k : IntKind} {a b : Int} : binV .sub (.int k a) (.int k b) = some (.int k (k.wrap (a - b))) := by simp [binV, ofSem, binOp, Op.intArith, ofScalar]; rfl
theorem bin_lss {k : IntKind} {a b : Int} : binV .lss (.int k a) (.int k b) = some (.bool (decide (a < b))) := by simp [binV, ofSem, binOp, Op.intCmp, ofScalar]; rfl
theorem bin_gtr {k : IntKind} {a b : Int} : binV .gtr (.int k a) (.int k b) = some (.bool (decide (b < a))) := by simp [binV, ofSem, binOp, Op.intCmp, ofScalar]; rfl
theorem bin_leq {k : IntKind} {a b : Int} : binV .leq (.int k a) (.int k b) = some (.bool (!decide (b < a))) := by
  have h : binV .leq (.int k a) (.int k b) = some (.bool (decide (a ≤ b))) := by simp [binV, ofSem, binOp, Op.intCmp, ofScalar]; rfl
  have e : decide (a ≤ b) = !decide (b < a) := by by_cases q : b < a <;> simp [q] <;> omega
  rw [h, e]
theorem bin_geq {k : IntKind} {a b : Int} : binV .geq (.int k a) (.int k b) = some (.bool (!decide (a < b))) := by
  have h : binV .geq (.int k a) (.int k b) = some (.bool (decide (b ≤ a))) := by simp [binV, ofSem, binOp, Op.intCmp, ofScalar]; rfl
  have e : decide (b ≤ a) = !decide (a < b) := by by_cases q : a < b <;> simp [q] <;> omega
  rw [h, e]
theorem bin_eql {k : IntKind} {a b : Int} : binV .eql (.int k a) (.int k b) = some (.bool (decide (a = b))) := by
  have h : binV .eql (.int k a) (.int k b) = some (.bool (a == b)) := by simp [binV, ofSem, binOp, Op.intCmp, ofScalar]; rfl
  rw [h]; congr 2
theorem bin_neq {k : IntKind} {a b : Int} : binV .neq (.int k a) (.int k b) = some (.bool (!decide (a = b))) := by
  have h : binV .neq (.int k a) (.int k b) = some (.bool (a != b)) := by simp [binV, ofSem, binOp, Op.intCmp, ofScalar]; rfl
  rw [h]; congr 2
end Go.Ai.Fl
/-! The fast layer: operations that give values. -/
namespace Go.Ai.Fl
open Go Go.Ai
set_option linter.unusedVariables false
set_option linter.unusedSimpArgs false

/-! ### lists, tries -/
noncomputable def dropF {α : Type} (l : List α) (n : Nat) : List α := Nat.rec (motive := fun _ => List α → List α) (fun l => l) (fun _ ih l => List.rec (motive := fun _ => List α) [] (fun _ t _ => ih t) l) n l
theorem dropF_eq {α : Type} : ∀ (n : Nat) (l : List α), dropF l n = drops l n
  | 0, l => by cases l <;> rfl
  | n + 1, [] => rfl
  | n + 1, _ :: t => dropF_eq n t
noncomputable def takeK {α : Type} (n : Nat) (l : List α) (k : List α → Rho) : Rho :=
  Nat.rec (motive := fun _ => List α → (List α → Rho) → Rho) (fun _ k => k []) (fun _ ih l k => List.rec (motive := fun _ => Rho) none (fun x t _ => ih t (fun r => k (x :: r))) l) n l k
theorem takeK_inv {α : Type} {a : V × St} : ∀ {n : Nat} {l : List α} {k : List α → Rho}, takeK n l k = some a → ∃ r, takes l n = some r ∧ k r = some a
  | 0, l, k, h => ⟨[], by cases l <;> rfl, h⟩
  | n + 1, [], k, h => nomatch (show (none : Rho) = some a from h)
  | n + 1, x :: t, k, h => by
    obtain ⟨r, h1, h2⟩ := takeK_inv (n := n) (l := t) (k := fun r => k (x :: r)) h
    exact ⟨x :: r, by simp [takes, h1], h2⟩
noncomputable def nthK (l : List V) (n : Nat) (k : KV) : Rho := List.rec (motive := fun _ => KV → Rho) (fun _ => none) (fun x _ _ k => k x) (dropF l n) k
theorem nthK_inv {l : List V} {n : Nat} {k : KV} {a : V × St} (h : nthK l n k = some a) : ∃ v, nth? l n = some v ∧ drops l n = v :: drops l (n + 1) ∧ k v = some a := by
  unfold nthK at h
  rw [dropF_eq] at h
  have hd : ∀ (l : List V) (n : Nat) x t, drops l n = x :: t → nth? l n = some x ∧ t = drops l (n + 1) := by
    intro l n x t e
    rw [drops_eq] at e ⊢
    have hlt : n < l.length := by
      rcases Nat.lt_or_ge n l.length with h | h
      · exact h
      · rw [List.drop_eq_nil_of_le h] at e; cases e
    have e1 := (List.drop_eq_getElem_cons hlt).symm.trans e
    injection e1 with e2 e3
    rw [nth?_eq, List.getElem?_eq_getElem hlt, e2]
    exact ⟨rfl, e3.symm⟩
  cases hq : drops l n with
  | nil => rw [hq] at h; exact nomatch (show (none : Rho) = some a from h)
  | cons x t =>
    rw [hq] at h
    obtain ⟨h1, h2⟩ := hd l n x t hq
    exact ⟨x, h1, by rw [h2], h⟩
noncomputable def appF {α : Type} (a b : List α) : List α := List.rec (motive := fun _ => List α) b (fun x _ ih => x :: ih) a
theorem appF_eq {α : Type} : ∀ (a b : List α), appF a b = a ++ b
  | [], b => rfl
  | x :: a, b => congrArg (x :: ·) (appF_eq a b)
noncomputable def lenF {α : Type} (a : List α) : Nat := List.rec (motive := fun _ => Nat) 0 (fun _ _ ih => Nat.add ih 1) a
theorem lenF_eq {α : Type} : ∀ (a : List α), lenF a = a.length
  | [] => rfl
  | x :: a => congrArg (· + 1) (lenF_eq a)
noncomputable def getF {α : Type} (t : T α) (i : Nat) : Option α :=
  T.rec (motive := fun _ => Nat → Option α) (fun _ => none) (fun _ v _ l r i => Bool.rec (motive := fun _ => Option α) (Bool.rec (motive := fun _ => Option α) (l (i / 2)) (r (i / 2 - 1)) (Nat.beq (i % 2) 0)) v (Nat.beq i 0)) t i
theorem getF_eq {α : Type} : ∀ (t : T α) (i : Nat), getF t i = t.get i
  | .lf, i => rfl
  | .nd l v r, i => by
    show Bool.rec (motive := fun _ => Option α) (Bool.rec (motive := fun _ => Option α) (getF l (i / 2)) (getF r (i / 2 - 1)) (Nat.beq (i % 2) 0)) v (Nat.beq i 0) = _
    simp only [T.get]
    cases Nat.beq i 0 with
    | true => rfl
    | false =>
      cases Nat.beq (i % 2) 0 with
      | true => exact getF_eq r _
      | false => exact getF_eq l _
noncomputable def nodeF {α : Type} (t : T α) (k : T α → Option α → T α → T α) : T α := T.rec (motive := fun _ => (T α → Option α → T α → T α) → T α) (fun k => k .lf none .lf) (fun l v r _ _ k => k l v r) t k
noncomputable def putF {α : Type} (n : Nat) (t : T α) (i : Nat) (x : α) : T α :=
  Nat.rec (motive := fun _ => T α → Nat → α → T α) (fun t _ _ => t) (fun _ ih t i x => nodeF t (fun l v r => Bool.rec (motive := fun _ => T α) (Bool.rec (motive := fun _ => T α) (.nd (ih l (i / 2) x) v r) (.nd l v (ih r (i / 2 - 1) x)) (Nat.beq (i % 2) 0)) (.nd l (some x) r) (Nat.beq i 0))) n t i x
theorem putF_eq {α : Type} : ∀ (n : Nat) (t : T α) (i : Nat) (x : α), putF n t i x = T.put n t i x
  | 0, t, i, x => rfl
  | n + 1, .lf, i, x => by
    show Bool.rec (motive := fun _ => T α) (Bool.rec (motive := fun _ => T α) (.nd (putF n .lf (i / 2) x) none .lf) (.nd .lf none (putF n .lf (i / 2 - 1) x)) (Nat.beq (i % 2) 0)) (.nd .lf (some x) .lf) (Nat.beq i 0) = _
    simp only [T.put, putF_eq n]
    cases Nat.beq i 0 with
    | true => rfl
    | false => cases Nat.beq (i % 2) 0 <;> rfl
  | n + 1, .nd l v r, i, x => by
    show Bool.rec (motive := fun _ => T α) (Bool.rec (motive := fun _ => T α) (.nd (putF n l (i / 2) x) v r) (.nd l v (putF n r (i / 2 - 1) x)) (Nat.beq (i % 2) 0)) (.nd l (some x) r) (Nat.beq i 0) = _
    simp only [T.put, putF_eq n]
    cases Nat.beq i 0 with
    | true => rfl
    | false => cases Nat.beq (i % 2) 0 <;> rfl
noncomputable def setF {α : Type} (t : T α) (i : Nat) (x : α) : T α := putF (i + 1) t i x
theorem setF_eq {α : Type} (t : T α) (i : Nat) (x : α) : setF t i x = t.set i x := putF_eq _ _ _ _
noncomputable def fillF {α : Type} (xs : List α) (t : T α) (i : Nat) : T α := List.rec (motive := fun _ => T α → Nat → T α) (fun t _ => t) (fun x _ ih t i => ih (setF t i x) (i + 1)) xs t i
theorem fillF_eq {α : Type} : ∀ (xs : List α) (t : T α) (i : Nat), fillF xs t i = t.fill i xs
  | [], t, i => rfl
  | x :: xs, t, i => by
    show fillF xs (setF t i x) (i + 1) = _
    rw [fillF_eq xs, setF_eq]; rfl
noncomputable def takeTK (n : Nat) (t : T V) (i : Nat) (k : List V → Rho) : Rho :=
  Nat.rec (motive := fun _ => Nat → (List V → Rho) → Rho) (fun _ k => k []) (fun _ ih i k => onSome (getF t i) (fun v => ih (i + 1) (fun r => k (v :: r)))) n i k
theorem takeTK_inv {a : V × St} {t : T V} : ∀ {n i : Nat} {k : List V → Rho}, takeTK n t i k = some a → ∃ r, t.take i n = some r ∧ k r = some a
  | 0, i, k, h => ⟨[], rfl, h⟩
  | n + 1, i, k, h => by
    obtain ⟨v, h1, h2⟩ := onSome_inv (o := getF t i) (k := fun v => takeTK n t (i + 1) (fun r => k (v :: r))) h
    obtain ⟨r, h3, h4⟩ := takeTK_inv (k := fun r => k (v :: r)) h2
    rw [getF_eq] at h1
    exact ⟨v :: r, by simp [T.take, h1, h3], h4⟩

end Go.Ai.Fl
/-! The fast layer: operations that give values. -/
namespace Go.Ai.Fl
open Go Go.Ai
set_option linter.unusedVariables false
set_option linter.unusedSimpArgs false

abbrev VOp := F → KV → Rho
/-- the operation gives what the fast one gives, whatever the state -/
def VOk (vop : VOp) (op : IOp) : Prop := pureOp op = true ∧ ∀ f fr k a, FRel f fr → vop f k = some a → ∃ v, k v = some a ∧ isLocV v = false ∧ ∀ X c y st, ∃ lg, runOp X c y fr st op = some (v, st, lg, fr)
theorem plain_notLoc {v : V} (h : plain v = true) : isLocV v = false := by cases v <;> simp_all [plain, isLocV]
section
variable {f : F} {fr : T V} {k : KV} {a : V × St}

/-! ### copies -/
noncomputable def mvV (x : X2) : VOp := evK x
theorem mvV_ok (x : Opd) : VOk (mvV (cX x)) (.mv x) := ⟨rfl, fun f fr k a hf h => by
  obtain ⟨v, h1, h2, h3⟩ := evK_inv hf h
  exact ⟨v, h3, plain_notLoc h2, fun X c y st => ⟨[], by simp [runOp, h1, v1]⟩⟩⟩
noncomputable def pickV1 (x y : X2) (f : F) (k : KV) (c : V) : Rho := onBool c (evK x f k) (evK y f k)
noncomputable def pickV (c x y : X2) (f : F) (k : KV) : Rho := onSome (c f) (pickV1 x y f k)
theorem pickV_ok (c x y : Opd) : VOk (pickV (cX c) (cX x) (cX y)) (.pick c x y) := ⟨rfl, fun f fr k a hf h => by
  obtain ⟨cv, h1, h2⟩ := onSome_inv h
  rcases onBool_inv h2 with ⟨rfl, h3⟩ | ⟨rfl, h3⟩
  · obtain ⟨v, h4, h5, h6⟩ := evK_inv hf h3
    exact ⟨v, h6, plain_notLoc h5, fun X c' y' st => ⟨[], by simp [runOp, cX_spec hf h1 rfl, h4, v1]⟩⟩
  · obtain ⟨v, h4, h5, h6⟩ := evK_inv hf h3
    exact ⟨v, h6, plain_notLoc h5, fun X c' y' st => ⟨[], by simp [runOp, cX_spec hf h1 rfl, h4, v1]⟩⟩⟩

/-! ### integers -/
abbrev I2 := IntKind → Int → Int → KV → Rho
noncomputable def i2d (op2 : I2) (k : KV) (kd : IntKind) (a : Int) (kd' : IntKind) (b : Int) : Rho := onB (Nat.beq (kNum kd) (kNum kd')) (op2 kd a b k) none
noncomputable def i2c (op2 : I2) (k : KV) (kd : IntKind) (a : Int) (yv : V) : Rho := onInt yv (i2d op2 k kd a)
noncomputable def i2b (op2 : I2) (y : X2) (f : F) (k : KV) (kd : IntKind) (a : Int) : Rho := onSome (y f) (i2c op2 k kd a)
noncomputable def i2a (op2 : I2) (y : X2) (f : F) (k : KV) (xv : V) : Rho := onInt xv (i2b op2 y f k)
noncomputable def i2V (op2 : I2) (x y : X2) (f : F) (k : KV) : Rho := onSome (x f) (i2a op2 y f k)
theorem i2b_inv {op2 : I2} {y : Opd} {kd : IntKind} {m : Int} (hf : FRel f fr) (h : i2b op2 (cX y) f k kd m = some a) : ∃ n, ev fr y = some (.int kd n) ∧ op2 kd m n k = some a := by
  obtain ⟨yv, h1, h2⟩ := onSome_inv h
  obtain ⟨kd', n, rfl, h4⟩ := onInt_inv h2
  rcases onB_inv h4 with ⟨h5, h6⟩ | ⟨_, h6⟩
  · have := kNum_inj h5
    subst this
    exact ⟨n, cX_spec hf h1 rfl, h6⟩
  · cases h6
theorem i2V_ok {op2 : I2} {op : BinOp} (hop : ∀ kd m n k a, op2 kd m n k = some a → ∃ v, binV op (.int kd m) (.int kd n) = some v ∧ isLocV v = false ∧ k v = some a) (x y : Opd) : VOk (i2V op2 (cX x) (cX y)) (.bin op x y) := ⟨rfl, fun f fr k a hf h => by
  obtain ⟨xv, h1, h2⟩ := onSome_inv h
  obtain ⟨kd, m, rfl, h3⟩ := onInt_inv h2
  obtain ⟨n, h4, h5⟩ := i2b_inv hf h3
  obtain ⟨v, h6, h7, h8⟩ := hop _ _ _ _ _ h5
  exact ⟨v, h8, h7, fun X c y' st => ⟨[], by simp [runOp, cX_spec hf h1 rfl, h4, h6, v1]⟩⟩⟩
noncomputable def notF (b : Bool) : Bool := Bool.rec (motive := fun _ => Bool) true false b
theorem notF_eq (b : Bool) : notF b = !b := by cases b <;> rfl
noncomputable def addO : I2 := fun kd a b k => nrmI (wrapF kd (addF a b)) (fun n => k (.int kd n))
noncomputable def subO : I2 := fun kd a b k => nrmI (wrapF kd (subF a b)) (fun n => k (.int kd n))
noncomputable def lssO : I2 := fun _ a b k => k (.bool (ltF a b))
noncomputable def gtrO : I2 := fun _ a b k => k (.bool (ltF b a))
noncomputable def leqO : I2 := fun _ a b k => k (.bool (notF (ltF b a)))
noncomputable def geqO : I2 := fun _ a b k => k (.bool (notF (ltF a b)))
noncomputable def eqlO : I2 := fun _ a b k => k (.bool (eqF a b))
noncomputable def neqO : I2 := fun _ a b k => k (.bool (notF (eqF a b)))
theorem addO_ok (kd : IntKind) (m n : Int) (k : KV) (a : V × St) (h : addO kd m n k = some a) : ∃ v, binV .add (.int kd m) (.int kd n) = some v ∧ isLocV v = false ∧ k v = some a := ⟨_, bin_add, rfl, by rw [← wrapF_eq, ← addF_eq]; unfold addO at h; rw [nrmI_eq] at h; exact h⟩
theorem subO_ok (kd : IntKind) (m n : Int) (k : KV) (a : V × St) (h : subO kd m n k = some a) : ∃ v, binV .sub (.int kd m) (.int kd n) = some v ∧ isLocV v = false ∧ k v = some a := ⟨_, bin_sub, rfl, by rw [← wrapF_eq, ← subF_eq]; unfold subO at h; rw [nrmI_eq] at h; exact h⟩
theorem lssO_ok (kd : IntKind) (m n : Int) (k : KV) (a : V × St) (h : lssO kd m n k = some a) : ∃ v, binV .lss (.int kd m) (.int kd n) = some v ∧ isLocV v = false ∧ k v = some a := ⟨_, bin_lss, rfl, by rw [← ltF_eq]; exact h⟩
theorem gtrO_ok (kd : IntKind) (m n : Int) (k : KV) (a : V × St) (h : gtrO kd m n k = some a) : ∃ v, binV .gtr (.int kd m) (.int kd n) = some v ∧ isLocV v = false ∧ k v = some a := ⟨_, bin_gtr, rfl, by rw [← ltF_eq]; exact h⟩
theorem leqO_ok (kd : IntKind) (m n : Int) (k : KV) (a : V × St) (h : leqO kd m n k = some a) : ∃ v, binV .leq (.int kd m) (.int kd n) = some v ∧ isLocV v = false ∧ k v = some a := ⟨_, bin_leq, rfl, by rw [← ltF_eq, ← notF_eq]; exact h⟩
theorem geqO_ok (kd : IntKind) (m n : Int) (k : KV) (a : V × St) (h : geqO kd m n k = some a) : ∃ v, binV .geq (.int kd m) (.int kd n) = some v ∧ isLocV v = false ∧ k v = some a := ⟨_, bin_geq, rfl, by rw [← ltF_eq, ← notF_eq]; exact h⟩
theorem eqlO_ok (kd : IntKind) (m n : Int) (k : KV) (a : V × St) (h : eqlO kd m n k = some a) : ∃ v, binV .eql (.int kd m) (.int kd n) = some v ∧ isLocV v = false ∧ k v = some a := ⟨_, bin_eql, rfl, by rw [← eqF_eq]; exact h⟩
theorem neqO_ok (kd : IntKind) (m n : Int) (k : KV) (a : V × St) (h : neqO kd m n k = some a) : ∃ v, binV .neq (.int kd m) (.int kd n) = some v ∧ isLocV v = false ∧ k v = some a := ⟨_, bin_neq, rfl, by rw [← eqF_eq, ← notF_eq]; exact h⟩
/-! integers or strings -/
noncomputable def seqB (ng : Bool) (k : KV) (m n : Nat) : Rho := k (.bool (Bool.rec (motive := fun _ => Bool) (Nat.beq m n) (notF (Nat.beq m n)) ng))
noncomputable def seqA (ng : Bool) (y : X2) (f : F) (k : KV) (m : Nat) : Rho := onSome (y f) (fun yv => onStr yv (seqB ng k m))
noncomputable def eqI (ng : Bool) : I2 := fun kd a b k => Bool.rec (motive := fun _ => Rho) (eqlO kd a b k) (neqO kd a b k) ng

noncomputable def eqA (v : V) (ng : Bool) (y : X2) (f : F) (k : KV) : Rho :=
  V.rec (motive_1 := fun _ => Bool → X2 → F → KV → Rho) (motive_2 := fun _ => PUnit) (motive_3 := fun _ => PUnit) (motive_4 := fun _ => PUnit)
    (fun _ _ _ _ _ => none)
    (fun kd n ng y f k => i2b (eqI ng) y f k kd n)
    (fun n ng y f k => seqA ng y f k n)
    (fun _ _ _ _ => none)
    (fun _ _ _ _ _ _ => none)
    (fun _ _ _ _ _ => none)
    (fun _ _ _ _ _ _ => none)
    (fun _ _ _ _ => none)
    (fun _ _ _ _ => none)
    (fun _ _ _ _ => none)
    (fun _ _ _ _ _ _ _ _ => none)
    (fun _ _ _ _ _ _ _ _ => none)
    (fun _ _ _ _ _ => none)
    (fun _ _ _ _ _ _ _ _ => none)
    (fun _ _ _ _ => none)
    (fun _ _ _ _ _ => none)
    (fun _ _ _ _ => none)
    (fun _ _ _ _ _ _ _ _ _ => none)
    (fun _ _ _ _ => none)
    (fun _ _ _ _ _ _ _ => none)
    (fun _ _ _ _ _ _ => none)
    (fun _ _ _ _ _ _ => none)
    (fun _ _ _ _ => none)
    (fun _ _ _ _ _ _ _ => none)
    (fun _ _ _ _ _ _ _ => none)
    PUnit.unit (fun _ _ _ _ => PUnit.unit) PUnit.unit (fun _ _ _ _ _ _ => PUnit.unit) PUnit.unit (fun _ _ => PUnit.unit) v ng y f k

noncomputable def eqV2 (ng : Bool) (x y : X2) (f : F) (k : KV) : Rho := onSome (x f) (fun xv => eqA xv ng y f k)
theorem eqV2_ok (ng : Bool) (x y : Opd) : VOk (eqV2 ng (cX x) (cX y)) (.bin (bif ng then .neq else .eql) x y) := ⟨rfl, fun f fr k a hf h => by
  obtain ⟨xv, h1, h2⟩ := onSome_inv h
  cases xv <;> (try exact nomatch (show (none : Rho) = some a from h2))
  · rename_i kd m
    obtain ⟨n, h4, h5⟩ := i2b_inv (kd := kd) (m := m) hf h2
    cases ng with
    | true =>
      obtain ⟨v, h6, h7, h8⟩ := neqO_ok kd m n k a h5
      exact ⟨v, h8, h7, fun X c y' st => ⟨[], by simp [runOp, cX_spec hf h1 rfl, h4, h6, v1]⟩⟩
    | false =>
      obtain ⟨v, h6, h7, h8⟩ := eqlO_ok kd m n k a h5
      exact ⟨v, h8, h7, fun X c y' st => ⟨[], by simp [runOp, cX_spec hf h1 rfl, h4, h6, v1]⟩⟩
  · rename_i m
    obtain ⟨yv, h3, h4⟩ := onSome_inv h2
    obtain ⟨n, rfl, h5⟩ := onStr_inv h4
    cases ng with
    | true => exact ⟨.bool (!(Nat.beq m n)), by rw [← notF_eq]; exact h5, rfl, fun X c y' st => ⟨[], by simp [runOp, cX_spec hf h1 rfl, cX_spec hf h3 rfl, binV, v1]⟩⟩
    | false => exact ⟨.bool (Nat.beq m n), h5, rfl, fun X c y' st => ⟨[], by simp [runOp, cX_spec hf h1 rfl, cX_spec hf h3 rfl, binV, v1]⟩⟩⟩
/-- any other -/
noncomputable def binG (op : BinOp) (x y : X2) (f : F) (k : KV) : Rho := evK x f (fun xv => evK y f (fun yv => onSome (binV op xv yv) (fun v => nrmV v (fun v => onPl v k))))
theorem binG_ok (op : BinOp) (x y : Opd) : VOk (binG op (cX x) (cX y)) (.bin op x y) := ⟨rfl, fun f fr k a hf h => by
  obtain ⟨xv, h1, h2, h3⟩ := evK_inv hf h
  obtain ⟨yv, h4, h5, h6⟩ := evK_inv hf h3
  obtain ⟨v, h7, h8⟩ := onSome_inv h6
  rw [nrmV_eq] at h8
  obtain ⟨h9, h10⟩ := onPl_inv h8
  exact ⟨v, h10, plain_notLoc h9, fun X c y' st => ⟨[], by simp [runOp, h1, h4, h7, v1]⟩⟩⟩
noncomputable def cBinV (op : BinOp) (x y : X2) : VOp := BinOp.rec (motive := fun _ => X2 → X2 → VOp) (i2V addO) (i2V subO) (binG .mul) (binG .quo) (binG .rem) (binG .and) (binG .or) (binG .xor) (binG .shl) (binG .shr) (binG .andNot) (eqV2 false) (eqV2 true) (i2V lssO) (i2V leqO) (i2V gtrO) (i2V geqO) op x y
theorem strAdd_none {x y : V} {op : BinOp} : True := trivial
noncomputable def unG (op : UnOp) (x : X2) (f : F) (k : KV) : Rho := evK x f (fun xv => onSome (unV op xv) (fun v => onPl v k))
theorem unG_ok (op : UnOp) (x : Opd) : VOk (unG op (cX x)) (.un op x) := ⟨rfl, fun f fr k a hf h => by
  obtain ⟨xv, h1, h2, h3⟩ := evK_inv hf h
  obtain ⟨v, h7, h8⟩ := onSome_inv h3
  obtain ⟨h9, h10⟩ := onPl_inv h8
  exact ⟨v, h10, plain_notLoc h9, fun X c y' st => ⟨[], by simp [runOp, h1, h7, v1]⟩⟩⟩

noncomputable def addA (v : V) (y : X2) (f : F) (k : KV) : Rho :=
  V.rec (motive_1 := fun _ => X2 → F → KV → Rho) (motive_2 := fun _ => PUnit) (motive_3 := fun _ => PUnit) (motive_4 := fun _ => PUnit)
    (fun _ _ _ _ => none)
    (fun kd n y f k => i2b addO y f k kd n)
    (fun n y f k => evK y f (fun yv => onSome (binV .add (.str n) yv) (fun v => nrmV v (fun v => onPl v k))))
    (fun _ _ _ => none)
    (fun _ _ _ _ _ => none)
    (fun _ _ _ _ => none)
    (fun _ _ _ _ _ => none)
    (fun _ _ _ => none)
    (fun _ _ _ => none)
    (fun _ _ _ => none)
    (fun _ _ _ _ _ _ _ => none)
    (fun _ _ _ _ _ _ _ => none)
    (fun _ _ _ _ => none)
    (fun _ _ _ _ _ _ _ => none)
    (fun _ _ _ => none)
    (fun _ _ _ _ => none)
    (fun _ _ _ => none)
    (fun _ _ _ _ _ _ _ _ => none)
    (fun _ _ _ => none)
    (fun _ _ _ _ _ _ => none)
    (fun _ _ _ _ _ => none)
    (fun _ _ _ _ _ => none)
    (fun _ _ _ => none)
    (fun _ _ _ _ _ _ => none)
    (fun _ _ _ _ _ _ => none)
    PUnit.unit (fun _ _ _ _ => PUnit.unit) PUnit.unit (fun _ _ _ _ _ _ => PUnit.unit) PUnit.unit (fun _ _ => PUnit.unit) v y f k

noncomputable def addV (x y : X2) (f : F) (k : KV) : Rho := onSome (x f) (fun xv => addA xv y f k)
theorem addV_ok (x y : Opd) : VOk (addV (cX x) (cX y)) (.bin .add x y) := ⟨rfl, fun f fr k a hf h => by
  obtain ⟨xv, h1, h2⟩ := onSome_inv h
  cases xv <;> (try exact nomatch (show (none : Rho) = some a from h2))
  · rename_i kd m
    obtain ⟨n, h4, h5⟩ := i2b_inv (kd := kd) (m := m) hf h2
    obtain ⟨v, h6, h7, h8⟩ := addO_ok _ _ _ _ _ h5
    exact ⟨v, h8, h7, fun X c y' st => ⟨[], by simp [runOp, cX_spec hf h1 rfl, h4, h6, v1]⟩⟩
  · rename_i m
    obtain ⟨yv, h4, h5, h6⟩ := evK_inv hf h2
    obtain ⟨v, h7, h8⟩ := onSome_inv h6
    rw [nrmV_eq] at h8
    obtain ⟨h9, h10⟩ := onPl_inv h8
    exact ⟨v, h10, plain_notLoc h9, fun X c y' st => ⟨[], by simp [runOp, cX_spec hf h1 rfl, h4, h7, v1]⟩⟩⟩
end
end Go.Ai.Fl
/-! The fast layer: any operation, its operands' values put in. -/
namespace Go.Ai.Fl
open Go Go.Ai
set_option linter.unusedVariables false
set_option linter.unusedSimpArgs false

def mapL (σ : Opd → Opd) : List Opd → List Opd
  | [] => []
  | x :: xs => σ x :: mapL σ xs
def mapOp (σ : Opd → Opd) : Option Opd → Option Opd
  | none => none
  | some x => some (σ x)
def mapP (σ : Opd → Opd) : List (Nat × Nat × Opd) → List (Nat × Nat × Opd)
  | [] => []
  | (a, b, x) :: r => (a, b, σ x) :: mapP σ r
def mapE (σ : Opd → Opd) : List (Nat × Opd) → List (Nat × Opd)
  | [] => []
  | (a, x) :: r => (a, σ x) :: mapE σ r
def mapX (σ : Opd → Opd) : IOp → IOp
  | .mv x => .mv (σ x) | .pick a b c => .pick (σ a) (σ b) (σ c) | .alloc h zs => .alloc h zs | .box h x => .box h (σ x) | .build zs ps => .build zs (mapP σ ps)
  | .bslice a b c ps => .bslice a b c (mapE σ ps) | .load n g x => .load n g (σ x) | .store n a x => .store n (σ a) (σ x) | .nilc x => .nilc (σ x) | .bin o x y => .bin o (σ x) (σ y)
  | .eq a b c x y => .eq a b c (σ x) (σ y) | .un o x => .un o (σ x) | .conv k x => .conv k (σ x) | .mki t x => .mki t (σ x) | .mkf f a b => .mkf f (mapL σ a) (mapL σ b) | .mkm => .mkm
  | .mks a b c x y => .mks a b c (σ x) (σ y) | .slice sz x a b c => .slice sz (σ x) (mapOp σ a) (mapOp σ b) (mapOp σ c) | .fa o x => .fa o (σ x) | .fld a b c x => .fld a b c (σ x)
  | .ia s x i => .ia s (σ x) (σ i) | .ix x i => .ix (σ x) (σ i) | .look a b x i o => .look a b (σ x) (σ i) o | .mput a m k x => .mput a (σ m) (σ k) (σ x) | .rng x => .rng (σ x) | .nxt x => .nxt (σ x)
  | .tas t z x => .tas t z (σ x) | .ext x i => .ext (σ x) i | .call f xs => .call f (mapL σ xs) | .callv x xs => .callv (σ x) (mapL σ xs) | .app m a b c x y => .app m a b c (σ x) (σ y)
  | .len k x => .len k (σ x) | .cap x => .cap (σ x) | .clear a b x => .clear a b (σ x) | .min xs => .min (mapL σ xs) | .bad => .bad
/-- the operands of which an address is asked -/
def adrOp : IOp → Bool
  | .load .. | .store .. | .fa .. => true
  | _ => false

section
variable {X : Env} {st st' : St} {fr fr' : T V} {log : List Tc} {v : V} {call : CallF} {yield : Nat → List V → St → R} {σ : Opd → Opd}
def SigOk (σ : Opd → Opd) (fr fr' : T V) (ts : List Nat) : Prop := (∀ t ∈ ts, ev fr' (σ (.t t)) = ev fr (.t t)) ∧ (∀ v, σ (.c v) = .c v) ∧ (∀ i, σ (.g i) = .g i) ∧ (∀ i, σ (.f i) = .f i)
theorem SigOk.mono {ts us : List Nat} (h : SigOk σ fr fr' ts) (hs : ∀ t ∈ us, t ∈ ts) : SigOk σ fr fr' us := ⟨fun t ht => h.1 t (hs t ht), h.2⟩
theorem ev_sig {x : Opd} (h : SigOk σ fr fr' (opdT x)) : ev fr' (σ x) = ev fr x := by
  cases x with
  | t i => exact h.1 i (by simp [opdT])
  | c v => rw [h.2.1]; rfl
  | g i => rw [h.2.2.1]; rfl
  | f i => rw [h.2.2.2]; rfl
theorem evs_sig : ∀ {xs : List Opd}, SigOk σ fr fr' (opdsT xs) → evs fr' (mapL σ xs) = evs fr xs
  | [], h => rfl
  | x :: xs, h => by
    simp only [mapL, evs]
    rw [ev_sig (h.mono fun t ht => by simp [opdsT, ht]), evs_sig (h.mono fun t ht => by simp [opdsT, ht])]
theorem parts_sig : ∀ {ps : List (Nat × Nat × Opd)}, SigOk σ fr fr' (opdsT (ps.map (·.2.2))) → parts fr' (mapP σ ps) = parts fr ps
  | [], h => rfl
  | (a, b, x) :: xs, h => by
    simp only [mapP, parts]
    rw [ev_sig (h.mono fun t ht => by simp [opdsT, ht]), parts_sig (h.mono fun t ht => by simp only [List.map_cons, opdsT, List.mem_append]; exact .inr ht)]
theorem partsE_sig {sz : Nat} : ∀ {ps : List (Nat × Opd)}, SigOk σ fr fr' (opdsT (ps.map (·.2))) → partsE fr' sz (mapE σ ps) = partsE fr sz ps
  | [], h => rfl
  | (a, x) :: xs, h => by
    simp only [mapE, partsE]
    rw [ev_sig (h.mono fun t ht => by simp [opdsT, ht]), partsE_sig (h.mono fun t ht => by simp only [List.map_cons, opdsT, List.mem_append]; exact .inr ht)]
theorem optN_sig {x : Option Opd} (h : SigOk σ fr fr' (optT x)) : optN fr' (mapOp σ x) = optN fr x := by
  cases x with
  | none => rfl
  | some x => simp only [mapOp, optN]; rw [ev_sig h]

theorem runOp_sig {o : IOp} (hs : adrOp o = false) (h : SigOk σ fr fr' o.tmps) : runOp X call yield fr' st (mapX σ o) = refr fr' (runOp X call yield fr st o) := by
  cases o <;> simp only [IOp.tmps] at h <;> simp only [mapX, runOp]
  case mv x => rw [ev_sig h]; exact (v1_refr _).1
  case pick c a b =>
    rw [ev_sig (x := c) (h.mono fun t ht => by simp [ht]), ev_sig (x := a) (h.mono fun t ht => by simp [ht]), ev_sig (x := b) (h.mono fun t ht => by simp [ht])]
    split
    · exact (v1_refr _).1
    · exact (v1_refr _).1
    · rfl
  case alloc here zs => cases here <;> rfl
  case box here x =>
    rw [ev_sig h]
    split
    · split
      · cases here <;> rfl
      · rfl
    · rfl
  case build zs ps =>
    rw [parts_sig h]
    split
    · split <;> rfl
    · rfl
  case bslice sz len zs ps =>
    rw [partsE_sig h]
    simp only [Bool.cond_eq_ite]
    repeat' split
    all_goals rfl
  case load n agg a => simp [adrOp] at hs
  case store => simp [adrOp] at hs
  case fa off x => simp [adrOp] at hs
  case nilc x => rw [ev_sig h]; repeat' split
                 all_goals rfl
  case bin op x y =>
    rw [ev_sig (x := x) (h.mono fun t ht => by simp [ht]), ev_sig (x := y) (h.mono fun t ht => by simp [ht])]
    split
    · exact (v1_refr _).1
    · rfl
  case eq neg cst cls x y =>
    rw [ev_sig (x := x) (h.mono fun t ht => by simp [ht]), ev_sig (x := y) (h.mono fun t ht => by simp [ht])]
    repeat' split
    all_goals rfl
  case un op x => rw [ev_sig h]; split
                  · exact (v1_refr _).1
                  · rfl
  case conv k x => rw [ev_sig h]; split
                   · exact (v1_refr _).1
                   · rfl
  case mki t x => rw [ev_sig h]; split <;> rfl
  case mkf f a b =>
    rw [evs_sig (xs := a) (h.mono fun t ht => by simp [ht]), evs_sig (xs := b) (h.mono fun t ht => by simp [ht])]
    split <;> rfl
  case mkm => rfl
  case mks sz bytes zs len cap =>
    rw [ev_sig (x := len) (h.mono fun t ht => by simp [ht]), ev_sig (x := cap) (h.mono fun t ht => by simp [ht])]
    simp only [Bool.cond_eq_ite]
    repeat' split
    all_goals rfl
  case slice sz x lo hi mx =>
    rw [ev_sig (x := x) (h.mono fun t ht => by simp [ht]), optN_sig (x := lo) (h.mono fun t ht => by simp [ht]), optN_sig (x := hi) (h.mono fun t ht => by simp [ht]), optN_sig (x := mx) (h.mono fun t ht => by simp [ht])]
    split
    · exact (v1_refr _).1
    · rfl
  case fld off n agg x => rw [ev_sig h]; split
                          · exact (v1_refr _).1
                          · rfl
  case ia sz x i =>
    rw [ev_sig (x := x) (h.mono fun t ht => by simp [ht]), ev_sig (x := i) (h.mono fun t ht => by simp [ht])]
    split
    · split
      · exact (v1_refr _).1
      · rfl
    · rfl
  case ix x i =>
    rw [ev_sig (x := x) (h.mono fun t ht => by simp [ht]), ev_sig (x := i) (h.mono fun t ht => by simp [ht])]
    simp only [Bool.cond_eq_ite]
    repeat' split
    all_goals rfl
  case look ks z x i ok =>
    rw [ev_sig (x := x) (h.mono fun t ht => by simp [ht]), ev_sig (x := i) (h.mono fun t ht => by simp [ht])]
    simp only [Bool.cond_eq_ite]
    repeat' split
    all_goals rfl
  case mput ks m k x =>
    rw [ev_sig (x := m) (h.mono fun t ht => by simp [ht]), ev_sig (x := k) (h.mono fun t ht => by simp [ht]), ev_sig (x := x) (h.mono fun t ht => by simp [ht])]
    simp only [Bool.cond_eq_ite]
    repeat' split
    all_goals rfl
  case rng x => rw [ev_sig h]; split <;> rfl
  case nxt x => rw [ev_sig h]; repeat' split
                all_goals rfl
  case tas t z x =>
    rw [ev_sig h]
    simp only [Bool.cond_eq_ite]
    repeat' split
    all_goals rfl
  case ext x i => rw [ev_sig h]; split
                  · exact (v1_refr _).1
                  · rfl
  case call f args => rw [evs_sig h]; split
                      · exact (r1_refr _).1
                      · rfl
  case callv x args =>
    rw [ev_sig (x := x) (h.mono fun t ht => by simp [ht]), evs_sig (xs := args) (h.mono fun t ht => by simp [ht])]
    split
    · exact (r1_refr _).1
    · rfl
  case app made sz bytes zs a b =>
    rw [ev_sig (x := a) (h.mono fun t ht => by simp [ht]), ev_sig (x := b) (h.mono fun t ht => by simp [ht])]
    split
    · exact (r1_refr _).1
    · rfl
  case len k x => rw [ev_sig h]; repeat' split
                  all_goals rfl
  case cap x => rw [ev_sig h]; repeat' split
                all_goals rfl
  case clear sz zs x =>
    rw [ev_sig h]
    simp only [Bool.cond_eq_ite]
    repeat' split
    all_goals rfl
  case min xs => rw [evs_sig h]; split
                 · exact (v1_refr _).1
                 · rfl
  case bad => rfl
end

/-- the operands' values -/
noncomputable def sig (f : F) : Opd → Opd
  | .t i => match gt i f with
    | some v => bif plain v then .c v else .t i
    | none => .t i
  | x => x
def small (o : IOp) : Bool := o.tmps.all fun t => Nat.blt t 256
theorem sig_ok {f : F} {fr : T V} (h : FRel f fr) {o : IOp} (hs : small o = true) : SigOk (sig f) fr .lf o.tmps := by
  refine ⟨fun t ht => ?_, fun v => rfl, fun i => rfl, fun i => rfl⟩
  have hlt : t < 256 := bltT (List.all_eq_true.1 hs t ht)
  simp only [sig, ev]
  rw [h t hlt]
  cases hg : gt t f with
  | none => simp [ev, T.get]
  | some v =>
    cases hp : plain v <;> simp [ev, T.get, hp]
/-- an operation of any kind but those of addresses -/
theorem gen_ok {f : F} {fr : T V} (h : FRel f fr) {o : IOp} (ha : adrOp o = false) (hs : small o = true) {X : Env} {call : CallF} {yield : Nat → List V → St → R} {st st' : St} {v : V} {log : List Tc} {fr1 : T V}
    (hr : runOp X call yield .lf st (mapX (sig f) o) = some (v, st', log, fr1)) : runOp X call yield fr st o = some (v, st', log, fr) := by
  have h1 := runOp_sig (X := X) (call := call) (yield := yield) (st := st) ha (sig_ok h hs)
  rw [h1] at hr
  have hst : isStore o = false := by cases o <;> simp_all [adrOp, isStore]
  have h2 := (runOp_refr (X := X) (call := call) (yield := yield) (st := st) (fr := fr) (fr' := fr) hst (fun t _ => ⟨rfl, fun _ _ _ _ => rfl⟩)).2
  cases hq : runOp X call yield fr st o with
  | none => rw [hq] at hr; simp [refr] at hr
  | some q =>
    obtain ⟨a, b, c, d⟩ := q
    rw [hq] at hr h2
    simp [refr] at hr h2
    obtain ⟨rfl, rfl, rfl, _⟩ := hr
    rw [h2]
end Go.Ai.Fl
/-! The fast layer: more operations that give values. -/
namespace Go.Ai.Fl
open Go Go.Ai
set_option linter.unusedVariables false
set_option linter.unusedSimpArgs false

noncomputable def onNat (v : V) (k : Nat → Rho) : Rho :=
  V.rec (motive_1 := fun _ => (Nat → Rho) → Rho) (motive_2 := fun _ => PUnit) (motive_3 := fun _ => PUnit) (motive_4 := fun _ => PUnit)
    (fun _ _ => none)
    (fun kd n k => Bool.rec (motive := fun _ => Rho) none (Int.rec (motive := fun _ => (Nat → Rho) → Rho) (fun m k => k m) (fun _ _ => none) n k) (Nat.beq (kNum kd) 3))
    (fun _ _ => none)
    (fun _ => none)
    (fun _ _ _ => none)
    (fun _ _ => none)
    (fun _ _ _ => none)
    (fun _ => none)
    (fun _ => none)
    (fun _ => none)
    (fun _ _ _ _ _ => none)
    (fun _ _ _ _ _ => none)
    (fun _ _ => none)
    (fun _ _ _ _ _ => none)
    (fun _ => none)
    (fun _ _ => none)
    (fun _ => none)
    (fun _ _ _ _ _ _ => none)
    (fun _ => none)
    (fun _ _ _ _ => none)
    (fun _ _ _ => none)
    (fun _ _ _ => none)
    (fun _ => none)
    (fun _ _ _ _ => none)
    (fun _ _ _ _ => none)
    PUnit.unit (fun _ _ _ _ => PUnit.unit) PUnit.unit (fun _ _ _ _ _ _ => PUnit.unit) PUnit.unit (fun _ _ => PUnit.unit) v k

theorem onNat_inv {v : V} {k : Nat → Rho} {a : V × St} (h : onNat v k = some a) : ∃ m : Nat, v = .int .i64 (.ofNat m) ∧ k m = some a := by
  cases v <;> (try exact nomatch (show (none : Rho) = some a from h))
  rename_i kd n
  have h' : Bool.rec (motive := fun _ => Rho) none (Int.rec (motive := fun _ => (Nat → Rho) → Rho) (fun m k => k m) (fun _ _ => none) n k) (Nat.beq (kNum kd) 3) = some a := h
  cases hb : Nat.beq (kNum kd) 3 with
  | false => rw [hb] at h'; cases h'
  | true =>
    rw [hb] at h'
    have hk : kd = .i64 := kNum_inj (k' := .i64) hb
    subst hk
    cases n with
    | ofNat m => exact ⟨m, rfl, h'⟩
    | negSucc m => exact nomatch (show (none : Rho) = some a from h')
section
/-! ### addresses -/
noncomputable def faC (slot o id : Nat) (k : KV) (id' : Nat) (_ : List V) : Rho := onB (Nat.beq id id') (k (.der slot o id)) none
noncomputable def faB (slot o id : Nat) (k : KV) (lv : V) : Rho := onLoc lv (faC slot o id k)
noncomputable def slotK (slot : Nat) (f : F) (k : KV) : Rho := onB (Nat.blt slot 256) (onSome (gt slot f) k) none
theorem slotK_inv {slot : Nat} {f : F} {fr : T V} (hf : FRel f fr) {k : KV} {a : V × St} (h : slotK slot f k = some a) : slot < 256 ∧ ∃ v, fr.get slot = some v ∧ k v = some a := by
  rcases onB_inv h with ⟨h1, h2⟩ | ⟨_, h2⟩
  · have hlt := bltT h1
    obtain ⟨v, h3, h4⟩ := onSome_inv h2
    exact ⟨hlt, v, by rw [hf slot hlt, h3], h4⟩
  · cases h2

noncomputable def faA (v : V) (i : Nat) (o : Nat) (f : F) (k : KV) : Rho :=
  V.rec (motive_1 := fun _ => Nat → Nat → F → KV → Rho) (motive_2 := fun _ => PUnit) (motive_3 := fun _ => PUnit) (motive_4 := fun _ => PUnit)
    (fun _ _ _ _ _ => none)
    (fun _ _ _ _ _ _ => none)
    (fun _ _ _ _ _ => none)
    (fun _ _ _ _ => none)
    (fun l off _ o _ k => nrmN (off + o) (fun off => k (.ptr l off)))
    (fun _ _ _ _ _ => none)
    (fun cs _ _ o _ k => k (.eptr (dropF cs o)))
    (fun _ _ _ _ => none)
    (fun _ _ _ _ => none)
    (fun _ _ _ _ => none)
    (fun _ _ _ _ _ _ _ _ => none)
    (fun _ _ _ _ _ _ _ _ => none)
    (fun _ _ _ _ _ => none)
    (fun _ _ _ _ _ _ _ _ => none)
    (fun _ _ _ _ => none)
    (fun _ _ _ _ _ => none)
    (fun _ _ _ _ => none)
    (fun _ _ _ _ _ _ _ _ _ => none)
    (fun _ _ _ _ => none)
    (fun _ _ _ _ _ _ _ => none)
    (fun _ _ _ _ _ _ => none)
    (fun _ _ _ _ _ _ => none)
    (fun _ _ _ _ => none)
    (fun id _ _ i o _ k => k (.der i o id))
    (fun slot off id _ o f k => slotK slot f (faB slot (off + o) id k))
    PUnit.unit (fun _ _ _ _ => PUnit.unit) PUnit.unit (fun _ _ _ _ _ _ => PUnit.unit) PUnit.unit (fun _ _ => PUnit.unit) v i o f k

noncomputable def faV (x : X2) (i o : Nat) (f : F) (k : KV) : Rho := onSome (x f) (fun v => faA v i o f k)
theorem faV_ok (i o : Nat) : VOk (faV (cX (.t i)) i o) (.fa o (.t i)) := ⟨rfl, fun f fr k a hf h => by
  obtain ⟨v, h0, h2⟩ := onSome_inv h
  obtain ⟨hi, h1⟩ := cXt_inv hf h0
  cases v <;> (try exact nomatch (show (none : Rho) = some a from h2))
  · rename_i l off
    have h2' : nrmN (off + o) (fun off => k (.ptr l off)) = some a := h2
    rw [nrmN_eq] at h2'
    exact ⟨_, h2', rfl, fun X c y st => ⟨[], by simp [runOp, runFa, addr, h1, fieldA, v1]⟩⟩
  · rename_i cs
    have h2' : k (.eptr (dropF cs o)) = some a := h2
    rw [dropF_eq] at h2'
    exact ⟨_, h2', rfl, fun X c y st => ⟨[], by simp [runOp, runFa, addr, h1, fieldA, v1]⟩⟩
  · exact ⟨_, h2, rfl, fun X c y st => ⟨[], by simp [runOp, runFa, addr, h1]⟩⟩
  · rename_i slot off id
    obtain ⟨hs, lv, h3, h4⟩ := slotK_inv hf (show slotK slot f (faB slot (off + o) id k) = some a from h2)
    obtain ⟨id', cs, rfl, h5⟩ := onLoc_inv h4
    rcases onB_inv h5 with ⟨h6, h7⟩ | ⟨_, h7⟩
    · exact ⟨_, h7, rfl, fun X c y st => ⟨[], by simp [runOp, runFa, addr, h1, h3, h6]⟩⟩
    · cases h7⟩

noncomputable def nilA (v : V) (k : KV) : Rho :=
  V.rec (motive_1 := fun _ => KV → Rho) (motive_2 := fun _ => PUnit) (motive_3 := fun _ => PUnit) (motive_4 := fun _ => PUnit)
    (fun _ _ => none)
    (fun _ _ _ => none)
    (fun _ _ => none)
    (fun _ => none)
    (fun l off k => k (.ptr l off))
    (fun _ _ => none)
    (fun cs _ k => k (.eptr cs))
    (fun _ => none)
    (fun _ => none)
    (fun _ => none)
    (fun _ _ _ _ _ => none)
    (fun _ _ _ _ _ => none)
    (fun _ _ => none)
    (fun _ _ _ _ _ => none)
    (fun _ => none)
    (fun _ _ => none)
    (fun _ => none)
    (fun _ _ _ _ _ _ => none)
    (fun _ => none)
    (fun _ _ _ _ => none)
    (fun _ _ _ => none)
    (fun _ _ _ => none)
    (fun _ => none)
    (fun _ _ _ _ => none)
    (fun _ _ _ _ => none)
    PUnit.unit (fun _ _ _ _ => PUnit.unit) PUnit.unit (fun _ _ _ _ _ _ => PUnit.unit) PUnit.unit (fun _ _ => PUnit.unit) v k

noncomputable def nilV (x : X2) (f : F) (k : KV) : Rho := onSome (x f) (fun v => nilA v k)
theorem nilV_ok (x : Opd) : VOk (nilV (cX x)) (.nilc x) := ⟨rfl, fun f fr k a hf h => by
  obtain ⟨v, h1, h2⟩ := onSome_inv h
  cases v <;> (try exact nomatch (show (none : Rho) = some a from h2))
  · exact ⟨_, h2, rfl, fun X c y st => ⟨[], by simp [runOp, cX_spec hf h1 rfl]⟩⟩
  · exact ⟨_, h2, rfl, fun X c y st => ⟨[], by simp [runOp, cX_spec hf h1 rfl]⟩⟩⟩

/-! ### cells -/

noncomputable def cellsF (v : V) : List V :=
  V.rec (motive_1 := fun _ => List V) (motive_2 := fun _ => PUnit) (motive_3 := fun _ => PUnit) (motive_4 := fun _ => PUnit)
    (fun b => [(.bool b)])
    (fun kd n => [(.int kd n)])
    (fun n => [(.str n)])
    ([(.nilp)])
    (fun l off => [(.ptr l off)])
    (fun g => [(.gptr g)])
    (fun cs _ => [(.eptr cs)])
    ([(.nils)])
    ([(.emp)])
    ([(.non0)])
    (fun sz xs tight _ => [(.sl sz xs tight)])
    (fun sz n t _ => [(.big sz n t)])
    (fun n => [(.bytes n)])
    (fun sz l off len => [(.row sz l off len)])
    ([(.nilm)])
    (fun l => [(.map l)])
    ([(.nilf)])
    (fun fn first cap _ _ => [(.fn fn first cap)])
    ([(.nili)])
    (fun t v _ => [(.iface t v)])
    (fun cs _ => cs)
    (fun vs _ => [(.tuple vs)])
    ([(.junk)])
    (fun id cs _ => [(.loc id cs)])
    (fun slot off id => [(.der slot off id)])
    PUnit.unit (fun _ _ _ _ => PUnit.unit) PUnit.unit (fun _ _ _ _ _ _ => PUnit.unit) PUnit.unit (fun _ _ => PUnit.unit) v 

theorem cellsF_eq (v : V) : cellsF v = v.cells := by cases v <;> rfl
noncomputable def cutK (cs : List V) (off n : Nat) (agg : Bool) (k : KV) : Rho := Bool.rec (motive := fun _ => Rho) (nthK cs off k) (takeK n (dropF cs off) (fun r => k (.agg r))) agg
theorem cutK_inv {cs : List V} {off n : Nat} {agg : Bool} (hn : (agg || Nat.beq n 1) = true) {k : KV} {a : V × St} (h : cutK cs off n agg k = some a) : ∃ v, cut cs off n agg = some v ∧ k v = some a := by
  cases agg with
  | true =>
    obtain ⟨r, h1, h2⟩ := takeK_inv (show takeK n (dropF cs off) (fun r => k (.agg r)) = some a from h)
    rw [dropF_eq] at h1
    exact ⟨_, by simp [cut, h1, whole], h2⟩
  | false =>
    have hn1 : n = 1 := beqT (by simpa using hn)
    subst hn1
    obtain ⟨v, h1, h2, h3⟩ := nthK_inv (show nthK cs off k = some a from h)
    have : takes (v :: drops cs (off + 1)) 1 = some [v] := by cases drops cs (off + 1) <;> rfl
    exact ⟨v, by simp [cut, h2, this, whole], h3⟩
noncomputable def fldV (off n : Nat) (agg : Bool) (x : X2) (f : F) (k : KV) : Rho := onSome (x f) (fun v => onAgg v (fun cs => cutK cs off n agg (fun v => onPl v k)))
theorem fldV_ok (off n : Nat) (agg : Bool) (hn : (agg || Nat.beq n 1) = true) (x : Opd) : VOk (fldV off n agg (cX x)) (.fld off n agg x) := ⟨rfl, fun f fr k a hf h => by
  obtain ⟨v, h1, h2⟩ := onSome_inv h
  obtain ⟨cs, rfl, h3⟩ := onAgg_inv h2
  obtain ⟨u, h4, h5⟩ := cutK_inv hn h3
  obtain ⟨h6, h7⟩ := onPl_inv h5
  exact ⟨u, h7, plain_notLoc h6, fun X c y st => ⟨[], by
    have e : partV off n agg (.agg cs) = some u := h4
    simp only [runOp, cX_spec hf h1 rfl, e, v1]⟩⟩⟩
noncomputable def extV (x : X2) (i : Nat) (f : F) (k : KV) : Rho := onSome (x f) (fun v => onTuple v (fun vs => nthK vs i (fun v => onPl v k)))
theorem extV_ok (x : Opd) (i : Nat) : VOk (extV (cX x) i) (.ext x i) := ⟨rfl, fun f fr k a hf h => by
  obtain ⟨v, h1, h2⟩ := onSome_inv h
  obtain ⟨vs, rfl, h3⟩ := onTuple_inv h2
  obtain ⟨u, h4, _, h5⟩ := nthK_inv h3
  obtain ⟨h6, h7⟩ := onPl_inv h5
  exact ⟨u, h7, plain_notLoc h6, fun X c y st => ⟨[], by simp [runOp, cX_spec hf h1 rfl, h4, v1]⟩⟩⟩
noncomputable def ixV (x i : X2) (f : F) (k : KV) : Rho := onSome (x f) (fun v => onStr v (fun n => onSome (i f) (fun iv => onNat iv (fun i => onB (Nat.blt i (slenF n)) (nrmN (satF n i) (fun c => k (.int .u8 (.ofNat c)))) none))))
theorem ixV_ok (x i : Opd) : VOk (ixV (cX x) (cX i)) (.ix x i) := ⟨rfl, fun f fr k a hf h => by
  obtain ⟨v, h1, h2⟩ := onSome_inv h
  obtain ⟨n, rfl, h3⟩ := onStr_inv h2
  obtain ⟨iv, h4, h5⟩ := onSome_inv h3
  obtain ⟨m, rfl, h6⟩ := onNat_inv h5
  rcases onB_inv h6 with ⟨h7, h8⟩ | ⟨_, h8⟩
  · have e1 := cX_spec hf h1 rfl
    have e2 := cX_spec hf h4 rfl
    rw [nrmN_eq, satF_eq] at h8
    rw [slenF_eq] at h7
    exact ⟨_, h8, rfl, fun X c y st => ⟨[], by simp only [runOp, e1, e2, nat?, h7, cond_true]⟩⟩
  · cases h8⟩

noncomputable def iaA (v : V) (es : Nat) (i : Nat) (k : KV) : Rho :=
  V.rec (motive_1 := fun _ => Nat → Nat → KV → Rho) (motive_2 := fun _ => PUnit) (motive_3 := fun _ => PUnit) (motive_4 := fun _ => PUnit)
    (fun _ _ _ _ => none)
    (fun _ _ _ _ _ => none)
    (fun _ _ _ _ => none)
    (fun _ _ _ => none)
    (fun _ _ _ _ _ => none)
    (fun _ _ _ _ => none)
    (fun _ _ _ _ _ => none)
    (fun _ _ _ => none)
    (fun _ _ _ => none)
    (fun _ _ _ => none)
    (fun sz xs _ _ es i k => onB (Nat.beq sz es) (nthK xs i (fun v => k (.eptr (cellsF v)))) none)
    (fun sz n t _ es i k => onB (Nat.beq sz es) (onB (Nat.blt i n) (onSome (getF t i) (fun v => k (.eptr (cellsF v)))) none) none)
    (fun n es i k => onB (Nat.beq 1 es) (onB (Nat.blt i (slenF n)) (nrmN (satF n i) (fun c => k (.eptr [.int .u8 (.ofNat c)]))) none) none)
    (fun sz l off len es i k => onB (Nat.beq sz es) (onB (Nat.blt i len) (nrmN (off + i * es) (fun o => k (.ptr l o))) none) none)
    (fun _ _ _ => none)
    (fun _ _ _ _ => none)
    (fun _ _ _ => none)
    (fun _ _ _ _ _ _ _ _ => none)
    (fun _ _ _ => none)
    (fun _ _ _ _ _ _ => none)
    (fun _ _ _ _ _ => none)
    (fun _ _ _ _ _ => none)
    (fun _ _ _ => none)
    (fun _ _ _ _ _ _ => none)
    (fun _ _ _ _ _ _ => none)
    PUnit.unit (fun _ _ _ _ => PUnit.unit) PUnit.unit (fun _ _ _ _ _ _ => PUnit.unit) PUnit.unit (fun _ _ => PUnit.unit) v es i k

theorem iaA_inv {v : V} {es i : Nat} {k : KV} {a : V × St} (h : iaA v es i k = some a) : ∃ u, indexA es v i = some u ∧ isLocV u = false ∧ plain v = true ∧ k u = some a := by
  cases v <;> (try exact nomatch (show (none : Rho) = some a from h))
  · rename_i sz xs tg
    rcases onB_inv (show onB (Nat.beq sz es) (nthK xs i (fun v => k (.eptr (cellsF v)))) none = some a from h) with ⟨h1, h2⟩ | ⟨_, h2⟩
    · obtain ⟨u, h3, _, h4⟩ := nthK_inv h2
      rw [cellsF_eq] at h4
      exact ⟨_, by simp only [indexA, h1, cond_true, h3], rfl, rfl, h4⟩
    · cases h2
  · rename_i sz n t
    rcases onB_inv (show onB (Nat.beq sz es) (onB (Nat.blt i n) (onSome (getF t i) (fun v => k (.eptr (cellsF v)))) none) none = some a from h) with ⟨h1, h2⟩ | ⟨_, h2⟩
    · rcases onB_inv h2 with ⟨h3, h4⟩ | ⟨_, h4⟩
      · obtain ⟨u, h5, h6⟩ := onSome_inv h4
        rw [getF_eq] at h5
        rw [cellsF_eq] at h6
        exact ⟨_, by simp only [indexA, h1, cond_true, h3, h5], rfl, rfl, h6⟩
      · cases h4
    · cases h2
  · rename_i n
    rcases onB_inv (show onB (Nat.beq 1 es) (onB (Nat.blt i (slenF n)) (nrmN (satF n i) (fun c => k (.eptr [.int .u8 (.ofNat c)]))) none) none = some a from h) with ⟨h1, h2⟩ | ⟨_, h2⟩
    · rcases onB_inv h2 with ⟨h3, h4⟩ | ⟨_, h4⟩
      · rw [nrmN_eq, satF_eq] at h4; rw [slenF_eq] at h3; exact ⟨_, by simp only [indexA, h1, cond_true, h3], rfl, rfl, h4⟩
      · cases h4
    · cases h2
  · rename_i sz l off len
    rcases onB_inv (show onB (Nat.beq sz es) (onB (Nat.blt i len) (nrmN (off + i * es) (fun o => k (.ptr l o))) none) none = some a from h) with ⟨h1, h2⟩ | ⟨_, h2⟩
    · rcases onB_inv h2 with ⟨h3, h4⟩ | ⟨_, h4⟩
      · rw [nrmN_eq] at h4; exact ⟨_, by simp only [indexA, h1, cond_true, h3], rfl, rfl, h4⟩
      · cases h4
    · cases h2
noncomputable def iaV (es : Nat) (x i : X2) (f : F) (k : KV) : Rho := onSome (i f) (fun iv => onNat iv (fun i => onSome (x f) (fun v => iaA v es i k)))
theorem iaV_ok (es : Nat) (x i : Opd) : VOk (iaV es (cX x) (cX i)) (.ia es x i) := ⟨rfl, fun f fr k a hf h => by
  obtain ⟨iv, h1, h2⟩ := onSome_inv h
  obtain ⟨m, rfl, h3⟩ := onNat_inv h2
  obtain ⟨v, h4, h5⟩ := onSome_inv h3
  obtain ⟨u, h6, h7, h8, h9⟩ := iaA_inv h5
  have e1 := cX_spec hf h1 rfl
  have e2 := cX_spec hf h4 h8
  exact ⟨u, h9, h7, fun X c y st => ⟨[], by simp only [runOp, e1, e2, nat?, h6, v1]⟩⟩⟩

noncomputable def lenA (v : V) (k : Nat → Rho) : Rho :=
  V.rec (motive_1 := fun _ => (Nat → Rho) → Rho) (motive_2 := fun _ => PUnit) (motive_3 := fun _ => PUnit) (motive_4 := fun _ => PUnit)
    (fun _ _ => none)
    (fun _ _ _ => none)
    (fun _ _ => none)
    (fun _ => none)
    (fun _ _ _ => none)
    (fun _ _ => none)
    (fun _ _ _ => none)
    (fun k => k 0)
    (fun k => k 0)
    (fun k => k 0)
    (fun _ xs _ _ k => nrmN (lenF xs) k)
    (fun _ n _ _ k => k n)
    (fun n k => nrmN (slenF n) k)
    (fun _ _ _ len k => k len)
    (fun _ => none)
    (fun _ _ => none)
    (fun _ => none)
    (fun _ _ _ _ _ _ => none)
    (fun _ => none)
    (fun _ _ _ _ => none)
    (fun _ _ _ => none)
    (fun _ _ _ => none)
    (fun _ => none)
    (fun _ _ _ _ => none)
    (fun _ _ _ _ => none)
    PUnit.unit (fun _ _ _ _ => PUnit.unit) PUnit.unit (fun _ _ _ _ _ _ => PUnit.unit) PUnit.unit (fun _ _ => PUnit.unit) v k

noncomputable def len1V (x : X2) (f : F) (k : KV) : Rho := onSome (x f) (fun v => lenA v (fun n => k (.int .i64 (.ofNat n))))
theorem len1V_ok (x : Opd) : VOk (len1V (cX x)) (.len 1 x) := ⟨rfl, fun f fr k a hf h => by
  obtain ⟨v, h1, h2⟩ := onSome_inv h
  have key : ∃ n, plain v = true ∧ lenV v = some n ∧ (∀ s, v ≠ .str s) ∧ k (.int .i64 (.ofNat n)) = some a := by
    cases v <;> (try exact nomatch (show (none : Rho) = some a from h2))
    · exact ⟨0, rfl, rfl, (fun _ e => by cases e), h2⟩
    · exact ⟨0, rfl, rfl, (fun _ e => by cases e), h2⟩
    · exact ⟨0, rfl, rfl, (fun _ e => by cases e), h2⟩
    · rename_i sz xs tg
      have h3 : nrmN (lenF xs) (fun n => k (.int .i64 (.ofNat n))) = some a := h2
      rw [nrmN_eq, lenF_eq] at h3
      exact ⟨_, rfl, rfl, (fun _ e => by cases e), h3⟩
    · exact ⟨_, rfl, rfl, (fun _ e => by cases e), h2⟩
    · rename_i n
      have h3 : nrmN (slenF n) (fun n => k (.int .i64 (.ofNat n))) = some a := h2
      rw [nrmN_eq, slenF_eq] at h3
      exact ⟨_, rfl, rfl, (fun _ e => by cases e), h3⟩
    · exact ⟨_, rfl, rfl, (fun _ e => by cases e), h2⟩
  obtain ⟨n, h3, h4, h5, h6⟩ := key
  have e1 := cX_spec hf h1 h3
  refine ⟨_, h6, rfl, fun X c y st => ⟨[], ?_⟩⟩
  have : lenC st 1 v = some (n, []) := by
    cases v <;> first | exact absurd rfl (h5 _) | (simp only [lenC]; rw [h4])
  simp only [runOp, e1, this]⟩
noncomputable def len0V (x : X2) (f : F) (k : KV) : Rho := onSome (x f) (fun v => onStr v (fun n => k (.int .i64 (.ofNat (slenF n)))))
theorem len0V_ok (x : Opd) : VOk (len0V (cX x)) (.len 0 x) := ⟨rfl, fun f fr k a hf h => by
  obtain ⟨v, h1, h2⟩ := onSome_inv h
  obtain ⟨n, rfl, h3⟩ := onStr_inv h2
  have h3 : k (.int .i64 (.ofNat (slenF n))) = some a := h3
  rw [slenF_eq] at h3
  exact ⟨_, h3, rfl, fun X c y st => ⟨[], by simp [runOp, cX_spec hf h1 rfl, lenC]⟩⟩⟩
noncomputable def convIV (kd : IntKind) (x : X2) (f : F) (k : KV) : Rho := onSome (x f) (fun v => onInt v (fun _ n => nrmI (wrapF kd n) (fun n => k (.int kd n))))
theorem convIV_ok (kd : IntKind) (x : Opd) : VOk (convIV kd (cX x)) (.conv (.int kd) x) := ⟨rfl, fun f fr k a hf h => by
  obtain ⟨v, h1, h2⟩ := onSome_inv h
  obtain ⟨k0, n, rfl, h3⟩ := onInt_inv h2
  have h3 : nrmI (wrapF kd n) (fun n => k (.int kd n)) = some a := h3
  rw [nrmI_eq, wrapF_eq] at h3
  exact ⟨_, h3, rfl, fun X c y st => ⟨[], by simp [runOp, cX_spec hf h1 rfl, convV, v1]⟩⟩⟩
noncomputable def toBytesV (x : X2) (f : F) (k : KV) : Rho := onSome (x f) (fun v => onStr v (fun n => k (.bytes n)))
theorem toBytesV_ok (x : Opd) : VOk (toBytesV (cX x)) (.conv .toBytes x) := ⟨rfl, fun f fr k a hf h => by
  obtain ⟨v, h1, h2⟩ := onSome_inv h
  obtain ⟨n, rfl, h3⟩ := onStr_inv h2
  exact ⟨_, h3, rfl, fun X c y st => ⟨[], by simp [runOp, cX_spec hf h1 rfl, convV, v1]⟩⟩⟩
noncomputable def mkiV (t : TypeId) (x : X2) (f : F) (k : KV) : Rho := evK x f (fun v => k (.iface t v))
theorem mkiV_ok (t : TypeId) (x : Opd) : VOk (mkiV t (cX x)) (.mki t x) := ⟨rfl, fun f fr k a hf h => by
  obtain ⟨v, h1, h2, h3⟩ := evK_inv hf h
  exact ⟨_, h3, rfl, fun X c y st => ⟨[], by simp [runOp, h1]⟩⟩⟩

/-! ### slices of bytes, strings -/
noncomputable def onN (x : X2) (f : F) (k : Nat → Rho) : Rho := onSome (x f) (fun v => onNat v k)
noncomputable def loK (x : Option X2) (f : F) (d : Nat) (k : Nat → Rho) : Rho := Option.rec (motive := fun _ => Rho) (k d) (fun x => onN x f k) x
noncomputable def cOx : Option Opd → Option X2
  | none => none
  | some x => some (cX x)
theorem loK_inv {f : F} {fr : T V} (hf : FRel f fr) {x : Option Opd} {d : Nat} {k : Nat → Rho} {a : V × St} (h : loK (cOx x) f d k = some a) : ∃ o : Option Nat, optN fr x = some o ∧ k (o.getD d) = some a := by
  cases x with
  | none => exact ⟨none, rfl, h⟩
  | some x =>
    obtain ⟨v, h1, h2⟩ := onSome_inv (show onSome (cX x f) (fun v => onNat v k) = some a from h)
    obtain ⟨m, rfl, h3⟩ := onNat_inv h2
    exact ⟨some m, by simp [optN, cX_spec hf h1 rfl, nat?], h3⟩
noncomputable def slB (n l h len : Nat) (k : KV) : Rho := onB (Nat.blt len h) none (onB (Nat.blt h l) none (onB (Nat.beq l len) (k .non0) (k (.bytes (ssubF n l h len)))))
noncomputable def slS (n l h len : Nat) (k : KV) : Rho := onB (Nat.blt len h) none (onB (Nat.blt h l) none (k (.str (ssubF n l h len))))


noncomputable def slA (v : V) (sz : Option Nat) (lo : Option X2) (hi : Option X2) (f : F) (k : KV) : Rho :=
  V.rec (motive_1 := fun _ => Option Nat → Option X2 → Option X2 → F → KV → Rho) (motive_2 := fun _ => PUnit) (motive_3 := fun _ => PUnit) (motive_4 := fun _ => PUnit)
    (fun _ _ _ _ _ _ => none)
    (fun _ _ _ _ _ _ _ => none)
    (fun n sz lo hi f k => Option.rec (motive := fun _ => Rho) (loK lo f 0 (fun l => loK hi f (slenF n) (fun h => slS n l h (slenF n) k))) (fun _ => none) sz)
    (fun _ _ _ _ _ => none)
    (fun _ _ _ _ _ _ _ => none)
    (fun _ _ _ _ _ _ => none)
    (fun _ _ _ _ _ _ _ => none)
    (fun _ _ _ _ _ => none)
    (fun _ _ _ _ _ => none)
    (fun _ _ _ _ _ => none)
    (fun _ _ _ _ _ _ _ _ _ => none)
    (fun _ _ _ _ _ _ _ _ _ => none)
    (fun n sz lo hi f k => Option.rec (motive := fun _ => Rho) none (fun z => onB (Nat.beq 1 z) (loK lo f 0 (fun l => loK hi f (slenF n) (fun h => slB n l h (slenF n) k))) none) sz)
    (fun _ _ _ _ _ _ _ _ _ => none)
    (fun _ _ _ _ _ => none)
    (fun _ _ _ _ _ _ => none)
    (fun _ _ _ _ _ => none)
    (fun _ _ _ _ _ _ _ _ _ _ => none)
    (fun _ _ _ _ _ => none)
    (fun _ _ _ _ _ _ _ _ => none)
    (fun _ _ _ _ _ _ _ => none)
    (fun _ _ _ _ _ _ _ => none)
    (fun _ _ _ _ _ => none)
    (fun _ _ _ _ _ _ _ _ => none)
    (fun _ _ _ _ _ _ _ _ => none)
    PUnit.unit (fun _ _ _ _ => PUnit.unit) PUnit.unit (fun _ _ _ _ _ _ => PUnit.unit) PUnit.unit (fun _ _ => PUnit.unit) v sz lo hi f k

noncomputable def slV (sz : Option Nat) (x : X2) (lo hi : Option X2) (f : F) (k : KV) : Rho := onSome (x f) (fun v => slA v sz lo hi f k)
theorem slV_ok (sz : Option Nat) (x : Opd) (lo hi : Option Opd) : VOk (slV sz (cX x) (cOx lo) (cOx hi)) (.slice sz x lo hi none) := ⟨rfl, fun f fr k a hf h => by
  obtain ⟨v, h1, h2⟩ := onSome_inv h
  cases v <;> (try exact nomatch (show (none : Rho) = some a from h2))
  · rename_i n
    have e1 := cX_spec hf h1 rfl
    cases sz with
    | some z => exact nomatch (show (none : Rho) = some a from h2)
    | none =>
      obtain ⟨l, h3, h4⟩ := loK_inv hf (show loK (cOx lo) f 0 (fun l => loK (cOx hi) f (slenF n) (fun h => slS n l h (slenF n) k)) = some a from h2)
      obtain ⟨hh, h5, h6⟩ := loK_inv hf h4
      rw [slenF_eq] at h6
      unfold slS at h6
      rcases onB_inv h6 with ⟨_, h7⟩ | ⟨h7, h8⟩
      · cases h7
      · rcases onB_inv h8 with ⟨_, h9⟩ | ⟨h9, h10⟩
        · cases h9
        · rw [ssubF_eq] at h10
          exact ⟨_, h10, rfl, fun X c y st => ⟨[], by simp only [runOp, e1, h3, h5, show optN fr none = some none from rfl, sliceV, sizeOk, lenV, h7, h9, sliceP, v1, cond_true, cond_false]⟩⟩
  · rename_i n
    have e1 := cX_spec hf h1 rfl
    cases sz with
    | none => exact nomatch (show (none : Rho) = some a from h2)
    | some z =>
      rcases onB_inv (show onB (Nat.beq 1 z) (loK (cOx lo) f 0 (fun l => loK (cOx hi) f (slenF n) (fun h => slB n l h (slenF n) k))) none = some a from h2) with ⟨hz, h2'⟩ | ⟨_, h2'⟩
      · obtain ⟨l, h3, h4⟩ := loK_inv hf h2'
        obtain ⟨hh, h5, h6⟩ := loK_inv hf h4
        rw [slenF_eq] at h6
        unfold slB at h6
        rcases onB_inv h6 with ⟨_, h7⟩ | ⟨h7, h8⟩
        · cases h7
        · rcases onB_inv h8 with ⟨_, h9⟩ | ⟨h9, h10⟩
          · cases h9
          · rcases onB_inv h10 with ⟨h11, h12⟩ | ⟨h11, h12⟩
            · exact ⟨_, h12, rfl, fun X c y st => ⟨[], by simp only [runOp, e1, h3, h5, show optN fr none = some none from rfl, sliceV, sizeOk, lenV, hz, h7, h9, h11, sliceP, v1, cond_true, cond_false]⟩⟩
            · rw [ssubF_eq] at h12
              exact ⟨_, h12, rfl, fun X c y st => ⟨[], by simp only [runOp, e1, h3, h5, show optN fr none = some none from rfl, sliceV, sizeOk, lenV, hz, h7, h9, h11, sliceP, v1, cond_true, cond_false]⟩⟩
      · cases h2'⟩

/-! ### structs -/

noncomputable def onCells (v : V) (k : List V → Rho) : Rho :=
  V.rec (motive_1 := fun _ => (List V → Rho) → Rho) (motive_2 := fun _ => PUnit) (motive_3 := fun _ => PUnit) (motive_4 := fun _ => PUnit)
    (fun b k => k [(.bool b)])
    (fun kd n k => k [(.int kd n)])
    (fun n k => k [(.str n)])
    (fun k => k [(.nilp)])
    (fun l off k => k [(.ptr l off)])
    (fun g k => k [(.gptr g)])
    (fun cs _ k => k [(.eptr cs)])
    (fun k => k [(.nils)])
    (fun k => k [(.emp)])
    (fun k => k [(.non0)])
    (fun sz xs tight _ k => k [(.sl sz xs tight)])
    (fun sz n t _ k => k [(.big sz n t)])
    (fun n k => k [(.bytes n)])
    (fun sz l off len k => k [(.row sz l off len)])
    (fun k => k [(.nilm)])
    (fun l k => k [(.map l)])
    (fun k => k [(.nilf)])
    (fun fn first cap _ _ k => k [(.fn fn first cap)])
    (fun k => k [(.nili)])
    (fun t v _ k => k [(.iface t v)])
    (fun cs _ k => k cs)
    (fun _ _ _ => none)
    (fun _ => none)
    (fun _ _ _ _ => none)
    (fun _ _ _ _ => none)
    PUnit.unit (fun _ _ _ _ => PUnit.unit) PUnit.unit (fun _ _ _ _ _ _ => PUnit.unit) PUnit.unit (fun _ _ => PUnit.unit) v k

theorem onCells_inv {v : V} {k : List V → Rho} {a : V × St} (h : onCells v k = some a) : ∃ cs, v.cells? = some cs ∧ plain v = true ∧ k cs = some a := by
  cases v <;> first | exact ⟨_, rfl, rfl, h⟩ | exact nomatch (show (none : Rho) = some a from h)
noncomputable def ovK (cs : List V) (off : Nat) (new : List V) (k : List V → Rho) : Rho := takeK off cs (fun pre => takeK (lenF new) (dropF cs off) (fun _ => k (appF pre (appF new (dropF cs (off + lenF new))))))
theorem ovK_inv {cs : List V} {off : Nat} {new : List V} {k : List V → Rho} {a : V × St} (h : ovK cs off new k = some a) : ∃ r, overlay cs off new = some r ∧ k r = some a := by
  obtain ⟨pre, h1, h2⟩ := takeK_inv h
  obtain ⟨r, h3, h4⟩ := takeK_inv h2
  rw [lenF_eq, dropF_eq] at h3
  rw [lenF_eq, dropF_eq, appF_eq, appF_eq] at h4
  exact ⟨_, by simp [overlay, h1, h3, List.append_assoc], h4⟩
abbrev Pt := Nat × Nat × X2
noncomputable def cPts : List (Nat × Nat × Opd) → List Pt
  | [] => []
  | (off, sz, x) :: r => (off, sz, cX x) :: cPts r
/-- the parts' cells -/
noncomputable def partsK (ps : List Pt) (f : F) (k : List (Nat × List V) → Rho) : Rho :=
  List.rec (motive := fun _ => (List (Nat × List V) → Rho) → Rho) (fun k => k []) (fun p _ ih k => onSome (p.2.2 f) (fun v => onCells v (fun cs => onB (Nat.beq (lenF cs) p.2.1) (ih (fun r => k ((p.1, cs) :: r))) none))) ps k
theorem partsK_inv {f : F} {fr : T V} (hf : FRel f fr) {a : V × St} : ∀ {ps : List (Nat × Nat × Opd)} {k : List (Nat × List V) → Rho}, partsK (cPts ps) f k = some a → ∃ qs, parts fr ps = some qs ∧ k qs = some a
  | [], k, h => ⟨[], rfl, h⟩
  | (off, sz, x) :: r, k, h => by
    obtain ⟨v, h1, h2⟩ := onSome_inv (show onSome (cX x f) (fun v => onCells v (fun cs => onB (Nat.beq (lenF cs) sz) (partsK (cPts r) f (fun r => k ((off, cs) :: r))) none)) = some a from h)
    obtain ⟨cs, h3, h4, h5⟩ := onCells_inv h2
    rcases onB_inv h5 with ⟨h6, h7⟩ | ⟨_, h7⟩
    · obtain ⟨qs, h8, h9⟩ := partsK_inv hf h7
      rw [lenF_eq] at h6
      exact ⟨_, by simp only [parts, cX_spec hf h1 h4, h3, h6, cond_true, h8], h9⟩
    · cases h7
noncomputable def fillsK (zs : List V) (qs : List (Nat × List V)) (k : List V → Rho) : Rho :=
  List.rec (motive := fun _ => List V → (List V → Rho) → Rho) (fun zs k => k zs) (fun q _ ih zs k => ovK zs q.1 q.2 (fun zs => ih zs k)) qs zs k
theorem fillsK_inv {a : V × St} : ∀ {qs : List (Nat × List V)} {zs : List V} {k : List V → Rho}, fillsK zs qs k = some a → ∃ cs, fills zs qs = some cs ∧ k cs = some a
  | [], zs, k, h => ⟨zs, rfl, h⟩
  | (off, new) :: qs, zs, k, h => by
    obtain ⟨r, h1, h2⟩ := ovK_inv (show ovK zs off new (fun zs => fillsK zs qs k) = some a from h)
    obtain ⟨cs, h3, h4⟩ := fillsK_inv h2
    exact ⟨cs, by simp [fills, h1, h3], h4⟩
noncomputable def buildV (zs : List V) (ps : List Pt) (f : F) (k : KV) : Rho := partsK ps f (fun qs => fillsK zs qs (fun cs => k (.agg cs)))
theorem buildV_ok (zs : List V) (ps : List (Nat × Nat × Opd)) : VOk (buildV zs (cPts ps)) (.build zs ps) := ⟨rfl, fun f fr k a hf h => by
  obtain ⟨qs, h1, h2⟩ := partsK_inv hf h
  obtain ⟨cs, h3, h4⟩ := fillsK_inv h2
  exact ⟨_, h4, rfl, fun X c y st => ⟨[], by simp [runOp, h1, h3]⟩⟩⟩
/-! any pure operation -/
noncomputable def onRO (r : RO) (k : V → St → List Tc → Rho) : Rho := Option.rec (motive := fun _ => (V → St → List Tc → Rho) → Rho) (fun _ => none) (fun p k => k p.1 p.2.1 p.2.2.1) r k
theorem onRO_inv {r : RO} {k : V → St → List Tc → Rho} {a : V × St} (h : onRO r k = some a) : ∃ v st lg fr, r = some (v, st, lg, fr) ∧ k v st lg = some a := by
  cases r with
  | none => exact nomatch (show (none : Rho) = some a from h)
  | some p => exact ⟨p.1, p.2.1, p.2.2.1, p.2.2.2, rfl, h⟩
def noC : CallF := fun _ _ _ => none
def noY : Nat → List V → St → R := fun _ _ _ => none
noncomputable def genV (X : Env) (op : IOp) (f : F) (k : KV) : Rho := onRO (runOp X noC noY .lf .bare (mapX (sig f) op)) (fun v st _ => onB (Nat.beq st.next 0) (nrmV v (fun v => onPl v k)) none)
theorem noC_le (c : CallF) : CallLe noC c := fun _ _ _ _ h => by cases h
theorem noY_le (y : Nat → List V → St → R) : YieldLe noY y := fun _ _ _ _ h => by cases h
/-- what of an environment an operation looks at -/
def envB (X : Env) : Env := { fn := fun _ => none, ext := fun _ _ => none, glob := X.glob, memo := fun _ _ _ => none, ok := X.ok }
theorem runOp_envB (X : Env) (c : CallF) (y : Nat → List V → St → R) (fr : T V) (st : St) (op : IOp) : runOp (envB X) c y fr st op = runOp X c y fr st op := by cases op <;> rfl
/-- a pure operation, in an environment -/
def VOkX (X : Env) (vop : VOp) (op : IOp) : Prop := pureOp op = true ∧ ∀ f fr k a, FRel f fr → vop f k = some a → ∃ v, k v = some a ∧ isLocV v = false ∧ (∀ c y st, ∃ lg, runOp X c y fr st op = some (v, st, lg, fr)) ∧ ∀ c y, ∃ s lg fr1, runOp X c y fr .bare op = some (v, s, lg, fr1) ∧ Nat.beq s.next 0 = true
theorem VOk.toX {vop : VOp} {op : IOp} (h : VOk vop op) (X : Env) : VOkX X vop op := ⟨h.1, fun f fr k a hf hk => by
  obtain ⟨v, h1, h2, h3⟩ := h.2 f fr k a hf hk
  refine ⟨v, h1, h2, fun c y st => h3 X c y st, fun c y => ?_⟩
  obtain ⟨lg, h4⟩ := h3 X c y .bare
  exact ⟨.bare, lg, fr, h4, rfl⟩⟩
theorem genV_ok (X : Env) (op : IOp) (hp : pureOp op = true) (ha : adrOp op = false) (hs : small op = true) : VOkX X (genV (envB X) op) op := ⟨hp, fun f fr k a hf h => by
  obtain ⟨v, st, lg, fr1, h1, h2⟩ := onRO_inv h
  rcases onB_inv h2 with ⟨h3, h4⟩ | ⟨_, h4⟩
  · rw [nrmV_eq] at h4
    obtain ⟨h5, h6⟩ := onPl_inv h4
    have h7 := gen_ok hf ha hs h1
    rw [runOp_envB] at h7
    refine ⟨v, h6, plain_notLoc h5, fun c y st' => ?_, fun c y => ⟨st, lg, fr, runOp_mono (noC_le c) (noY_le y) h7, h3⟩⟩
    exact pure_lift hp (runOp_mono (noC_le c) (noY_le y) h7) h3 st'
  · cases h4⟩
/-! ### slices of any kind -/
noncomputable def byA (v : V) (x : Rho) (y : Rho) : Rho :=
  V.rec (motive_1 := fun _ => Rho → Rho → Rho) (motive_2 := fun _ => PUnit) (motive_3 := fun _ => PUnit) (motive_4 := fun _ => PUnit)
    (fun _ _ y => y)
    (fun _ _ _ y => y)
    (fun _ x _ => x)
    (fun _ y => y)
    (fun _ _ _ y => y)
    (fun _ _ y => y)
    (fun _ _ _ y => y)
    (fun _ y => y)
    (fun _ y => y)
    (fun _ y => y)
    (fun _ _ _ _ _ y => y)
    (fun _ _ _ _ _ y => y)
    (fun _ x _ => x)
    (fun _ _ _ _ _ y => y)
    (fun _ y => y)
    (fun _ _ y => y)
    (fun _ y => y)
    (fun _ _ _ _ _ _ y => y)
    (fun _ y => y)
    (fun _ _ _ _ y => y)
    (fun _ _ _ y => y)
    (fun _ _ _ y => y)
    (fun _ y => y)
    (fun _ _ _ _ y => y)
    (fun _ _ _ _ y => y)
    PUnit.unit (fun _ _ _ _ => PUnit.unit) PUnit.unit (fun _ _ _ _ _ _ => PUnit.unit) PUnit.unit (fun _ _ => PUnit.unit) v x y
noncomputable def slW (X : Env) (op : IOp) (sz : Option Nat) (x : X2) (lo hi : Option X2) : VOp := fun f k => onSome (x f) (fun v => byA v (slV sz x lo hi f k) (genV X op f k))
theorem slW_ok (X : Env) (sz : Option Nat) (x : Opd) (lo hi : Option Opd) (hs : small (.slice sz x lo hi none) = true) : VOkX X (slW (envB X) (.slice sz x lo hi none) sz (cX x) (cOx lo) (cOx hi)) (.slice sz x lo hi none) := ⟨rfl, fun f fr k a hf h => by
  obtain ⟨v, h1, h2⟩ := onSome_inv h
  have h3 : slV sz (cX x) (cOx lo) (cOx hi) f k = some a ∨ genV (envB X) (.slice sz x lo hi none) f k = some a := by
    cases v <;> first | exact .inl h2 | exact .inr h2
  rcases h3 with h3 | h3
  · exact ((slV_ok sz x lo hi).toX X).2 f fr k a hf h3
  · exact (genV_ok X (.slice sz x lo hi none) rfl rfl hs).2 f fr k a hf h3⟩
end
end Go.Ai.Fl
/-! The fast layer's slots. -/
namespace Go.Ai.Fl
open Go Go.Ai
set_option linter.unusedVariables false
set_option maxRecDepth 100000
abbrev N1 := N16 (Option V)
noncomputable def J0 (v : V) (x : N1) (k : N1 → Rho) : Rho := N16.rec (motive := fun _ => Rho) (fun _ b1 b2 b3 b4 b5 b6 b7 b8 b9 b10 b11 b12 b13 b14 b15 => k ⟨some v, b1, b2, b3, b4, b5, b6, b7, b8, b9, b10, b11, b12, b13, b14, b15⟩) x
noncomputable def J1 (v : V) (x : N1) (k : N1 → Rho) : Rho := N16.rec (motive := fun _ => Rho) (fun b0 _ b2 b3 b4 b5 b6 b7 b8 b9 b10 b11 b12 b13 b14 b15 => k ⟨b0, some v, b2, b3, b4, b5, b6, b7, b8, b9, b10, b11, b12, b13, b14, b15⟩) x
noncomputable def J2 (v : V) (x : N1) (k : N1 → Rho) : Rho := N16.rec (motive := fun _ => Rho) (fun b0 b1 _ b3 b4 b5 b6 b7 b8 b9 b10 b11 b12 b13 b14 b15 => k ⟨b0, b1, some v, b3, b4, b5, b6, b7, b8, b9, b10, b11, b12, b13, b14, b15⟩) x
noncomputable def J3 (v : V) (x : N1) (k : N1 → Rho) : Rho := N16.rec (motive := fun _ => Rho) (fun b0 b1 b2 _ b4 b5 b6 b7 b8 b9 b10 b11 b12 b13 b14 b15 => k ⟨b0, b1, b2, some v, b4, b5, b6, b7, b8, b9, b10, b11, b12, b13, b14, b15⟩) x
noncomputable def J4 (v : V) (x : N1) (k : N1 → Rho) : Rho := N16.rec (motive := fun _ => Rho) (fun b0 b1 b2 b3 _ b5 b6 b7 b8 b9 b10 b11 b12 b13 b14 b15 => k ⟨b0, b1, b2, b3, some v, b5, b6, b7, b8, b9, b10, b11, b12, b13, b14, b15⟩) x
noncomputable def J5 (v : V) (x : N1) (k : N1 → Rho) : Rho := N16.rec (motive := fun _ => Rho) (fun b0 b1 b2 b3 b4 _ b6 b7 b8 b9 b10 b11 b12 b13 b14 b15 => k ⟨b0, b1, b2, b3, b4, some v, b6, b7, b8, b9, b10, b11, b12, b13, b14, b15⟩) x
noncomputable def J6 (v : V) (x : N1) (k : N1 → Rho) : Rho := N16.rec (motive := fun _ => Rho) (fun b0 b1 b2 b3 b4 b5 _ b7 b8 b9 b10 b11 b12 b13 b14 b15 => k ⟨b0, b1, b2, b3, b4, b5, some v, b7, b8, b9, b10, b11, b12, b13, b14, b15⟩) x
noncomputable def J7 (v : V) (x : N1) (k : N1 → Rho) : Rho := N16.rec (motive := fun _ => Rho) (fun b0 b1 b2 b3 b4 b5 b6 _ b8 b9 b10 b11 b12 b13 b14 b15 => k ⟨b0, b1, b2, b3, b4, b5, b6, some v, b8, b9, b10, b11, b12, b13, b14, b15⟩) x
noncomputable def J8 (v : V) (x : N1) (k : N1 → Rho) : Rho := N16.rec (motive := fun _ => Rho) (fun b0 b1 b2 b3 b4 b5 b6 b7 _ b9 b10 b11 b12 b13 b14 b15 => k ⟨b0, b1, b2, b3, b4, b5, b6, b7, some v, b9, b10, b11, b12, b13, b14, b15⟩) x
noncomputable def J9 (v : V) (x : N1) (k : N1 → Rho) : Rho := N16.rec (motive := fun _ => Rho) (fun b0 b1 b2 b3 b4 b5 b6 b7 b8 _ b10 b11 b12 b13 b14 b15 => k ⟨b0, b1, b2, b3, b4, b5, b6, b7, b8, some v, b10, b11, b12, b13, b14, b15⟩) x
noncomputable def J10 (v : V) (x : N1) (k : N1 → Rho) : Rho := N16.rec (motive := fun _ => Rho) (fun b0 b1 b2 b3 b4 b5 b6 b7 b8 b9 _ b11 b12 b13 b14 b15 => k ⟨b0, b1, b2, b3, b4, b5, b6, b7, b8, b9, some v, b11, b12, b13, b14, b15⟩) x
noncomputable def J11 (v : V) (x : N1) (k : N1 → Rho) : Rho := N16.rec (motive := fun _ => Rho) (fun b0 b1 b2 b3 b4 b5 b6 b7 b8 b9 b10 _ b12 b13 b14 b15 => k ⟨b0, b1, b2, b3, b4, b5, b6, b7, b8, b9, b10, some v, b12, b13, b14, b15⟩) x
noncomputable def J12 (v : V) (x : N1) (k : N1 → Rho) : Rho := N16.rec (motive := fun _ => Rho) (fun b0 b1 b2 b3 b4 b5 b6 b7 b8 b9 b10 b11 _ b13 b14 b15 => k ⟨b0, b1, b2, b3, b4, b5, b6, b7, b8, b9, b10, b11, some v, b13, b14, b15⟩) x
noncomputable def J13 (v : V) (x : N1) (k : N1 → Rho) : Rho := N16.rec (motive := fun _ => Rho) (fun b0 b1 b2 b3 b4 b5 b6 b7 b8 b9 b10 b11 b12 _ b14 b15 => k ⟨b0, b1, b2, b3, b4, b5, b6, b7, b8, b9, b10, b11, b12, some v, b14, b15⟩) x
noncomputable def J14 (v : V) (x : N1) (k : N1 → Rho) : Rho := N16.rec (motive := fun _ => Rho) (fun b0 b1 b2 b3 b4 b5 b6 b7 b8 b9 b10 b11 b12 b13 _ b15 => k ⟨b0, b1, b2, b3, b4, b5, b6, b7, b8, b9, b10, b11, b12, b13, some v, b15⟩) x
noncomputable def J15 (v : V) (x : N1) (k : N1 → Rho) : Rho := N16.rec (motive := fun _ => Rho) (fun b0 b1 b2 b3 b4 b5 b6 b7 b8 b9 b10 b11 b12 b13 b14 _ => k ⟨b0, b1, b2, b3, b4, b5, b6, b7, b8, b9, b10, b11, b12, b13, b14, some v⟩) x
noncomputable def Q0 (h : N1 → (N1 → Rho) → Rho) (f : F) (k : F → Rho) : Rho := N16.rec (motive := fun _ => Rho) (fun a0 a1 a2 a3 a4 a5 a6 a7 a8 a9 a10 a11 a12 a13 a14 a15 => h a0 (fun y => k ⟨y, a1, a2, a3, a4, a5, a6, a7, a8, a9, a10, a11, a12, a13, a14, a15⟩)) f
noncomputable def Q1 (h : N1 → (N1 → Rho) → Rho) (f : F) (k : F → Rho) : Rho := N16.rec (motive := fun _ => Rho) (fun a0 a1 a2 a3 a4 a5 a6 a7 a8 a9 a10 a11 a12 a13 a14 a15 => h a1 (fun y => k ⟨a0, y, a2, a3, a4, a5, a6, a7, a8, a9, a10, a11, a12, a13, a14, a15⟩)) f
noncomputable def Q2 (h : N1 → (N1 → Rho) → Rho) (f : F) (k : F → Rho) : Rho := N16.rec (motive := fun _ => Rho) (fun a0 a1 a2 a3 a4 a5 a6 a7 a8 a9 a10 a11 a12 a13 a14 a15 => h a2 (fun y => k ⟨a0, a1, y, a3, a4, a5, a6, a7, a8, a9, a10, a11, a12, a13, a14, a15⟩)) f
noncomputable def Q3 (h : N1 → (N1 → Rho) → Rho) (f : F) (k : F → Rho) : Rho := N16.rec (motive := fun _ => Rho) (fun a0 a1 a2 a3 a4 a5 a6 a7 a8 a9 a10 a11 a12 a13 a14 a15 => h a3 (fun y => k ⟨a0, a1, a2, y, a4, a5, a6, a7, a8, a9, a10, a11, a12, a13, a14, a15⟩)) f
noncomputable def Q4 (h : N1 → (N1 → Rho) → Rho) (f : F) (k : F → Rho) : Rho := N16.rec (motive := fun _ => Rho) (fun a0 a1 a2 a3 a4 a5 a6 a7 a8 a9 a10 a11 a12 a13 a14 a15 => h a4 (fun y => k ⟨a0, a1, a2, a3, y, a5, a6, a7, a8, a9, a10, a11, a12, a13, a14, a15⟩)) f
noncomputable def Q5 (h : N1 → (N1 → Rho) → Rho) (f : F) (k : F → Rho) : Rho := N16.rec (motive := fun _ => Rho) (fun a0 a1 a2 a3 a4 a5 a6 a7 a8 a9 a10 a11 a12 a13 a14 a15 => h a5 (fun y => k ⟨a0, a1, a2, a3, a4, y, a6, a7, a8, a9, a10, a11, a12, a13, a14, a15⟩)) f
noncomputable def Q6 (h : N1 → (N1 → Rho) → Rho) (f : F) (k : F → Rho) : Rho := N16.rec (motive := fun _ => Rho) (fun a0 a1 a2 a3 a4 a5 a6 a7 a8 a9 a10 a11 a12 a13 a14 a15 => h a6 (fun y => k ⟨a0, a1, a2, a3, a4, a5, y, a7, a8, a9, a10, a11, a12, a13, a14, a15⟩)) f
noncomputable def Q7 (h : N1 → (N1 → Rho) → Rho) (f : F) (k : F → Rho) : Rho := N16.rec (motive := fun _ => Rho) (fun a0 a1 a2 a3 a4 a5 a6 a7 a8 a9 a10 a11 a12 a13 a14 a15 => h a7 (fun y => k ⟨a0, a1, a2, a3, a4, a5, a6, y, a8, a9, a10, a11, a12, a13, a14, a15⟩)) f
noncomputable def Q8 (h : N1 → (N1 → Rho) → Rho) (f : F) (k : F → Rho) : Rho := N16.rec (motive := fun _ => Rho) (fun a0 a1 a2 a3 a4 a5 a6 a7 a8 a9 a10 a11 a12 a13 a14 a15 => h a8 (fun y => k ⟨a0, a1, a2, a3, a4, a5, a6, a7, y, a9, a10, a11, a12, a13, a14, a15⟩)) f
noncomputable def Q9 (h : N1 → (N1 → Rho) → Rho) (f : F) (k : F → Rho) : Rho := N16.rec (motive := fun _ => Rho) (fun a0 a1 a2 a3 a4 a5 a6 a7 a8 a9 a10 a11 a12 a13 a14 a15 => h a9 (fun y => k ⟨a0, a1, a2, a3, a4, a5, a6, a7, a8, y, a10, a11, a12, a13, a14, a15⟩)) f
noncomputable def Q10 (h : N1 → (N1 → Rho) → Rho) (f : F) (k : F → Rho) : Rho := N16.rec (motive := fun _ => Rho) (fun a0 a1 a2 a3 a4 a5 a6 a7 a8 a9 a10 a11 a12 a13 a14 a15 => h a10 (fun y => k ⟨a0, a1, a2, a3, a4, a5, a6, a7, a8, a9, y, a11, a12, a13, a14, a15⟩)) f
noncomputable def Q11 (h : N1 → (N1 → Rho) → Rho) (f : F) (k : F → Rho) : Rho := N16.rec (motive := fun _ => Rho) (fun a0 a1 a2 a3 a4 a5 a6 a7 a8 a9 a10 a11 a12 a13 a14 a15 => h a11 (fun y => k ⟨a0, a1, a2, a3, a4, a5, a6, a7, a8, a9, a10, y, a12, a13, a14, a15⟩)) f
noncomputable def Q12 (h : N1 → (N1 → Rho) → Rho) (f : F) (k : F → Rho) : Rho := N16.rec (motive := fun _ => Rho) (fun a0 a1 a2 a3 a4 a5 a6 a7 a8 a9 a10 a11 a12 a13 a14 a15 => h a12 (fun y => k ⟨a0, a1, a2, a3, a4, a5, a6, a7, a8, a9, a10, a11, y, a13, a14, a15⟩)) f
noncomputable def Q13 (h : N1 → (N1 → Rho) → Rho) (f : F) (k : F → Rho) : Rho := N16.rec (motive := fun _ => Rho) (fun a0 a1 a2 a3 a4 a5 a6 a7 a8 a9 a10 a11 a12 a13 a14 a15 => h a13 (fun y => k ⟨a0, a1, a2, a3, a4, a5, a6, a7, a8, a9, a10, a11, a12, y, a14, a15⟩)) f
noncomputable def Q14 (h : N1 → (N1 → Rho) → Rho) (f : F) (k : F → Rho) : Rho := N16.rec (motive := fun _ => Rho) (fun a0 a1 a2 a3 a4 a5 a6 a7 a8 a9 a10 a11 a12 a13 a14 a15 => h a14 (fun y => k ⟨a0, a1, a2, a3, a4, a5, a6, a7, a8, a9, a10, a11, a12, a13, y, a15⟩)) f
noncomputable def Q15 (h : N1 → (N1 → Rho) → Rho) (f : F) (k : F → Rho) : Rho := N16.rec (motive := fun _ => Rho) (fun a0 a1 a2 a3 a4 a5 a6 a7 a8 a9 a10 a11 a12 a13 a14 a15 => h a15 (fun y => k ⟨a0, a1, a2, a3, a4, a5, a6, a7, a8, a9, a10, a11, a12, a13, a14, y⟩)) f
def G0 : X2 := fun f => f.p0.p0
noncomputable def S0 : D2 := fun f v k => Q0 (J0 v) f k
def G1 : X2 := fun f => f.p0.p1
noncomputable def S1 : D2 := fun f v k => Q0 (J1 v) f k
def G2 : X2 := fun f => f.p0.p2
noncomputable def S2 : D2 := fun f v k => Q0 (J2 v) f k
def G3 : X2 := fun f => f.p0.p3
noncomputable def S3 : D2 := fun f v k => Q0 (J3 v) f k
def G4 : X2 := fun f => f.p0.p4
noncomputable def S4 : D2 := fun f v k => Q0 (J4 v) f k
def G5 : X2 := fun f => f.p0.p5
noncomputable def S5 : D2 := fun f v k => Q0 (J5 v) f k
def G6 : X2 := fun f => f.p0.p6
noncomputable def S6 : D2 := fun f v k => Q0 (J6 v) f k
def G7 : X2 := fun f => f.p0.p7
noncomputable def S7 : D2 := fun f v k => Q0 (J7 v) f k
def G8 : X2 := fun f => f.p0.p8
noncomputable def S8 : D2 := fun f v k => Q0 (J8 v) f k
def G9 : X2 := fun f => f.p0.p9
noncomputable def S9 : D2 := fun f v k => Q0 (J9 v) f k
def G10 : X2 := fun f => f.p0.p10
noncomputable def S10 : D2 := fun f v k => Q0 (J10 v) f k
def G11 : X2 := fun f => f.p0.p11
noncomputable def S11 : D2 := fun f v k => Q0 (J11 v) f k
def G12 : X2 := fun f => f.p0.p12
noncomputable def S12 : D2 := fun f v k => Q0 (J12 v) f k
def G13 : X2 := fun f => f.p0.p13
noncomputable def S13 : D2 := fun f v k => Q0 (J13 v) f k
def G14 : X2 := fun f => f.p0.p14
noncomputable def S14 : D2 := fun f v k => Q0 (J14 v) f k
def G15 : X2 := fun f => f.p0.p15
noncomputable def S15 : D2 := fun f v k => Q0 (J15 v) f k
def G16 : X2 := fun f => f.p1.p0
noncomputable def S16 : D2 := fun f v k => Q1 (J0 v) f k
def G17 : X2 := fun f => f.p1.p1
noncomputable def S17 : D2 := fun f v k => Q1 (J1 v) f k
def G18 : X2 := fun f => f.p1.p2
noncomputable def S18 : D2 := fun f v k => Q1 (J2 v) f k
def G19 : X2 := fun f => f.p1.p3
noncomputable def S19 : D2 := fun f v k => Q1 (J3 v) f k
def G20 : X2 := fun f => f.p1.p4
noncomputable def S20 : D2 := fun f v k => Q1 (J4 v) f k
def G21 : X2 := fun f => f.p1.p5
noncomputable def S21 : D2 := fun f v k => Q1 (J5 v) f k
def G22 : X2 := fun f => f.p1.p6
noncomputable def S22 : D2 := fun f v k => Q1 (J6 v) f k
def G23 : X2 := fun f => f.p1.p7
noncomputable def S23 : D2 := fun f v k => Q1 (J7 v) f k
def G24 : X2 := fun f => f.p1.p8
noncomputable def S24 : D2 := fun f v k => Q1 (J8 v) f k
def G25 : X2 := fun f => f.p1.p9
noncomputable def S25 : D2 := fun f v k => Q1 (J9 v) f k
def G26 : X2 := fun f => f.p1.p10
noncomputable def S26 : D2 := fun f v k => Q1 (J10 v) f k
def G27 : X2 := fun f => f.p1.p11
noncomputable def S27 : D2 := fun f v k => Q1 (J11 v) f k
def G28 : X2 := fun f => f.p1.p12
noncomputable def S28 : D2 := fun f v k => Q1 (J12 v) f k
def G29 : X2 := fun f => f.p1.p13
noncomputable def S29 : D2 := fun f v k => Q1 (J13 v) f k
def G30 : X2 := fun f => f.p1.p14
noncomputable def S30 : D2 := fun f v k => Q1 (J14 v) f k
def G31 : X2 := fun f => f.p1.p15
noncomputable def S31 : D2 := fun f v k => Q1 (J15 v) f k
def G32 : X2 := fun f => f.p2.p0
noncomputable def S32 : D2 := fun f v k => Q2 (J0 v) f k
def G33 : X2 := fun f => f.p2.p1
noncomputable def S33 : D2 := fun f v k => Q2 (J1 v) f k
def G34 : X2 := fun f => f.p2.p2
noncomputable def S34 : D2 := fun f v k => Q2 (J2 v) f k
def G35 : X2 := fun f => f.p2.p3
noncomputable def S35 : D2 := fun f v k => Q2 (J3 v) f k
def G36 : X2 := fun f => f.p2.p4
noncomputable def S36 : D2 := fun f v k => Q2 (J4 v) f k
def G37 : X2 := fun f => f.p2.p5
noncomputable def S37 : D2 := fun f v k => Q2 (J5 v) f k
def G38 : X2 := fun f => f.p2.p6
noncomputable def S38 : D2 := fun f v k => Q2 (J6 v) f k
def G39 : X2 := fun f => f.p2.p7
noncomputable def S39 : D2 := fun f v k => Q2 (J7 v) f k
def G40 : X2 := fun f => f.p2.p8
noncomputable def S40 : D2 := fun f v k => Q2 (J8 v) f k
def G41 : X2 := fun f => f.p2.p9
noncomputable def S41 : D2 := fun f v k => Q2 (J9 v) f k
def G42 : X2 := fun f => f.p2.p10
noncomputable def S42 : D2 := fun f v k => Q2 (J10 v) f k
def G43 : X2 := fun f => f.p2.p11
noncomputable def S43 : D2 := fun f v k => Q2 (J11 v) f k
def G44 : X2 := fun f => f.p2.p12
noncomputable def S44 : D2 := fun f v k => Q2 (J12 v) f k
def G45 : X2 := fun f => f.p2.p13
noncomputable def S45 : D2 := fun f v k => Q2 (J13 v) f k
def G46 : X2 := fun f => f.p2.p14
noncomputable def S46 : D2 := fun f v k => Q2 (J14 v) f k
def G47 : X2 := fun f => f.p2.p15
noncomputable def S47 : D2 := fun f v k => Q2 (J15 v) f k
def G48 : X2 := fun f => f.p3.p0
noncomputable def S48 : D2 := fun f v k => Q3 (J0 v) f k
def G49 : X2 := fun f => f.p3.p1
noncomputable def S49 : D2 := fun f v k => Q3 (J1 v) f k
def G50 : X2 := fun f => f.p3.p2
noncomputable def S50 : D2 := fun f v k => Q3 (J2 v) f k
def G51 : X2 := fun f => f.p3.p3
noncomputable def S51 : D2 := fun f v k => Q3 (J3 v) f k
def G52 : X2 := fun f => f.p3.p4
noncomputable def S52 : D2 := fun f v k => Q3 (J4 v) f k
def G53 : X2 := fun f => f.p3.p5
noncomputable def S53 : D2 := fun f v k => Q3 (J5 v) f k
def G54 : X2 := fun f => f.p3.p6
noncomputable def S54 : D2 := fun f v k => Q3 (J6 v) f k
def G55 : X2 := fun f => f.p3.p7
noncomputable def S55 : D2 := fun f v k => Q3 (J7 v) f k
def G56 : X2 := fun f => f.p3.p8
noncomputable def S56 : D2 := fun f v k => Q3 (J8 v) f k
def G57 : X2 := fun f => f.p3.p9
noncomputable def S57 : D2 := fun f v k => Q3 (J9 v) f k
def G58 : X2 := fun f => f.p3.p10
noncomputable def S58 : D2 := fun f v k => Q3 (J10 v) f k
def G59 : X2 := fun f => f.p3.p11
noncomputable def S59 : D2 := fun f v k => Q3 (J11 v) f k
def G60 : X2 := fun f => f.p3.p12
noncomputable def S60 : D2 := fun f v k => Q3 (J12 v) f k
def G61 : X2 := fun f => f.p3.p13
noncomputable def S61 : D2 := fun f v k => Q3 (J13 v) f k
def G62 : X2 := fun f => f.p3.p14
noncomputable def S62 : D2 := fun f v k => Q3 (J14 v) f k
def G63 : X2 := fun f => f.p3.p15
noncomputable def S63 : D2 := fun f v k => Q3 (J15 v) f k
def G64 : X2 := fun f => f.p4.p0
noncomputable def S64 : D2 := fun f v k => Q4 (J0 v) f k
def G65 : X2 := fun f => f.p4.p1
noncomputable def S65 : D2 := fun f v k => Q4 (J1 v) f k
def G66 : X2 := fun f => f.p4.p2
noncomputable def S66 : D2 := fun f v k => Q4 (J2 v) f k
def G67 : X2 := fun f => f.p4.p3
noncomputable def S67 : D2 := fun f v k => Q4 (J3 v) f k
def G68 : X2 := fun f => f.p4.p4
noncomputable def S68 : D2 := fun f v k => Q4 (J4 v) f k
def G69 : X2 := fun f => f.p4.p5
noncomputable def S69 : D2 := fun f v k => Q4 (J5 v) f k
def G70 : X2 := fun f => f.p4.p6
noncomputable def S70 : D2 := fun f v k => Q4 (J6 v) f k
def G71 : X2 := fun f => f.p4.p7
noncomputable def S71 : D2 := fun f v k => Q4 (J7 v) f k
def G72 : X2 := fun f => f.p4.p8
noncomputable def S72 : D2 := fun f v k => Q4 (J8 v) f k
def G73 : X2 := fun f => f.p4.p9
noncomputable def S73 : D2 := fun f v k => Q4 (J9 v) f k
def G74 : X2 := fun f => f.p4.p10
noncomputable def S74 : D2 := fun f v k => Q4 (J10 v) f k
def G75 : X2 := fun f => f.p4.p11
noncomputable def S75 : D2 := fun f v k => Q4 (J11 v) f k
def G76 : X2 := fun f => f.p4.p12
noncomputable def S76 : D2 := fun f v k => Q4 (J12 v) f k
def G77 : X2 := fun f => f.p4.p13
noncomputable def S77 : D2 := fun f v k => Q4 (J13 v) f k
def G78 : X2 := fun f => f.p4.p14
noncomputable def S78 : D2 := fun f v k => Q4 (J14 v) f k
def G79 : X2 := fun f => f.p4.p15
noncomputable def S79 : D2 := fun f v k => Q4 (J15 v) f k
def G80 : X2 := fun f => f.p5.p0
noncomputable def S80 : D2 := fun f v k => Q5 (J0 v) f k
def G81 : X2 := fun f => f.p5.p1
noncomputable def S81 : D2 := fun f v k => Q5 (J1 v) f k
def G82 : X2 := fun f => f.p5.p2
noncomputable def S82 : D2 := fun f v k => Q5 (J2 v) f k
def G83 : X2 := fun f => f.p5.p3
noncomputable def S83 : D2 := fun f v k => Q5 (J3 v) f k
def G84 : X2 := fun f => f.p5.p4
noncomputable def S84 : D2 := fun f v k => Q5 (J4 v) f k
def G85 : X2 := fun f => f.p5.p5
noncomputable def S85 : D2 := fun f v k => Q5 (J5 v) f k
def G86 : X2 := fun f => f.p5.p6
noncomputable def S86 : D2 := fun f v k => Q5 (J6 v) f k
def G87 : X2 := fun f => f.p5.p7
noncomputable def S87 : D2 := fun f v k => Q5 (J7 v) f k
def G88 : X2 := fun f => f.p5.p8
noncomputable def S88 : D2 := fun f v k => Q5 (J8 v) f k
def G89 : X2 := fun f => f.p5.p9
noncomputable def S89 : D2 := fun f v k => Q5 (J9 v) f k
def G90 : X2 := fun f => f.p5.p10
noncomputable def S90 : D2 := fun f v k => Q5 (J10 v) f k
def G91 : X2 := fun f => f.p5.p11
noncomputable def S91 : D2 := fun f v k => Q5 (J11 v) f k
def G92 : X2 := fun f => f.p5.p12
noncomputable def S92 : D2 := fun f v k => Q5 (J12 v) f k
def G93 : X2 := fun f => f.p5.p13
noncomputable def S93 : D2 := fun f v k => Q5 (J13 v) f k
def G94 : X2 := fun f => f.p5.p14
noncomputable def S94 : D2 := fun f v k => Q5 (J14 v) f k
def G95 : X2 := fun f => f.p5.p15
noncomputable def S95 : D2 := fun f v k => Q5 (J15 v) f k
def G96 : X2 := fun f => f.p6.p0
noncomputable def S96 : D2 := fun f v k => Q6 (J0 v) f k
def G97 : X2 := fun f => f.p6.p1
noncomputable def S97 : D2 := fun f v k => Q6 (J1 v) f k
def G98 : X2 := fun f => f.p6.p2
noncomputable def S98 : D2 := fun f v k => Q6 (J2 v) f k
def G99 : X2 := fun f => f.p6.p3
noncomputable def S99 : D2 := fun f v k => Q6 (J3 v) f k
def G100 : X2 := fun f => f.p6.p4
noncomputable def S100 : D2 := fun f v k => Q6 (J4 v) f k
def G101 : X2 := fun f => f.p6.p5
noncomputable def S101 : D2 := fun f v k => Q6 (J5 v) f k
def G102 : X2 := fun f => f.p6.p6
noncomputable def S102 : D2 := fun f v k => Q6 (J6 v) f k
def G103 : X2 := fun f => f.p6.p7
noncomputable def S103 : D2 := fun f v k => Q6 (J7 v) f k
def G104 : X2 := fun f => f.p6.p8
noncomputable def S104 : D2 := fun f v k => Q6 (J8 v) f k
def G105 : X2 := fun f => f.p6.p9
noncomputable def S105 : D2 := fun f v k => Q6 (J9 v) f k
def G106 : X2 := fun f => f.p6.p10
noncomputable def S106 : D2 := fun f v k => Q6 (J10 v) f k
def G107 : X2 := fun f => f.p6.p11
noncomputable def S107 : D2 := fun f v k => Q6 (J11 v) f k
def G108 : X2 := fun f => f.p6.p12
noncomputable def S108 : D2 := fun f v k => Q6 (J12 v) f k
def G109 : X2 := fun f => f.p6.p13
noncomputable def S109 : D2 := fun f v k => Q6 (J13 v) f k
def G110 : X2 := fun f => f.p6.p14
noncomputable def S110 : D2 := fun f v k => Q6 (J14 v) f k
def G111 : X2 := fun f => f.p6.p15
noncomputable def S111 : D2 := fun f v k => Q6 (J15 v) f k
def G112 : X2 := fun f => f.p7.p0
noncomputable def S112 : D2 := fun f v k => Q7 (J0 v) f k
def G113 : X2 := fun f => f.p7.p1
noncomputable def S113 : D2 := fun f v k => Q7 (J1 v) f k
def G114 : X2 := fun f => f.p7.p2
noncomputable def S114 : D2 := fun f v k => Q7 (J2 v) f k
def G115 : X2 := fun f => f.p7.p3
noncomputable def S115 : D2 := fun f v k => Q7 (J3 v) f k
def G116 : X2 := fun f => f.p7.p4
noncomputable def S116 : D2 := fun f v k => Q7 (J4 v) f k
def G117 : X2 := fun f => f.p7.p5
noncomputable def S117 : D2 := fun f v k => Q7 (J5 v) f k
def G118 : X2 := fun f => f.p7.p6
noncomputable def S118 : D2 := fun f v k => Q7 (J6 v) f k
def G119 : X2 := fun f => f.p7.p7
noncomputable def S119 : D2 := fun f v k => Q7 (J7 v) f k
def G120 : X2 := fun f => f.p7.p8
noncomputable def S120 : D2 := fun f v k => Q7 (J8 v) f k
def G121 : X2 := fun f => f.p7.p9
noncomputable def S121 : D2 := fun f v k => Q7 (J9 v) f k
def G122 : X2 := fun f => f.p7.p10
noncomputable def S122 : D2 := fun f v k => Q7 (J10 v) f k
def G123 : X2 := fun f => f.p7.p11
noncomputable def S123 : D2 := fun f v k => Q7 (J11 v) f k
def G124 : X2 := fun f => f.p7.p12
noncomputable def S124 : D2 := fun f v k => Q7 (J12 v) f k
def G125 : X2 := fun f => f.p7.p13
noncomputable def S125 : D2 := fun f v k => Q7 (J13 v) f k
def G126 : X2 := fun f => f.p7.p14
noncomputable def S126 : D2 := fun f v k => Q7 (J14 v) f k
def G127 : X2 := fun f => f.p7.p15
noncomputable def S127 : D2 := fun f v k => Q7 (J15 v) f k
def G128 : X2 := fun f => f.p8.p0
noncomputable def S128 : D2 := fun f v k => Q8 (J0 v) f k
def G129 : X2 := fun f => f.p8.p1
noncomputable def S129 : D2 := fun f v k => Q8 (J1 v) f k
def G130 : X2 := fun f => f.p8.p2
noncomputable def S130 : D2 := fun f v k => Q8 (J2 v) f k
def G131 : X2 := fun f => f.p8.p3
noncomputable def S131 : D2 := fun f v k => Q8 (J3 v) f k
def G132 : X2 := fun f => f.p8.p4
noncomputable def S132 : D2 := fun f v k => Q8 (J4 v) f k
def G133 : X2 := fun f => f.p8.p5
noncomputable def S133 : D2 := fun f v k => Q8 (J5 v) f k
def G134 : X2 := fun f => f.p8.p6
noncomputable def S134 : D2 := fun f v k => Q8 (J6 v) f k
def G135 : X2 := fun f => f.p8.p7
noncomputable def S135 : D2 := fun f v k => Q8 (J7 v) f k
def G136 : X2 := fun f => f.p8.p8
noncomputable def S136 : D2 := fun f v k => Q8 (J8 v) f k
def G137 : X2 := fun f => f.p8.p9
noncomputable def S137 : D2 := fun f v k => Q8 (J9 v) f k
def G138 : X2 := fun f => f.p8.p10
noncomputable def S138 : D2 := fun f v k => Q8 (J10 v) f k
def G139 : X2 := fun f => f.p8.p11
noncomputable def S139 : D2 := fun f v k => Q8 (J11 v) f k
def G140 : X2 := fun f => f.p8.p12
noncomputable def S140 : D2 := fun f v k => Q8 (J12 v) f k
def G141 : X2 := fun f => f.p8.p13
noncomputable def S141 : D2 := fun f v k => Q8 (J13 v) f k
def G142 : X2 := fun f => f.p8.p14
noncomputable def S142 : D2 := fun f v k => Q8 (J14 v) f k
def G143 : X2 := fun f => f.p8.p15
noncomputable def S143 : D2 := fun f v k => Q8 (J15 v) f k
def G144 : X2 := fun f => f.p9.p0
noncomputable def S144 : D2 := fun f v k => Q9 (J0 v) f k
def G145 : X2 := fun f => f.p9.p1
noncomputable def S145 : D2 := fun f v k => Q9 (J1 v) f k
def G146 : X2 := fun f => f.p9.p2
noncomputable def S146 : D2 := fun f v k => Q9 (J2 v) f k
def G147 : X2 := fun f => f.p9.p3
noncomputable def S147 : D2 := fun f v k => Q9 (J3 v) f k
def G148 : X2 := fun f => f.p9.p4
noncomputable def S148 : D2 := fun f v k => Q9 (J4 v) f k
def G149 : X2 := fun f => f.p9.p5
noncomputable def S149 : D2 := fun f v k => Q9 (J5 v) f k
def G150 : X2 := fun f => f.p9.p6
noncomputable def S150 : D2 := fun f v k => Q9 (J6 v) f k
def G151 : X2 := fun f => f.p9.p7
noncomputable def S151 : D2 := fun f v k => Q9 (J7 v) f k
def G152 : X2 := fun f => f.p9.p8
noncomputable def S152 : D2 := fun f v k => Q9 (J8 v) f k
def G153 : X2 := fun f => f.p9.p9
noncomputable def S153 : D2 := fun f v k => Q9 (J9 v) f k
def G154 : X2 := fun f => f.p9.p10
noncomputable def S154 : D2 := fun f v k => Q9 (J10 v) f k
def G155 : X2 := fun f => f.p9.p11
noncomputable def S155 : D2 := fun f v k => Q9 (J11 v) f k
def G156 : X2 := fun f => f.p9.p12
noncomputable def S156 : D2 := fun f v k => Q9 (J12 v) f k
def G157 : X2 := fun f => f.p9.p13
noncomputable def S157 : D2 := fun f v k => Q9 (J13 v) f k
def G158 : X2 := fun f => f.p9.p14
noncomputable def S158 : D2 := fun f v k => Q9 (J14 v) f k
def G159 : X2 := fun f => f.p9.p15
noncomputable def S159 : D2 := fun f v k => Q9 (J15 v) f k
def G160 : X2 := fun f => f.p10.p0
noncomputable def S160 : D2 := fun f v k => Q10 (J0 v) f k
def G161 : X2 := fun f => f.p10.p1
noncomputable def S161 : D2 := fun f v k => Q10 (J1 v) f k
def G162 : X2 := fun f => f.p10.p2
noncomputable def S162 : D2 := fun f v k => Q10 (J2 v) f k
def G163 : X2 := fun f => f.p10.p3
noncomputable def S163 : D2 := fun f v k => Q10 (J3 v) f k
def G164 : X2 := fun f => f.p10.p4
noncomputable def S164 : D2 := fun f v k => Q10 (J4 v) f k
def G165 : X2 := fun f => f.p10.p5
noncomputable def S165 : D2 := fun f v k => Q10 (J5 v) f k
def G166 : X2 := fun f => f.p10.p6
noncomputable def S166 : D2 := fun f v k => Q10 (J6 v) f k
def G167 : X2 := fun f => f.p10.p7
noncomputable def S167 : D2 := fun f v k => Q10 (J7 v) f k
def G168 : X2 := fun f => f.p10.p8
noncomputable def S168 : D2 := fun f v k => Q10 (J8 v) f k
def G169 : X2 := fun f => f.p10.p9
noncomputable def S169 : D2 := fun f v k => Q10 (J9 v) f k
def G170 : X2 := fun f => f.p10.p10
noncomputable def S170 : D2 := fun f v k => Q10 (J10 v) f k
def G171 : X2 := fun f => f.p10.p11
noncomputable def S171 : D2 := fun f v k => Q10 (J11 v) f k
def G172 : X2 := fun f => f.p10.p12
noncomputable def S172 : D2 := fun f v k => Q10 (J12 v) f k
def G173 : X2 := fun f => f.p10.p13
noncomputable def S173 : D2 := fun f v k => Q10 (J13 v) f k
def G174 : X2 := fun f => f.p10.p14
noncomputable def S174 : D2 := fun f v k => Q10 (J14 v) f k
def G175 : X2 := fun f => f.p10.p15
noncomputable def S175 : D2 := fun f v k => Q10 (J15 v) f k
def G176 : X2 := fun f => f.p11.p0
noncomputable def S176 : D2 := fun f v k => Q11 (J0 v) f k
def G177 : X2 := fun f => f.p11.p1
noncomputable def S177 : D2 := fun f v k => Q11 (J1 v) f k
def G178 : X2 := fun f => f.p11.p2
noncomputable def S178 : D2 := fun f v k => Q11 (J2 v) f k
def G179 : X2 := fun f => f.p11.p3
noncomputable def S179 : D2 := fun f v k => Q11 (J3 v) f k
def G180 : X2 := fun f => f.p11.p4
noncomputable def S180 : D2 := fun f v k => Q11 (J4 v) f k
def G181 : X2 := fun f => f.p11.p5
noncomputable def S181 : D2 := fun f v k => Q11 (J5 v) f k
def G182 : X2 := fun f => f.p11.p6
noncomputable def S182 : D2 := fun f v k => Q11 (J6 v) f k
def G183 : X2 := fun f => f.p11.p7
noncomputable def S183 : D2 := fun f v k => Q11 (J7 v) f k
def G184 : X2 := fun f => f.p11.p8
noncomputable def S184 : D2 := fun f v k => Q11 (J8 v) f k
def G185 : X2 := fun f => f.p11.p9
noncomputable def S185 : D2 := fun f v k => Q11 (J9 v) f k
def G186 : X2 := fun f => f.p11.p10
noncomputable def S186 : D2 := fun f v k => Q11 (J10 v) f k
def G187 : X2 := fun f => f.p11.p11
noncomputable def S187 : D2 := fun f v k => Q11 (J11 v) f k
def G188 : X2 := fun f => f.p11.p12
noncomputable def S188 : D2 := fun f v k => Q11 (J12 v) f k
def G189 : X2 := fun f => f.p11.p13
noncomputable def S189 : D2 := fun f v k => Q11 (J13 v) f k
def G190 : X2 := fun f => f.p11.p14
noncomputable def S190 : D2 := fun f v k => Q11 (J14 v) f k
def G191 : X2 := fun f => f.p11.p15
noncomputable def S191 : D2 := fun f v k => Q11 (J15 v) f k
def G192 : X2 := fun f => f.p12.p0
noncomputable def S192 : D2 := fun f v k => Q12 (J0 v) f k
def G193 : X2 := fun f => f.p12.p1
noncomputable def S193 : D2 := fun f v k => Q12 (J1 v) f k
def G194 : X2 := fun f => f.p12.p2
noncomputable def S194 : D2 := fun f v k => Q12 (J2 v) f k
def G195 : X2 := fun f => f.p12.p3
noncomputable def S195 : D2 := fun f v k => Q12 (J3 v) f k
def G196 : X2 := fun f => f.p12.p4
noncomputable def S196 : D2 := fun f v k => Q12 (J4 v) f k
def G197 : X2 := fun f => f.p12.p5
noncomputable def S197 : D2 := fun f v k => Q12 (J5 v) f k
def G198 : X2 := fun f => f.p12.p6
noncomputable def S198 : D2 := fun f v k => Q12 (J6 v) f k
def G199 : X2 := fun f => f.p12.p7
noncomputable def S199 : D2 := fun f v k => Q12 (J7 v) f k
def G200 : X2 := fun f => f.p12.p8
noncomputable def S200 : D2 := fun f v k => Q12 (J8 v) f k
def G201 : X2 := fun f => f.p12.p9
noncomputable def S201 : D2 := fun f v k => Q12 (J9 v) f k
def G202 : X2 := fun f => f.p12.p10
noncomputable def S202 : D2 := fun f v k => Q12 (J10 v) f k
def G203 : X2 := fun f => f.p12.p11
noncomputable def S203 : D2 := fun f v k => Q12 (J11 v) f k
def G204 : X2 := fun f => f.p12.p12
noncomputable def S204 : D2 := fun f v k => Q12 (J12 v) f k
def G205 : X2 := fun f => f.p12.p13
noncomputable def S205 : D2 := fun f v k => Q12 (J13 v) f k
def G206 : X2 := fun f => f.p12.p14
noncomputable def S206 : D2 := fun f v k => Q12 (J14 v) f k
def G207 : X2 := fun f => f.p12.p15
noncomputable def S207 : D2 := fun f v k => Q12 (J15 v) f k
def G208 : X2 := fun f => f.p13.p0
noncomputable def S208 : D2 := fun f v k => Q13 (J0 v) f k
def G209 : X2 := fun f => f.p13.p1
noncomputable def S209 : D2 := fun f v k => Q13 (J1 v) f k
def G210 : X2 := fun f => f.p13.p2
noncomputable def S210 : D2 := fun f v k => Q13 (J2 v) f k
def G211 : X2 := fun f => f.p13.p3
noncomputable def S211 : D2 := fun f v k => Q13 (J3 v) f k
def G212 : X2 := fun f => f.p13.p4
noncomputable def S212 : D2 := fun f v k => Q13 (J4 v) f k
def G213 : X2 := fun f => f.p13.p5
noncomputable def S213 : D2 := fun f v k => Q13 (J5 v) f k
def G214 : X2 := fun f => f.p13.p6
noncomputable def S214 : D2 := fun f v k => Q13 (J6 v) f k
def G215 : X2 := fun f => f.p13.p7
noncomputable def S215 : D2 := fun f v k => Q13 (J7 v) f k
def G216 : X2 := fun f => f.p13.p8
noncomputable def S216 : D2 := fun f v k => Q13 (J8 v) f k
def G217 : X2 := fun f => f.p13.p9
noncomputable def S217 : D2 := fun f v k => Q13 (J9 v) f k
def G218 : X2 := fun f => f.p13.p10
noncomputable def S218 : D2 := fun f v k => Q13 (J10 v) f k
def G219 : X2 := fun f => f.p13.p11
noncomputable def S219 : D2 := fun f v k => Q13 (J11 v) f k
def G220 : X2 := fun f => f.p13.p12
noncomputable def S220 : D2 := fun f v k => Q13 (J12 v) f k
def G221 : X2 := fun f => f.p13.p13
noncomputable def S221 : D2 := fun f v k => Q13 (J13 v) f k
def G222 : X2 := fun f => f.p13.p14
noncomputable def S222 : D2 := fun f v k => Q13 (J14 v) f k
def G223 : X2 := fun f => f.p13.p15
noncomputable def S223 : D2 := fun f v k => Q13 (J15 v) f k
def G224 : X2 := fun f => f.p14.p0
noncomputable def S224 : D2 := fun f v k => Q14 (J0 v) f k
def G225 : X2 := fun f => f.p14.p1
noncomputable def S225 : D2 := fun f v k => Q14 (J1 v) f k
def G226 : X2 := fun f => f.p14.p2
noncomputable def S226 : D2 := fun f v k => Q14 (J2 v) f k
def G227 : X2 := fun f => f.p14.p3
noncomputable def S227 : D2 := fun f v k => Q14 (J3 v) f k
def G228 : X2 := fun f => f.p14.p4
noncomputable def S228 : D2 := fun f v k => Q14 (J4 v) f k
def G229 : X2 := fun f => f.p14.p5
noncomputable def S229 : D2 := fun f v k => Q14 (J5 v) f k
def G230 : X2 := fun f => f.p14.p6
noncomputable def S230 : D2 := fun f v k => Q14 (J6 v) f k
def G231 : X2 := fun f => f.p14.p7
noncomputable def S231 : D2 := fun f v k => Q14 (J7 v) f k
def G232 : X2 := fun f => f.p14.p8
noncomputable def S232 : D2 := fun f v k => Q14 (J8 v) f k
def G233 : X2 := fun f => f.p14.p9
noncomputable def S233 : D2 := fun f v k => Q14 (J9 v) f k
def G234 : X2 := fun f => f.p14.p10
noncomputable def S234 : D2 := fun f v k => Q14 (J10 v) f k
def G235 : X2 := fun f => f.p14.p11
noncomputable def S235 : D2 := fun f v k => Q14 (J11 v) f k
def G236 : X2 := fun f => f.p14.p12
noncomputable def S236 : D2 := fun f v k => Q14 (J12 v) f k
def G237 : X2 := fun f => f.p14.p13
noncomputable def S237 : D2 := fun f v k => Q14 (J13 v) f k
def G238 : X2 := fun f => f.p14.p14
noncomputable def S238 : D2 := fun f v k => Q14 (J14 v) f k
def G239 : X2 := fun f => f.p14.p15
noncomputable def S239 : D2 := fun f v k => Q14 (J15 v) f k
def G240 : X2 := fun f => f.p15.p0
noncomputable def S240 : D2 := fun f v k => Q15 (J0 v) f k
def G241 : X2 := fun f => f.p15.p1
noncomputable def S241 : D2 := fun f v k => Q15 (J1 v) f k
def G242 : X2 := fun f => f.p15.p2
noncomputable def S242 : D2 := fun f v k => Q15 (J2 v) f k
def G243 : X2 := fun f => f.p15.p3
noncomputable def S243 : D2 := fun f v k => Q15 (J3 v) f k
def G244 : X2 := fun f => f.p15.p4
noncomputable def S244 : D2 := fun f v k => Q15 (J4 v) f k
def G245 : X2 := fun f => f.p15.p5
noncomputable def S245 : D2 := fun f v k => Q15 (J5 v) f k
def G246 : X2 := fun f => f.p15.p6
noncomputable def S246 : D2 := fun f v k => Q15 (J6 v) f k
def G247 : X2 := fun f => f.p15.p7
noncomputable def S247 : D2 := fun f v k => Q15 (J7 v) f k
def G248 : X2 := fun f => f.p15.p8
noncomputable def S248 : D2 := fun f v k => Q15 (J8 v) f k
def G249 : X2 := fun f => f.p15.p9
noncomputable def S249 : D2 := fun f v k => Q15 (J9 v) f k
def G250 : X2 := fun f => f.p15.p10
noncomputable def S250 : D2 := fun f v k => Q15 (J10 v) f k
def G251 : X2 := fun f => f.p15.p11
noncomputable def S251 : D2 := fun f v k => Q15 (J11 v) f k
def G252 : X2 := fun f => f.p15.p12
noncomputable def S252 : D2 := fun f v k => Q15 (J12 v) f k
def G253 : X2 := fun f => f.p15.p13
noncomputable def S253 : D2 := fun f v k => Q15 (J13 v) f k
def G254 : X2 := fun f => f.p15.p14
noncomputable def S254 : D2 := fun f v k => Q15 (J14 v) f k
def G255 : X2 := fun f => f.p15.p15
noncomputable def S255 : D2 := fun f v k => Q15 (J15 v) f k
noncomputable def sAll : List D2 := [S0, S1, S2, S3, S4, S5, S6, S7, S8, S9, S10, S11, S12, S13, S14, S15, S16, S17, S18, S19, S20, S21, S22, S23, S24, S25, S26, S27, S28, S29, S30, S31, S32, S33, S34, S35, S36, S37, S38, S39, S40, S41, S42, S43, S44, S45, S46, S47, S48, S49, S50, S51, S52, S53, S54, S55, S56, S57, S58, S59, S60, S61, S62, S63, S64, S65, S66, S67, S68, S69, S70, S71, S72, S73, S74, S75, S76, S77, S78, S79, S80, S81, S82, S83, S84, S85, S86, S87, S88, S89, S90, S91, S92, S93, S94, S95, S96, S97, S98, S99, S100, S101, S102, S103, S104, S105, S106, S107, S108, S109, S110, S111, S112, S113, S114, S115, S116, S117, S118, S119, S120, S121, S122, S123, S124, S125, S126, S127, S128, S129, S130, S131, S132, S133, S134, S135, S136, S137, S138, S139, S140, S141, S142, S143, S144, S145, S146, S147, S148, S149, S150, S151, S152, S153, S154, S155, S156, S157, S158, S159, S160, S161, S162, S163, S164, S165, S166, S167, S168, S169, S170, S171, S172, S173, S174, S175, S176, S177, S178, S179, S180, S181, S182, S183, S184, S185, S186, S187, S188, S189, S190, S191, S192, S193, S194, S195, S196, S197, S198, S199, S200, S201, S202, S203, S204, S205, S206, S207, S208, S209, S210, S211, S212, S213, S214, S215, S216, S217, S218, S219, S220, S221, S222, S223, S224, S225, S226, S227, S228, S229, S230, S231, S232, S233, S234, S235, S236, S237, S238, S239, S240, S241, S242, S243, S244, S245, S246, S247, S248, S249, S250, S251, S252, S253, S254, S255]
def AllK : Nat → List D2 → Prop
  | _, [] => True
  | i, s :: r => s = ptK i ∧ AllK (i + 1) r
theorem es0 : S0 = ptK 0 := by kernel_rfl
theorem es1 : S1 = ptK 1 := by kernel_rfl
theorem es2 : S2 = ptK 2 := by kernel_rfl
theorem es3 : S3 = ptK 3 := by kernel_rfl
theorem es4 : S4 = ptK 4 := by kernel_rfl
theorem es5 : S5 = ptK 5 := by kernel_rfl
theorem es6 : S6 = ptK 6 := by kernel_rfl
theorem es7 : S7 = ptK 7 := by kernel_rfl
theorem es8 : S8 = ptK 8 := by kernel_rfl
theorem es9 : S9 = ptK 9 := by kernel_rfl
theorem es10 : S10 = ptK 10 := by kernel_rfl
theorem es11 : S11 = ptK 11 := by kernel_rfl
theorem es12 : S12 = ptK 12 := by kernel_rfl
theorem es13 : S13 = ptK 13 := by kernel_rfl
theorem es14 : S14 = ptK 14 := by kernel_rfl
theorem es15 : S15 = ptK 15 := by kernel_rfl
theorem es16 : S16 = ptK 16 := by kernel_rfl
theorem es17 : S17 = ptK 17 := by kernel_rfl
theorem es18 : S18 = ptK 18 := by kernel_rfl
theorem es19 : S19 = ptK 19 := by kernel_rfl
theorem es20 : S20 = ptK 20 := by kernel_rfl
theorem es21 : S21 = ptK 21 := by kernel_rfl
theorem es22 : S22 = ptK 22 := by kernel_rfl
theorem es23 : S23 = ptK 23 := by kernel_rfl
theorem es24 : S24 = ptK 24 := by kernel_rfl
theorem es25 : S25 = ptK 25 := by kernel_rfl
theorem es26 : S26 = ptK 26 := by kernel_rfl
theorem es27 : S27 = ptK 27 := by kernel_rfl
theorem es28 : S28 = ptK 28 := by kernel_rfl
theorem es29 : S29 = ptK 29 := by kernel_rfl
theorem es30 : S30 = ptK 30 := by kernel_rfl
theorem es31 : S31 = ptK 31 := by kernel_rfl
theorem es32 : S32 = ptK 32 := by kernel_rfl
theorem es33 : S33 = ptK 33 := by kernel_rfl
theorem es34 : S34 = ptK 34 := by kernel_rfl
theorem es35 : S35 = ptK 35 := by kernel_rfl
theorem es36 : S36 = ptK 36 := by kernel_rfl
theorem es37 : S37 = ptK 37 := by kernel_rfl
theorem es38 : S38 = ptK 38 := by kernel_rfl
theorem es39 : S39 = ptK 39 := by kernel_rfl
theorem es40 : S40 = ptK 40 := by kernel_rfl
theorem es41 : S41 = ptK 41 := by kernel_rfl
theorem es42 : S42 = ptK 42 := by kernel_rfl
theorem es43 : S43 = ptK 43 := by kernel_rfl
theorem es44 : S44 = ptK 44 := by kernel_rfl
theorem es45 : S45 = ptK 45 := by kernel_rfl
theorem es46 : S46 = ptK 46 := by kernel_rfl
theorem es47 : S47 = ptK 47 := by kernel_rfl
theorem es48 : S48 = ptK 48 := by kernel_rfl
theorem es49 : S49 = ptK 49 := by kernel_rfl
theorem es50 : S50 = ptK 50 := by kernel_rfl
theorem es51 : S51 = ptK 51 := by kernel_rfl
theorem es52 : S52 = ptK 52 := by kernel_rfl
theorem es53 : S53 = ptK 53 := by kernel_rfl
theorem es54 : S54 = ptK 54 := by kernel_rfl
theorem es55 : S55 = ptK 55 := by kernel_rfl
theorem es56 : S56 = ptK 56 := by kernel_rfl
theorem es57 : S57 = ptK 57 := by kernel_rfl
theorem es58 : S58 = ptK 58 := by kernel_rfl
theorem es59 : S59 = ptK 59 := by kernel_rfl
theorem es60 : S60 = ptK 60 := by kernel_rfl
theorem es61 : S61 = ptK 61 := by kernel_rfl
theorem es62 : S62 = ptK 62 := by kernel_rfl
theorem es63 : S63 = ptK 63 := by kernel_rfl
theorem es64 : S64 = ptK 64 := by kernel_rfl
theorem es65 : S65 = ptK 65 := by kernel_rfl
theorem es66 : S66 = ptK 66 := by kernel_rfl
theorem es67 : S67 = ptK 67 := by kernel_rfl
theorem es68 : S68 = ptK 68 := by kernel_rfl
theorem es69 : S69 = ptK 69 := by kernel_rfl
theorem es70 : S70 = ptK 70 := by kernel_rfl
theorem es71 : S71 = ptK 71 := by kernel_rfl
theorem es72 : S72 = ptK 72 := by kernel_rfl
theorem es73 : S73 = ptK 73 := by kernel_rfl
theorem es74 : S74 = ptK 74 := by kernel_rfl
theorem es75 : S75 = ptK 75 := by kernel_rfl
theorem es76 : S76 = ptK 76 := by kernel_rfl
theorem es77 : S77 = ptK 77 := by kernel_rfl
theorem es78 : S78 = ptK 78 := by kernel_rfl
theorem es79 : S79 = ptK 79 := by kernel_rfl
theorem es80 : S80 = ptK 80 := by kernel_rfl
theorem es81 : S81 = ptK 81 := by kernel_rfl
theorem es82 : S82 = ptK 82 := by kernel_rfl
theorem es83 : S83 = ptK 83 := by kernel_rfl
theorem es84 : S84 = ptK 84 := by kernel_rfl
theorem es85 : S85 = ptK 85 := by kernel_rfl
theorem es86 : S86 = ptK 86 := by kernel_rfl
theorem es87 : S87 = ptK 87 := by kernel_rfl
theorem es88 : S88 = ptK 88 := by kernel_rfl
theorem es89 : S89 = ptK 89 := by kernel_rfl
theorem es90 : S90 = ptK 90 := by kernel_rfl
theorem es91 : S91 = ptK 91 := by kernel_rfl
theorem es92 : S92 = ptK 92 := by kernel_rfl
theorem es93 : S93 = ptK 93 := by kernel_rfl
theorem es94 : S94 = ptK 94 := by kernel_rfl
theorem es95 : S95 = ptK 95 := by kernel_rfl
theorem es96 : S96 = ptK 96 := by kernel_rfl
theorem es97 : S97 = ptK 97 := by kernel_rfl
theorem es98 : S98 = ptK 98 := by kernel_rfl
theorem es99 : S99 = ptK 99 := by kernel_rfl
theorem es100 : S100 = ptK 100 := by kernel_rfl
theorem es101 : S101 = ptK 101 := by kernel_rfl
theorem es102 : S102 = ptK 102 := by kernel_rfl
theorem es103 : S103 = ptK 103 := by kernel_rfl
theorem es104 : S104 = ptK 104 := by kernel_rfl
theorem es105 : S105 = ptK 105 := by kernel_rfl
theorem es106 : S106 = ptK 106 := by kernel_rfl
theorem es107 : S107 = ptK 107 := by kernel_rfl
theorem es108 : S108 = ptK 108 := by kernel_rfl
theorem es109 : S109 = ptK 109 := by kernel_rfl
theorem es110 : S110 = ptK 110 := by kernel_rfl
theorem es111 : S111 = ptK 111 := by kernel_rfl
theorem es112 : S112 = ptK 112 := by kernel_rfl
theorem es113 : S113 = ptK 113 := by kernel_rfl
theorem es114 : S114 = ptK 114 := by kernel_rfl
theorem es115 : S115 = ptK 115 := by kernel_rfl
theorem es116 : S116 = ptK 116 := by kernel_rfl
theorem es117 : S117 = ptK 117 := by kernel_rfl
theorem es118 : S118 = ptK 118 := by kernel_rfl
theorem es119 : S119 = ptK 119 := by kernel_rfl
theorem es120 : S120 = ptK 120 := by kernel_rfl
theorem es121 : S121 = ptK 121 := by kernel_rfl
theorem es122 : S122 = ptK 122 := by kernel_rfl
theorem es123 : S123 = ptK 123 := by kernel_rfl
theorem es124 : S124 = ptK 124 := by kernel_rfl
theorem es125 : S125 = ptK 125 := by kernel_rfl
theorem es126 : S126 = ptK 126 := by kernel_rfl
theorem es127 : S127 = ptK 127 := by kernel_rfl
theorem es128 : S128 = ptK 128 := by kernel_rfl
theorem es129 : S129 = ptK 129 := by kernel_rfl
theorem es130 : S130 = ptK 130 := by kernel_rfl
theorem es131 : S131 = ptK 131 := by kernel_rfl
theorem es132 : S132 = ptK 132 := by kernel_rfl
theorem es133 : S133 = ptK 133 := by kernel_rfl
theorem es134 : S134 = ptK 134 := by kernel_rfl
theorem es135 : S135 = ptK 135 := by kernel_rfl
theorem es136 : S136 = ptK 136 := by kernel_rfl
theorem es137 : S137 = ptK 137 := by kernel_rfl
theorem es138 : S138 = ptK 138 := by kernel_rfl
theorem es139 : S139 = ptK 139 := by kernel_rfl
theorem es140 : S140 = ptK 140 := by kernel_rfl
theorem es141 : S141 = ptK 141 := by kernel_rfl
theorem es142 : S142 = ptK 142 := by kernel_rfl
theorem es143 : S143 = ptK 143 := by kernel_rfl
theorem es144 : S144 = ptK 144 := by kernel_rfl
theorem es145 : S145 = ptK 145 := by kernel_rfl
theorem es146 : S146 = ptK 146 := by kernel_rfl
theorem es147 : S147 = ptK 147 := by kernel_rfl
theorem es148 : S148 = ptK 148 := by kernel_rfl
theorem es149 : S149 = ptK 149 := by kernel_rfl
theorem es150 : S150 = ptK 150 := by kernel_rfl
theorem es151 : S151 = ptK 151 := by kernel_rfl
theorem es152 : S152 = ptK 152 := by kernel_rfl
theorem es153 : S153 = ptK 153 := by kernel_rfl
theorem es154 : S154 = ptK 154 := by kernel_rfl
theorem es155 : S155 = ptK 155 := by kernel_rfl
theorem es156 : S156 = ptK 156 := by kernel_rfl
theorem es157 : S157 = ptK 157 := by kernel_rfl
theorem es158 : S158 = ptK 158 := by kernel_rfl
theorem es159 : S159 = ptK 159 := by kernel_rfl
theorem es160 : S160 = ptK 160 := by kernel_rfl
theorem es161 : S161 = ptK 161 := by kernel_rfl
theorem es162 : S162 = ptK 162 := by kernel_rfl
theorem es163 : S163 = ptK 163 := by kernel_rfl
theorem es164 : S164 = ptK 164 := by kernel_rfl
theorem es165 : S165 = ptK 165 := by kernel_rfl
theorem es166 : S166 = ptK 166 := by kernel_rfl
theorem es167 : S167 = ptK 167 := by kernel_rfl
theorem es168 : S168 = ptK 168 := by kernel_rfl
theorem es169 : S169 = ptK 169 := by kernel_rfl
theorem es170 : S170 = ptK 170 := by kernel_rfl
theorem es171 : S171 = ptK 171 := by kernel_rfl
theorem es172 : S172 = ptK 172 := by kernel_rfl
theorem es173 : S173 = ptK 173 := by kernel_rfl
theorem es174 : S174 = ptK 174 := by kernel_rfl
theorem es175 : S175 = ptK 175 := by kernel_rfl
theorem es176 : S176 = ptK 176 := by kernel_rfl
theorem es177 : S177 = ptK 177 := by kernel_rfl
theorem es178 : S178 = ptK 178 := by kernel_rfl
theorem es179 : S179 = ptK 179 := by kernel_rfl
theorem es180 : S180 = ptK 180 := by kernel_rfl
theorem es181 : S181 = ptK 181 := by kernel_rfl
theorem es182 : S182 = ptK 182 := by kernel_rfl
theorem es183 : S183 = ptK 183 := by kernel_rfl
theorem es184 : S184 = ptK 184 := by kernel_rfl
theorem es185 : S185 = ptK 185 := by kernel_rfl
theorem es186 : S186 = ptK 186 := by kernel_rfl
theorem es187 : S187 = ptK 187 := by kernel_rfl
theorem es188 : S188 = ptK 188 := by kernel_rfl
theorem es189 : S189 = ptK 189 := by kernel_rfl
theorem es190 : S190 = ptK 190 := by kernel_rfl
theorem es191 : S191 = ptK 191 := by kernel_rfl
theorem es192 : S192 = ptK 192 := by kernel_rfl
theorem es193 : S193 = ptK 193 := by kernel_rfl
theorem es194 : S194 = ptK 194 := by kernel_rfl
theorem es195 : S195 = ptK 195 := by kernel_rfl
theorem es196 : S196 = ptK 196 := by kernel_rfl
theorem es197 : S197 = ptK 197 := by kernel_rfl
theorem es198 : S198 = ptK 198 := by kernel_rfl
theorem es199 : S199 = ptK 199 := by kernel_rfl
theorem es200 : S200 = ptK 200 := by kernel_rfl
theorem es201 : S201 = ptK 201 := by kernel_rfl
theorem es202 : S202 = ptK 202 := by kernel_rfl
theorem es203 : S203 = ptK 203 := by kernel_rfl
theorem es204 : S204 = ptK 204 := by kernel_rfl
theorem es205 : S205 = ptK 205 := by kernel_rfl
theorem es206 : S206 = ptK 206 := by kernel_rfl
theorem es207 : S207 = ptK 207 := by kernel_rfl
theorem es208 : S208 = ptK 208 := by kernel_rfl
theorem es209 : S209 = ptK 209 := by kernel_rfl
theorem es210 : S210 = ptK 210 := by kernel_rfl
theorem es211 : S211 = ptK 211 := by kernel_rfl
theorem es212 : S212 = ptK 212 := by kernel_rfl
theorem es213 : S213 = ptK 213 := by kernel_rfl
theorem es214 : S214 = ptK 214 := by kernel_rfl
theorem es215 : S215 = ptK 215 := by kernel_rfl
theorem es216 : S216 = ptK 216 := by kernel_rfl
theorem es217 : S217 = ptK 217 := by kernel_rfl
theorem es218 : S218 = ptK 218 := by kernel_rfl
theorem es219 : S219 = ptK 219 := by kernel_rfl
theorem es220 : S220 = ptK 220 := by kernel_rfl
theorem es221 : S221 = ptK 221 := by kernel_rfl
theorem es222 : S222 = ptK 222 := by kernel_rfl
theorem es223 : S223 = ptK 223 := by kernel_rfl
theorem es224 : S224 = ptK 224 := by kernel_rfl
theorem es225 : S225 = ptK 225 := by kernel_rfl
theorem es226 : S226 = ptK 226 := by kernel_rfl
theorem es227 : S227 = ptK 227 := by kernel_rfl
theorem es228 : S228 = ptK 228 := by kernel_rfl
theorem es229 : S229 = ptK 229 := by kernel_rfl
theorem es230 : S230 = ptK 230 := by kernel_rfl
theorem es231 : S231 = ptK 231 := by kernel_rfl
theorem es232 : S232 = ptK 232 := by kernel_rfl
theorem es233 : S233 = ptK 233 := by kernel_rfl
theorem es234 : S234 = ptK 234 := by kernel_rfl
theorem es235 : S235 = ptK 235 := by kernel_rfl
theorem es236 : S236 = ptK 236 := by kernel_rfl
theorem es237 : S237 = ptK 237 := by kernel_rfl
theorem es238 : S238 = ptK 238 := by kernel_rfl
theorem es239 : S239 = ptK 239 := by kernel_rfl
theorem es240 : S240 = ptK 240 := by kernel_rfl
theorem es241 : S241 = ptK 241 := by kernel_rfl
theorem es242 : S242 = ptK 242 := by kernel_rfl
theorem es243 : S243 = ptK 243 := by kernel_rfl
theorem es244 : S244 = ptK 244 := by kernel_rfl
theorem es245 : S245 = ptK 245 := by kernel_rfl
theorem es246 : S246 = ptK 246 := by kernel_rfl
theorem es247 : S247 = ptK 247 := by kernel_rfl
theorem es248 : S248 = ptK 248 := by kernel_rfl
theorem es249 : S249 = ptK 249 := by kernel_rfl
theorem es250 : S250 = ptK 250 := by kernel_rfl
theorem es251 : S251 = ptK 251 := by kernel_rfl
theorem es252 : S252 = ptK 252 := by kernel_rfl
theorem es253 : S253 = ptK 253 := by kernel_rfl
theorem es254 : S254 = ptK 254 := by kernel_rfl
theorem es255 : S255 = ptK 255 := by kernel_rfl
theorem allK : AllK 0 sAll := ⟨es0, es1, es2, es3, es4, es5, es6, es7, es8, es9, es10, es11, es12, es13, es14, es15, es16, es17, es18, es19, es20, es21, es22, es23, es24, es25, es26, es27, es28, es29, es30, es31, es32, es33, es34, es35, es36, es37, es38, es39, es40, es41, es42, es43, es44, es45, es46, es47, es48, es49, es50, es51, es52, es53, es54, es55, es56, es57, es58, es59, es60, es61, es62, es63, es64, es65, es66, es67, es68, es69, es70, es71, es72, es73, es74, es75, es76, es77, es78, es79, es80, es81, es82, es83, es84, es85, es86, es87, es88, es89, es90, es91, es92, es93, es94, es95, es96, es97, es98, es99, es100, es101, es102, es103, es104, es105, es106, es107, es108, es109, es110, es111, es112, es113, es114, es115, es116, es117, es118, es119, es120, es121, es122, es123, es124, es125, es126, es127, es128, es129, es130, es131, es132, es133, es134, es135, es136, es137, es138, es139, es140, es141, es142, es143, es144, es145, es146, es147, es148, es149, es150, es151, es152, es153, es154, es155, es156, es157, es158, es159, es160, es161, es162, es163, es164, es165, es166, es167, es168, es169, es170, es171, es172, es173, es174, es175, es176, es177, es178, es179, es180, es181, es182, es183, es184, es185, es186, es187, es188, es189, es190, es191, es192, es193, es194, es195, es196, es197, es198, es199, es200, es201, es202, es203, es204, es205, es206, es207, es208, es209, es210, es211, es212, es213, es214, es215, es216, es217, es218, es219, es220, es221, es222, es223, es224, es225, es226, es227, es228, es229, es230, es231, es232, es233, es234, es235, es236, es237, es238, es239, es240, es241, es242, es243, es244, es245, es246, es247, es248, es249, es250, es251, es252, es253, es254, es255, trivial⟩
theorem AllK.at : ∀ {l : List D2} {i n : Nat} {s : D2} {t : List D2}, AllK i l → drops l n = s :: t → s = ptK (i + n)
  | x :: l, i, 0, s, t, h, e => by
    simp [drops] at e
    rw [← e.1]; exact h.1
  | x :: l, i, n + 1, s, t, h, e => by
    have := AllK.at (n := n) h.2 (show drops l n = s :: t from e)
    rw [this]; congr 1; omega
  | [], i, 0, s, t, h, e => by simp [drops] at e
  | [], i, n + 1, s, t, h, e => by simp [drops] at e
noncomputable def pickS (slot : Nat) : Option D2 := List.rec (motive := fun _ => Option D2) none (fun s _ _ => some s) (dropF sAll slot)
theorem pickS_ok {slot : Nat} {s : D2} (h : pickS slot = some s) : s = ptK slot := by
  unfold pickS at h
  rw [dropF_eq] at h
  cases hq : drops sAll slot with
  | nil => rw [hq] at h; cases h
  | cons x t =>
    rw [hq] at h
    simp at h
    subst h
    have := allK.at hq
    simpa using this
end Go.Ai.Fl
/-! The fast layer: operations that look at the heap, that change it. -/
namespace Go.Ai.Fl
open Go Go.Ai
set_option linter.unusedVariables false
set_option linter.unusedSimpArgs false

abbrev KL := V → List Tc → Rho
abbrev ROp := F → St → KL → Rho
def ROk (X : Env) (rop : ROp) (op : IOp) : Prop := ∀ f fr st k a, FRel f fr → rop f st k = some a → ∃ v log, k v log = some a ∧ isLocV v = false ∧ ∀ c y, runOp X c y fr st op = some (v, st, log, fr)
abbrev KE := V → St → F → Rho
abbrev EOp := CALL → F → St → KE → Rho
/-- calls that the interpreter makes, too -/
def ECall (X : Env) (E : CALL) : Prop := ∀ g vs st v st', E g vs st = some (v, st') → ∃ n log, rcall X (exec X n) g vs st = some (v, st', log)
def EOk (X : Env) (eop : EOp) (op : IOp) : Prop := ∀ E, ECall X E → ∀ f fr st k a, FRel f fr → eop E f st k = some a → ∃ v st' f' fr', k v st' f' = some a ∧ FRel f' fr' ∧ ∃ n lg, runOp X (rcall X (exec X n)) (round (exec X n)) fr st op = some (v, st', lg, fr')

/-! ### blocks -/
noncomputable def onCellsB (o : Option Blk) (k : Nat → T V → Rho) : Rho :=
  Option.rec (motive := fun _ => (Nat → T V → Rho) → Rho) (fun _ => none) (fun b k => Blk.rec (motive := fun _ => (Nat → T V → Rho) → Rho) (fun n t k => k n t) (fun _ _ => none) (fun _ => none) (fun _ _ _ _ _ _ _ => none) (fun _ => none) b k) o k
theorem onCellsB_inv {o : Option Blk} {k : Nat → T V → Rho} {a : V × St} (h : onCellsB o k = some a) : ∃ n t, o = some (.cells n t) ∧ k n t = some a := by
  cases o with
  | none => exact nomatch (show (none : Rho) = some a from h)
  | some b => cases b with
    | cells n t => exact ⟨n, t, rfl, h⟩
    | map es => exact nomatch (show (none : Rho) = some a from h)
    | iter => exact nomatch (show (none : Rho) = some a from h)
    | loop s fr ps a b p => exact nomatch (show (none : Rho) = some _ from h)
    | gone => exact nomatch (show (none : Rho) = some a from h)
/-! ### loads -/
noncomputable def ldL (k : KL) (log : List Tc) (v : V) : Rho := onPl v (fun v => k v log)
theorem ldL_inv {k : KL} {log : List Tc} {v : V} {a : V × St} (h : ldL k log v = some a) : isLocV v = false ∧ k v log = some a := by
  obtain ⟨h1, h2⟩ := onPl_inv h
  exact ⟨plain_notLoc h1, h2⟩
noncomputable def ldP1 (off : Nat) (l : Nat) (k : KL) (m : Nat) (t : T V) : Rho := onB (Nat.ble (off + 1) m) (onSome (getF t off) (ldL k (touch l m off 1))) none
noncomputable def ldPN (off n : Nat) (l : Nat) (k : KL) (m : Nat) (t : T V) : Rho := onB (Nat.ble (off + n) m) (takeTK n t off (fun r => k (.agg r) (touch l m off n))) none
noncomputable def ldD (o n : Nat) (agg : Bool) (id : Nat) (k : KL) (id' : Nat) (cs : List V) : Rho := onB (Nat.beq id id') (cutK cs o n agg (ldL k (touch id (lenF cs) o n))) none
noncomputable def ldB (o n : Nat) (agg : Bool) (id : Nat) (k : KL) (lv : V) : Rho := onLoc lv (ldD o n agg id k)

noncomputable def ldA (v : V) (gl : Nat → Option V) (n : Nat) (agg : Bool) (f : F) (st : St) (k : KL) : Rho :=
  V.rec (motive_1 := fun _ => (Nat → Option V) → Nat → Bool → F → St → KL → Rho) (motive_2 := fun _ => PUnit) (motive_3 := fun _ => PUnit) (motive_4 := fun _ => PUnit)
    (fun _ _ _ _ _ _ _ => none)
    (fun _ _ _ _ _ _ _ _ => none)
    (fun _ _ _ _ _ _ _ => none)
    (fun _ _ _ _ _ _ => none)
    (fun l off _ n agg _ st k => onCellsB (getF st.heap l) (Bool.rec (motive := fun _ => Nat → T V → Rho) (ldP1 off l k) (ldPN off n l k) agg))
    (fun g gl _ agg _ _ k => Bool.rec (motive := fun _ => Rho) (onSome (gl g) (ldL k [])) none agg)
    (fun cs _ _ n agg _ _ k => cutK cs 0 n agg (ldL k []))
    (fun _ _ _ _ _ _ => none)
    (fun _ _ _ _ _ _ => none)
    (fun _ _ _ _ _ _ => none)
    (fun _ _ _ _ _ _ _ _ _ _ => none)
    (fun _ _ _ _ _ _ _ _ _ _ => none)
    (fun _ _ _ _ _ _ _ => none)
    (fun _ _ _ _ _ _ _ _ _ _ => none)
    (fun _ _ _ _ _ _ => none)
    (fun _ _ _ _ _ _ _ => none)
    (fun _ _ _ _ _ _ => none)
    (fun _ _ _ _ _ _ _ _ _ _ _ => none)
    (fun _ _ _ _ _ _ => none)
    (fun _ _ _ _ _ _ _ _ _ => none)
    (fun _ _ _ _ _ _ _ _ => none)
    (fun _ _ _ _ _ _ _ _ => none)
    (fun _ _ _ _ _ _ => none)
    (fun id cs _ _ n agg _ _ k => cutK cs 0 n agg (ldL k (touch id (lenF cs) 0 n)))
    (fun slot off id _ n agg f _ k => slotK slot f (ldB off n agg id k))
    PUnit.unit (fun _ _ _ _ => PUnit.unit) PUnit.unit (fun _ _ _ _ _ _ => PUnit.unit) PUnit.unit (fun _ _ => PUnit.unit) v gl n agg f st k

noncomputable def loadR (gl : Nat → Option V) (n : Nat) (agg : Bool) (x : X2) (f : F) (st : St) (k : KL) : Rho := onSome (x f) (fun v => ldA v gl n agg f st k)
theorem loadR_ok (X : Env) (n : Nat) (agg : Bool) (hn : (agg || Nat.beq n 1) = true) (x : Opd) : ROk X (loadR X.glob n agg (cX x)) (.load n agg x) := fun f fr st k a hf h => by
  obtain ⟨v, h1, h2⟩ := onSome_inv h
  -- the address
  have hadr : (∀ id cs, v = .loc id cs → ∃ i, addr fr x = some (.loc i 0 id cs)) ∧ (∀ j o id, v = .der j o id → ∃ i, x = .t i ∧ fr.get i = some (.der j o id)) ∧ (plain v = true → addr fr x = some (.val v)) := by
    cases x with
    | t i =>
      simp only [cX] at h1
      cases hb : Nat.blt i 256 with
      | false => simp [hb, xn] at h1
      | true =>
        simp only [hb, cond_true] at h1
        have hg := hf i (bltT hb)
        rw [h1] at hg
        refine ⟨fun id cs e => ⟨i, by subst e; simp [addr, hg]⟩, fun j o id e => ⟨i, rfl, by subst e; exact hg⟩, fun hp => ?_⟩
        cases v <;> simp_all [addr, plain]
    | c u =>
      simp only [cX] at h1
      cases hb : plain u with
      | false => simp [hb, xn] at h1
      | true =>
        simp [hb, xc] at h1; subst h1
        refine ⟨fun id cs e => ?_, fun j o id e => ?_, fun _ => by simp [addr, hb]⟩
        · subst e; simp [plain] at hb
        · subst e; simp [plain] at hb
    | g i => simp [cX, xc] at h1; subst h1; exact ⟨(fun _ _ e => by cases e), (fun _ _ _ e => by cases e), fun _ => rfl⟩
    | f i => simp [cX, xc] at h1; subst h1; exact ⟨(fun _ _ e => by cases e), (fun _ _ _ e => by cases e), fun _ => rfl⟩
  obtain ⟨ha1, ha2, ha3⟩ := hadr
  cases v <;> (try exact nomatch (show (none : Rho) = some a from h2))
  · -- a block's cells
    rename_i l off
    obtain ⟨m, t, h3, h4⟩ := onCellsB_inv (show onCellsB (getF st.heap l) (Bool.rec (motive := fun _ => Nat → T V → Rho) (ldP1 off l k) (ldPN off n l k) agg) = some a from h2)
    rw [getF_eq] at h3
    have hblk : st.blk l = some (m, t) := by simp [St.blk, h3]
    cases agg with
    | true =>
      rcases onB_inv (show onB (Nat.ble (off + n) m) (takeTK n t off (fun r => k (.agg r) (touch l m off n))) none = some a from h4) with ⟨h5, h6⟩ | ⟨_, h6⟩
      · obtain ⟨r, h7, h8⟩ := takeTK_inv h6
        have hcut : st.cut l off n = some r := by simp only [St.cut, hblk, h5, cond_true, h7]
        exact ⟨_, _, h8, rfl, fun c y => by simp [runOp, runLoad, ha3 rfl, loadB, hcut, hblk, whole, r1]⟩
      · cases h6
    | false =>
      have hn1 : n = 1 := beqT (by simpa using hn)
      subst hn1
      rcases onB_inv (show onB (Nat.ble (off + 1) m) (onSome (getF t off) (ldL k (touch l m off 1))) none = some a from h4) with ⟨h5, h6⟩ | ⟨_, h6⟩
      · obtain ⟨u, h7, h8⟩ := onSome_inv h6
        rw [getF_eq] at h7
        obtain ⟨h9, h10⟩ := ldL_inv h8
        have hcut : st.cut l off 1 = some [u] := by simp only [St.cut, hblk, h5, cond_true]; simp [T.take, h7]
        exact ⟨_, _, h10, h9, fun c y => by simp [runOp, runLoad, ha3 rfl, loadB, hcut, hblk, whole, r1]⟩
      · cases h6
  · -- a package's variable
    rename_i g
    cases agg with
    | true => exact nomatch (show (none : Rho) = some a from h2)
    | false =>
      have hn1 : n = 1 := beqT (by simpa using hn)
      subst hn1
      obtain ⟨u, h3, h4⟩ := onSome_inv (show onSome (X.glob g) (ldL k []) = some a from h2)
      obtain ⟨h5, h6⟩ := ldL_inv h4
      exact ⟨u, [], h6, h5, fun c y => by simp [runOp, runLoad, ha3 rfl, h3, r1]⟩
  · -- frozen cells
    rename_i cs
    obtain ⟨u, h3, h4⟩ := cutK_inv hn (show cutK cs 0 n agg (ldL k []) = some a from h2)
    obtain ⟨h5, h6⟩ := ldL_inv h4
    exact ⟨u, [], h6, h5, fun c y => by simp [runOp, runLoad, ha3 rfl, loadB, h3, r1]⟩
  · -- a local
    rename_i id cs
    obtain ⟨i, h0⟩ := ha1 id cs rfl
    obtain ⟨u, h3, h4⟩ := cutK_inv hn (show cutK cs 0 n agg (ldL k (touch id (lenF cs) 0 n)) = some a from h2)
    obtain ⟨h5, h6⟩ := ldL_inv h4
    rw [lenF_eq] at h6
    exact ⟨u, _, h6, h5, fun c y => by simp [runOp, runLoad, h0, h3, r1]⟩
  · -- a place in a local
    rename_i slot off id
    obtain ⟨i, rfl, h0⟩ := ha2 slot off id rfl
    obtain ⟨hs, lv, h3, h4⟩ := slotK_inv hf (show slotK slot f (ldB off n agg id k) = some a from h2)
    obtain ⟨id', cs, rfl, h5⟩ := onLoc_inv h4
    rcases onB_inv (show onB (Nat.beq id id') (cutK cs off n agg (ldL k (touch id (lenF cs) off n))) none = some a from h5) with ⟨h6, h7⟩ | ⟨_, h7⟩
    · obtain ⟨u, h8, h9⟩ := cutK_inv hn h7
      obtain ⟨h10, h11⟩ := ldL_inv h9
      rw [lenF_eq] at h11
      exact ⟨u, _, h11, h10, fun c y => by simp [runOp, runLoad, addr, h0, h3, h6, h8, r1]⟩
    · cases h7
/-- any operation that reads -/
noncomputable def genR (X : Env) (op : IOp) (f : F) (st : St) (k : KL) : Rho := onRO (runOp X noC noY .lf st (mapX (sig f) op)) (fun v _ log => nrmV v (fun v => onPl v (fun v => k v log)))
theorem genR_ok (X : Env) (op : IOp) (hp : readOp op = true) (ha : adrOp op = false) (hs : small op = true) : ROk X (genR (envB X) op) op := fun f fr st k a hf h => by
  obtain ⟨v, st', lg, fr1, h1, h2⟩ := onRO_inv h
  rw [nrmV_eq] at h2
  obtain ⟨h3, h4⟩ := onPl_inv h2
  have h5 := gen_ok hf ha hs h1
  rw [runOp_envB] at h5
  obtain ⟨rfl, _⟩ := read_lift hp h5
  exact ⟨v, lg, h4, plain_notLoc h3, fun c y => runOp_mono (noC_le c) (noY_le y) h5⟩

/-! ### effects -/
/-- any operation but calls and those of addresses -/
noncomputable def genE (X : Env) (op : IOp) (_ : CALL) (f : F) (st : St) (k : KE) : Rho := onRO (runOp X noC noY .lf st (mapX (sig f) op)) (fun v st _ => nrmV v (fun v => nrmS st (fun st => k v st f)))
theorem genE_ok (X : Env) (op : IOp) (ha : adrOp op = false) (hs : small op = true) : EOk X (genE (envB X) op) op := fun E hE f fr st k a hf h => by
  obtain ⟨v, st', lg, fr1, h1, h2⟩ := onRO_inv h
  rw [nrmV_eq, nrmS_eq] at h2
  have h5 := gen_ok hf ha hs h1
  rw [runOp_envB] at h5
  exact ⟨v, st', f, fr, h2, hf, 0, lg, runOp_mono (noC_le _) (noY_le _) h5⟩
noncomputable def argsK (xs : List X2) (f : F) (k : List V → Rho) : Rho := List.rec (motive := fun _ => (List V → Rho) → Rho) (fun k => k []) (fun x _ ih k => evK x f (fun v => ih (fun r => k (v :: r)))) xs k
noncomputable def cXs : List Opd → List X2
  | [] => []
  | x :: xs => cX x :: cXs xs
theorem argsK_inv {f : F} {fr : T V} (hf : FRel f fr) {a : V × St} : ∀ {xs : List Opd} {k : List V → Rho}, argsK (cXs xs) f k = some a → ∃ vs, evs fr xs = some vs ∧ k vs = some a
  | [], k, h => ⟨[], rfl, h⟩
  | x :: xs, k, h => by
    obtain ⟨v, h1, h2, h3⟩ := evK_inv hf (show evK (cX x) f (fun v => argsK (cXs xs) f (fun r => k (v :: r))) = some a from h)
    obtain ⟨vs, h4, h5⟩ := argsK_inv hf h3
    exact ⟨v :: vs, by simp [evs, h1, h4], h5⟩
noncomputable def callE (g : Nat) (xs : List X2) (E : CALL) (f : F) (st : St) (k : KE) : Rho := argsK xs f (fun vs => onR (E g vs st) (fun v st => k v st f))
theorem callE_ok (X : Env) (g : Nat) (xs : List Opd) : EOk X (callE g (cXs xs)) (.call g xs) := fun E hE f fr st k a hf h => by
  obtain ⟨vs, h1, h2⟩ := argsK_inv hf h
  obtain ⟨v, st', h3, h4⟩ := onR_inv h2
  obtain ⟨n, lg, h5⟩ := hE _ _ _ _ _ h3
  exact ⟨v, st', f, fr, h4, hf, n, lg, by simp [runOp, h1, h5, r1]⟩
noncomputable def onFunc (fn : Fn) (k : Nat → Rho) : Rho := match fn with
  | .func g => k g
  | _ => none

noncomputable def cvA (v : V) (vs : List V) (E : CALL) (f : F) (st : St) (k : KE) : Rho :=
  V.rec (motive_1 := fun _ => List V → CALL → F → St → KE → Rho) (motive_2 := fun _ => PUnit) (motive_3 := fun _ => PUnit) (motive_4 := fun _ => PUnit)
    (fun _ _ _ _ _ _ => none)
    (fun _ _ _ _ _ _ _ => none)
    (fun _ _ _ _ _ _ => none)
    (fun _ _ _ _ _ => none)
    (fun _ _ _ _ _ _ _ => none)
    (fun _ _ _ _ _ _ => none)
    (fun _ _ _ _ _ _ _ => none)
    (fun _ _ _ _ _ => none)
    (fun _ _ _ _ _ => none)
    (fun _ _ _ _ _ => none)
    (fun _ _ _ _ _ _ _ _ _ => none)
    (fun _ _ _ _ _ _ _ _ _ => none)
    (fun _ _ _ _ _ _ => none)
    (fun _ _ _ _ _ _ _ _ _ => none)
    (fun _ _ _ _ _ => none)
    (fun _ _ _ _ _ _ => none)
    (fun _ _ _ _ _ => none)
    (fun fn first cap _ _ vs E f st k => onFunc fn (fun g => onR (E g (first ++ vs ++ cap) st) (fun v st => k v st f)))
    (fun _ _ _ _ _ => none)
    (fun _ _ _ _ _ _ _ _ => none)
    (fun _ _ _ _ _ _ _ => none)
    (fun _ _ _ _ _ _ _ => none)
    (fun _ _ _ _ _ => none)
    (fun _ _ _ _ _ _ _ _ => none)
    (fun _ _ _ _ _ _ _ _ => none)
    PUnit.unit (fun _ _ _ _ => PUnit.unit) PUnit.unit (fun _ _ _ _ _ _ => PUnit.unit) PUnit.unit (fun _ _ => PUnit.unit) v vs E f st k

noncomputable def callvE (x : X2) (xs : List X2) (E : CALL) (f : F) (st : St) (k : KE) : Rho := onSome (x f) (fun xv => argsK xs f (fun vs => cvA xv vs E f st k))
theorem callvE_ok (X : Env) (x : Opd) (xs : List Opd) : EOk X (callvE (cX x) (cXs xs)) (.callv x xs) := fun E hE f fr st k a hf h => by
  obtain ⟨xv, h0, h1⟩ := onSome_inv h
  obtain ⟨vs, h2, h3⟩ := argsK_inv hf h1
  cases xv <;> (try exact nomatch (show (none : Rho) = some a from h3))
  rename_i fn first cap
  have h3 : onFunc fn (fun g => onR (E g (first ++ vs ++ cap) st) (fun v st => k v st f)) = some a := h3
  cases fn <;> (try exact nomatch (show (none : Rho) = some a from h3))
  rename_i g _
  obtain ⟨v, st', h4, h5⟩ := onR_inv (show onR (E g (first ++ vs ++ cap) st) (fun v st => k v st f) = some a from h3)
  obtain ⟨n, lg, h6⟩ := hE _ _ _ _ _ h4
  exact ⟨v, st', f, fr, h5, hf, n, lg, by simp only [runOp, cX_spec hf h0 rfl, h2, callVal, h6, r1]⟩
/-! new blocks -/
noncomputable def allocE (here : Bool) (zs : List V) (t : T V) (n : Nat) (_ : CALL) (f : F) (st0 : St) (k : KE) : Rho := nrmS st0 (fun st =>
  Bool.rec (motive := fun _ => Rho) (k (.ptr st.next 0) { heap := setF st.heap st.next (.cells n t), next := st.next + 1, lim := st.lim, wr := st.wr } f) (k (.loc st.next zs) { heap := st.heap, next := st.next + 1, lim := st.lim, wr := st.wr } f) here)
theorem allocE_inv {here : Bool} {zs : List V} {E : CALL} {f : F} {fr : T V} {st : St} {k : KE} {a : V × St} (h : allocE here zs (T.ofList zs) zs.length E f st k = some a) : ∃ v st', k v st' f = some a ∧ newLoc here fr st zs = some (v, st', [], fr) := by
  unfold allocE at h
  rw [nrmS_eq] at h
  cases here with
  | true => exact ⟨_, _, h, rfl⟩
  | false =>
    have h : k (.ptr st.next 0) { heap := setF st.heap st.next (.cells zs.length (T.ofList zs)), next := st.next + 1, lim := st.lim, wr := st.wr } f = some a := h
    rw [setF_eq] at h
    exact ⟨_, _, h, rfl⟩
theorem allocE_ok (X : Env) (here : Bool) (zs : List V) : EOk X (allocE here zs (T.ofList zs) zs.length) (.alloc here zs) := fun E hE f fr st k a hf h => by
  obtain ⟨v, st', h1, h2⟩ := allocE_inv (fr := fr) h
  exact ⟨v, st', f, fr, h1, hf, 0, [], h2⟩
noncomputable def boxE (here : Bool) (x : X2) (E : CALL) (f : F) (st : St) (k : KE) : Rho := onSome (x f) (fun v => onCells v (fun cs => allocE here cs (fillF cs .lf 0) (lenF cs) E f st k))
theorem boxE_ok (X : Env) (here : Bool) (x : Opd) : EOk X (boxE here (cX x)) (.box here x) := fun E hE f fr st k a hf h => by
  obtain ⟨xv, h1, h2⟩ := onSome_inv h
  obtain ⟨cs, h3, h4, h5⟩ := onCells_inv h2
  rw [fillF_eq, lenF_eq] at h5
  obtain ⟨v, st', h6, h7⟩ := allocE_inv (fr := fr) h5
  exact ⟨v, st', f, fr, h6, hf, 0, [], by simp only [runOp, cX_spec hf h1 h4, h3, h7]⟩
/-! stores -/
noncomputable def markF (l : Nat) (log : List Tc) (st : St) : List Tc := Bool.rec (motive := fun _ => List Tc) st.wr (marks st.lim log st.wr) (Nat.blt l st.lim)
theorem marks_none {lim : Nat} : ∀ {log wr : List Tc}, (∀ x ∈ log, Nat.blt x.1 lim = false) → marks lim log wr = wr
  | [], wr, h => rfl
  | x :: xs, wr, h => by
    simp only [marks, h x (by simp), cond_false]
    exact marks_none fun y hy => h y (by simp [hy])
theorem touch_fst {l m : Nat} : ∀ {n off : Nat}, ∀ x ∈ touch l m off n, x.1 = l
  | 0, off, x, h => by simp [touch] at h
  | n + 1, off, x, h => by
    unfold touch at h
    cases hb : Nat.blt 16 m with
    | true => simp [hb] at h; rw [h]
    | false =>
      simp only [hb, cond_false, List.mem_cons] at h
      rcases h with rfl | h
      · rfl
      · exact touch_fst x h
theorem markF_eq {l m off n : Nat} {st : St} : markF l (touch l m off n) st = marks st.lim (touch l m off n) st.wr := by
  unfold markF
  cases hb : Nat.blt l st.lim with
  | true => rfl
  | false => exact (marks_none fun x hx => by rw [touch_fst x hx]; exact hb).symm
noncomputable def stP (off n : Nat) (l : Nat) (new : List V) (f : F) (st0 : St) (k : KE) (m : Nat) (t : T V) : Rho := nrmS st0 (fun st =>
  onB (Nat.ble (off + n) m) (k .junk { heap := setF st.heap l (.cells m (fillF new t off)), next := st.next, lim := st.lim, wr := markF l (touch l m off n) st } f) none)
noncomputable def onD (o : Option D2) (k : D2 → Rho) : Rho := Option.rec (motive := fun _ => Rho) none k o
theorem onD_inv {o : Option D2} {k : D2 → Rho} {a : V × St} (h : onD o k = some a) : ∃ s, o = some s ∧ k s = some a := by
  cases o with
  | none => exact nomatch (show (none : Rho) = some a from h)
  | some s => exact ⟨s, rfl, h⟩
noncomputable def stD (slot o id : Nat) (new : List V) (f : F) (st : St) (k : KE) (id' : Nat) (cs : List V) : Rho := onB (Nat.beq id id') (ovK cs o new (fun cs => onD (pickS slot) (fun s => s f (.loc id cs) (fun f => k .junk st f)))) none
noncomputable def stB (slot o id : Nat) (new : List V) (f : F) (st : St) (k : KE) (lv : V) : Rho := onLoc lv (stD slot o id new f st k)

noncomputable def stA (v : V) (sd : D2) (n : Nat) (new : List V) (f : F) (st : St) (k : KE) : Rho :=
  V.rec (motive_1 := fun _ => D2 → Nat → List V → F → St → KE → Rho) (motive_2 := fun _ => PUnit) (motive_3 := fun _ => PUnit) (motive_4 := fun _ => PUnit)
    (fun _ _ _ _ _ _ _ => none)
    (fun _ _ _ _ _ _ _ _ => none)
    (fun _ _ _ _ _ _ _ => none)
    (fun _ _ _ _ _ _ => none)
    (fun l off _ n new f st k => onCellsB (getF st.heap l) (stP off n l new f st k))
    (fun _ _ _ _ _ _ _ => none)
    (fun _ _ _ _ _ _ _ _ => none)
    (fun _ _ _ _ _ _ => none)
    (fun _ _ _ _ _ _ => none)
    (fun _ _ _ _ _ _ => none)
    (fun _ _ _ _ _ _ _ _ _ _ => none)
    (fun _ _ _ _ _ _ _ _ _ _ => none)
    (fun _ _ _ _ _ _ _ => none)
    (fun _ _ _ _ _ _ _ _ _ _ => none)
    (fun _ _ _ _ _ _ => none)
    (fun _ _ _ _ _ _ _ => none)
    (fun _ _ _ _ _ _ => none)
    (fun _ _ _ _ _ _ _ _ _ _ _ => none)
    (fun _ _ _ _ _ _ => none)
    (fun _ _ _ _ _ _ _ _ _ => none)
    (fun _ _ _ _ _ _ _ _ => none)
    (fun _ _ _ _ _ _ _ _ => none)
    (fun _ _ _ _ _ _ => none)
    (fun id cs _ sd _ new f st k => ovK cs 0 new (fun cs => sd f (.loc id cs) (fun f => k .junk st f)))
    (fun slot off id _ _ new f st k => slotK slot f (stB slot off id new f st k))
    PUnit.unit (fun _ _ _ _ => PUnit.unit) PUnit.unit (fun _ _ _ _ _ _ => PUnit.unit) PUnit.unit (fun _ _ => PUnit.unit) v sd n new f st k

noncomputable def storeE (n : Nat) (sd : D2) (p x : X2) (_ : CALL) (f : F) (st : St) (k : KE) : Rho := onSome (x f) (fun xv => onCells xv (fun new => onB (Nat.beq (lenF new) n) (onSome (p f) (fun av => stA av sd n new f st k)) none))
theorem storeE_ok (X : Env) (n : Nat) (i : Nat) (x : Opd) : EOk X (storeE n (ptK i) (cX (.t i)) (cX x)) (.store n (.t i) x) := fun E hE f fr st k a hf h => by
  obtain ⟨xv, h1, h2⟩ := onSome_inv h
  obtain ⟨new, h3, h4, h5⟩ := onCells_inv h2
  rcases onB_inv h5 with ⟨h6, h7⟩ | ⟨_, h7⟩
  · rw [lenF_eq] at h6
    obtain ⟨av, h8', h9⟩ := onSome_inv h7
    obtain ⟨hi, h8⟩ := cXt_inv hf h8'
    have ex := cX_spec hf h1 h4
    cases av <;> (try exact nomatch (show (none : Rho) = some a from h9))
    · -- a block's cells
      rename_i l off
      obtain ⟨m, t, h10, h11⟩ := onCellsB_inv (show onCellsB (getF st.heap l) (stP off n l new f st k) = some a from h9)
      rw [getF_eq] at h10
      have hblk : st.blk l = some (m, t) := by simp [St.blk, h10]
      unfold stP at h11
      rw [nrmS_eq] at h11
      rcases onB_inv h11 with ⟨h12, h13⟩ | ⟨_, h13⟩
      · rw [setF_eq, fillF_eq, markF_eq] at h13
        exact ⟨_, _, f, fr, h13, hf, 0, _, by simp only [runOp, runStore, addr, h8, ex, storeB, hblk, h3, h6, h12, cond_true, r1]; rfl⟩
      · cases h13
    · -- a local
      rename_i id cs
      obtain ⟨r, h10, h11⟩ := ovK_inv (show ovK cs 0 new (fun cs => ptK i f (.loc id cs) (fun f => k .junk st f)) = some a from h9)
      exact ⟨_, _, _, _, h11, hf.put hi (.loc id r), 0, _, by simp only [runOp, runStore, addr, h8, ex, h3, h6, cond_true, h10]; rfl⟩
    · -- a place in a local
      rename_i slot off id
      obtain ⟨hs, lv, h10, h11⟩ := slotK_inv hf (show slotK slot f (stB slot off id new f st k) = some a from h9)
      obtain ⟨id', cs, rfl, h12⟩ := onLoc_inv h11
      rcases onB_inv (show onB (Nat.beq id id') (ovK cs off new (fun cs => onD (pickS slot) (fun s => s f (.loc id cs) (fun f => k .junk st f)))) none = some a from h12) with ⟨h13, h14⟩ | ⟨_, h14⟩
      · obtain ⟨r, h15, h16'⟩ := ovK_inv h14
        obtain ⟨sd, hsd, h16⟩ := onD_inv h16'
        obtain rfl := pickS_ok hsd
        exact ⟨_, _, _, _, h16, hf.put hs (.loc id r), 0, _, by simp only [runOp, runStore, addr, h8, h10, h13, ex, h3, h6, cond_true, h15]; rfl⟩
      · cases h14
  · cases h7
end Go.Ai.Fl
/-! The fast layer: appending, freezing, logs. -/
namespace Go.Ai.Fl
open Go Go.Ai
set_option linter.unusedVariables false
set_option linter.unusedSimpArgs false

noncomputable def oR {α β : Type} (o : Option α) (k : α → Option β) : Option β := Option.rec (motive := fun _ => Option β) none (fun x => k x) o
noncomputable def bR {α : Type} (b : Bool) (x y : α) : α := Bool.rec (motive := fun _ => α) y x b
theorem bR_eq {α : Type} (b : Bool) (x y : α) : bR b x y = bif b then x else y := by cases b <;> rfl
noncomputable def takeTF (t : T V) (n off : Nat) : Option (List V) := Nat.rec (motive := fun _ => Nat → Option (List V)) (fun _ => some []) (fun _ ih off => oR (getF t off) (fun x => oR (ih (off + 1)) (fun xs => some (x :: xs)))) n off
theorem takeTF_eq (t : T V) : ∀ (n off : Nat), takeTF t n off = t.take off n
  | 0, off => rfl
  | n + 1, off => by
    show oR (getF t off) (fun x => oR (takeTF t n (off + 1)) (fun xs => some (x :: xs))) = _
    rw [getF_eq, takeTF_eq t n]
    simp only [T.take]
    cases t.get off with
    | none => rfl
    | some x => cases t.take (off + 1) n <;> rfl
noncomputable def blkF {α : Type} (o : Option Blk) (d : α) (k : Nat → T V → α) : α := Option.rec (motive := fun _ => α) d (fun b => Blk.rec (motive := fun _ => α) (fun n t => k n t) (fun _ => d) d (fun _ _ _ _ _ _ => d) d b) o
noncomputable def cutF (st : St) (l off n : Nat) : Option (List V) := blkF (getF st.heap l) none (fun m t => bR (Nat.ble (off + n) m) (takeTF t n off) none)
theorem cutF_eq (st : St) (l off n : Nat) : cutF st l off n = st.cut l off n := by
  unfold cutF St.cut St.blk
  rw [getF_eq]
  cases st.heap.get l with
  | none => rfl
  | some b => cases b <;> first | rfl | (show bR _ (takeTF _ n off) none = _; rw [bR_eq, takeTF_eq])
noncomputable def takesF {α : Type} (n : Nat) (l : List α) : Option (List α) := Nat.rec (motive := fun _ => List α → Option (List α)) (fun _ => some []) (fun _ ih l => List.rec (motive := fun _ => Option (List α)) none (fun x t _ => oR (ih t) (fun r => some (x :: r))) l) n l
theorem takesF_eq {α : Type} : ∀ (n : Nat) (l : List α), takesF n l = takes l n
  | 0, l => by cases l <;> rfl
  | n + 1, [] => rfl
  | n + 1, x :: t => by
    show oR (takesF n t) (fun r => some (x :: r)) = _
    rw [takesF_eq n t]
    simp only [takes]
    cases takes t n <;> rfl
noncomputable def oneA (h : List V) : V := List.rec (motive := fun _ => V) (.agg h) (fun v t _ => List.rec (motive := fun _ => V) v (fun _ _ _ => .agg h) t) h
noncomputable def chunksF (sz k : Nat) (cs : List V) : Option (List V) := Nat.rec (motive := fun _ => List V → Option (List V)) (fun cs => List.rec (motive := fun _ => Option (List V)) (some []) (fun _ _ _ => none) cs) (fun _ ih cs => oR (takesF sz cs) (fun h => oR (ih (dropF cs sz)) (fun r => some (oneA h :: r)))) k cs
theorem chunksF_eq (sz : Nat) : ∀ (k : Nat) (cs : List V), chunksF sz k cs = chunks sz k cs
  | 0, [] => rfl
  | 0, _ :: _ => rfl
  | k + 1, cs => by
    show oR (takesF sz cs) (fun h => oR (chunksF sz k (dropF cs sz)) (fun r => some (oneA h :: r))) = _
    rw [takesF_eq, dropF_eq, chunksF_eq sz k]
    simp only [chunks]
    cases takes cs sz with
    | none => rfl
    | some h =>
      cases chunks sz k (drops cs sz) with
      | none => rfl
      | some r => match h with
        | [] => rfl
        | [v] => rfl
        | _ :: _ :: _ => rfl
noncomputable def mapOF (f : V → Option V) (l : List V) : Option (List V) := List.rec (motive := fun _ => Option (List V)) (some []) (fun x _ ih => oR (f x) (fun y => oR ih (fun ys => some (y :: ys)))) l
theorem mapOF_eq {f g : V → Option V} (h : ∀ v, f v = g v) : ∀ l, mapOF f l = mapO g l
  | [] => rfl
  | x :: l => by
    show oR (f x) (fun y => oR (mapOF f l) (fun ys => some (y :: ys))) = _
    rw [h x, mapOF_eq h l]
    simp only [mapO]
    cases g x with
    | none => rfl
    | some y => cases mapO g l <;> rfl
noncomputable def chunkTF (sz n : Nat) (cs : List V) : Option V := oR (chunksF sz n cs) (fun xs => bR (Nat.blt 24 n) (some (.big sz n (fillF xs .lf 0))) (some (.sl sz xs false)))
theorem chunkTF_eq (sz n : Nat) (cs : List V) : chunkTF sz n cs = chunkT sz n cs := by
  unfold chunkTF chunkT
  rw [chunksF_eq]
  cases chunks sz n cs with
  | none => rfl
  | some xs =>
    show bR _ _ _ = _
    rw [bR_eq, fillF_eq]
    rfl
noncomputable def frA (v : V) (rw : Nat → Nat → Nat → Nat → Option V) : Option V :=
  V.rec (motive_1 := fun _ => (Nat → Nat → Nat → Nat → Option V) → Option V) (motive_2 := fun _ => PUnit) (motive_3 := fun _ => PUnit) (motive_4 := fun _ => PUnit)
    (fun b _ => some (.bool b))
    (fun kd n _ => some (.int kd n))
    (fun n _ => some (.str n))
    (fun _ => some (.nilp))
    (fun _ _ _ => none)
    (fun _ _ => none)
    (fun _ _ _ => none)
    (fun _ => some (.nils))
    (fun _ => some (.emp))
    (fun _ => none)
    (fun sz xs tight _ _ => some (.sl sz xs tight))
    (fun sz n t _ _ => some (.big sz n t))
    (fun n _ => some (.bytes n))
    (fun sz l off len rw => rw sz l off len)
    (fun _ => some (.nilm))
    (fun _ _ => none)
    (fun _ => some (.nilf))
    (fun fn first cap _ _ _ => bR (pureV (.fn fn first cap)) (some (.fn fn first cap)) none)
    (fun _ => some (.nili))
    (fun t v _ _ => bR (pureV (.iface t v)) (some (.iface t v)) none)
    (fun _ _ _ => none)
    (fun _ _ _ => none)
    (fun _ => none)
    (fun _ _ _ _ => none)
    (fun _ _ _ _ => none)
    PUnit.unit (fun _ _ _ _ => PUnit.unit) PUnit.unit (fun _ _ _ _ _ _ => PUnit.unit) PUnit.unit (fun _ _ => PUnit.unit) v rw
noncomputable def freezeF (st : St) (lim ban : Nat) (k : Nat) (v : V) : Option V := Nat.rec (motive := fun _ => V → Option V) (fun _ => none) (fun _ ih v => frA v (fun sz l off len => bR (Nat.blt l lim) none (bR (Nat.beq l ban) none (oR (cutF st l off (len * sz)) (fun cs => oR (mapOF ih cs) (fun cs => chunkTF sz len cs)))))) k v
theorem freezeF_eq (st : St) (lim ban : Nat) : ∀ (k : Nat) (v : V), freezeF st lim ban k v = freeze st lim ban k v
  | 0, v => rfl
  | k + 1, v => by
    have ih := freezeF_eq st lim ban k
    show frA v (fun sz l off len => bR (Nat.blt l lim) none (bR (Nat.beq l ban) none (oR (cutF st l off (len * sz)) (fun cs => oR (mapOF (freezeF st lim ban k) cs) (fun cs => chunkTF sz len cs))))) = _
    cases v <;> (try rfl)
    case row sz l off len =>
      show bR (Nat.blt l lim) none (bR (Nat.beq l ban) none (oR (cutF st l off (len * sz)) (fun cs => oR (mapOF (freezeF st lim ban k) cs) (fun cs => chunkTF sz len cs)))) = _
      simp only [freeze, bR_eq]
      rw [cutF_eq]
      cases Nat.blt l lim with
      | true => rfl
      | false =>
        cases Nat.beq l ban with
        | true => rfl
        | false =>
          simp only [cond_false]
          cases st.cut l off (len * sz) with
          | none => rfl
          | some cs =>
            show oR (mapOF (freezeF st lim ban k) cs) (fun cs => chunkTF sz len cs) = _
            rw [mapOF_eq ih]
            simp only
            cases mapO (freeze st lim ban k) cs with
            | none => rfl
            | some cs => exact chunkTF_eq sz len cs
    case fn f a c => show bR (pureV (.fn f a c)) (some _) none = _; rw [bR_eq]; rfl
    case iface t v => show bR (pureV (.iface t v)) (some _) none = _; rw [bR_eq]; rfl
noncomputable def outLF (v : V) (st : St) (lim : Nat) (ban : Nat) : Option V :=
  V.rec (motive_1 := fun _ => St → Nat → Nat → Option V) (motive_2 := fun _ => PUnit) (motive_3 := fun _ => PUnit) (motive_4 := fun _ => PUnit)
    (fun b _ _ _ => some (.bool b))
    (fun kd n _ _ _ => some (.int kd n))
    (fun n _ _ _ => some (.str n))
    (fun _ _ _ => some (.nilp))
    (fun l off _ lim _ => bR (Nat.blt l lim) (some (.ptr l off)) none)
    (fun _ _ _ _ => none)
    (fun _ _ _ _ _ => none)
    (fun _ _ _ => some (.nils))
    (fun _ _ _ => some (.emp))
    (fun _ _ _ => none)
    (fun sz xs tight _ _ _ _ => some (.sl sz xs tight))
    (fun sz n t _ _ _ _ => some (.big sz n t))
    (fun n _ _ _ => some (.bytes n))
    (fun sz l off len st lim ban => bR (Nat.blt l lim) (some (.row sz l off len)) (freezeF st lim ban 100 (.row sz l off len)))
    (fun _ _ _ => some (.nilm))
    (fun l _ lim _ => bR (Nat.blt l lim) (some (.map l)) none)
    (fun _ _ _ => some (.nilf))
    (fun fn first cap _ _ _ _ _ => bR (pureV (.fn fn first cap)) (some (.fn fn first cap)) none)
    (fun _ _ _ => some (.nili))
    (fun t v _ st lim ban => outL st lim ban (.iface t v))
    (fun _ _ _ _ _ => none)
    (fun _ _ _ _ _ => none)
    (fun _ _ _ => none)
    (fun _ _ _ _ _ _ => none)
    (fun _ _ _ _ _ _ => none)
    PUnit.unit (fun _ _ _ _ => PUnit.unit) PUnit.unit (fun _ _ _ _ _ _ => PUnit.unit) PUnit.unit (fun _ _ => PUnit.unit) v st lim ban
theorem outLF_eq (st : St) (lim ban : Nat) (v : V) : outLF v st lim ban = outL st lim ban v := by
  cases v <;> (try rfl)
  case row sz l off len => show bR (Nat.blt l lim) (some _) (freezeF st lim ban 100 _) = _; rw [bR_eq, freezeF_eq]; rfl
  case ptr l off => show bR (Nat.blt l lim) (some _) none = _; rw [bR_eq]; rfl
  case map l => show bR (Nat.blt l lim) (some _) none = _; rw [bR_eq]; rfl
  case fn f a c => show bR (pureV (.fn f a c)) (some _) none = _; rw [bR_eq]; rfl
noncomputable def outCF (v : V) (st : St) (lim : Nat) (ban : Nat) : Option V :=
  V.rec (motive_1 := fun _ => St → Nat → Nat → Option V) (motive_2 := fun _ => PUnit) (motive_3 := fun _ => PUnit) (motive_4 := fun _ => PUnit)
    (fun b st lim ban => outLF (.bool b) st lim ban)
    (fun kd n st lim ban => outLF (.int kd n) st lim ban)
    (fun n st lim ban => outLF (.str n) st lim ban)
    (fun st lim ban => outLF (.nilp) st lim ban)
    (fun l off st lim ban => outLF (.ptr l off) st lim ban)
    (fun g st lim ban => outLF (.gptr g) st lim ban)
    (fun cs _ st lim ban => outLF (.eptr cs) st lim ban)
    (fun st lim ban => outLF (.nils) st lim ban)
    (fun st lim ban => outLF (.emp) st lim ban)
    (fun st lim ban => outLF (.non0) st lim ban)
    (fun sz xs tight _ st lim ban => outLF (.sl sz xs tight) st lim ban)
    (fun sz n t _ st lim ban => outLF (.big sz n t) st lim ban)
    (fun n st lim ban => outLF (.bytes n) st lim ban)
    (fun sz l off len st lim ban => outLF (.row sz l off len) st lim ban)
    (fun st lim ban => outLF (.nilm) st lim ban)
    (fun l st lim ban => outLF (.map l) st lim ban)
    (fun st lim ban => outLF (.nilf) st lim ban)
    (fun fn first cap _ _ st lim ban => outLF (.fn fn first cap) st lim ban)
    (fun st lim ban => outLF (.nili) st lim ban)
    (fun t v _ st lim ban => outLF (.iface t v) st lim ban)
    (fun cs _ st lim ban => oR (mapOF (fun v => outLF v st lim ban) cs) (fun cs => some (.agg cs)))
    (fun vs _ st lim ban => outLF (.tuple vs) st lim ban)
    (fun st lim ban => outLF (.junk) st lim ban)
    (fun id cs _ st lim ban => outLF (.loc id cs) st lim ban)
    (fun slot off id st lim ban => outLF (.der slot off id) st lim ban)
    PUnit.unit (fun _ _ _ _ => PUnit.unit) PUnit.unit (fun _ _ _ _ _ _ => PUnit.unit) PUnit.unit (fun _ _ => PUnit.unit) v st lim ban
theorem outCF_eq (st : St) (lim ban : Nat) (v : V) : outCF v st lim ban = outC st lim ban v := by
  cases v with
  | bool b => exact outLF_eq st lim ban (.bool b)
  | int kd n => exact outLF_eq st lim ban (.int kd n)
  | str n => exact outLF_eq st lim ban (.str n)
  | nilp => exact outLF_eq st lim ban (.nilp)
  | ptr l off => exact outLF_eq st lim ban (.ptr l off)
  | gptr g => exact outLF_eq st lim ban (.gptr g)
  | eptr cs => exact outLF_eq st lim ban (.eptr cs)
  | nils => exact outLF_eq st lim ban (.nils)
  | emp => exact outLF_eq st lim ban (.emp)
  | non0 => exact outLF_eq st lim ban (.non0)
  | sl sz xs tight => exact outLF_eq st lim ban (.sl sz xs tight)
  | big sz n t => exact outLF_eq st lim ban (.big sz n t)
  | bytes n => exact outLF_eq st lim ban (.bytes n)
  | row sz l off len => exact outLF_eq st lim ban (.row sz l off len)
  | nilm => exact outLF_eq st lim ban (.nilm)
  | map l => exact outLF_eq st lim ban (.map l)
  | nilf => exact outLF_eq st lim ban (.nilf)
  | fn fn first cap => exact outLF_eq st lim ban (.fn fn first cap)
  | nili => exact outLF_eq st lim ban (.nili)
  | iface t v => exact outLF_eq st lim ban (.iface t v)
  | tuple vs => exact outLF_eq st lim ban (.tuple vs)
  | junk => exact outLF_eq st lim ban (.junk)
  | loc id cs => exact outLF_eq st lim ban (.loc id cs)
  | der slot off id => exact outLF_eq st lim ban (.der slot off id)
  | agg cs =>
    show oR (mapOF (fun v => outLF v st lim ban) cs) (fun cs => some (V.agg cs)) = _
    rw [mapOF_eq (outLF_eq st lim ban)]
    simp only [outC]
    cases mapO (outL st lim ban) cs <;> rfl
noncomputable def outVF (v : V) (st : St) (lim : Nat) (ban : Nat) : Option V :=
  V.rec (motive_1 := fun _ => St → Nat → Nat → Option V) (motive_2 := fun _ => PUnit) (motive_3 := fun _ => PUnit) (motive_4 := fun _ => PUnit)
    (fun b st lim ban => outCF (.bool b) st lim ban)
    (fun kd n st lim ban => outCF (.int kd n) st lim ban)
    (fun n st lim ban => outCF (.str n) st lim ban)
    (fun st lim ban => outCF (.nilp) st lim ban)
    (fun l off st lim ban => outCF (.ptr l off) st lim ban)
    (fun g st lim ban => outCF (.gptr g) st lim ban)
    (fun cs _ st lim ban => outCF (.eptr cs) st lim ban)
    (fun st lim ban => outCF (.nils) st lim ban)
    (fun st lim ban => outCF (.emp) st lim ban)
    (fun st lim ban => outCF (.non0) st lim ban)
    (fun sz xs tight _ st lim ban => outCF (.sl sz xs tight) st lim ban)
    (fun sz n t _ st lim ban => outCF (.big sz n t) st lim ban)
    (fun n st lim ban => outCF (.bytes n) st lim ban)
    (fun sz l off len st lim ban => outCF (.row sz l off len) st lim ban)
    (fun st lim ban => outCF (.nilm) st lim ban)
    (fun l st lim ban => outCF (.map l) st lim ban)
    (fun st lim ban => outCF (.nilf) st lim ban)
    (fun fn first cap _ _ st lim ban => outCF (.fn fn first cap) st lim ban)
    (fun st lim ban => outCF (.nili) st lim ban)
    (fun t v _ st lim ban => outCF (.iface t v) st lim ban)
    (fun cs _ st lim ban => outCF (.agg cs) st lim ban)
    (fun vs _ st lim ban => oR (mapOF (fun v => outCF v st lim ban) vs) (fun vs => some (.tuple vs)))
    (fun st lim ban => outCF (.junk) st lim ban)
    (fun id cs _ st lim ban => outCF (.loc id cs) st lim ban)
    (fun slot off id st lim ban => outCF (.der slot off id) st lim ban)
    PUnit.unit (fun _ _ _ _ => PUnit.unit) PUnit.unit (fun _ _ _ _ _ _ => PUnit.unit) PUnit.unit (fun _ _ => PUnit.unit) v st lim ban
theorem outVF_eq (st : St) (lim ban : Nat) (v : V) : outVF v st lim ban = outV st lim ban v := by
  cases v with
  | bool b => exact outCF_eq st lim ban (.bool b)
  | int kd n => exact outCF_eq st lim ban (.int kd n)
  | str n => exact outCF_eq st lim ban (.str n)
  | nilp => exact outCF_eq st lim ban (.nilp)
  | ptr l off => exact outCF_eq st lim ban (.ptr l off)
  | gptr g => exact outCF_eq st lim ban (.gptr g)
  | eptr cs => exact outCF_eq st lim ban (.eptr cs)
  | nils => exact outCF_eq st lim ban (.nils)
  | emp => exact outCF_eq st lim ban (.emp)
  | non0 => exact outCF_eq st lim ban (.non0)
  | sl sz xs tight => exact outCF_eq st lim ban (.sl sz xs tight)
  | big sz n t => exact outCF_eq st lim ban (.big sz n t)
  | bytes n => exact outCF_eq st lim ban (.bytes n)
  | row sz l off len => exact outCF_eq st lim ban (.row sz l off len)
  | nilm => exact outCF_eq st lim ban (.nilm)
  | map l => exact outCF_eq st lim ban (.map l)
  | nilf => exact outCF_eq st lim ban (.nilf)
  | fn fn first cap => exact outCF_eq st lim ban (.fn fn first cap)
  | nili => exact outCF_eq st lim ban (.nili)
  | iface t v => exact outCF_eq st lim ban (.iface t v)
  | agg cs => exact outCF_eq st lim ban (.agg cs)
  | junk => exact outCF_eq st lim ban (.junk)
  | loc id cs => exact outCF_eq st lim ban (.loc id cs)
  | der slot off id => exact outCF_eq st lim ban (.der slot off id)
  | tuple vs =>
    show oR (mapOF (fun v => outCF v st lim ban) vs) (fun vs => some (V.tuple vs)) = _
    rw [mapOF_eq (outCF_eq st lim ban)]
    simp only [outV]
    cases mapO (outC st lim ban) vs <;> rfl

/-! ### logs -/
noncomputable def marksF (lim : Nat) (xs wr : List Tc) : List Tc := List.rec (motive := fun _ => List Tc) wr (fun _ _ _ => marks lim xs wr) xs
theorem marksF_eq (lim : Nat) (xs wr : List Tc) : marksF lim xs wr = marks lim xs wr := by cases xs <;> rfl
noncomputable def anyHit (i : Nat) (ys : List Tc) : Bool := List.rec (motive := fun _ => Bool) false (fun y _ ih => bR (Nat.beq i y.1) true ih) ys
theorem anyHit_eq (x : Tc) : ∀ ys : List Tc, anyHit x.1 ys = ys.any (hitB x)
  | [] => rfl
  | y :: ys => by
    show bR (Nat.beq x.1 y.1) true (anyHit x.1 ys) = _
    rw [anyHit_eq x ys, bR_eq]
    simp only [List.any_cons, hitB]
    cases Nat.beq x.1 y.1 <;> rfl
noncomputable def apartF (xs ys : List Tc) : Bool := List.rec (motive := fun _ => Bool) true (fun x _ ih => bR (anyHit x.1 ys) false ih) xs
theorem apartF_eq : ∀ xs ys, apartF xs ys = apart xs ys
  | [], ys => rfl
  | x :: xs, ys => by
    show bR (anyHit x.1 ys) false (apartF xs ys) = _
    rw [apartF_eq xs ys, bR_eq, anyHit_eq]
    rfl
noncomputable def nthL (l : List (List Tc)) (n : Nat) : Option (List Tc) := List.rec (motive := fun _ => Option (List Tc)) none (fun x _ _ => some x) (dropF l n)
theorem nthL_eq : ∀ (n : Nat) (l : List (List Tc)), nthL l n = nth? l n
  | 0, [] => rfl
  | 0, x :: l => rfl
  | n + 1, [] => rfl
  | n + 1, x :: l => nthL_eq n l
noncomputable def apartAllF (log : List Tc) (logs : List (List Tc)) (js : List Nat) : Bool := List.rec (motive := fun _ => Bool) true (fun j _ ih => Option.rec (motive := fun _ => Bool) false (fun l => bR (apartF log l) ih false) (nthL logs j)) js
theorem apartAllF_eq (log : List Tc) (logs : List (List Tc)) : ∀ js, apartAllF log logs js = apartAll log logs js
  | [] => rfl
  | j :: js => by
    show Option.rec (motive := fun _ => Bool) false (fun l => bR (apartF log l) (apartAllF log logs js) false) (nthL logs j) = _
    rw [apartAllF_eq log logs js, nthL_eq]
    simp only [apartAll]
    cases nth? logs j with
    | none => rfl
    | some l =>
      show bR (apartF log l) _ false = _
      rw [bR_eq, apartF_eq]

/-! ### appending -/
noncomputable def flatsF (sz : Nat) (xs : List V) : Option (List V) := List.rec (motive := fun _ => Option (List V)) (some []) (fun x _ ih => bR (Nat.beq (lenF (cellsF x)) sz) (oR ih (fun r => some (appF (cellsF x) r))) none) xs
theorem flatsF_eq (sz : Nat) : ∀ xs, flatsF sz xs = flats sz xs
  | [] => rfl
  | x :: xs => by
    show bR (Nat.beq (lenF (cellsF x)) sz) (oR (flatsF sz xs) (fun r => some (appF (cellsF x) r))) none = _
    rw [bR_eq, lenF_eq, cellsF_eq, flatsF_eq sz xs]
    simp only [flats]
    cases flats sz xs with
    | none => rfl
    | some r => show (bif _ then some (appF x.cells r) else none) = _; rw [appF_eq]
noncomputable def cellsOfF (v : V) (st : St) (z : Nat) : Option (Nat × List V) :=
  V.rec (motive_1 := fun _ => St → Nat → Option (Nat × List V)) (motive_2 := fun _ => PUnit) (motive_3 := fun _ => PUnit) (motive_4 := fun _ => PUnit)
    (fun _ _ _ => none)
    (fun _ _ _ _ => none)
    (fun _ _ _ => none)
    (fun _ _ => none)
    (fun _ _ _ _ => none)
    (fun _ _ _ => none)
    (fun _ _ _ _ => none)
    (fun _ _ => some (0, []))
    (fun _ _ => some (0, []))
    (fun _ _ => some (0, []))
    (fun sz xs _ _ _ z => bR (Nat.beq sz z) (oR (flatsF z xs) (fun cs => some (lenF xs, cs))) none)
    (fun sz n t _ st z => cellsOf st z (.big sz n t))
    (fun _ _ _ => none)
    (fun sz l off len st z => bR (Nat.beq sz z) (oR (cutF st l off (len * z)) (fun cs => some (len, cs))) none)
    (fun _ _ => none)
    (fun _ _ _ => none)
    (fun _ _ => none)
    (fun _ _ _ _ _ _ _ => none)
    (fun _ _ => none)
    (fun _ _ _ _ _ => none)
    (fun _ _ _ _ => none)
    (fun _ _ _ _ => none)
    (fun _ _ => none)
    (fun _ _ _ _ _ => none)
    (fun _ _ _ _ _ => none)
    PUnit.unit (fun _ _ _ _ => PUnit.unit) PUnit.unit (fun _ _ _ _ _ _ => PUnit.unit) PUnit.unit (fun _ _ => PUnit.unit) v st z
theorem cellsOfF_eq (st : St) (sz : Nat) (v : V) : cellsOfF v st sz = cellsOf st sz v := by
  cases v <;> (try rfl)
  case sl s xs t =>
    show bR (Nat.beq s sz) (oR (flatsF sz xs) (fun cs => some (lenF xs, cs))) none = _
    rw [bR_eq, flatsF_eq, lenF_eq]
    simp only [cellsOf]
    cases flats sz xs <;> rfl
  case row s l off len =>
    show bR (Nat.beq s sz) (oR (cutF st l off (len * sz)) (fun cs => some (len, cs))) none = _
    rw [bR_eq, cutF_eq]
    simp only [cellsOf]
    cases st.cut l off (len * sz) <;> rfl
noncomputable def appNewF (sz bytes n : Nat) (new : List V) (len : Nat) (cs : T V) (st : St) (log : List Tc) : R :=
  bR (Nat.blt ((len + n) * (bytes + 1)) 1000000000000) (some (.row sz st.next 0 (len + n), { heap := setF st.heap st.next (.cells ((len + n) * sz) (fillF new cs (len * sz))), next := st.next + 1, lim := st.lim, wr := st.wr }, log)) none
theorem appNewF_eq (sz bytes n : Nat) (new : List V) (len : Nat) (cs : T V) (st : St) (log : List Tc) : appNewF sz bytes n new len cs st log = appNew sz bytes n new len cs st log := by
  unfold appNewF appNew
  rw [bR_eq, setF_eq, fillF_eq]
  rfl
noncomputable def appToF (v : V) (z : Nat) (bytes : Nat) (n : Nat) (new : List V) (st : St) : R :=
  V.rec (motive_1 := fun _ => Nat → Nat → Nat → List V → St → R) (motive_2 := fun _ => PUnit) (motive_3 := fun _ => PUnit) (motive_4 := fun _ => PUnit)
    (fun _ _ _ _ _ _ => none)
    (fun _ _ _ _ _ _ _ => none)
    (fun _ _ _ _ _ _ => none)
    (fun _ _ _ _ _ => none)
    (fun _ _ _ _ _ _ _ => none)
    (fun _ _ _ _ _ _ => none)
    (fun _ _ _ _ _ _ _ => none)
    (fun z bytes n new st => appNewF z bytes n new 0 .lf st [])
    (fun z bytes n new st => appNewF z bytes n new 0 .lf st [])
    (fun _ _ _ _ _ => none)
    (fun sz xs tight _ z bytes n new st => appTo z bytes n new st (.sl sz xs tight))
    (fun _ _ _ _ _ _ _ _ _ => none)
    (fun _ _ _ _ _ _ => none)
    (fun sz l off len z bytes n new st => bR (Nat.beq off 0) (bR (Nat.beq sz z) (blkF (getF st.heap l) none (fun m t => bR (Nat.ble (len * z) m) (appNewF z bytes n new len t { heap := setF st.heap l .gone, next := st.next, lim := st.lim, wr := bR (Nat.blt l st.lim) (marks st.lim [(l, 0)] st.wr) st.wr } [(l, 0)]) none)) none) none)
    (fun _ _ _ _ _ => none)
    (fun _ _ _ _ _ _ => none)
    (fun _ _ _ _ _ => none)
    (fun _ _ _ _ _ _ _ _ _ _ => none)
    (fun _ _ _ _ _ => none)
    (fun _ _ _ _ _ _ _ _ => none)
    (fun _ _ _ _ _ _ _ => none)
    (fun _ _ _ _ _ _ _ => none)
    (fun _ _ _ _ _ => none)
    (fun _ _ _ _ _ _ _ _ => none)
    (fun _ _ _ _ _ _ _ _ => none)
    PUnit.unit (fun _ _ _ _ => PUnit.unit) PUnit.unit (fun _ _ _ _ _ _ => PUnit.unit) PUnit.unit (fun _ _ => PUnit.unit) v z bytes n new st
theorem marks_one (lim l : Nat) (wr : List Tc) : marks lim [(l, 0)] wr = bif Nat.blt l lim then marks lim [(l, 0)] wr else wr := by
  cases h : Nat.blt l lim <;> simp [marks, h]
theorem appToF_eq (sz bytes n : Nat) (new : List V) (st : St) (a : V) : appToF a sz bytes n new st = appTo sz bytes n new st a := by
  cases a <;> (try rfl)
  case nils => exact appNewF_eq ..
  case emp => exact appNewF_eq ..
  case row s l off len =>
    show bR (Nat.beq off 0) (bR (Nat.beq s sz) (blkF (getF st.heap l) none (fun m t => bR (Nat.ble (len * sz) m) (appNewF sz bytes n new len t _ [(l, 0)]) none)) none) none = _
    cases off with
    | succ off => rfl
    | zero =>
      simp only [appTo, St.blk, getF_eq, bR_eq]
      cases Nat.beq s sz with
      | false => rfl
      | true =>
        simp only [cond_true]
        cases st.heap.get l with
        | none => rfl
        | some b =>
          cases b with
          | cells m t =>
            show (bif Nat.ble (len * sz) m then _ else _) = _
            rw [appNewF_eq, setF_eq, ← marks_one]
            rfl
          | map es => rfl
          | iter => rfl
          | loop a b c d e f => rfl
          | gone => rfl
noncomputable def appendF (made : Bool) (sz bytes : Nat) (zs : List V) (st : St) (a b : V) : R :=
  Option.rec (motive := fun _ => R) none (fun p => Prod.rec (motive := fun _ => R) (fun n new => Nat.rec (motive := fun _ => R) (app0 st a) (fun m _ => appToF a sz bytes (m + 1) new st) n) p) (bR made (appMade zs b) (cellsOfF b st sz))
theorem appendF_eq (made : Bool) (sz bytes : Nat) (zs : List V) (st : St) (a b : V) : appendF made sz bytes zs st a b = append made sz bytes zs st a b := by
  unfold appendF append appSrc
  rw [bR_eq, cellsOfF_eq]
  cases hq : (bif made then appMade zs b else cellsOf st sz b) with
  | none => rfl
  | some p =>
    obtain ⟨n, new⟩ := p
    cases n with
    | zero => rfl
    | succ m => exact appToF_eq ..
noncomputable def onR3 (r : R) (k : V → St → Rho) : Rho := Option.rec (motive := fun _ => Rho) none (fun p => Prod.rec (motive := fun _ => Rho) (fun v q => Prod.rec (motive := fun _ => Rho) (fun st _ => k v st) q) p) r
theorem onR3_inv {r : R} {k : V → St → Rho} {a : V × St} (h : onR3 r k = some a) : ∃ v st lg, r = some (v, st, lg) ∧ k v st = some a := by
  cases r with
  | none => exact nomatch (show (none : Rho) = some a from h)
  | some p => obtain ⟨v, st, lg⟩ := p; exact ⟨v, st, lg, rfl, h⟩
noncomputable def appE (made : Bool) (sz bytes : Nat) (zs : List V) (x y : X2) (_ : CALL) (f : F) (st : St) (k : KE) : Rho := evK x f (fun a => evK y f (fun b => nrmS st (fun st => onR3 (appendF made sz bytes zs st a b) (fun v st => nrmV v (fun v => nrmS st (fun st => k v st f))))))
theorem appE_ok (X : Env) (made : Bool) (sz bytes : Nat) (zs : List V) (x y : Opd) : EOk X (appE made sz bytes zs (cX x) (cX y)) (.app made sz bytes zs x y) := fun E hE f fr st k a hf h => by
  obtain ⟨u, h1, _, h2⟩ := evK_inv hf h
  obtain ⟨w, h3, _, h4⟩ := evK_inv hf h2
  rw [nrmS_eq] at h4
  obtain ⟨v, st', lg, h5, h6⟩ := onR3_inv h4
  rw [nrmV_eq, nrmS_eq] at h6
  rw [appendF_eq] at h5
  exact ⟨v, st', f, fr, h6, hf, 0, lg, by simp [runOp, h1, h3, h5, r1]⟩

/-! ### a slice of one -/
noncomputable def pureVF (v : V)  : Bool :=
  V.rec (motive_1 := fun _ => Bool) (motive_2 := fun _ => PUnit) (motive_3 := fun _ => PUnit) (motive_4 := fun _ => PUnit)
    (fun _ => true)
    (fun _ _ => true)
    (fun _ => true)
    (true)
    (fun _ _ => false)
    (fun _ => false)
    (fun _ _ => false)
    (true)
    (true)
    (false)
    (fun _ _ _ _ => true)
    (fun _ _ _ _ => true)
    (fun _ => true)
    (fun _ _ _ _ => false)
    (true)
    (fun _ => false)
    (true)
    (fun fn first cap _ _ => pureV (.fn fn first cap))
    (true)
    (fun t v _ => pureV (.iface t v))
    (fun _ _ => false)
    (fun _ _ => false)
    (false)
    (fun _ _ _ => false)
    (fun _ _ _ => false)
    PUnit.unit (fun _ _ _ _ => PUnit.unit) PUnit.unit (fun _ _ _ _ _ _ => PUnit.unit) PUnit.unit (fun _ _ => PUnit.unit) v
theorem pureVF_eq (v : V) : pureVF v = pureV v := by cases v <;> rfl
noncomputable def pureAllF (l : List V) : Bool := List.rec (motive := fun _ => Bool) true (fun v _ ih => bR (pureVF v) ih false) l
theorem pureAllF_eq : ∀ l, pureAllF l = pureAll l
  | [] => rfl
  | v :: l => by
    show bR (pureVF v) (pureAllF l) false = _
    rw [bR_eq, pureVF_eq, pureAllF_eq l]; rfl
noncomputable def bs1E (X : Env) (op : IOp) (sz : Nat) (x : X2) (E : CALL) (f : F) (st : St) (k : KE) : Rho :=
  evK x f (fun v => onCells v (fun cs => onB (bR (Nat.beq (lenF cs) sz) (pureAllF cs) false) (k (.sl sz [oneA cs] true) st f) (genE X op E f st k)))
theorem takes_len {α : Type} : ∀ l : List α, takes l l.length = some l
  | [] => rfl
  | x :: l => by simp [takes, takes_len l]
theorem takes_some {α : Type} : ∀ (n : Nat) (l : List α), n ≤ l.length → ∃ r, takes l n = some r
  | 0, l, _ => ⟨[], by cases l <;> rfl⟩
  | n + 1, [], h => by simp at h
  | n + 1, x :: l, h => by
    obtain ⟨r, hr⟩ := takes_some n l (by simpa using h)
    exact ⟨x :: r, by simp [takes, hr]⟩
theorem bs1E_ok (X : Env) (sz : Nat) (zs : List V) (x : Opd) (hz : Nat.beq zs.length sz = true) (hs : small (.bslice sz 1 zs [(0, x)]) = true) : EOk X (bs1E (envB X) (.bslice sz 1 zs [(0, x)]) sz (cX x)) (.bslice sz 1 zs [(0, x)]) := fun E hE f fr st k a hf h => by
  obtain ⟨v, h1, _, h2⟩ := evK_inv hf h
  obtain ⟨cs, h3, _, h4⟩ := onCells_inv h2
  rcases onB_inv h4 with ⟨h5, h6⟩ | ⟨_, h6⟩
  · rw [bR_eq, lenF_eq, pureAllF_eq] at h5
    have hl : cs.length = sz := by
      cases hb : Nat.beq cs.length sz with
      | true => exact beqT hb
      | false => simp [hb] at h5
    have hz' := beqT hz
    have hp : pureAll cs = true := by
      cases hb : Nat.beq cs.length sz with
      | true => simpa [hb] using h5
      | false => simp [hb] at h5
    refine ⟨_, st, f, fr, h6, hf, 0, [], ?_⟩
    have hb : Nat.beq cs.length sz = true := by rw [hl]; exact Nat.beq_refl sz
    have e1 : partsE fr sz [(0, x)] = some [(0 * sz, cs)] := by simp [partsE, h1, h3, hb]
    have e2 : overlay (zeros zs 1) (0 * sz) cs = some cs := by
      obtain ⟨r, hr⟩ := takes_some cs.length zs (by omega)
      have e3 : drops zs 0 = zs := by cases zs <;> rfl
      have e4 : takes zs 0 = some [] := by cases zs <;> rfl
      simp only [overlay, zeros, List.append_nil, Nat.zero_mul, e4, e3, hr, Nat.zero_add]
      rw [drops_eq, List.drop_eq_nil_of_le (by omega)]
      simp
    have e5 : takes cs sz = some cs := by rw [← hl]; exact takes_len cs
    have e6 : drops cs sz = [] := by rw [drops_eq, List.drop_eq_nil_of_le (by omega)]
    have e7 : chunks sz 1 cs = some [oneA cs] := by
      simp only [chunks, e5, e6]
      match cs with
      | [] => rfl
      | [v] => rfl
      | _ :: _ :: _ => rfl
    rw [Nat.zero_mul] at e1 e2
    simp [runOp, e1, fills, e2, hp, e7, show Nat.beq 1 0 = false from rfl]
  · exact genE_ok X (.bslice sz 1 zs [(0, x)]) rfl hs E hE f fr st k a hf h6
end Go.Ai.Fl
/-! The fast layer: regions. -/
namespace Go.Ai.Fl
open Go Go.Ai
set_option linter.unusedVariables false
set_option linter.unusedSimpArgs false

noncomputable def cP (d : Option Nat) (f : F) (v : V) : F := match d with
  | none => f
  | some d => pt d f v
noncomputable def cD : Option Nat → D2
  | none => dNo
  | some d => ptK d
theorem cD_eq (d : Option Nat) (f : F) (v : V) (k : F → Rho) : cD d f v k = k (cP d f v) := by cases d <;> rfl
def dOk : Option Nat → Bool
  | none => true
  | some d => Nat.blt d 256
theorem cD_ok {f : F} {fr : T V} (h : FRel f fr) {d : Option Nat} (hd : dOk d = true) (v : V) : FRel (cP d f v) (put fr d v) := by
  cases d with
  | none => exact h
  | some d => exact h.put (bltT hd) v
abbrev KR := F → St → Rho
abbrev RC := CALL → F → St → KR → Rho
def RegOk (X : Env) (rc : RC) (ops : List IOpr) : Prop := ∀ E, ECall X E → ∀ f fr st k a, FRel f fr → rc E f st k = some a → ∃ f' fr' st', k f' st' = some a ∧ FRel f' fr' ∧ ∃ n, runOps X (rcall X (exec X n)) (round (exec X n)) ops fr st = some (fr', st')
def StepOk (X : Env) (rc : RC) (op : IOp) (d : D2) (rest : RC) : Prop := ∀ E, ECall X E → ∀ f fr st k a, FRel f fr → rc E f st k = some a →
  ∃ v st1 f1 fr1, FRel f1 fr1 ∧ d f1 v (fun f => rest E f st1 k) = some a ∧ ∃ n lg, runOp X (rcall X (exec X n)) (round (exec X n)) fr st op = some (v, st1, lg, fr1)
def rcNil : RC := fun _ f st k => k f st
def rcBad : RC := fun _ _ _ _ => none
noncomputable def nxV (d : D2) (rest : RC) (E : CALL) (f : F) (st : St) (k : KR) (v : V) : Rho := d f v (fun f => rest E f st k)
noncomputable def rcV (vop : VOp) (d : D2) (rest : RC) : RC := fun E f st k => vop f (nxV d rest E f st k)
noncomputable def nxR (d : D2) (rest : RC) (E : CALL) (f : F) (st : St) (k : KR) (v : V) (_ : List Tc) : Rho := d f v (fun f => rest E f st k)
noncomputable def rcR (rop : ROp) (d : D2) (rest : RC) : RC := fun E f st k => rop f st (nxR d rest E f st k)
noncomputable def nxE (d : D2) (rest : RC) (E : CALL) (k : KR) (v : V) (st : St) (f : F) : Rho := d f v (fun f => rest E f st k)
noncomputable def rcE (eop : EOp) (d : D2) (rest : RC) : RC := fun E f st k => eop E f st (nxE d rest E k)
theorem rcV_ok {X : Env} {vop : VOp} {op : IOp} (h : VOkX X vop op) (d : D2) (rest : RC) : StepOk X (rcV vop d rest) op d rest := fun E hE f fr st k a hf hk => by
  obtain ⟨v, h1, h2, h3, _⟩ := h.2 f fr _ a hf hk
  obtain ⟨lg, h4⟩ := h3 (rcall X (exec X 0)) (round (exec X 0)) st
  exact ⟨v, st, f, fr, hf, h1, 0, lg, h4⟩
theorem rcR_ok {X : Env} {rop : ROp} {op : IOp} (h : ROk X rop op) (d : D2) (rest : RC) : StepOk X (rcR rop d rest) op d rest := fun E hE f fr st k a hf hk => by
  obtain ⟨v, lg, h1, h2, h3⟩ := h f fr st _ a hf hk
  exact ⟨v, st, f, fr, hf, h1, 0, lg, h3 _ _⟩
theorem rcE_ok {X : Env} {eop : EOp} {op : IOp} (h : EOk X eop op) (d : D2) (rest : RC) : StepOk X (rcE eop d rest) op d rest := fun E hE f fr st k a hf hk => by
  obtain ⟨v, st', f', fr', h1, h2, n, lg, h3⟩ := h E hE f fr st _ a hf hk
  exact ⟨v, st', f', fr', h2, h1, n, lg, h3⟩
theorem rcBad_ok (X : Env) (op : IOp) (d : D2) (rest : RC) : StepOk X rcBad op d rest := fun E hE f fr st k a hf hk => nomatch (show (none : Rho) = some a from hk)

/-! ### which one -/
noncomputable def cBin (op : BinOp) (x y : X2) : VOp := match op with
  | .add => addV x y
  | .sub => i2V subO x y
  | .lss => i2V lssO x y
  | .gtr => i2V gtrO x y
  | .leq => i2V leqO x y
  | .geq => i2V geqO x y
  | .eql => eqV2 false x y
  | .neq => eqV2 true x y
  | op => binG op x y
theorem cBin_ok (op : BinOp) (x y : Opd) : VOk (cBin op (cX x) (cX y)) (.bin op x y) := by
  cases op <;> first | exact addV_ok x y | exact i2V_ok subO_ok x y | exact i2V_ok lssO_ok x y | exact i2V_ok gtrO_ok x y | exact i2V_ok leqO_ok x y | exact i2V_ok geqO_ok x y | exact eqV2_ok false x y | exact eqV2_ok true x y | exact binG_ok _ x y
inductive O2 where
  | v (vop : VOp)
  | r (rop : ROp)
  | e (eop : EOp)
  | bad
noncomputable def cO (X : Env) (op : IOp) : O2 := match op with
  | .mv x => .v (mvV (cX x))
  | .pick c a b => .v (pickV (cX c) (cX a) (cX b))
  | .bin op x y => .v (cBin op (cX x) (cX y))
  | .fa o (.t i) => .v (faV (cX (.t i)) i o)
  | .nilc x => .v (nilV (cX x))
  | .fld off n agg x => bif agg || Nat.beq n 1 then .v (fldV off n agg (cX x)) else .bad
  | .ext x i => .v (extV (cX x) i)
  | .ix x i => .v (ixV (cX x) (cX i))
  | .ia es x i => .v (iaV es (cX x) (cX i))
  | .len 1 x => .v (len1V (cX x))
  | .len 0 x => .v (len0V (cX x))
  | .conv (.int kd) x => .v (convIV kd (cX x))
  | .conv .toBytes x => .v (toBytesV (cX x))
  | .mki t x => .v (mkiV t (cX x))
  | .slice (some 1) x lo hi none => bif small (.slice (some 1) x lo hi none) then .v (slW X (.slice (some 1) x lo hi none) (some 1) (cX x) (cOx lo) (cOx hi)) else .bad
  | .slice none x lo hi none => .v (slV none (cX x) (cOx lo) (cOx hi))
  | .build zs ps => .v (buildV zs (cPts ps))
  | .load n agg x => bif agg || Nat.beq n 1 then .r (loadR X.glob n agg (cX x)) else .bad
  | .store n (.t i) x => .e (bif Nat.blt i 256 then storeE n (ptK i) (cX (.t i)) (cX x) else fun _ _ _ _ => none)
  | .call g xs => .e (callE g (cXs xs))
  | .callv x xs => .e (callvE (cX x) (cXs xs))
  | .alloc here zs => .e (allocE here zs (T.ofList zs) zs.length)
  | .box here x => .e (boxE here (cX x))
  | .app made sz bytes zs x y => .e (appE made sz bytes zs (cX x) (cX y))
  | .bslice sz 1 zs [(0, x)] => bif Nat.beq zs.length sz && small (.bslice sz 1 zs [(0, x)]) then .e (bs1E X (.bslice sz 1 zs [(0, x)]) sz (cX x)) else .bad
  | op => bif adrOp op || !small op then .bad else .e (genE X op)
def O2Ok (X : Env) (o : O2) (op : IOp) : Prop := match o with
  | .v vop => VOkX X vop op
  | .r rop => ROk X rop op
  | .e eop => EOk X eop op
  | .bad => True
theorem gen_case {X : Env} {op : IOp} : O2Ok X (bif adrOp op || !small op then .bad else .e (genE (envB X) op)) op := by
  cases h : (adrOp op || !small op) with
  | true => trivial
  | false =>
    simp only [Bool.or_eq_false_iff, Bool.not_eq_false'] at h
    exact genE_ok X op h.1 h.2
theorem cO_ok (X : Env) (op : IOp) : O2Ok X (cO (envB X) op) op := by
  cases op with
  | mv x => exact (mvV_ok x).toX X
  | pick c a b => exact (pickV_ok c a b).toX X
  | bin op x y => exact (cBin_ok op x y).toX X
  | fa o x => cases x with
    | t i => exact (faV_ok i o).toX X
    | _ => exact trivial
  | nilc x => exact (nilV_ok x).toX X
  | fld off n agg x =>
    simp only [cO]
    cases h : (agg || Nat.beq n 1) with
    | true => exact (fldV_ok off n agg h x).toX X
    | false => trivial
  | ext x i => exact (extV_ok x i).toX X
  | ix x i => exact (ixV_ok x i).toX X
  | ia es x i => exact (iaV_ok es x i).toX X
  | len k x => match k with
    | 0 => exact (len0V_ok x).toX X
    | 1 => exact (len1V_ok x).toX X
    | k + 2 => exact gen_case
  | conv k x => cases k with
    | int kd => exact (convIV_ok kd x).toX X
    | toBytes => exact (toBytesV_ok x).toX X
    | _ => exact gen_case
  | mki t x => exact (mkiV_ok t x).toX X
  | slice sz x lo hi mx =>
    match sz, mx with
    | some 1, none =>
      simp only [cO]
      cases h : small (.slice (some 1) x lo hi none) with
      | true => exact slW_ok X (some 1) x lo hi h
      | false => trivial
    | none, none => exact (slV_ok none x lo hi).toX X
    | some 0, none => exact gen_case
    | some (n + 2), none => exact gen_case
    | none, some m => exact gen_case
    | some 0, some m => exact gen_case
    | some 1, some m => exact gen_case
    | some (n + 2), some m => exact gen_case
  | build zs ps => exact (buildV_ok zs ps).toX X
  | load n agg x =>
    simp only [cO]
    cases h : (agg || Nat.beq n 1) with
    | true => exact loadR_ok X n agg h x
    | false => trivial
  | store n p x => cases p with
    | t i =>
      simp only [cO]
      cases h : Nat.blt i 256 with
      | true => exact storeE_ok X n i x
      | false => exact fun E hE f fr st k a hf h => nomatch (show (none : Rho) = some a from h)
    | _ => exact trivial
  | call g xs => exact callE_ok X g xs
  | callv x xs => exact callvE_ok X x xs
  | alloc here zs => exact allocE_ok X here zs
  | box here x => exact boxE_ok X here x
  | app made sz bytes zs x y => exact appE_ok X made sz bytes zs x y
  | bslice sz len zs ps =>
    match len, ps with
    | 0, _ => exact gen_case
    | 1, [] => exact gen_case (op := .bslice sz 1 zs [])
    | 1, [(0, x)] =>
      simp only [cO]
      cases h : (Nat.beq zs.length sz && small (.bslice sz 1 zs [(0, x)])) with
      | true =>
        simp only [Bool.and_eq_true] at h
        exact bs1E_ok X sz zs x h.1 h.2
      | false => trivial
    | 1, [(i + 1, x)] => exact gen_case
    | 1, (0, x) :: q :: r => exact gen_case (op := .bslice sz 1 zs ((0, x) :: q :: r))
    | 1, (i + 1, x) :: q :: r => exact gen_case (op := .bslice sz 1 zs ((i + 1, x) :: q :: r))
    | n + 2, _ => exact gen_case
  | mkm => exact genE_ok X .mkm rfl rfl
  | bad => exact genE_ok X .bad rfl rfl
  | _ => exact gen_case
noncomputable def rcO (o : O2) (d : D2) (rest : RC) : RC := match o with
  | .v vop => rcV vop d rest
  | .r rop => rcR rop d rest
  | .e eop => rcE eop d rest
  | .bad => rcBad
theorem rcO_ok {X : Env} {o : O2} {op : IOp} (h : O2Ok X o op) (d : D2) (rest : RC) : StepOk X (rcO o d rest) op d rest := by
  cases o with
  | v vop => exact rcV_ok h d rest
  | r rop => exact rcR_ok h d rest
  | e eop => exact rcE_ok h d rest
  | bad => exact rcBad_ok X op d rest

/-! ### guards -/
noncomputable def eqB (c b : Bool) (x y : Rho) : Rho := Bool.rec (motive := fun _ => Bool → Rho) (fun b => Bool.rec (motive := fun _ => Rho) x y b) (fun b => Bool.rec (motive := fun _ => Rho) y x b) c b
theorem eqB_eq (c b : Bool) (x y : Rho) : eqB c b x y = if (c == b) = true then x else y := by cases c <;> cases b <;> rfl

noncomputable def guA (v : V) (b : Bool) (x : Rho) (y : Rho) : Rho :=
  V.rec (motive_1 := fun _ => Bool → Rho → Rho → Rho) (motive_2 := fun _ => PUnit) (motive_3 := fun _ => PUnit) (motive_4 := fun _ => PUnit)
    (fun c b x y => eqB c b x y)
    (fun _ _ _ _ _ => none)
    (fun _ _ _ _ => none)
    (fun _ _ _ => none)
    (fun _ _ _ _ _ => none)
    (fun _ _ _ _ => none)
    (fun _ _ _ _ _ => none)
    (fun _ _ _ => none)
    (fun _ _ _ => none)
    (fun _ _ _ => none)
    (fun _ _ _ _ _ _ _ => none)
    (fun _ _ _ _ _ _ _ => none)
    (fun _ _ _ _ => none)
    (fun _ _ _ _ _ _ _ => none)
    (fun _ _ _ => none)
    (fun _ _ _ _ => none)
    (fun _ _ _ => none)
    (fun _ _ _ _ _ _ _ _ => none)
    (fun _ _ _ => none)
    (fun _ _ _ _ _ _ => none)
    (fun _ _ _ _ _ => none)
    (fun _ _ _ _ _ => none)
    (fun _ _ y => y)
    (fun _ _ _ _ _ _ => none)
    (fun _ _ _ _ _ _ => none)
    PUnit.unit (fun _ _ _ _ => PUnit.unit) PUnit.unit (fun _ _ _ _ _ _ => PUnit.unit) PUnit.unit (fun _ _ => PUnit.unit) v b x y

theorem guA_inv {v : V} {b : Bool} {x y : Rho} {a : V × St} (h : guA v b x y = some a) : ((∃ c, v = .bool c ∧ (c == b) = true) ∧ x = some a) ∨ (((∃ c, v = .bool c ∧ (c == b) = false) ∨ v = .junk) ∧ y = some a) := by
  cases v <;> (try exact nomatch (show (none : Rho) = some a from h))
  · rename_i c
    have h : eqB c b x y = some a := h
    rw [eqB_eq] at h
    cases hc : (c == b) with
    | true => rw [if_pos hc] at h; exact .inl ⟨⟨c, rfl, hc⟩, h⟩
    | false => rw [if_neg (by simp [hc])] at h; exact .inr ⟨.inl ⟨c, rfl, hc⟩, h⟩
  · exact .inr ⟨.inr rfl, h⟩
noncomputable def rcG (g : X2) (b : Bool) (d : D2) (self rest : RC) : RC := fun E f st k => onSome (g f) (fun gv => guA gv b (self E f st k) (d f .junk (fun f => rest E f st k)))
noncomputable def cI (X : Env) (o : IOpr) (rest : RC) : RC := bif dOk o.dst then (match o.guard with
  | none => rcO (cO X o.op) (cD o.dst) rest
  | some (g, b) => rcG (cX (.t g)) b (cD o.dst) (rcO (cO X o.op) (cD o.dst) rest) rest) else rcBad
noncomputable def cReg (X : Env) : List IOpr → RC
  | [] => rcNil
  | o :: os => cI X o (cReg X os)
theorem cReg_ok (X : Env) : ∀ ops, RegOk X (cReg (envB X) ops) ops
  | [] => fun E hE f fr st k a hf h => ⟨f, fr, st, h, hf, 0, rfl⟩
  | o :: os => fun E hE f fr st k a hf h => by
    have ih := cReg_ok X os
    simp only [cReg, cI] at h
    cases hd : dOk o.dst with
    | false => rw [hd] at h; exact nomatch (show (none : Rho) = some a from h)
    | true =>
      rw [hd] at h
      simp only [cond_true] at h
      have self : rcO (cO (envB X) o.op) (cD o.dst) (cReg (envB X) os) E f st k = some a → wantedV fr o.guard = some true → ∃ f' fr' st', k f' st' = some a ∧ FRel f' fr' ∧ ∃ n, runOps X (rcall X (exec X n)) (round (exec X n)) (o :: os) fr st = some (fr', st') := by
        intro h hw
        obtain ⟨v, st1, f1, fr1, h1, h2, n, lg, h3⟩ := rcO_ok (cO_ok X o.op) (cD o.dst) (cReg (envB X) os) E hE f fr st k a hf h
        rw [cD_eq] at h2
        obtain ⟨f', fr', st', h4, h5, m, h6⟩ := ih E hE _ _ st1 k a (cD_ok h1 hd v) h2
        refine ⟨f', fr', st', h4, h5, n + m, ?_⟩
        have h7 := runOp_mono (call_mono (X := X) (Nat.le_add_right n m)) (yield_mono (Nat.le_add_right n m)) h3
        have h8 := runOps_mono (call_mono (X := X) (Nat.le_add_left m n)) (yield_mono (Nat.le_add_left m n)) h6
        simp only [runOps, hw, h7]
        exact h8
      cases hg : o.guard with
      | none =>
        rw [hg] at h
        exact self h (by rw [hg]; rfl)
      | some p =>
        obtain ⟨g, b⟩ := p
        rw [hg] at h
        obtain ⟨gv, h0, h2⟩ := onSome_inv (show onSome (cX (.t g) f) (fun gv => guA gv b (rcO (cO (envB X) o.op) (cD o.dst) (cReg (envB X) os) E f st k) (cD o.dst f .junk (fun f => cReg (envB X) os E f st k))) = some a from h)
        obtain ⟨_, h1⟩ := cXt_inv hf h0
        rcases guA_inv h2 with ⟨⟨c, rfl, hc⟩, h3⟩ | ⟨hv, h3⟩
        · exact self h3 (by rw [hg]; simp [wantedV, h1, hc])
        · rw [cD_eq] at h3
          obtain ⟨f', fr', st', h4, h5, m, h6⟩ := ih E hE _ _ st k a (cD_ok hf hd .junk) h3
          have hw : wantedV fr o.guard = some false := by
            rw [hg]
            rcases hv with ⟨c, rfl, hc⟩ | rfl
            · simp [wantedV, h1, hc]
            · simp [wantedV, h1]
          refine ⟨f', fr', st', h4, h5, m, ?_⟩
          simp only [runOps, hw]
          exact h6

/-! ### regions that draw -/

noncomputable def llA (v : V) : List Tc :=
  V.rec (motive_1 := fun _ => List Tc) (motive_2 := fun _ => PUnit) (motive_3 := fun _ => PUnit) (motive_4 := fun _ => PUnit)
    (fun _ => [])
    (fun _ _ => [])
    (fun _ => [])
    ([])
    (fun _ _ => [])
    (fun _ => [])
    (fun _ _ => [])
    ([])
    ([])
    ([])
    (fun _ _ _ _ => [])
    (fun _ _ _ _ => [])
    (fun _ => [])
    (fun _ _ _ _ => [])
    ([])
    (fun _ => [])
    ([])
    (fun _ _ _ _ _ => [])
    ([])
    (fun _ _ _ => [])
    (fun _ _ => [])
    (fun _ _ => [])
    ([])
    (fun id _ _ => [(id, 0)])
    (fun _ _ id => [(id, 0)])
    PUnit.unit (fun _ _ _ _ => PUnit.unit) PUnit.unit (fun _ _ _ _ _ _ => PUnit.unit) PUnit.unit (fun _ _ => PUnit.unit) v 

noncomputable def locLogF (ts : List X2) (f : F) : List Tc := List.rec (motive := fun _ => List Tc) [] (fun t _ ih => Option.rec (motive := fun _ => List Tc) ih (fun v => appF (llA v) ih) (t f)) ts
noncomputable def cTs : List Nat → List X2
  | [] => []
  | t :: ts => cX (.t t) :: cTs ts
theorem locLogF_eq {f : F} {fr : T V} (hf : FRel f fr) : ∀ {ts : List Nat}, (ts.all fun t => Nat.blt t 256) = true → locLogF (cTs ts) f = locLog fr ts
  | [], _ => rfl
  | t :: ts, h => by
    simp only [List.all_cons, Bool.and_eq_true] at h
    have ih := locLogF_eq hf h.2
    have e0 : cX (.t t) = gt t := by simp [cX, h.1]
    show Option.rec (motive := fun _ => List Tc) (locLogF (cTs ts) f) (fun v => appF (llA v) (locLogF (cTs ts) f)) (cX (.t t) f) = _
    rw [e0]
    simp only [locLog]
    rw [hf t (bltT h.1), ih]
    cases gt t f with
    | none => rfl
    | some v => cases v <;> rfl

noncomputable def lvA (v : V) : List Tc :=
  V.rec (motive_1 := fun _ => List Tc) (motive_2 := fun _ => PUnit) (motive_3 := fun _ => PUnit) (motive_4 := fun _ => PUnit)
    (fun _ => [])
    (fun _ _ => [])
    (fun _ => [])
    ([])
    (fun _ _ => [])
    (fun _ => [])
    (fun _ _ => [])
    ([])
    ([])
    ([])
    (fun _ _ _ _ => [])
    (fun _ _ _ _ => [])
    (fun _ => [])
    (fun _ _ _ _ => [])
    ([])
    (fun _ => [])
    ([])
    (fun _ _ _ _ _ => [])
    ([])
    (fun _ _ _ => [])
    (fun _ _ => [])
    (fun _ _ => [])
    ([])
    (fun id _ _ => [(id, 0)])
    (fun _ _ _ => [])
    PUnit.unit (fun _ _ _ _ => PUnit.unit) PUnit.unit (fun _ _ _ _ _ _ => PUnit.unit) PUnit.unit (fun _ _ => PUnit.unit) v 

noncomputable def nlA (v : V) (r : Rho) : Rho :=
  V.rec (motive_1 := fun _ => Rho → Rho) (motive_2 := fun _ => PUnit) (motive_3 := fun _ => PUnit) (motive_4 := fun _ => PUnit)
    (fun _ r => r)
    (fun _ _ r => r)
    (fun _ r => r)
    (fun r => r)
    (fun _ _ r => r)
    (fun _ r => r)
    (fun _ _ r => r)
    (fun r => r)
    (fun r => r)
    (fun r => r)
    (fun _ _ _ _ r => r)
    (fun _ _ _ _ r => r)
    (fun _ r => r)
    (fun _ _ _ _ r => r)
    (fun r => r)
    (fun _ r => r)
    (fun r => r)
    (fun _ _ _ _ _ r => r)
    (fun r => r)
    (fun _ _ _ r => r)
    (fun _ _ r => r)
    (fun _ _ r => r)
    (fun r => r)
    (fun _ _ _ _ => none)
    (fun _ _ _ r => r)
    PUnit.unit (fun _ _ _ _ => PUnit.unit) PUnit.unit (fun _ _ _ _ _ _ => PUnit.unit) PUnit.unit (fun _ _ => PUnit.unit) v r

theorem lvA_eq (v : V) : lvA v = locOf v := by cases v <;> rfl
theorem nlA_inv {v : V} {r : Rho} {a : V × St} (h : nlA v r = some a) : isLocV v = false ∧ r = some a := by
  cases v <;> first | exact ⟨rfl, h⟩ | exact nomatch (show (none : Rho) = some a from h)
noncomputable def cDx : Option Nat → Option X2
  | none => none
  | some d => some (cX (.t d))
noncomputable def hlK (d : Option X2) (f : F) (r : Rho) : Rho := Option.rec (motive := fun _ => Rho) r (fun d => Option.rec (motive := fun _ => Rho) r (fun v => nlA v r) (d f)) d
theorem hlK_inv {d : Option Nat} (hd : dOk d = true) {f : F} {fr : T V} (hf : FRel f fr) {r : Rho} {a : V × St} (h : hlK (cDx d) f r = some a) : holdsLoc fr d = false ∧ r = some a := by
  cases d with
  | none => exact ⟨rfl, h⟩
  | some d =>
    have hg := hf d (bltT hd)
    have e0 : cX (.t d) = gt d := by simp only [dOk] at hd; simp [cX, hd]
    have h : Option.rec (motive := fun _ => Rho) r (fun v => nlA v r) (cX (.t d) f) = some a := h
    rw [e0] at h
    simp only [holdsLoc, hg]
    cases hq : gt d f with
    | none => rw [hq] at h; exact ⟨rfl, h⟩
    | some v =>
      rw [hq] at h
      obtain ⟨h1, h2⟩ := nlA_inv h
      exact ⟨by cases v <;> simp_all [isLocO, isLocV], h2⟩
abbrev KD := F → St → List (List Tc) → Rho
abbrev DC := CALL → Nat → Nat → F → St → List (List Tc) → KR → Rho
def DRegOk (X : Env) (dc : DC) (ds : List DOpr) : Prop := ∀ E, ECall X E → ∀ base top f fr st logs k a, FRel f fr → dc E base top f st logs k = some a →
  ∃ f' fr' st', k f' st' = some a ∧ FRel f' fr' ∧ ∃ n, runOpsD X (rcall X (exec X n)) (round (exec X n)) base top ds logs fr st = some (fr', st')
def dcNil : DC := fun _ _ _ f st _ k => k f st
def dcBad : DC := fun _ _ _ _ _ _ _ => none
/-- what is checked behind an operation -/
noncomputable def ckK (far : List Nat) (chk : Bool) (top : Nat) (log : List Tc) (logs : List (List Tc)) (r : Rho) : Rho :=
  Bool.rec (motive := fun _ => Rho) (onB (apartAllF log logs far && (!chk || below top log)) r none) r (far.isEmpty && !chk)
theorem ckK_inv {far : List Nat} {chk : Bool} {top : Nat} {log : List Tc} {logs : List (List Tc)} {r : Rho} {a : V × St} (h : ckK far chk top log logs r = some a) : (apartAll log logs far && (!chk || below top log)) = true ∧ r = some a := by
  unfold ckK at h
  rw [apartAllF_eq] at h
  cases hq : (far.isEmpty && !chk) with
  | true =>
    rw [hq] at h
    simp only [Bool.and_eq_true, Bool.not_eq_true', List.isEmpty_iff] at hq
    obtain ⟨rfl, rfl⟩ := hq
    exact ⟨rfl, h⟩
  | false =>
    rw [hq] at h
    rcases onB_inv h with ⟨h1, h2⟩ | ⟨_, h2⟩
    · exact ⟨h1, h2⟩
    · cases h2
/-- an operation's step: value, state, frame, log -/
abbrev KS := V → St → F → List Tc → Rho
abbrev SOp := CALL → Nat → F → St → KS → Rho
def SOk (X : Env) (sop : SOp) (k : Kd) (op : IOp) : Prop := ∀ E, ECall X E → ∀ base f fr st kt a, FRel f fr → sop E base f st kt = some a → ∃ v st' f' fr' lg, kt v st' f' lg = some a ∧ FRel f' fr' ∧ (isLocV v && !(loud k)) = false ∧ ∃ n, runK X (rcall X (exec X n)) (round (exec X n)) base fr st op k = some (v, st', lg, fr')
noncomputable def soV (vop : VOp) : SOp := fun _ _ f st k => vop f (fun v => k v st f [])
theorem soV_ok {X : Env} {vop : VOp} {op : IOp} (h : VOkX X vop op) : SOk X (soV vop) .pure op := fun E hE base f fr st kt a hf hk => by
  obtain ⟨v, h1, h2, _, h4⟩ := h.2 f fr _ a hf hk
  obtain ⟨s, lg, fr1, h5, h6⟩ := h4 (rcall X (exec X 0)) (round (exec X 0))
  exact ⟨v, st, f, fr, [], h1, hf, by simp [h2], 0, by simp [runK, h.1, h5, h6]⟩
noncomputable def soR (rop : ROp) : SOp := fun _ _ f st k => rop f st (fun v lg => k v st f lg)
theorem soR_ok {X : Env} {rop : ROp} {op : IOp} (h : ROk X rop op) (hr : readOp op = true) : SOk X (soR rop) .read op := fun E hE base f fr st kt a hf hk => by
  obtain ⟨v, lg, h1, h2, h3⟩ := h f fr st _ a hf hk
  exact ⟨v, st, f, fr, lg, h1, hf, by simp [h2], 0, by simp [runK, hr, h3]⟩
noncomputable def soE (eop : EOp) : SOp := fun E _ f st k => eop E f { heap := st.heap, next := st.next, lim := st.next, wr := [] } (fun v s f => k v { heap := s.heap, next := s.next, lim := st.lim, wr := marksF st.lim s.wr st.wr } f s.wr)
theorem soE_ok {X : Env} {eop : EOp} {op : IOp} (h : EOk X eop op) : SOk X (soE eop) .eff op := fun E hE base f fr st kt a hf hk => by
  obtain ⟨v, s, f', fr', h1, h2, n, lg, h3⟩ := h E hE f fr _ _ a hf hk
  exact ⟨v, _, f', fr', _, h1, h2, by simp [loud], n, by simp [runK, h3, marksF_eq]⟩
theorem rcE_ofV {X : Env} {vop : VOp} {op : IOp} (h : VOkX X vop op) : EOk X (fun _ f st k => vop f (fun v => k v st f)) op := fun E hE f fr st k a hf hk => by
  obtain ⟨v, h1, h2, h3, _⟩ := h.2 f fr _ a hf hk
  obtain ⟨lg, h4⟩ := h3 (rcall X (exec X 0)) (round (exec X 0)) st
  exact ⟨v, st, f, fr, h1, hf, 0, lg, h4⟩
noncomputable def soS (k : Nat) (zs : List V) : SOp := fun _ base f st kt => kt (.loc (base + k) zs) st f []
theorem soS_ok (X : Env) (k : Nat) (here : Bool) (zs : List V) : SOk X (soS k zs) (.slot k) (.alloc here zs) := fun E hE base f fr st kt a hf hk =>
  ⟨_, st, f, fr, [], hk, hf, rfl, 0, rfl⟩
noncomputable def soB (k : Nat) (x : X2) : SOp := fun _ base f st kt => onSome (x f) (fun v => onCells v (fun cs => kt (.loc (base + k) cs) st f []))
theorem soB_ok (X : Env) (k : Nat) (here : Bool) (x : Opd) : SOk X (soB k (cX x)) (.slot k) (.box here x) := fun E hE base f fr st kt a hf hk => by
  obtain ⟨xv, h1, h2⟩ := onSome_inv hk
  obtain ⟨cs, h3, h4, h5⟩ := onCells_inv h2
  exact ⟨_, st, f, fr, [], h5, hf, rfl, 0, by simp only [runK, cX_spec hf h1 h4, h3]⟩
noncomputable def cS (X : Env) (k : Kd) (op : IOp) : Option SOp := match k with
  | .pure => (match cO X op with
    | .v vop => some (soV vop)
    | _ => bif pureOp op && !adrOp op && small op then some (soV (genV X op)) else none)
  | .read => (match cO X op with
    | .r rop => bif readOp op then some (soR rop) else none
    | _ => bif readOp op && !adrOp op && small op then some (soR (genR X op)) else none)
  | .eff => (match cO X op with
    | .e eop => some (soE eop)
    | _ => none)
  | .slot k => (match op with
    | .alloc _ zs => some (soS k zs)
    | .box _ x => some (soB k (cX x))
    | _ => none)
theorem cS_ok {X : Env} {k : Kd} {op : IOp} {sop : SOp} (h : cS (envB X) k op = some sop) : SOk X sop k op := by
  have hO := cO_ok X op
  cases k with
  | pure =>
    simp only [cS] at h
    split at h
    · rename_i vop hv
      rw [hv] at hO
      simp at h; subst h
      exact soV_ok hO
    · cases hb : (pureOp op && !adrOp op && small op) with
      | false => simp [hb] at h
      | true =>
        simp [hb] at h; subst h
        simp only [Bool.and_eq_true, Bool.not_eq_true'] at hb
        exact soV_ok (genV_ok X op hb.1.1 hb.1.2 hb.2)
  | read =>
    simp only [cS] at h
    split at h
    · rename_i rop hv
      rw [hv] at hO
      cases hb : readOp op with
      | false => simp [hb] at h
      | true => simp [hb] at h; subst h; exact soR_ok hO hb
    · cases hb : (readOp op && !adrOp op && small op) with
      | false => simp [hb] at h
      | true =>
        simp [hb] at h; subst h
        simp only [Bool.and_eq_true, Bool.not_eq_true'] at hb
        exact soR_ok (genR_ok X op hb.1.1 hb.1.2 hb.2) hb.1.1
  | eff =>
    simp only [cS] at h
    split at h
    · rename_i eop hv
      rw [hv] at hO
      simp at h; subst h
      exact soE_ok hO
    · cases h
  | slot k =>
    simp only [cS] at h
    split at h
    · simp at h; subst h; exact soS_ok X k _ _
    · simp at h; subst h; exact soB_ok X k _ _
    · cases h
noncomputable def dcS (sop : SOp) (ts : List X2) (dx : Option X2) (d : D2) (far : List Nat) (chk : Bool) (rest : DC) : DC := fun E base top f st logs k =>
  hlK dx f (sop E base f st (fun v st' f' lg => ckK far chk top (appF (locLogF ts f) (appF (lvA v) lg)) logs (d f' v (fun f' => rest E base top f' st' (appF (locLogF ts f) (appF (lvA v) lg) :: logs) k))))
noncomputable def dcJ (dx : Option X2) (d : D2) (far : List Nat) (chk : Bool) (rest : DC) : DC := fun E base top f st logs k => hlK dx f (ckK far chk top [] logs (d f .junk (fun f => rest E base top f st ([] :: logs) k)))
noncomputable def dcG (g : X2) (b : Bool) (self junk : DC) : DC := fun E base top f st logs k => onSome (g f) (fun gv => guA gv b (self E base top f st logs k) (junk E base top f st logs k))
noncomputable def cDI (X : Env) (o : DOpr) (rest : DC) : DC := bif dOk o.o.dst && small o.o.op then (match cS X o.kind o.o.op with
  | none => dcBad
  | some sop => (match o.o.guard with
    | none => dcS sop (cTs o.o.op.tmps) (cDx o.o.dst) (cD o.o.dst) o.far o.chk rest
    | some (g, b) => dcG (cX (.t g)) b (dcS sop (cTs o.o.op.tmps) (cDx o.o.dst) (cD o.o.dst) o.far o.chk rest) (dcJ (cDx o.o.dst) (cD o.o.dst) o.far o.chk rest))) else dcBad
noncomputable def cDReg (X : Env) : List DOpr → DC
  | [] => dcNil
  | o :: os => cDI X o (cDReg X os)
theorem cDReg_ok (X : Env) : ∀ ds, DRegOk X (cDReg (envB X) ds) ds
  | [] => fun E hE base top f fr st logs k a hf h => ⟨f, fr, st, h, hf, 0, rfl⟩
  | o :: os => fun E hE base top f fr st logs k a hf h => by
    have ih := cDReg_ok X os
    simp only [cDReg, cDI] at h
    cases hd : (dOk o.o.dst && small o.o.op) with
    | false => rw [hd] at h; exact nomatch (show (none : Rho) = some a from h)
    | true =>
      rw [hd] at h
      simp only [cond_true] at h
      simp only [Bool.and_eq_true] at hd
      cases hsop : cS (envB X) o.kind o.o.op with
      | none => rw [hsop] at h; exact nomatch (show (none : Rho) = some a from h)
      | some sop =>
        rw [hsop] at h
        simp only at h
        have hS := cS_ok hsop
        have self : dcS sop (cTs o.o.op.tmps) (cDx o.o.dst) (cD o.o.dst) o.far o.chk (cDReg (envB X) os) E base top f st logs k = some a → wantedV fr o.o.guard = some true → ∃ f' fr' st', k f' st' = some a ∧ FRel f' fr' ∧ ∃ n, runOpsD X (rcall X (exec X n)) (round (exec X n)) base top (o :: os) logs fr st = some (fr', st') := by
          intro h hw
          obtain ⟨h1, h2⟩ := hlK_inv hd.1 hf h
          obtain ⟨v, st1, f1, fr1, lg, h3, h4, h5, n, h6⟩ := hS E hE base f fr st _ a hf h2
          obtain ⟨h7, h8⟩ := ckK_inv h3
          rw [cD_eq] at h8
          rw [appF_eq, appF_eq, lvA_eq, locLogF_eq hf hd.2, ← List.append_assoc] at h7 h8
          obtain ⟨f', fr', st', h9, h10, m, h11⟩ := ih E hE base top _ _ st1 _ k a (cD_ok h4 hd.1 v) h8
          refine ⟨f', fr', st', h9, h10, n + m, ?_⟩
          have h12 := runK_mono (call_mono (X := X) (Nat.le_add_right n m)) (yield_mono (Nat.le_add_right n m)) h6
          have h13 := runOpsD_mono (call_mono (X := X) (Nat.le_add_left m n)) (yield_mono (Nat.le_add_left m n)) h11
          have h14 : stepD X (rcall X (exec X (n + m))) (round (exec X (n + m))) base o fr st = some (put fr1 o.o.dst v, st1, locLog fr o.o.op.tmps ++ locOf v ++ lg) := by
            simp only [stepD, h1, cond_false, hw, h12, h5]
          simp only [runOpsD, h14, h7, cond_true]
          exact h13
        cases hg : o.o.guard with
        | none =>
          rw [hg] at h
          exact self h (by rw [hg]; rfl)
        | some p =>
          obtain ⟨g, b⟩ := p
          rw [hg] at h
          obtain ⟨gv, h0, h2⟩ := onSome_inv (show onSome (cX (.t g) f) (fun gv => guA gv b (dcS sop (cTs o.o.op.tmps) (cDx o.o.dst) (cD o.o.dst) o.far o.chk (cDReg (envB X) os) E base top f st logs k) (dcJ (cDx o.o.dst) (cD o.o.dst) o.far o.chk (cDReg (envB X) os) E base top f st logs k)) = some a from h)
          obtain ⟨_, h1⟩ := cXt_inv hf h0
          rcases guA_inv h2 with ⟨⟨c, rfl, hc⟩, h3⟩ | ⟨hv, h3⟩
          · exact self h3 (by rw [hg]; simp [wantedV, h1, hc])
          · obtain ⟨h4, h5⟩ := hlK_inv hd.1 hf h3
            obtain ⟨h6, h7⟩ := ckK_inv h5
            rw [cD_eq] at h7
            obtain ⟨f', fr', st', h8, h9, m, h10⟩ := ih E hE base top _ _ st _ k a (cD_ok hf hd.1 .junk) h7
            have hw : wantedV fr o.o.guard = some false := by
              rw [hg]
              rcases hv with ⟨c, rfl, hc⟩ | rfl
              · simp [wantedV, h1, hc]
              · simp [wantedV, h1]
            refine ⟨f', fr', st', h8, h9, m, ?_⟩
            have h14 : stepD X (rcall X (exec X m)) (round (exec X m)) base o fr st = some (put fr o.o.dst .junk, st, []) := by
              simp only [stepD, h4, cond_false, hw]
            simp only [runOpsD, h14, h6, cond_true]
            exact h10
end Go.Ai.Fl
/-! The fast layer: code, functions. -/
namespace Go.Ai.Fl
open Go Go.Ai
set_option linter.unusedVariables false
set_option linter.unusedSimpArgs false

abbrev K := Ex → F → St → Rho
abbrev C2 := CALL → F → St → K → Rho
def CodeOk (X : Env) (c2 : C2) (c : IR) : Prop := ∀ E, ECall X E → ∀ f fr st k a, FRel f fr → c2 E f st k = some a → ∃ e f' fr' st', k e f' st' = some a ∧ FRel f' fr' ∧ ∃ n, exec X n c fr st = some (e, fr', st')
def cBad : C2 := fun _ _ _ _ => none
theorem cBad_ok (X : Env) (c : IR) : CodeOk X cBad c := fun E hE f fr st k a hf h => nomatch (show (none : Rho) = some a from h)
def cSkip : C2 := fun _ f st k => k .nrm f st
theorem cSkip_ok (X : Env) : CodeOk X cSkip .skip := fun E hE f fr st k a hf h => ⟨.nrm, f, fr, st, h, hf, 1, rfl⟩
def cExit (i : Nat) : C2 := fun _ f st k => k (.exit i) f st
theorem cExit_ok (X : Env) (i : Nat) : CodeOk X (cExit i) (.exit i) := fun E hE f fr st k a hf h => ⟨.exit i, f, fr, st, h, hf, 1, rfl⟩
def cRet : C2 := fun _ f st k => k .ret f st
theorem cRet_ok (X : Env) : CodeOk X cRet .ret := fun E hE f fr st k a hf h => ⟨.ret, f, fr, st, h, hf, 1, rfl⟩
noncomputable def cRg (rc : RC) : C2 := fun E f st k => rc E f st (k .nrm)
theorem cRg_ok {X : Env} {rc : RC} {ops : List IOpr} (h : RegOk X rc ops) : CodeOk X (cRg rc) (.reg ops) := fun E hE f fr st k a hf hk => by
  obtain ⟨f', fr', st', h1, h2, n, h3⟩ := h E hE f fr st _ a hf hk
  exact ⟨.nrm, f', fr', st', h1, h2, n + 1, by simp [exec, h3]⟩
noncomputable def kSeq (b : C2) (E : CALL) (k : K) (e : Ex) (f : F) (st : St) : Rho := Ex.rec (motive := fun _ => Rho) (b E f st k) (fun i => k (.exit i) f st) (k .ret f st) e
noncomputable def cSeq (x y : C2) : C2 := fun E f st k => x E f st (kSeq y E k)
theorem cSeq_ok {X : Env} {x y : C2} {a b : IR} (hx : CodeOk X x a) (hy : CodeOk X y b) : CodeOk X (cSeq x y) (.seq a b) := fun E hE f fr st k r hf h => by
  obtain ⟨e, f1, fr1, st1, h1, h2, n, h3⟩ := hx E hE f fr st _ r hf h
  cases e with
  | nrm =>
    obtain ⟨e, f2, fr2, st2, h4, h5, m, h6⟩ := hy E hE f1 fr1 st1 k r h2 h1
    refine ⟨e, f2, fr2, st2, h4, h5, n + m + 1, ?_⟩
    have h7 := exec_mono (X := X) (Nat.le_add_right n m) _ _ _ _ h3
    have h8 := exec_mono (X := X) (Nat.le_add_left m n) _ _ _ _ h6
    simp only [exec, h7, h8]
  | exit i => exact ⟨.exit i, f1, fr1, st1, h1, h2, n + 1, by simp only [exec, h3]⟩
  | ret => exact ⟨.ret, f1, fr1, st1, h1, h2, n + 1, by simp only [exec, h3]⟩
noncomputable def cCond (x : X2) (y z : C2) : C2 := fun E f st k => onSome (x f) (fun v => onBool v (y E f st k) (z E f st k))
theorem cCond_ok {X : Env} {x : Opd} {y z : C2} {a b : IR} (hy : CodeOk X y a) (hz : CodeOk X z b) : CodeOk X (cCond (cX x) y z) (.cond x a b) := fun E hE f fr st k r hf h => by
  obtain ⟨v, h1, h2⟩ := onSome_inv h
  rcases onBool_inv h2 with ⟨rfl, h3⟩ | ⟨rfl, h3⟩
  · obtain ⟨e, f2, fr2, st2, h4, h5, m, h6⟩ := hy E hE f fr st k r hf h3
    exact ⟨e, f2, fr2, st2, h4, h5, m + 1, by simp only [exec, cX_spec hf h1 rfl, h6]⟩
  · obtain ⟨e, f2, fr2, st2, h4, h5, m, h6⟩ := hz E hE f fr st k r hf h3
    exact ⟨e, f2, fr2, st2, h4, h5, m + 1, by simp only [exec, cX_spec hf h1 rfl, h6]⟩
noncomputable def kBlk (i : Nat) (k : K) (e : Ex) (f : F) (st : St) : Rho := Ex.rec (motive := fun _ => Rho) (k .nrm f st) (fun j => onB (Nat.beq j i) (k .nrm f st) (k (.exit j) f st)) (k .ret f st) e
noncomputable def cBlk (i : Nat) (x : C2) : C2 := fun E f st k => x E f st (kBlk i k)
theorem cBlk_ok {X : Env} {i : Nat} {x : C2} {a : IR} (hx : CodeOk X x a) : CodeOk X (cBlk i x) (.block i a) := fun E hE f fr st k r hf h => by
  obtain ⟨e, f1, fr1, st1, h1, h2, n, h3⟩ := hx E hE f fr st _ r hf h
  cases e with
  | nrm => exact ⟨.nrm, f1, fr1, st1, h1, h2, n + 1, by simp only [exec, h3]⟩
  | exit j =>
    have h1 : onB (Nat.beq j i) (k .nrm f1 st1) (k (.exit j) f1 st1) = some r := h1
    rcases onB_inv h1 with ⟨h4, h5⟩ | ⟨h4, h5⟩
    · exact ⟨.nrm, f1, fr1, st1, h5, h2, n + 1, by simp only [exec, h3, h4, cond_true]⟩
    · exact ⟨.exit j, f1, fr1, st1, h5, h2, n + 1, by simp only [exec, h3, h4, cond_false]⟩
  | ret => exact ⟨.ret, f1, fr1, st1, h1, h2, n + 1, by simp only [exec, h3]⟩
noncomputable def kLp (ih : F → St → K → Rho) (k : K) (e : Ex) (f : F) (st : St) : Rho := Ex.rec (motive := fun _ => Rho) (ih f st k) (fun i => k (.exit i) f st) (k .ret f st) e
noncomputable def cLpN (x : C2) (E : CALL) (n : Nat) : F → St → K → Rho := Nat.rec (motive := fun _ => F → St → K → Rho) (fun _ _ _ => none) (fun _ ih f st k => x E f st (kLp ih k)) n
noncomputable def cLp (x : C2) : C2 := fun E f st k => cLpN x E 1000000 f st k
theorem cLp_ok {X : Env} {x : C2} {a : IR} (hx : CodeOk X x a) : CodeOk X (cLp x) (.loop a) := fun E hE f fr st k r hf h => by
  have key : ∀ m (f : F) (fr : T V) (st : St), FRel f fr → cLpN x E m f st k = some r → ∃ e f' fr' st', k e f' st' = some r ∧ FRel f' fr' ∧ ∃ n, exec X n (.loop a) fr st = some (e, fr', st') := by
    intro m
    induction m with
    | zero => intro f fr st _ h; exact nomatch (show (none : Rho) = some r from h)
    | succ m ih =>
      intro f fr st hf h
      obtain ⟨e, f1, fr1, st1, h1, h2, n, h3⟩ := hx E hE f fr st _ r hf (show x E f st (kLp (cLpN x E m) k) = some r from h)
      cases e with
      | nrm =>
        obtain ⟨e, f2, fr2, st2, h4, h5, q, h6⟩ := ih f1 fr1 st1 h2 h1
        refine ⟨e, f2, fr2, st2, h4, h5, n + q + 1, ?_⟩
        have h7 := exec_mono (X := X) (Nat.le_add_right n q) _ _ _ _ h3
        have h8 := exec_mono (X := X) (Nat.le_add_left q n) _ _ _ _ h6
        simp only [exec, h7, h8]
      | exit i => exact ⟨.exit i, f1, fr1, st1, h1, h2, n + 1, by simp only [exec, h3]⟩
      | ret => exact ⟨.ret, f1, fr1, st1, h1, h2, n + 1, by simp only [exec, h3]⟩
  exact key _ f fr st hf h

/-! ### regions that draw -/

noncomputable def rtA (v : V) (t : Nat) (f : F) : F :=
  V.rec (motive_1 := fun _ => Nat → F → F) (motive_2 := fun _ => PUnit) (motive_3 := fun _ => PUnit) (motive_4 := fun _ => PUnit)
    (fun _ _ f => f)
    (fun _ _ _ f => f)
    (fun _ _ f => f)
    (fun _ f => f)
    (fun _ _ _ f => f)
    (fun _ _ f => f)
    (fun _ _ _ f => f)
    (fun _ f => f)
    (fun _ f => f)
    (fun _ f => f)
    (fun _ _ _ _ _ f => f)
    (fun _ _ _ _ _ f => f)
    (fun _ _ f => f)
    (fun _ _ _ _ _ f => f)
    (fun _ f => f)
    (fun _ _ f => f)
    (fun _ f => f)
    (fun _ _ _ _ _ _ f => f)
    (fun _ f => f)
    (fun _ _ _ _ f => f)
    (fun _ _ _ f => f)
    (fun _ _ _ f => f)
    (fun _ f => f)
    (fun id _ _ t f => pt t f (.ptr id 0))
    (fun _ _ _ _ f => f)
    PUnit.unit (fun _ _ _ _ => PUnit.unit) PUnit.unit (fun _ _ _ _ _ _ => PUnit.unit) PUnit.unit (fun _ _ => PUnit.unit) v t f

noncomputable def retF (ts : List Nat) (f : F) : F := List.rec (motive := fun _ => F → F) (fun f => f) (fun t _ ih f => ih (Option.rec (motive := fun _ => F) f (fun v => rtA v t f) (gt t f))) ts f
theorem retF_ok : ∀ {ts : List Nat} {f : F} {fr : T V}, FRel f fr → (ts.all fun t => Nat.blt t 256) = true → FRel (retF ts f) (retire ts fr)
  | [], f, fr, hf, _ => hf
  | t :: ts, f, fr, hf, h => by
    simp only [List.all_cons, Bool.and_eq_true] at h
    have hlt := bltT h.1
    have hg := hf t hlt
    show FRel (retF ts (Option.rec (motive := fun _ => F) f (fun v => rtA v t f) (gt t f))) _
    simp only [retire, hg]
    cases gt t f with
    | none => exact retF_ok hf h.2
    | some v => cases v <;> first | exact retF_ok hf h.2 | exact retF_ok (hf.put hlt _) h.2

noncomputable def pbA (v : V) (base : Nat) (t : Nat) (f : F) (st : St) (ih : F → St → Rho) : Rho :=
  V.rec (motive_1 := fun _ => Nat → Nat → F → St → (F → St → Rho) → Rho) (motive_2 := fun _ => PUnit) (motive_3 := fun _ => PUnit) (motive_4 := fun _ => PUnit)
    (fun _ _ _ f st ih => ih f st)
    (fun _ _ _ _ f st ih => ih f st)
    (fun _ _ _ f st ih => ih f st)
    (fun _ _ f st ih => ih f st)
    (fun _ _ _ _ f st ih => ih f st)
    (fun _ _ _ f st ih => ih f st)
    (fun _ _ _ _ f st ih => ih f st)
    (fun _ _ f st ih => ih f st)
    (fun _ _ f st ih => ih f st)
    (fun _ _ f st ih => ih f st)
    (fun _ _ _ _ _ _ f st ih => ih f st)
    (fun _ _ _ _ _ _ f st ih => ih f st)
    (fun _ _ _ f st ih => ih f st)
    (fun _ _ _ _ _ _ f st ih => ih f st)
    (fun _ _ f st ih => ih f st)
    (fun _ _ _ f st ih => ih f st)
    (fun _ _ f st ih => ih f st)
    (fun _ _ _ _ _ _ _ f st ih => ih f st)
    (fun _ _ f st ih => ih f st)
    (fun _ _ _ _ _ f st ih => ih f st)
    (fun _ _ _ _ f st ih => ih f st)
    (fun _ _ _ _ f st ih => ih f st)
    (fun _ _ f st ih => ih f st)
    (fun id cs _ base t f st ih => onB (Nat.ble base id) (ih (pt t f (.ptr id 0)) { heap := setF st.heap id (.cells (lenF cs) (fillF cs .lf 0)), next := st.next, lim := st.lim, wr := st.wr }) none)
    (fun _ _ _ _ _ f st ih => ih f st)
    PUnit.unit (fun _ _ _ _ => PUnit.unit) PUnit.unit (fun _ _ _ _ _ _ => PUnit.unit) PUnit.unit (fun _ _ => PUnit.unit) v base t f st ih

noncomputable def pubK (base : Nat) (ts : List Nat) (f : F) (st : St) (k : KR) : Rho := List.rec (motive := fun _ => F → St → Rho) k (fun t _ ih f st => Option.rec (motive := fun _ => Rho) (ih f st) (fun v => pbA v base t f st ih) (gt t f)) ts f st
theorem pubK_inv {base : Nat} {k : KR} {a : V × St} : ∀ {ts : List Nat} {f : F} {fr : T V} {st : St}, FRel f fr → (ts.all fun t => Nat.blt t 256) = true → pubK base ts f st k = some a → ∃ f' fr' st', k f' st' = some a ∧ FRel f' fr' ∧ publish base ts fr st = some (fr', st')
  | [], f, fr, st, hf, _, h => ⟨f, fr, st, h, hf, rfl⟩
  | t :: ts, f, fr, st, hf, hs, h => by
    simp only [List.all_cons, Bool.and_eq_true] at hs
    have hlt := bltT hs.1
    have hg := hf t hlt
    have h : Option.rec (motive := fun _ => Rho) (pubK base ts f st k) (fun v => pbA v base t f st (fun f st => pubK base ts f st k)) (gt t f) = some a := h
    simp only [publish, hg]
    cases hq : gt t f with
    | none => rw [hq] at h; exact pubK_inv hf hs.2 h
    | some v =>
      rw [hq] at h
      cases v <;> first | exact pubK_inv hf hs.2 h | skip
      rename_i id cs
      rcases onB_inv (show onB (Nat.ble base id) (pubK base ts (pt t f (.ptr id 0)) { heap := setF st.heap id (.cells (lenF cs) (fillF cs .lf 0)), next := st.next, lim := st.lim, wr := st.wr } k) none = some a from h) with ⟨h1, h2⟩ | ⟨_, h2⟩
      · rw [setF_eq, lenF_eq, fillF_eq] at h2
        simp only [h1, cond_true]
        exact pubK_inv (hf.put hlt _) hs.2 h2
      · cases h2
noncomputable def cRgd (dc : DC) (kk : Nat) (pub old : List Nat) : C2 := fun E f st k =>
  dc E st.next (st.next + kk) (retF old f) { heap := st.heap, next := st.next + kk, lim := st.lim, wr := st.wr } [] (fun f st1 => pubK st.next pub f st1 (k .nrm))
theorem cRgd_ok {X : Env} {dc : DC} {ds : List DOpr} (h : DRegOk X dc ds) (kk : Nat) {pub old : List Nat} (hp : (pub.all fun t => Nat.blt t 256) = true) (ho : (old.all fun t => Nat.blt t 256) = true) : CodeOk X (cRgd dc kk pub old) (.regd ds kk pub old) := fun E hE f fr st k a hf hk => by
  obtain ⟨f', fr', st', h1, h2, n, h3⟩ := h E hE _ _ _ _ _ _ _ a (retF_ok hf ho) hk
  obtain ⟨f2, fr2, st2, h4, h5, h6⟩ := pubK_inv h2 hp h1
  exact ⟨.nrm, f2, fr2, st2, h4, h5, n + 1, by simp only [exec, h3, h6]⟩

/-! ### all code -/
noncomputable def comp (X : Env) : IR → C2
  | .skip => cSkip
  | .reg ops => cRg (cReg X ops)
  | .regd ds k pub old => bif (pub.all fun t => Nat.blt t 256) && (old.all fun t => Nat.blt t 256) then cRgd (cDReg X ds) k pub old else cBad
  | .seq a b => cSeq (comp X a) (comp X b)
  | .cond x a b => cCond (cX x) (comp X a) (comp X b)
  | .block i b => cBlk i (comp X b)
  | .loop b => cLp (comp X b)
  | .exit i => cExit i
  | .ret => cRet
  | .rfn .. => cBad
  | .bad => cBad
theorem comp_ok (X : Env) : ∀ c, CodeOk X (comp (envB X) c) c
  | .skip => cSkip_ok X
  | .reg ops => cRg_ok (cReg_ok X ops)
  | .regd ds k pub old => by
    simp only [comp]
    cases h : ((pub.all fun t => Nat.blt t 256) && (old.all fun t => Nat.blt t 256)) with
    | true =>
      simp only [Bool.and_eq_true] at h
      exact cRgd_ok (cDReg_ok X ds) k h.1 h.2
    | false => exact cBad_ok X _
  | .seq a b => cSeq_ok (comp_ok X a) (comp_ok X b)
  | .cond x a b => cCond_ok (comp_ok X a) (comp_ok X b)
  | .block i b => cBlk_ok (comp_ok X b)
  | .loop b => cLp_ok (comp_ok X b)
  | .exit i => cExit_ok X i
  | .ret => cRet_ok X
  | .rfn .. => cBad_ok X _
  | .bad => cBad_ok X _

/-! ### functions -/
noncomputable def resOneK (gl : Nat → Option V) (r : Res) (f : F) (st : St) (k : KV) : Rho := match r with
  | .t i => evK (cX (.t i)) f k
  | .cell i n agg => bif agg || Nat.beq n 1 then loadR gl n agg (cX (.t i)) f st (fun v _ => k v) else none
theorem resOneK_inv {X : Env} {f : F} {fr : T V} (hf : FRel f fr) {r : Res} {st : St} {k : KV} {a : V × St} (h : resOneK X.glob r f st k = some a) : ∃ v, resOne X fr st r = some v ∧ k v = some a := by
  cases r with
  | t i =>
    obtain ⟨v, h1, _, h3⟩ := evK_inv hf (show evK (cX (.t i)) f k = some a from h)
    exact ⟨v, h1, h3⟩
  | cell i n agg =>
    simp only [resOneK] at h
    cases hb : (agg || Nat.beq n 1) with
    | false => rw [hb] at h; cases h
    | true =>
      rw [hb] at h
      obtain ⟨v, lg, h1, _, h3⟩ := loadR_ok X n agg hb (.t i) f fr st _ a hf h
      have h4 := h3 noC noY
      simp only [runOp] at h4
      cases hq : runLoad X fr st n agg (.t i) with
      | none => rw [hq] at h4; simp [r1] at h4
      | some q =>
        obtain ⟨v', s', l'⟩ := q
        rw [hq] at h4
        simp [r1] at h4
        obtain ⟨rfl, rfl, rfl⟩ := h4
        exact ⟨v', by simp [resOne, hq], h1⟩
noncomputable def resK (gl : Nat → Option V) (rs : List Res) (f : F) (st : St) (k : List V → Rho) : Rho := List.rec (motive := fun _ => (List V → Rho) → Rho) (fun k => k []) (fun r _ ih k => resOneK gl r f st (fun v => ih (fun t => k (v :: t)))) rs k
theorem resK_inv {X : Env} {f : F} {fr : T V} (hf : FRel f fr) {st : St} {a : V × St} : ∀ {rs : List Res} {k : List V → Rho}, resK X.glob rs f st k = some a → ∃ vs, mapO (resOne X fr st) rs = some vs ∧ k vs = some a
  | [], k, h => ⟨[], rfl, h⟩
  | r :: rs, k, h => by
    obtain ⟨v, h1, h2⟩ := resOneK_inv hf (show resOneK X.glob r f st (fun v => resK X.glob rs f st (fun t => k (v :: t))) = some a from h)
    obtain ⟨vs, h3, h4⟩ := resK_inv hf h2
    exact ⟨v :: vs, by simp [mapO, h1, h3], h4⟩
noncomputable def tupF (vs : List V) : V := List.rec (motive := fun _ => V) (.tuple []) (fun v t _ => List.rec (motive := fun _ => V) v (fun u r _ => .tuple (v :: u :: r)) t) vs
theorem tupF_eq {X : Env} {fr : T V} {st : St} {rs : List Res} {vs : List V} (h : mapO (resOne X fr st) rs = some vs) : results X fr st rs = some (tupF vs) := by
  simp only [results, h]
  cases vs with
  | nil => rfl
  | cons v t => cases t <;> rfl

noncomputable def ouA (v : V) (x : Rho) (y : Rho) : Rho :=
  V.rec (motive_1 := fun _ => Rho → Rho → Rho) (motive_2 := fun _ => PUnit) (motive_3 := fun _ => PUnit) (motive_4 := fun _ => PUnit)
    (fun _ x _ => x)
    (fun _ _ x _ => x)
    (fun _ x _ => x)
    (fun x _ => x)
    (fun _ _ _ y => y)
    (fun _ _ y => y)
    (fun _ _ _ y => y)
    (fun x _ => x)
    (fun x _ => x)
    (fun _ y => y)
    (fun _ _ _ _ _ y => y)
    (fun _ _ _ _ _ y => y)
    (fun _ x _ => x)
    (fun _ _ _ _ _ y => y)
    (fun x _ => x)
    (fun _ _ y => y)
    (fun x _ => x)
    (fun _ _ _ _ _ _ y => y)
    (fun x _ => x)
    (fun _ _ _ _ y => y)
    (fun _ _ _ y => y)
    (fun _ _ _ y => y)
    (fun _ y => y)
    (fun _ _ _ _ y => y)
    (fun _ _ _ _ y => y)
    PUnit.unit (fun _ _ _ _ => PUnit.unit) PUnit.unit (fun _ _ _ _ _ _ => PUnit.unit) PUnit.unit (fun _ _ => PUnit.unit) v x y

theorem ouA_inv {v : V} {x y : Rho} {a : V × St} (h : ouA v x y = some a) : ((∀ st l b, outV st l b v = some v) ∧ x = some a) ∨ y = some a := by
  cases v <;> first | exact .inl ⟨fun _ _ _ => rfl, h⟩ | exact .inr h
noncomputable def nilK (l : List Tc) (r : Rho) : Rho := List.rec (motive := fun _ => Rho) r (fun _ _ _ => none) l
noncomputable def fin1 (st0 st1 : St) (v : V) : Rho := nilK st1.wr (ouA v (some (v, st0)) (onSome (outVF v st1 st0.next st1.next) (fun v => some (v, st0))))
noncomputable def fin2 (m : Nat) (st0 st1 : St) (v : V) : Rho := Option.rec (motive := fun _ => Rho) none (fun p => some (p.1, p.2.1)) (finish m st0 st1 v)
noncomputable def fin (m : Nat) : St → St → V → Rho := Nat.rec (motive := fun _ => St → St → V → Rho) (fun st0 st1 v => some (v, { heap := st1.heap, next := st1.next, lim := st0.lim, wr := marksF st0.lim st1.wr st0.wr }))
  (fun m _ => Nat.rec (motive := fun _ => St → St → V → Rho) fin1 (fun m _ => fin2 (m + 2)) m) m
theorem fin_ok {m : Nat} {st0 st1 : St} {v v' : V} {st' : St} (h : fin m st0 st1 v = some (v', st')) : ∃ lg, finish m st0 st1 v = some (v', st', lg) := by
  match m, h with
  | 0, h =>
    have h : some (v, ({ heap := st1.heap, next := st1.next, lim := st0.lim, wr := marksF st0.lim st1.wr st0.wr } : St)) = some (v', st') := h
    rw [marksF_eq] at h
    simp at h
    obtain ⟨rfl, rfl⟩ := h
    exact ⟨_, rfl⟩
  | 1, h =>
    have h : nilK st1.wr (ouA v (some (v, st0)) (onSome (outVF v st1 st0.next st1.next) (fun v => some (v, st0)))) = some (v', st') := h
    rw [outVF_eq] at h
    simp only [finish]
    cases hw : st1.wr with
    | cons x t => rw [hw] at h; exact nomatch (show (none : Rho) = some (v', st') from h)
    | nil =>
      rw [hw] at h
      rcases ouA_inv (show ouA v (some (v, st0)) (onSome (outV st1 st0.next st1.next v) (fun v => some (v, st0))) = some (v', st') from h) with ⟨h1, h2⟩ | h2
      · simp at h2
        obtain ⟨rfl, rfl⟩ := h2
        exact ⟨[], by simp only [h1]⟩
      · obtain ⟨u, h3, h4⟩ := onSome_inv h2
        simp at h4
        obtain ⟨rfl, rfl⟩ := h4
        exact ⟨[], by simp only [h3]⟩
  | m + 2, h =>
    have h : Option.rec (motive := fun _ => Rho) none (fun p => some (p.1, p.2.1)) (finish (m + 2) st0 st1 v) = some (v', st') := h
    cases hq : finish (m + 2) st0 st1 v with
    | none => rw [hq] at h; cases h
    | some p =>
      rw [hq] at h
      obtain ⟨x, y, z⟩ := p
      simp at h
      obtain ⟨rfl, rfl⟩ := h
      exact ⟨z, rfl⟩
structure Fn2 where
  ini : List D2
  code : C2
  res : List Res
  mode : Nat
noncomputable def ini16 : List D2 := [ptK 0, ptK 1, ptK 2, ptK 3, ptK 4, ptK 5, ptK 6, ptK 7, ptK 8, ptK 9, ptK 10, ptK 11, ptK 12, ptK 13, ptK 14, ptK 15]
noncomputable def iniK (args : List V) (ss : List D2) (f : F) (k : F → Rho) : Rho :=
  List.rec (motive := fun _ => List D2 → F → Rho) (fun _ f => k f) (fun v _ ih ss f => List.rec (motive := fun _ => Rho) none (fun s t _ => s f v (fun f => ih t f)) ss) args ss f
theorem iniK_inv {a : V × St} {k : F → Rho} : ∀ {args : List V} {ss : List D2} {i : Nat} {f : F} {fr : T V}, (∀ j s, ss[j]? = some s → i + j < 256 ∧ s = ptK (i + j)) → FRel f fr → iniK args ss f k = some a → ∃ f', k f' = some a ∧ FRel f' (fr.fill i args) ∧ args.length ≤ ss.length
  | [], ss, i, f, fr, hs, hf, h => ⟨f, h, hf, by simp⟩
  | v :: args, [], i, f, fr, hs, hf, h => nomatch (show (none : Rho) = some a from h)
  | v :: args, s :: ss, i, f, fr, hs, hf, h => by
    obtain ⟨h1, h2⟩ := hs 0 s rfl
    simp only [Nat.add_zero] at h1 h2
    subst h2
    obtain ⟨f', q1, q2, q3⟩ := iniK_inv (args := args) (ss := ss) (i := i + 1) (fun j s hj => by
      have := hs (j + 1) s (by simpa using hj)
      rw [show i + 1 + j = i + (j + 1) from by omega]
      exact this) (hf.put h1 v) (show iniK args ss (pt i f v) k = some a from h)
    exact ⟨f', q1, q2, by simp; exact q3⟩
noncomputable def kRet (gl : Nat → Option V) (rs : List Res) (m : Nat) (st0 : St) (e : Ex) (f : F) (st1 : St) : Rho :=
  Ex.rec (motive := fun _ => Rho) (resK gl rs f st1 (fun vs => fin m st0 st1 (tupF vs))) (fun _ => none) (resK gl rs f st1 (fun vs => fin m st0 st1 (tupF vs))) e
noncomputable def runFn (gl : Nat → Option V) (fn : Fn2) (E : CALL) (args : List V) (st : St) : Rho :=
  iniK args fn.ini fNone (fun f => fn.code E f { heap := st.heap, next := st.next, lim := st.next, wr := [] } (kRet gl fn.res fn.mode st))
/-- a function that is not run: what stands for its calls -/
noncomputable def outK (X : Env) (g : Nat) (args : List V) (st : St) : Rho := Option.rec (motive := fun _ => Rho) none (fun p => some (p.1, p.2.1)) (rcall X (exec X 3000) g args st)
noncomputable def onFn2 (o : Option Fn2) (x : Rho) (k : Fn2 → Rho) : Rho := Option.rec (motive := fun _ => Rho) x k o
noncomputable def callN (X : Env) (tab : Nat → Option Fn2) (n : Nat) : CALL := Nat.rec (motive := fun _ => CALL) (fun _ _ _ => none) (fun _ ih g args st => onFn2 (tab g) (outK X g args st) (fun fn => runFn X.glob fn ih args st)) n
structure TabOk (X : Env) (tab : Nat → Option Fn2) : Prop where
  fn : ∀ g fn, tab g = some fn → (∀ args st, X.memo g args st = none) ∧ (∀ args, X.ext g args = none) ∧ ∃ nt body q, fn.ini = ini16.take q ∧ q ≤ nt ∧ X.fn g = some ⟨nt, body, fn.res, fn.mode⟩ ∧ CodeOk X fn.code body
theorem callN_ok {X : Env} {tab : Nat → Option Fn2} (h : TabOk X tab) : ∀ n, ECall X (callN X tab n)
  | 0 => fun g vs st v st' hk => nomatch (show (none : Rho) = some (v, st') from hk)
  | n + 1 => fun g vs st v st' hk => by
    have ih := callN_ok h n
    have hk : onFn2 (tab g) (outK X g vs st) (fun fn => runFn X.glob fn (callN X tab n) vs st) = some (v, st') := hk
    cases ht : tab g with
    | none =>
      rw [ht] at hk
      have hk : outK X g vs st = some (v, st') := hk
      unfold outK at hk
      cases hq : rcall X (exec X 3000) g vs st with
      | none => rw [hq] at hk; cases hk
      | some p =>
        rw [hq] at hk
        obtain ⟨a, b, c⟩ := p
        simp at hk
        obtain ⟨rfl, rfl⟩ := hk
        exact ⟨3000, c, hq⟩
    | some fn =>
      rw [ht] at hk
      have hk : runFn X.glob fn (callN X tab n) vs st = some (v, st') := hk
      obtain ⟨h1, h1x, nt, body, q, hq, h2, h3, h4⟩ := h.fn g fn ht
      have hk : iniK vs (ini16.take q) fNone (fun f => fn.code (callN X tab n) f { heap := st.heap, next := st.next, lim := st.next, wr := [] } (kRet X.glob fn.res fn.mode st)) = some (v, st') := by rw [← hq]; exact hk
      obtain ⟨f, h5, h6, hlen0⟩ := iniK_inv (fr := .lf) (i := 0) (fun j s hj => by
        rw [List.getElem?_take] at hj
        split at hj
        case isFalse => cases hj
        have hlt : j < 16 := by
          rcases Nat.lt_or_ge j 16 with q | q
          · exact q
          · rw [List.getElem?_eq_none (by simpa [ini16] using q)] at hj; cases hj
        refine ⟨by omega, ?_⟩
        have : j = 0 ∨ j = 1 ∨ j = 2 ∨ j = 3 ∨ j = 4 ∨ j = 5 ∨ j = 6 ∨ j = 7 ∨ j = 8 ∨ j = 9 ∨ j = 10 ∨ j = 11 ∨ j = 12 ∨ j = 13 ∨ j = 14 ∨ j = 15 := by omega
        rcases this with rfl | rfl | rfl | rfl | rfl | rfl | rfl | rfl | rfl | rfl | rfl | rfl | rfl | rfl | rfl | rfl <;> (simp [ini16] at hj; exact hj.symm)) (fun i _ => by rw [gt_fNone]; rfl) hk
      obtain ⟨e, f1, fr1, st1, h7, h8, m, h9⟩ := h4 _ ih f _ _ _ _ h6 h5
      have hlen : Nat.blt nt vs.length = false := by
        have : vs.length ≤ q := by
          rw [List.length_take] at hlen0
          omega
        cases hb : Nat.blt nt vs.length with
        | false => rfl
        | true => have := bltT hb; omega
      have hT : T.ofList vs = T.fill .lf 0 vs := rfl
      have fin' : (e = .nrm ∨ e = .ret) → resK X.glob fn.res f1 st1 (fun vs => fin fn.mode st st1 (tupF vs)) = some (v, st') → ∃ lg, rcall X (exec X m) g vs st = some (v, st', lg) := by
        intro he hh
        obtain ⟨us, h10, h11⟩ := resK_inv h8 hh
        obtain ⟨lg, h12⟩ := fin_ok h11
        refine ⟨lg, ?_⟩
        rw [← hT] at h9
        rcases he with rfl | rfl
        · simp only [rcall, h1 vs st, h1x vs, h3, hlen, cond_false, h9, tupF_eq h10, h12]
        · simp only [rcall, h1 vs st, h1x vs, h3, hlen, cond_false, h9, tupF_eq h10, h12]
      cases e with
      | nrm => obtain ⟨lg, h10⟩ := fin' (.inl rfl) h7; exact ⟨m, lg, h10⟩
      | exit i => exact nomatch (show (none : Rho) = some (v, st') from h7)
      | ret => obtain ⟨lg, h10⟩ := fin' (.inr rfl) h7; exact ⟨m, lg, h10⟩
end Go.Ai.Fl
/-! What runs in the kernel lean on. -/
namespace Go.Ai
open Go Go.Ai.Fl
set_option linter.unusedSimpArgs false
set_option linter.unusedVariables false

/-! ### all through a trie -/
section
variable {α : Type}
def AllT (Pr : Nat → α → Prop) : T α → Nat → Nat → Prop
  | .lf, _, _ => True
  | .nd l v r, a, b => (match v with | some x => Pr b x | none => True) ∧ AllT Pr l (2 * a) (a + b) ∧ AllT Pr r (2 * a) (2 * a + b)
theorem allT_get {Pr : Nat → α → Prop} : ∀ {t : T α} {a b i : Nat} {x : α}, AllT Pr t a b → t.get i = some x → Pr (a * i + b) x
  | .lf, a, b, i, x, _, h => by simp [T.get] at h
  | .nd l v r, a, b, i, x, ⟨h1, h2, h3⟩, h => by
    simp only [T.get] at h
    cases h0 : Nat.beq i 0 with
    | true =>
      have := beqT h0; subst this
      simp only [h0, cond_true] at h
      subst h
      simpa using h1
    | false =>
      simp only [h0, cond_false] at h
      have hi : i ≠ 0 := fun e => by subst e; simp at h0
      cases hm : Nat.beq (i % 2) 0 with
      | true =>
        simp only [hm, cond_true] at h
        have hm' := beqT hm
        have := allT_get h3 h
        rw [show a * i + b = 2 * a * (i / 2 - 1) + (2 * a + b) from by
          obtain ⟨j, rfl⟩ : ∃ j, i = 2 * j + 2 := ⟨i / 2 - 1, by omega⟩
          rw [show (2 * j + 2) / 2 - 1 = j from by omega]
          simp only [Nat.mul_add, Nat.add_mul, Nat.mul_comm, Nat.mul_left_comm]
          omega]
        exact this
      | false =>
        simp only [hm, cond_false] at h
        have hm' : i % 2 ≠ 0 := fun e => by rw [e] at hm; simp at hm
        have := allT_get h2 h
        rw [show a * i + b = 2 * a * (i / 2) + (a + b) from by
          obtain ⟨j, rfl⟩ : ∃ j, i = 2 * j + 1 := ⟨i / 2, by omega⟩
          rw [show (2 * j + 1) / 2 = j from by omega]
          simp only [Nat.mul_add, Nat.add_mul, Nat.mul_comm, Nat.mul_left_comm]
          omega]
        exact this
def chkT (p : Nat → α → Bool) : T α → Nat → Nat → Bool
  | .lf, _, _ => true
  | .nd l v r, a, b => (match v with | some x => p b x | none => true) && (chkT p l (2 * a) (a + b) && chkT p r (2 * a) (2 * a + b))
theorem chkT_all {p : Nat → α → Bool} : ∀ {t : T α} {a b : Nat}, chkT p t a b = true → AllT (fun i x => p i x = true) t a b
  | .lf, a, b, _ => trivial
  | .nd l v r, a, b, h => by
    simp only [chkT, Bool.and_eq_true] at h
    refine ⟨?_, chkT_all h.2.1, chkT_all h.2.2⟩
    cases v with
    | none => trivial
    | some x => exact h.1
end

def envM (fn : Nat → Option IFn) (ext : Nat → List V → Option V) (m : CallF) : Env := { fn := fn, ext := ext, glob := fun _ => none, memo := m, ok := fun _ => false }
def env0 : Env := { fn := fun _ => none, ext := fun _ _ => none, glob := fun _ => none, memo := fun _ _ _ => none, ok := fun _ => false }
def noM : CallF := fun _ _ _ => none
def pureM (st : St) : Option V → R
  | some v => some (v, st, [])
  | none => none
/-- of function k, what t knows; else what m knows -/
def oneM (k : Nat) (t : List V → Option V) (m : CallF) : CallF := fun g args st => bif Nat.beq g k then pureM st (t args) else m g args st
def cmpV (args : List V) : Option V := match args with
  | [.str a, .str b] => some (.int .i64 (scmp a b))
  | _ => none
def cmpE (fc : Nat) : Nat → List V → Option V := fun f vs => bif Nat.beq f fc then cmpV vs else none
def seqs : List IR → IR → IR
  | [], c => c
  | a :: r, c => .seq a (seqs r c)
noncomputable def onNrm (e : Ex) (x : Rho) : Rho := Ex.rec (motive := fun _ => Rho) x (fun _ => none) none e
noncomputable def runL (E : CALL) (l : List C2) (f : F) (st : St) (k : F → St → Rho) : Rho := List.rec (motive := fun _ => F → St → Rho) k (fun c _ ih f st => c E f st (fun e f st => onNrm e (ih f st))) l f st
def tk (r x : Rho) : Rho := match r with
  | some (.bool true, _) => x
  | _ => none
theorem tk_inv {r x : Rho} {a : V × St} (h : tk r x = some a) : (∃ st, r = some (.bool true, st)) ∧ x = some a := by
  unfold tk at h
  split at h
  · exact ⟨⟨_, rfl⟩, h⟩
  · cases h
def and6 (g : Int → Rho) : Rho := tk (g 0) (tk (g 1) (tk (g 2) (tk (g 3) (tk (g 4) (tk (g 5) (some (.bool true, .bare)))))))
theorem and6_inv {g : Int → Rho} {a : V × St} (h : and6 g = some a) {k : Int} (hk : k = 0 ∨ k = 1 ∨ k = 2 ∨ k = 3 ∨ k = 4 ∨ k = 5) : ∃ st, g k = some (.bool true, st) := by
  obtain ⟨h0, h⟩ := tk_inv h
  obtain ⟨h1, h⟩ := tk_inv h
  obtain ⟨h2, h⟩ := tk_inv h
  obtain ⟨h3, h⟩ := tk_inv h
  obtain ⟨h4, h⟩ := tk_inv h
  obtain ⟨h5, h⟩ := tk_inv h
  rcases hk with rfl | rfl | rfl | rfl | rfl | rfl <;> assumption
end Go.Ai
