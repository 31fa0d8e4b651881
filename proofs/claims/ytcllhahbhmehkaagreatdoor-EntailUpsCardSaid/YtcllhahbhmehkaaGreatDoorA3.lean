/- A verified interpreter of the model's code, part 3: what it runs is a run of the program. -/
import Derived.Test.YtcllhahbhmehkaaGreatDoorA2
import Derived.Lib.Bytealg
import Derived.ChangeSame
import Derived.RowKit
import Derived.ChangeOld
/-! Calls of values alone stand for themselves. -/
namespace Go.Ai
open Go
set_option linter.unusedSimpArgs false
set_option linter.unusedVariables false

def pureC : V → Bool
  | .agg cs => pureAll cs
  | v => pureV v
def pureCs : List V → Bool
  | [] => true
  | v :: vs => bif pureC v then pureCs vs else false
def pureR : V → Bool
  | .tuple vs => pureCs vs
  | v => pureC v

section
variable {P : Program} {X : Env} {F : Fence} {g g1 g' : G} {st st' : St} {w w' : World} {v : V}

theorem pureAll_back (hfz : ∀ b m, g1.fz b = some m → g'.fz b = some m) : ∀ {vs : List V} {us : List Value}, pureAll vs = true → Reps g1 vs us → Reps g' vs us
  | [], us, _, h => by simpa [Reps] using h
  | v :: vs, us, hp, h => by
    simp only [pureAll] at hp
    cases hv : pureV v with
    | false => simp [hv] at hp
    | true =>
      simp only [hv, cond_true] at hp
      simp only [Reps] at h ⊢
      obtain ⟨u, r, rfl, h1, h2⟩ := h
      exact ⟨u, r, rfl, pure_back hfz hv h1, pureAll_back hfz hp h2⟩
theorem pureC_back (hfz : ∀ b m, g1.fz b = some m → g'.fz b = some m) {v : V} (hp : pureC v = true) {u : Value} (h : Rep g1 v u) : Rep g' v u := by
  cases v with
  | agg cs =>
    simp only [pureC] at hp
    simp only [Rep] at h ⊢
    obtain ⟨us, h1, h2, h3⟩ := h
    exact ⟨us, h1, h2, pureAll_back hfz hp h3⟩
  | _ => exact pure_back hfz (by simpa only [pureC] using hp) h
theorem pureCs_back (hfz : ∀ b m, g1.fz b = some m → g'.fz b = some m) : ∀ {vs : List V} {us : List Value}, pureCs vs = true → Reps g1 vs us → Reps g' vs us
  | [], us, _, h => by simpa [Reps] using h
  | v :: vs, us, hp, h => by
    simp only [pureCs] at hp
    cases hv : pureC v with
    | false => simp [hv] at hp
    | true =>
      simp only [hv, cond_true] at hp
      simp only [Reps] at h ⊢
      obtain ⟨u, r, rfl, h1, h2⟩ := h
      exact ⟨u, r, rfl, pureC_back hfz hv h1, pureCs_back hfz hp h2⟩
theorem pureR_back (hfz : ∀ b m, g1.fz b = some m → g'.fz b = some m) {v : V} (hp : pureR v = true) {u : Value} (h : Rep g1 v u) : Rep g' v u := by
  cases v with
  | tuple vs =>
    simp only [pureR] at hp
    simp only [Rep] at h ⊢
    obtain ⟨us, h1, h2⟩ := h
    exact ⟨us, h1, pureCs_back hfz hp h2⟩
  | _ => exact pureC_back hfz (by simpa only [pureR] using hp) h

/-- values of package variables that no abstract block bears -/
def GlobOk (X : Env) : Prop := ∀ k v, X.glob k = some v → ∀ g g' : G, (∀ b m, g.fz b = some m → g'.fz b = some m) → ∀ u, Rep g v u → Rep g' v u
def G.only (g : G) : G := { loc := fun _ => none, fz := g.fz, own := fun _ => none }
theorem only_sim (hG : GlobOk X) (h : Sim P X g st w) : Sim P X g.only .bare w := by
  refine ⟨(fun b l ho => by cases ho), (fun l x hl => by cases hl), fun l b hl => ?_, (fun b l ho => by cases ho), fun l bl hl ha => ?_, fun b m hm => ?_, fun k v hk => ?_⟩
  · simp [St.bare, T.get] at hl
  · simp [St.bare, T.get] at hl
  · obtain ⟨h0, c, e, f, h1, h2⟩ := h.fz b m hm
    exact ⟨rfl, c, e, f, h1, fun i v hi => let ⟨h3, u, h4, h5⟩ := h2 i v hi; ⟨h3, u, h4, pure_back (g1 := g) (g' := g.only) (fun _ _ h => h) h3 h5⟩⟩
  · obtain ⟨h0, h5, c, e, f, u, h1, h2, h3⟩ := h.glob k v hk
    exact ⟨rfl, h5, c, e, f, u, h1, h2, hG k v hk g g.only (fun _ _ h => h) u h3⟩
/-- a call of values alone, of a function -/
def Ent (P : Program) (X : Env) (f : Nat) (vs : List V) (v : V) : Prop :=
  ∀ F, Wide F → F.round = none → ∀ g st w (us : Array Value), Sim P X g st w → Reps g vs us.toList → (callFunc f us).run P w = .ok (.enter f us) w ∧ CallsIn F 0 P f us w (CallPost P X g st w v st)
theorem pure_entry (hV : Valid P X) (hG : GlobOk X) {n f : Nat} {vs : List V} {st' : St} {lg : List Tc} (hp : pureAll vs = true) (hr : pureR v = true) (hext : X.ext f vs = none) (h : rcall X (exec X n) f vs .bare = some (v, st', lg)) : Ent P X f vs v := by
  intro F hW hro g st w us hs hus
  have hs0 := only_sim hG hs
  obtain ⟨h1, h2⟩ := call_ent hV n hW hro f vs .bare v st' lg hext h g.only w us hs0 (pureAll_back (g1 := g) (g' := g.only) (fun _ _ h => h) hp hus)
  refine ⟨h1, CallsIn.mono h2 fun e w' he => ?_⟩
  obtain ⟨u, g1, rfl, hst, hru⟩ := he
  have hold : ∀ b o, w.heap[b]? = some o → w'.heap[b]? = some o := fun b o hb => (hst.keep b o hb (fun l hl => by cases hl)).1
  let g' : G := { loc := g.loc, fz := g1.fz, own := g.own }
  have hfz1 : ∀ b m, g1.fz b = some m → g'.fz b = some m := fun _ _ h => h
  have hle : g.le g' := ⟨fun _ _ h => h, fun b m hm => hst.le.fz b m hm⟩
  refine ⟨u, g', rfl, ⟨hle, ⟨fun b l ho => Nat.lt_of_lt_of_le (hs.sz b l ho) hst.size, hs.lt, hs.ht, hs.own, fun l bl hl ha => ?_, fun b m hm => ?_, fun k x hk => ?_⟩, Nat.le_refl _, hst.size, fun b o hb _ => ⟨hold b o hb, rfl⟩, fun b l ho _ => .inl ho, fun _ _ h => h, hst.os, hst.out, hst.tape, fun _ _ _ h => h, fun b m hb hm => hst.fzo b m hb hm⟩, pureR_back hfz1 hr hru⟩
  · obtain ⟨b, base, top, o, k1, k2, k3, k4⟩ := hs.blk l bl hl ha
    exact ⟨b, base, top, o, k1, k2, hold b o k3, k4.mono hle⟩
  · obtain ⟨_, c, e, f, k1, k2⟩ := hst.sim.fz b m hm
    refine ⟨?_, c, e, f, k1, fun i x hi => let ⟨k3, u, k4, k5⟩ := k2 i x hi; ⟨k3, u, k4, pure_back hfz1 k3 k5⟩⟩
    rcases Nat.lt_or_ge b w.heap.size with hb | hb
    · exact (hs.fz b m (hst.fzo b m hb hm)).1
    · show g.own b = none
      cases ho : g.own b with
      | none => rfl
      | some l => exact absurd (hs.sz b l ho) (by omega)
  · obtain ⟨h0, h5, c, e, f, u, k1, k2, k3⟩ := hs.glob k x hk
    exact ⟨h0, h5, c, e, f, u, hold _ _ k1, k2, k3.mono hle⟩
/-! another environment, of the same variables -/
theorem Sim.env {X' : Env} (hg : X'.glob = X.glob) (h : Sim P X g st w) : Sim P X' g st w := ⟨h.sz, h.lt, h.ht, h.own, h.blk, h.fz, fun k v hk => h.glob k v (by rw [← hg]; exact hk)⟩
theorem Step.env {X' : Env} (hg : X'.glob = X.glob) (h : Step P X g st w g' st' w') : Step P X' g st w g' st' w' :=
  ⟨h.le, h.sim.env hg, h.next, h.size, h.keep, h.born, h.dead, h.os, h.out, h.tape, h.old, h.fzo⟩
theorem Ent.env {X' : Env} (hg : X'.glob = X.glob) {f : Nat} {vs : List V} (h : Ent P X f vs v) : Ent P X' f vs v := by
  intro F hW hro g st w us hs hus
  obtain ⟨h1, h2⟩ := h F hW hro g st w us (hs.env hg.symm) hus
  refine ⟨h1, CallsIn.mono h2 fun e w' he => ?_⟩
  obtain ⟨u, g1, rfl, hst, hru⟩ := he
  exact ⟨u, g1, rfl, hst.env hg, hru⟩
end
end Go.Ai
/-! From runs to claims. -/
namespace Go.Ai
open Go
set_option linter.unusedSimpArgs false
set_option linter.unusedVariables false

/-- what was there is there; nothing was told -/
structure Kept (w w' : World) : Prop where
  os : w'.os = w.os
  out : w'.output = w.output
  heap : ∀ (b : Nat) (o : Obj), w.heap[b]? = some o → w'.heap[b]? = some o
theorem Kept.but {w w' : World} (h : Kept w w') (may : MemPlace → Prop) : w.keptBut w' may := by
  refine ⟨h.os, h.out, fun i hi => ?_⟩
  have h1 : w.heap[i]? = some w.heap[i] := Array.getElem?_eq_getElem hi
  have h2 := h.heap i _ h1
  rw [h1, h2]
  cases w.heap[i] <;> simp
theorem Kept.frozen {w w' : World} (h : Kept w w') {a : Addr} (ha : a.block < w.heap.size) : w'.frozen? a = w.frozen? a := by
  have h1 : w.heap[a.block]? = some w.heap[a.block] := Array.getElem?_eq_getElem ha
  have h2 := h.heap _ _ h1
  simp only [World.frozen?, h1, h2]

def G.nil : G := { loc := fun _ => none, fz := fun _ => none, own := fun _ => none }
section
variable {P : Program} {X : Env}
theorem nil_sim (hg : X.glob = fun _ => none) (w : World) : Sim P X .nil .bare w := by
  refine ⟨(fun b l ho => by cases ho), (fun l x hl => by cases hl), (fun l b hl => by simp [St.bare, T.get] at hl), (fun b l ho => by cases ho), fun l bl hl ha => ?_, (fun b m hm => by cases hm), fun k v hk => ?_⟩
  · simp [St.bare, T.get] at hl
  · rw [hg] at hk; cases hk
theorem calls_of_run (hV : Valid P X) {n f : Nat} {vs : List V} {v : V} {st' : St} {lg : List Tc} (hext : X.ext f vs = none) (h : rcall X (exec X n) f vs .bare = some (v, st', lg)) {w : World} {us : Array Value} {g : G} (ho : g.own = fun _ => none) (hs : Sim P X g .bare w) (hr : Reps g vs us.toList) :
    Calls P f us w fun e w' => ∃ u g', e = .returned u ∧ Rep g' v u ∧ Kept w w' := by
  have h2 := (call_ent hV n (F := Fence.wide) ⟨fun _ => trivial, rfl⟩ rfl f vs .bare v st' lg hext h g w us hs hr).2
  refine callsIn_wide.1 (CallsIn.mono h2 fun e w' he => ?_)
  obtain ⟨u, g', rfl, hst, hru⟩ := he
  exact ⟨u, g', rfl, hru, hst.os, hst.out, fun b o hb => (hst.keep b o hb (fun l hl => by rw [ho] at hl; cases hl)).1⟩

/-! ### strings are compared -/
theorem bytesLess_eq : ∀ a b : List UInt8, Go.Lib.compareBytes a b = if a = b then 0 else if Op.bytesLess a b = true then -1 else 1
  | [], [] => by simp [Go.Lib.compareBytes]
  | [], b :: bs => by simp [Go.Lib.compareBytes, Op.bytesLess]
  | a :: as, [] => by simp [Go.Lib.compareBytes, Op.bytesLess]
  | a :: as, b :: bs => by
    have ih := bytesLess_eq as bs
    simp only [Go.Lib.compareBytes, Op.bytesLess]
    by_cases h1 : a < b
    · have : a ≠ b := fun e => by subst e; exact absurd h1 (UInt8.lt_irrefl a)
      simp [h1, this]
    · by_cases h2 : b < a
      · have : a ≠ b := fun e => by subst e; exact absurd h2 (UInt8.lt_irrefl a)
        simp [h1, h2, this]
      · have : a = b := UInt8.le_antisymm (UInt8.not_lt.1 h2) (UInt8.not_lt.1 h1)
        subst this
        simp [ih]
theorem run_cmp {fc : Nat} {fn : Func} (h1 : P.funcs[fc]? = some fn) (h2 : (fn.name == "runtime.NumGoroutine") = false) (h3 : fn.body = none) (h4 : Extern.findNext fn = none) (h5 : Extern.find fn = some Extern.BytealgCompare.compare) (a b : ByteArray) (w : World) :
    (callFunc fc #[.string a, .string b]).run P w = .ok (.value (.int .i64 (Go.Lib.compareBytes a.data.toList b.data.toList))) w := by
  have h6 := Go.Lib.run_compareString (P := P) a b w
  have h7 : ¬ fn.name = "runtime.NumGoroutine" := by simpa using h2
  simp [callFunc, h1, h7, h3, h4, h5, h6]
theorem cmp_entry {fc : Nat} {fn : Func} (h1 : P.funcs[fc]? = some fn) (h2 : (fn.name == "runtime.NumGoroutine") = false) (h3 : fn.body = none) (h4 : Extern.findNext fn = none) (h5 : Extern.find fn = some Extern.BytealgCompare.compare) : Entry P X (cmpE fc) := by
  intro f vs v h F hW hro g st w us hs hr
  unfold cmpE at h
  cases hb : Nat.beq f fc with
  | false => simp [hb] at h
  | true =>
    obtain rfl := beqT hb
    simp only [hb, cond_true] at h
    unfold cmpV at h
    split at h
    · rename_i a b
      simp at h
      subst h
      simp only [Reps, Rep, RepL] at hr
      obtain ⟨u1, r1, e1, ⟨s1, rfl, ha⟩, u2, r2, rfl, ⟨s2, rfl, hbb⟩, rfl⟩ := hr
      obtain rfl : us = #[.string s1, .string s2] := by
        apply Array.ext'; simpa using e1
      refine .inl ⟨_, w, g, run_cmp h1 h2 h3 h4 h5 s1 s2 w, .refl hs, ?_⟩
      simp only [Rep, RepL]
      rw [bytesLess_eq, ← ha, ← hbb, encArr, encArr, scmp_enc]
    · cases h
end
end Go.Ai
/-! Tables of functions; memo entries; cuts. -/
namespace Go.Ai
open Go Go.Ai.Fl
set_option linter.unusedSimpArgs false
set_option linter.unusedVariables false

/-! ### functions by a list: their number, their own locals, their mode -/
def findP : List (Nat × List Nat × Nat) → Nat → Option (List Nat × Nat)
  | [], _ => none
  | (g, x) :: r, f => bif Nat.beq g f then some x else findP r f
def fnOf (P : Program) (L : List (Nat × List Nat × Nat)) (f : Nat) : Option IFn := match findP L f with
  | some (pm, m) => (match P.funcs[f]? with
    | some fn => bif fn.name == "runtime.NumGoroutine" then none else cFn P pm fn m
    | none => none)
  | none => none
theorem cFn_mode {P : Program} {pm : List Nat} {fn : Func} {m : Nat} {b : IFn} (h : cFn P pm fn m = some b) : b.mode = m := by
  unfold cFn at h
  split at h
  · split at h
    · simp at h; subst h; rfl
    · cases h
  · cases h
theorem fnOf_ok {P : Program} {L : List (Nat × List Nat × Nat)} {f : Nat} {b : IFn} (h : fnOf P L f = some b) : ∃ fn pm, P.funcs[f]? = some fn ∧ (fn.name == "runtime.NumGoroutine") = false ∧ cFn P pm fn b.mode = some b := by
  unfold fnOf at h
  split at h
  · rename_i pm m _
    split at h
    · rename_i fn hf
      cases hn : (fn.name == "runtime.NumGoroutine") with
      | true => rw [hn] at h; cases h
      | false =>
        simp only [hn, cond_false] at h
        exact ⟨fn, pm, hf, hn, by rw [cFn_mode h]; exact h⟩
    · cases h
  · cases h
def codeOf (P : Program) (pm : List Nat) (fn : Func) : IR := match fn.body with
  | some c => cCode P fn.ntmps pm c
  | none => .bad
/-- a function's fast form -/
def TabP (X0 : Env) (L : Nat → Option IFn) (g : Nat) (n : Fn2) : Prop := ∃ nt body q, n.ini = ini16.take q ∧ q ≤ nt ∧ L g = some ⟨nt, body, n.res, n.mode⟩ ∧ n.code = comp X0 body
theorem fnOf_at {P : Program} {L : List (Nat × List Nat × Nat)} {g : Nat} {fn : Func} {pm : List Nat} {m : Nat} {rs : List Res} (h1 : P.funcs[g]? = some fn) (h2 : findP L g = some (pm, m)) (h3 : (fn.name == "runtime.NumGoroutine") = false)
    (h4 : fn.body.isSome = true) (h5 : mapO (cRes P) fn.results.toList = some rs) : fnOf P L g = some ⟨fn.ntmps, codeOf P pm fn, rs, m⟩ := by
  unfold fnOf
  rw [h2]
  simp only [h1, h3, cond_false]
  unfold cFn codeOf
  cases hb : fn.body with
  | none => rw [hb] at h4; cases h4
  | some c => simp only [h5]
theorem tab_of {X0 : Env} {P : Program} {L : List (Nat × List Nat × Nat)} {g : Nat} {fn : Func} {pm : List Nat} {m : Nat} {n : Fn2} (q : Nat) (h1 : P.funcs[g]? = some fn) (h2 : findP L g = some (pm, m)) (h3 : (fn.name == "runtime.NumGoroutine") = false)
    (h4 : fn.body.isSome = true) (h5 : mapO (cRes P) fn.results.toList = some n.res) (h6 : n.mode = m) (h7 : n.ini = ini16.take q) (h8 : Nat.ble q fn.ntmps = true) (h9 : n.code = comp X0 (codeOf P pm fn)) : TabP X0 (fnOf P L) g n :=
  ⟨_, _, q, h7, bleT h8, by rw [h6]; exact fnOf_at h1 h2 h3 h4 h5, h9⟩

/-! ### environments that differ in what they know -/
section
variable {P : Program} {fn : Nat → Option IFn} {ext : Nat → List V → Option V}
theorem tabOk {tab tab' : Nat → Option Fn2} {m : CallF} (h : ∀ g n, tab g = some n → TabP env0 fn g n) (h' : ∀ g n, tab' g = some n → tab g = some n ∧ (∀ args st, m g args st = none) ∧ ∀ args, ext g args = none) : TabOk (envM fn ext m) tab' :=
  ⟨fun g n hg => by
    obtain ⟨h1, h2, h3⟩ := h' g n hg
    obtain ⟨nt, body, q, e1, e2, e3, e4⟩ := h g n h1
    refine ⟨h2, h3, nt, body, q, e1, e2, e3, ?_⟩
    rw [e4]
    exact comp_ok (envM fn ext m) body⟩
theorem noM_ok : EntryE P (envM fn ext noM) noM := fun f vs st v st' lg h => by cases h
theorem globOk (m : CallF) : GlobOk (envM fn ext m) := fun k v h => by cases h
theorem oneM_ok {X : Env} {k : Nat} {t : List V → Option V} {m : CallF} (h : ∀ args v, t args = some v → Ent P X k args v) (hm : EntryE P X m) : EntryE P X (oneM k t m) := by
  intro f vs st v st' lg hh
  unfold oneM at hh
  cases hb : Nat.beq f k with
  | true =>
    obtain rfl := beqT hb
    simp only [hb, cond_true] at hh
    unfold pureM at hh
    split at hh
    · rename_i u hu
      simp at hh
      obtain ⟨rfl, rfl, rfl⟩ := hh
      exact ⟨rfl, fun F hW hro g w us hs hr => h _ _ hu F hW hro g _ w us hs hr⟩
    · cases hh
  | false =>
    simp only [hb, cond_false] at hh
    exact hm f vs st v st' lg hh
theorem EntryE.env {m m' m2 : CallF} (h : EntryE P (envM fn ext m) m2) : EntryE P (envM fn ext m') m2 := by
  intro f vs st v st' lg hh
  obtain ⟨h1, h2⟩ := h f vs st v st' lg hh
  refine ⟨h1, fun F hW hro g w us hs hr => ?_⟩
  obtain ⟨h3, h4⟩ := h2 F hW hro g w us (Sim.env (X := envM fn ext m') (X' := envM fn ext m) rfl hs) hr
  refine ⟨h3, CallsIn.mono h4 fun e w' he => ?_⟩
  obtain ⟨u, g1, rfl, hst, hru⟩ := he
  exact ⟨u, g1, rfl, Step.env (X := envM fn ext m) (X' := envM fn ext m') rfl hst, hru⟩
/-- what every environment of a program has -/
structure Base (P : Program) (fn : Nat → Option IFn) (ext : Nat → List V → Option V) : Prop where
  mixed : P.follows .mixedOrders = true
  fn : ∀ f b, fn f = some b → ∃ fn pm, P.funcs[f]? = some fn ∧ (fn.name == "runtime.NumGoroutine") = false ∧ cFn P pm fn b.mode = some b
  ext : ∀ X : Env, Entry P X ext
theorem Base.valid (h : Base P fn ext) {m : CallF} (hm : EntryE P (envM fn ext m) m) : Valid P (envM fn ext m) :=
  ⟨h.mixed, (fun t ht => by cases ht), h.fn, h.ext _, hm⟩
/-- a run of values alone -/
theorem Base.ent (h : Base P fn ext) {m m' : CallF} (hm : EntryE P (envM fn ext m) m) {tab : Nat → Option Fn2} (ht : TabOk (envM fn ext m) tab) {n f : Nat} {vs : List V} {v : V} {st' : St} (hp : pureAll vs = true) (hr : pureR v = true) (hext : ext f vs = none)
    (hrun : callN (envM fn ext m) tab n f vs .bare = some (v, st')) : Ent P (envM fn ext m') f vs v := by
  obtain ⟨k, lg, h1⟩ := callN_ok ht n f vs .bare v st' hrun
  exact Ent.env (X := envM fn ext m) (X' := envM fn ext m') rfl (pure_entry (h.valid hm) (globOk m) hp hr hext h1)
end

/-! ### the end of a function's run -/
theorem rcall_of {X : Env} {g : Nat} {vs : List V} {st : St} {nt : Nat} {body : IR} {rs : List Res} {mode m : Nat} {e : Ex} {f1 : F} {fr1 : T V} {st1 : St} {v : V} {st' : St} (h1 : X.memo g vs st = none) (h2 : X.ext g vs = none) (h3 : X.fn g = some ⟨nt, body, rs, mode⟩) (hlen : vs.length ≤ nt)
    (hx : exec X m body (T.ofList vs) { heap := st.heap, next := st.next, lim := st.next, wr := [] } = some (e, fr1, st1)) (hf : FRel f1 fr1) (hk : kRet X.glob rs mode st e f1 st1 = some (v, st')) : ∃ lg, rcall X (exec X m) g vs st = some (v, st', lg) := by
  have hlen : Nat.blt nt vs.length = false := by
    cases hb : Nat.blt nt vs.length with
    | false => rfl
    | true => have := bltT hb; omega
  have fin' : (e = .nrm ∨ e = .ret) → resK X.glob rs f1 st1 (fun vs => fin mode st st1 (tupF vs)) = some (v, st') → ∃ lg, rcall X (exec X m) g vs st = some (v, st', lg) := by
    intro he hh
    obtain ⟨us, h10, h11⟩ := resK_inv hf hh
    obtain ⟨lg, h12⟩ := fin_ok h11
    refine ⟨lg, ?_⟩
    rcases he with rfl | rfl
    · simp only [rcall, h1, h2, h3, hlen, cond_false, hx, tupF_eq h10, h12]
    · simp only [rcall, h1, h2, h3, hlen, cond_false, hx, tupF_eq h10, h12]
  cases e with
  | nrm => exact fin' (.inl rfl) hk
  | exit i => exact nomatch (show (none : Rho) = some (v, st') from hk)
  | ret => exact fin' (.inr rfl) hk

/-! ### code in a row -/
inductive CodesOk (X : Env) : List C2 → List IR → Prop where
  | nil : CodesOk X [] []
  | cons {c : C2} {b : IR} {cs : List C2} {bs : List IR} : CodeOk X c b → CodesOk X cs bs → CodesOk X (c :: cs) (b :: bs)
theorem runL_inv {X : Env} {E : CALL} (hE : ECall X E) {k : F → St → Rho} {a : V × St} : ∀ {cs : List C2} {bs : List IR}, CodesOk X cs bs → ∀ {f : F} {fr : T V} {st : St}, FRel f fr → runL E cs f st k = some a →
    ∃ f' fr' st', k f' st' = some a ∧ FRel f' fr' ∧ ∀ c n r, exec X n c fr' st' = some r → ∃ m, exec X m (seqs bs c) fr st = some r
  | [], [], .nil, f, fr, st, hf, h => ⟨f, fr, st, h, hf, fun c n r hr => ⟨n, hr⟩⟩
  | c :: cs, b :: bs, .cons h1 h2, f, fr, st, hf, h => by
    obtain ⟨e, f1, fr1, st1, h3, h4, n, h5⟩ := h1 E hE f fr st _ a hf (show c E f st (fun e f st => onNrm e (runL E cs f st k)) = some a from h)
    cases e with
    | nrm =>
      obtain ⟨f', fr', st', h6, h7, h8⟩ := runL_inv hE h2 h4 (show runL E cs f1 st1 k = some a from h3)
      refine ⟨f', fr', st', h6, h7, fun c n' r hr => ?_⟩
      obtain ⟨m, h9⟩ := h8 c n' r hr
      refine ⟨n + m + 1, ?_⟩
      have h10 := exec_mono (X := X) (Nat.le_add_right n m) _ _ _ _ h5
      have h11 := exec_mono (X := X) (Nat.le_add_left m n) _ _ _ _ h9
      simp only [seqs, exec, h10, h11]
    | exit i => exact nomatch (show (none : Rho) = some a from h3)
    | ret => exact nomatch (show (none : Rho) = some a from h3)
end Go.Ai
/-! A number that is taken by six. -/
namespace Go.Ai
open Go Go.Ai.Fl
set_option linter.unusedSimpArgs false
set_option linter.unusedVariables false

theorem rem_run (w m : Int) (hm : m ≠ 0) : binV .rem (.int .i64 w) (.int .i64 m) = some (.int .i64 (w.tmod m)) := by
  simp [binV, binOp, ofSem, Op.intDiv, hm, ofScalar]
  rfl
/-- what (w % 6 + 6) % 6 comes to, step by step -/
theorem six_run (w : Int) : ∃ a b k : Int, (k = 0 ∨ k = 1 ∨ k = 2 ∨ k = 3 ∨ k = 4 ∨ k = 5) ∧ binV .rem (.int .i64 w) (.int .i64 6) = some (.int .i64 a) ∧ binV .add (.int .i64 a) (.int .i64 6) = some (.int .i64 b) ∧ binV .rem (.int .i64 b) (.int .i64 6) = some (.int .i64 k) := by
  rw [rem_run w 6 (by decide)]
  have h : w.tmod 6 = -5 ∨ w.tmod 6 = -4 ∨ w.tmod 6 = -3 ∨ w.tmod 6 = -2 ∨ w.tmod 6 = -1 ∨ w.tmod 6 = 0 ∨ w.tmod 6 = 1 ∨ w.tmod 6 = 2 ∨ w.tmod 6 = 3 ∨ w.tmod 6 = 4 ∨ w.tmod 6 = 5 := by
    have h1 := Int.tmod_lt_of_pos w (b := 6) (by decide)
    have h2 := Int.lt_tmod_of_pos w (b := 6) (by decide)
    omega
  rcases h with h | h | h | h | h | h | h | h | h | h | h <;> rw [h]
  · exact ⟨-5, 1, 1, by decide, rfl, rfl, rfl⟩
  · exact ⟨-4, 2, 2, by decide, rfl, rfl, rfl⟩
  · exact ⟨-3, 3, 3, by decide, rfl, rfl, rfl⟩
  · exact ⟨-2, 4, 4, by decide, rfl, rfl, rfl⟩
  · exact ⟨-1, 5, 5, by decide, rfl, rfl, rfl⟩
  · exact ⟨0, 6, 0, by decide, rfl, rfl, rfl⟩
  · exact ⟨1, 7, 1, by decide, rfl, rfl, rfl⟩
  · exact ⟨2, 8, 2, by decide, rfl, rfl, rfl⟩
  · exact ⟨3, 9, 3, by decide, rfl, rfl, rfl⟩
  · exact ⟨4, 10, 4, by decide, rfl, rfl, rfl⟩
  · exact ⟨5, 11, 5, by decide, rfl, rfl, rfl⟩
/-- a number in a frame's slot, or nothing -/
noncomputable def isI (w : Int) (o : Option V) (r : Rho) : Rho := open Classical in if o = some (.int .i64 w) then r else none
theorem isI_inv {w : Int} {o : Option V} {r : Rho} {a : V × St} (h : isI w o r = some a) : o = some (.int .i64 w) ∧ r = some a := by
  unfold isI at h
  split at h
  · rename_i ho; exact ⟨ho, h⟩
  · cases h
end Go.Ai
/-! What is kept, in a claim's words. -/
namespace Go.Ai
open Go
open Go.ChangeShapes Go.WideShapes in
theorem post_of_kept {H : Type} {enc : TypeId × Value → H} {P : Program} {f : Func} {s : ChangeSpec} {apart fresh handsOn again : Bool} {W W' : World} {args : Array Value} {v : Value} {ds gs : List (DataW H)} {before pa pv : List MemPlace}
    (hW : DataW.Whole enc P f.params.toList s.vars apart W args.toList ds gs before)
    (hres : ∀ (b : Nat) (sp : Nat → Bool) (hd : Bool), DataW.TrodAll enc P W' b sp hd f.resultTypes.toList (v.resultList f.resultTypes.size) (s.fn H (ds ++ gs)).results [])
    (hargs : ∀ sp : Nat → Bool, (∀ p ∈ before, sp p.block = true) → DataW.TrodAll enc P W' 0 sp true f.params.toList args.toList (s.fn H (ds ++ gs)).args pa)
    (hvars : ∀ sp : Nat → Bool, (∀ p ∈ before, sp p.block = true) → DataW.TrodVars enc P W' sp s.vars (s.fn H (ds ++ gs)).vars pv)
    (hps : before = pa ++ pv) (hk : Kept W W')
    (hok : ∀ (j : Nat) (t : TypeId) (r : Value), f.resultTypes[j]? = some t → (v.resultList f.resultTypes.size)[j]? = some r → Value.okWide P W' .any 0 t r) :
    s.post enc P f apart fresh handsOn again W args v W' := by
  have hlt : ∀ p ∈ before, p.block < W.heap.size := fun p hp => hW.lt p hp
  have hold : ∀ p ∈ before, (fun b => decide (b < W.heap.size)) p.block = true := fun p hp => by simpa using hlt p hp
  refine ⟨ds, gs, before, [], pa, pv, hW, hres _ _ _, hargs _ hold, hvars _ hold, World.keptBut_mono (fun p hp => ⟨hp, ?_⟩) (hk.but (· ∈ before)), fun _ => ?_⟩
  · rw [hps, List.mem_append] at hp
    exact Or.inr hp
  · obtain ⟨_, _, _, _, _, hz, hn⟩ := hW
    refine ⟨hok, _, _, ([] ++ pa) ++ pv, ⟨[] ++ pa, pv, trodAll_append (hargs _ (fun _ _ => rfl)) (hres _ _ _), hvars _ (fun _ _ => rfl), rfl, ?_, ?_⟩, ?_⟩
    · intro b off hp
      have hp : MemPlace.cell b off ∈ before := by rw [hps]; simpa using hp
      rw [hk.frozen (a := ⟨b, off, none⟩) (hlt _ hp)]
      exact hz b off hp
    · intro ha
      have := hn ha
      rw [hps] at this
      simpa using this
    · intro p hp _
      rw [hps]
      simpa using hp
end Go.Ai
