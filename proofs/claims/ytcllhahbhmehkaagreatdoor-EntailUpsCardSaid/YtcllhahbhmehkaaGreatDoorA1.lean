/- A verified interpreter of the model's code, part 1: what it runs is a run of the program. -/
import Derived.Test.YtcllhahbhmehkaaGreatDoorA0
import Derived.RangeFuncLeaves
/-! Operations: append, clear, conversions. -/
namespace Go.Ai
open Go
set_option linter.unusedSimpArgs false

section
variable {P : Program} {X : Env} {g g' : G} {st st' : St} {w w' : World} {fr fr' : T V} {log : List Tc} {v : V} {a : Act} {call : CallF} {yield : Nat → List V → St → R}

/-- what an append appends -/
def AppR (P : Program) (made : Bool) (t2 : TypeId) (i : TypeInfo) (z : Value) (x : Value) (n : Nat) (us : List Value) (w : World) : Prop :=
  (made = false ∧ (∃ e', P.underlying t2 = some (.slice e')) ∧ (∀ w' : World, (Builtin.lenOf x).run P w' = .ok n w') ∧ ∀ w' : World, w'.heap = w.heap → (Builtin.firstCells i.size n x).run P w' = .ok us.toArray w') ∨
  (made = true ∧ (∃ k, P.underlying t2 = some (.int k)) ∧ x = .int .i64 n ∧ n * (i.bytes + 1) < 1000000000000 ∧ us = (Builtin.zeroCells z.cells n).toList ∧ z.cells.size = i.size)

theorem wrap_small {n : Nat} (h : n < 1000000000000) : IntKind.i64.wrap (n : Int) = n := by simp [IntKind.wrap, IntKind.signed, IntKind.bits]; omega
theorem small_of {n b : Nat} (h : n * (b + 1) < 1000000000000) : n < 1000000000000 ∧ n * b < 1000000000000 := by
  have h1 : n * 1 ≤ n * (b + 1) := Nat.mul_le_mul_left n (Nat.le_add_left 1 b)
  have h2 : n * b ≤ n * (b + 1) := Nat.mul_le_mul_left n (Nat.le_add_right b 1)
  omega
theorem run_append_in {made : Bool} {t t2 ty e : TypeId} {i : TypeInfo} {z : Value} (ht : P.underlying t = some (.slice e)) (hi : P.info? e = some i) (hz : i.zero = some z) {x : Value} {n : Nat} {us : List Value} (hx : AppR P made t2 i z x n us w)
    {base : Option Addr} {len cap : Nat} (hroom : len + n ≤ cap) (hb : ∀ ad, base = some ad → (storeCells (ad.add (len * i.size)) us).run P w = .ok () w') (hn : base = none → w' = w) :
    (Builtin.append_ #[t, t2] ty #[.slice base len cap, x]).run P w = .ok (.slice base (len + n) cap) w' := by
  rcases hx with ⟨rfl, ⟨e', hk⟩, h1, h2⟩ | ⟨rfl, ⟨k, hk⟩, rfl, h1, h2, h3⟩
  · cases base with
    | none =>
      have := hn rfl
      subst this
      simp [Builtin.append_, run_underlying ht, run_underlying hk, sizeOf, typeInfo, hi, h1, hroom, h2 w' rfl]
    | some ad =>
      simp [Builtin.append_, run_underlying ht, run_underlying hk, sizeOf, typeInfo, hi, h1, hroom, h2 w rfl, hb ad rfl]
  · obtain ⟨s1, s2⟩ := small_of h1
    have e1 : ¬ ((n : Int) < 0) := by omega
    have e2 : ¬ ((281474976710656 : Int) < (n : Int) * (i.bytes : Int)) := by
      have : ((n * i.bytes : Nat) : Int) < 1000000000000 := by omega
      rw [Int.natCast_mul] at this; omega
    by_cases h0 : n * i.size = 0
    · have hus : us = [] := by
        rw [h2]; apply List.eq_nil_of_length_eq_zero; simp [Builtin.zeroCells, h3, h0]
      subst hus
      cases base with
      | none =>
        have := hn rfl
        subst this
        simp [Builtin.append_, run_underlying ht, run_underlying hk, sizeOf, typeInfo, hi, asInt, asIntOf, wrap_small s1, e1, e2, hroom, h0]
      | some ad =>
        have := hb ad rfl
        simp [Builtin.append_, run_underlying ht, run_underlying hk, sizeOf, typeInfo, hi, asInt, asIntOf, wrap_small s1, e1, e2, hroom, h0, this]
    · cases base with
      | none =>
        have := hn rfl
        subst this
        simp [Builtin.append_, run_underlying ht, run_underlying hk, sizeOf, typeInfo, hi, asInt, asIntOf, wrap_small s1, e1, e2, hroom, h0, zeroValue, hz]
      | some ad =>
        have := hb ad rfl
        rw [h2] at this
        simp [Builtin.append_, run_underlying ht, run_underlying hk, sizeOf, typeInfo, hi, asInt, asIntOf, wrap_small s1, e1, e2, hroom, h0, zeroValue, hz, this]

theorem growBy_le (need : Nat) : ∀ (k c : Nat), c ≤ 2 * need + 192 → Builtin.growBy need k c ≤ 2 * need + 192
  | 0, c, h => h
  | k + 1, c, h => by
    unfold Builtin.growBy
    split
    · exact h
    · exact growBy_le need k _ (by omega)
theorem nextslicecap_le {need old : Nat} (h : old < need) : Builtin.nextslicecap need old ≤ 2 * need + 192 := by
  unfold Builtin.nextslicecap
  split
  · omega
  · split
    · omega
    · exact growBy_le need 4 old (by omega)
theorem run_append_new {made : Bool} {t t2 ty e : TypeId} {i : TypeInfo} {z : Value} (ht : P.underlying t = some (.slice e)) (hi : P.info? e = some i) (hz : i.zero = some z) {x : Value} {n : Nat} {us : List Value} (hx : AppR P made t2 i z x n us w)
    {base : Option Addr} {len cap : Nat} (hgrow : cap < len + n) (hsmall : (len + n) * (i.bytes + 1) < 1000000000000) {olds : List Value} (ho : ∀ w' : World, w'.heap = w.heap → (Builtin.firstCells i.size len (.slice base len cap)).run P w' = .ok olds.toArray w') :
    ∃ c d, len + n ≤ c ∧ (Builtin.append_ #[t, t2] ty #[.slice base len cap, x]).run P w = .ok (.slice (some ⟨w.heap.size, 0, none⟩) (len + n) c) { w with heap := w.heap.push (.cells ((olds ++ us).toArray ++ Builtin.zeroCells z.cells (c - (len + n))) e (0, 0)), drawn := d } := by
  obtain ⟨s1, s2⟩ := small_of hsmall
  have hn : ¬ (len + n ≤ cap) := by omega
  have h63 : ¬ (9223372036854775807 < ((len : Int) + (n : Int))) := by omega
  have h48 : ¬ (281474976710656 < Builtin.nextslicecap (len + n) cap * i.bytes) := by
    have h1 := nextslicecap_le hgrow
    have h2 : Builtin.nextslicecap (len + n) cap * i.bytes ≤ (2 * (len + n) + 192) * i.bytes := Nat.mul_le_mul_right _ h1
    rw [Nat.add_mul, Nat.mul_assoc] at h2
    have h3 : i.bytes ≤ (len + n) * i.bytes := Nat.le_mul_of_pos_left _ (by omega)
    omega
  refine ⟨(Question.appendCap (len + n) cap e).cut (w.tape w.drawn (Question.appendCap (len + n) cap e)), w.drawn + 1, by simp [Question.cut], ?_⟩
  rcases hx with ⟨rfl, ⟨e', hk⟩, h1, h2⟩ | ⟨rfl, ⟨k, hk⟩, rfl, h1, h2, h3⟩
  · have ho' := ho w.drew rfl
    have h2' := h2 w.drew rfl
    simp [Builtin.append_, run_underlying ht, run_underlying hk, sizeOf, typeInfo, zeroValue, hi, hz, h1, hn, h63, h48, Question.forced, ho', h2', run_newRow]
    simp only [World.drew, World.alloc, ← List.append_toArray, Array.append_assoc, List.append_nil, Array.toArray_toList]
  · obtain ⟨s3, s4⟩ := small_of h1
    have ho' := ho w.drew rfl
    have e1 : ¬ ((n : Int) < 0) := by omega
    have e2 : ¬ ((281474976710656 : Int) < (n : Int) * (i.bytes : Int)) := by
      have : ((n * i.bytes : Nat) : Int) < 1000000000000 := by omega
      rw [Int.natCast_mul] at this; omega
    by_cases h0 : n * i.size = 0
    · have hus : us = [] := by
        rw [h2]; apply List.eq_nil_of_length_eq_zero; simp [Builtin.zeroCells, h3, h0]
      subst hus
      simp [Builtin.append_, run_underlying ht, run_underlying hk, sizeOf, typeInfo, zeroValue, hi, hz, asInt, asIntOf, wrap_small s3, e1, e2, hn, h63, h48, Question.forced, ho', h0, run_newRow]
      simp only [World.drew, World.alloc, ← List.append_toArray, Array.append_assoc, List.append_nil, Array.toArray_toList]
    · simp [Builtin.append_, run_underlying ht, run_underlying hk, sizeOf, typeInfo, zeroValue, hi, hz, asInt, asIntOf, wrap_small s3, e1, e2, hn, h63, h48, Question.forced, ho', h0, h2, run_newRow]
      simp only [World.drew, World.alloc, ← List.append_toArray, Array.append_assoc, List.append_nil, Array.toArray_toList]
end
end Go.Ai
/-! Operations: append. -/
namespace Go.Ai
open Go
set_option linter.unusedSimpArgs false

section
variable {P : Program} {X : Env} {g g' : G} {st st' : St} {w w' : World} {fr fr' : T V} {log : List Tc} {v : V} {a : Act} {call : CallF} {yield : Nat → List V → St → R}

/-- a slice's cells, with the room behind them looked at no more -/
structure Olds (P : Program) (g : G) (w : World) (sz : Nat) (u : Value) (len : Nat) (cs : T V) (olds : List Value) : Prop where
  length : olds.length = len * sz
  reps : ∀ i, i < len * sz → ∃ v x, cs.get i = some v ∧ leaf v = true ∧ olds[i]? = some x ∧ Rep g v x
  run : ∀ w' : World, w'.heap = w.heap → (Builtin.firstCells sz len u).run P w' = .ok olds.toArray w'

theorem app_grown (hs : Sim P X g st w) {made : Bool} {t t2 ty e : TypeId} {i : TypeInfo} {z : Value} (ht : P.underlying t = some (.slice e)) (hi : P.info? e = some i) (hz : i.zero = some z) (hzs : z.cells.size = i.size)
    {x : Value} {n : Nat} {us : List Value} {new : List V} (hx : AppR P made t2 i z x n us w) (hnew : Reps g new us) (hln : leafs new = true) (hul : us.length = n * i.size)
    {base : Option Addr} {len cap : Nat} (hgrow : cap < len + n) (hsmall : (len + n) * (i.bytes + 1) < 1000000000000) {cs : T V} {olds : List Value} (ho : Olds P g w i.size (.slice base len cap) len cs olds) :
    ∃ u w' g', (Builtin.append_ #[t, t2] ty #[.slice base len cap, x]).run P w = .ok u w' ∧ Step P X g st w g' (st.new (.cells ((len + n) * i.size) (cs.fill (len * i.size) new))) w' ∧ Rep g' (.row i.size st.next 0 (len + n)) u := by
  obtain ⟨c, d, hc, hrun⟩ := run_append_new (ty := ty) ht hi hz hx hgrow hsmall ho.run
  have hw := Wpush.mk' w (.cells ((olds ++ us).toArray ++ Builtin.zeroCells z.cells (c - (len + n))) e (0, 0)) d
  have hmul : (len + n) * i.size = len * i.size + n * i.size := Nat.add_mul ..
  have hsize : ((olds ++ us).toArray ++ Builtin.zeroCells z.cells (c - (len + n))).size = c * i.size := by
    have e1 : (c - (len + n)) * i.size + (len + n) * i.size = c * i.size := by rw [← Nat.add_mul]; congr 1; omega
    simp [Builtin.zeroCells, ho.length, hul, hzs]
    omega
  generalize hq : (olds ++ us).toArray ++ Builtin.zeroCells z.cells (c - (len + n)) = q at hrun hw hsize
  have hqg : ∀ j, j < (len + n) * i.size → q[j]? = (olds ++ us)[j]? := by
    intro j hj
    rw [← hq, Array.getElem?_append_left (by simp [ho.length, hul]; omega)]
    simp
  have hle : g.le (g.newLoc st.next w.heap.size 0 q.size) := le_newLoc hs.loc_top
  have hst := Step.newLoc hs hw (some (.cells ((len + n) * i.size) (cs.fill (len * i.size) new))) 0 q.size (by
    intro bl hbl; cases hbl
    refine ⟨q, e, rfl, rfl, ?_, fun j hj => ?_⟩
    · rw [hsize]; have := Nat.mul_le_mul_right i.size hc; omega
    · rw [T.get_fill, Nat.zero_add, hqg j hj]
      have hnl := Reps_length hnew
      by_cases hjl : j < len * i.size
      · rw [if_neg (by omega), List.getElem?_append_left (by rw [ho.length]; exact hjl)]
        obtain ⟨v, x, e1, e2, e3, e4⟩ := ho.reps j hjl
        exact ⟨v, x, e1, e2, e3, e4.mono hle⟩
      · rw [if_pos (by omega), List.getElem?_append_right (by rw [ho.length]; omega), ho.length]
        have hlt : j - len * i.size < new.length := by omega
        have e1 : new[j - len * i.size]? = some new[j - len * i.size] := List.getElem?_eq_getElem hlt
        obtain ⟨y, e2, e3⟩ := Reps_get hnew _ _ e1
        exact ⟨_, y, e1, leafs_get hln _ _ e1, e2, e3.mono hle⟩)
  refine ⟨_, _, _, hrun, hst, ?_⟩
  simp only [Rep, RepL]
  exact ⟨w.heap.size, 0, q.size, c, by simp [G.newLoc], rfl, hc, by omega⟩

theorem did_app (hs : Sim P X g st w) (hf : FrR g st w fr a.tmps) {made : Bool} {t t2 ty : TypeId} {sz bts : Nat} {zs : List V} (hz : elzT P t = some (sz, bts, zs)) (hk : (made = false ∧ ∃ e', P.underlying t2 = some (.slice e')) ∨ (made = true ∧ ∃ k, P.underlying t2 = some (.int k)))
    {x y : Operand} (h : runOp X call yield fr st (o2 (.app made sz bts zs) x y) = some (v, st', log, fr')) : DidV P X g st w fr a.tmps (Builtin.append_ #[t, t2] ty #[a.eval x, a.eval y]) v st' fr' := by
  obtain ⟨x', y', hx, hy, h⟩ := o2_run h
  simp only [runOp] at h
  obtain ⟨e, i, z, hu, hi, hsz, hbt, hzz, hrz, hlz, hlen⟩ := elz_spec hz g
  subst hsz hbt
  have hzs : z.cells.size = i.size := by have := Reps_length hrz; simp at this; omega
  cases h1 : ev fr x' with
  | none => simp [h1] at h
  | some av =>
    cases h2 : ev fr y' with
    | none => simp [h1, h2] at h
    | some bv =>
      simp only [h1, h2] at h
      obtain ⟨v1', st1, log1, h', hr⟩ := r1_some h
      clear h
      simp only [Prod.mk.injEq] at hr
      obtain ⟨rfl, rfl, _, rfl⟩ := hr
      have har := (ev_sound hf hx h1).1
      have hbr := (ev_sound hf hy h2).1
      generalize a.eval x = ua at har ⊢
      generalize a.eval y = ub at hbr ⊢
      unfold append at h'
      -- what is appended
      have hsrc : ∀ n new, appSrc made i.size zs st bv = some (n, new) →
          ∃ us, Reps g new us ∧ leafs new = true ∧ us.length = n * i.size ∧ (n * (i.bytes + 1) < 1000000000000 → AppR P made t2 i z ub n us w) := by
        intro n new hq
        unfold appSrc at hq
        rcases hk with ⟨rfl, hk⟩ | ⟨rfl, hk⟩
        · simp only [cond_false] at hq
          have := cellsOf_spec hs hq hbr
          obtain ⟨us, e1, e2, e3, e4⟩ := this.first (P := P)
          exact ⟨us, e1, e2, e3, fun _ => .inl ⟨rfl, hk, this.len, e4⟩⟩
        · simp only [cond_true] at hq
          unfold appMade at hq
          split at hq
          · rename_i m
            simp at hq
            obtain ⟨rfl, rfl⟩ := hq
            simp only [Rep, RepL] at hbr
            refine ⟨(Builtin.zeroCells z.cells m).toList, ?_, zeros_leafs hlz _, by simp [Builtin.zeroCells, hzs], fun hsm => .inr ⟨rfl, hk, hbr, hsm, rfl, hzs⟩⟩
            have := zeros_reps' hrz m
            rw [hlen, ← hzs] at this
            exact this
          · cases hq
      cases hq : appSrc made i.size zs st bv with
      | none => simp [hq] at h'
      | some nn =>
        obtain ⟨n, new⟩ := nn
        obtain ⟨us, hn1, hn2, hn3, hn4⟩ := hsrc n new hq
        simp only [hq] at h'
        cases n with
        | zero =>
          -- nothing is appended
          have hus : us = [] := List.eq_nil_of_length_eq_zero (by simpa using hn3)
          subst hus
          have hsame : v = av ∧ st' = st ∧ ∃ p len cap, ua = .slice p len cap ∧ len ≤ cap := by
            cases av <;> simp only [app0] at h' <;> try (cases h'; done)
            all_goals
              simp at h'
              obtain ⟨rfl, rfl, _⟩ := h'
              simp only [Rep, RepL] at har
              refine ⟨rfl, rfl, ?_⟩
              first
                | exact ⟨_, _, _, har, Nat.le_refl _⟩
                | (obtain ⟨_, har⟩ := har; exact ⟨_, _, _, har, Nat.le_refl _⟩)
                | (obtain ⟨_, _, _, _, _, har, hle, _⟩ := har; exact ⟨_, _, _, har, hle⟩)
          obtain ⟨rfl, rfl, p, len, cap, rfl, hle⟩ := hsame
          refine DidV.same hs hf (u := .slice p len cap) ?_ har (rep_plain har)
          have := run_append_in (w' := w) (ty := ty) hu hi hzz (hn4 (by simp)) (base := p) (len := len) (cap := cap) (by omega) (fun ad _ => by simp [storeCells]) (fun _ => rfl)
          simpa using this
        | succ n =>
          simp only at h'
          -- a new row
          have grown : ∀ (len cap : Nat) (p : Option Addr) (cs : T V) (olds : List Value) (st2 : St) (lg : List Tc), ua = .slice p len cap → cap < len + (n + 1) → Olds P g w i.size ua len cs olds → Step P X g st w g st2 w →
              appNew i.size i.bytes (n + 1) new len cs st2 lg = some (v, st', log1) →
              DidV P X g st w fr' a.tmps (Builtin.append_ #[t, t2] ty #[ua, ub]) v st' fr' := by
            intro len cap p cs olds st2 lg e1 e2 e3 e4 e5
            unfold appNew at e5
            cases hb : Nat.blt ((len + (n + 1)) * (i.bytes + 1)) 1000000000000 with
            | false => simp [hb] at e5
            | true =>
              simp [hb] at e5
              obtain ⟨rfl, rfl, _⟩ := e5
              have hb := bltT hb
              have hsm : (n + 1) * (i.bytes + 1) < 1000000000000 := Nat.lt_of_le_of_lt (Nat.mul_le_mul_right _ (by omega)) hb
              subst e1
              obtain ⟨u, w', g', f1, f2, f3⟩ := app_grown e4.sim (ty := ty) hu hi hzz hzs (hn4 hsm) hn1 hn2 hn3 e2 hb e3
              exact DidV.step hs hf f1 (Step.trans hs e4 f2) f3 rfl
          cases av <;> simp only [appTo] at h' <;> try (cases h'; done)
          case nils =>
            simp only [Rep, RepL] at har
            refine grown 0 0 none .lf [] st [] har (by omega) ⟨by simp, fun j hj => by simp at hj, fun w' hw => ?_⟩ (Step.refl hs) h'
            rw [har]; simp [Builtin.firstCells]
          case emp =>
            simp only [Rep, RepL] at har
            obtain ⟨ad, har⟩ := har
            refine grown 0 0 (some ad) .lf [] st [] har (by omega) ⟨by simp, fun j hj => by simp at hj, fun w' hw => ?_⟩ (Step.refl hs) h'
            rw [har]
            simp [Builtin.firstCells, loadCells, loadCellsFrom]
          case sl s xs tight =>
            cases tight with
            | false => simp at h'
            | true =>
              cases hb : Nat.beq s i.size with
              | false => simp [hb] at h'
              | true =>
                have := beqT hb
                subst this
                cases hfl : flats i.size xs with
                | none => simp [hfl] at h'
                | some q =>
                  simp only [hfl, hb, cond_true] at h'
                  have hsr : SrcR P g w i.size ua xs.length q := cellsOf_spec (st := st) hs (x := .sl i.size xs true) (by simp [cellsOf, hfl]) har
                  simp only [Rep, RepL] at har
                  obtain ⟨b, o, cap, m, f1, f2, f3, f4, f5⟩ := har
                  obtain ⟨us2, g1, g2, g3, g4⟩ := hsr.first (P := P)
                  have hcap := f4 trivial
                  refine grown xs.length cap _ (T.ofList q) us2 st [] f2 (by omega) ⟨g3, fun j hj => ?_, g4⟩ (Step.refl hs) h'
                  have hql := Reps_length g1
                  have hjq : j < q.length := by omega
                  have e1 : q[j]? = some q[j] := List.getElem?_eq_getElem hjq
                  obtain ⟨y, e2, e3⟩ := Reps_get g1 j _ e1
                  exact ⟨_, y, by rw [T.get_ofList]; exact e1, leafs_get g2 j _ e1, e2, e3⟩
          case row s l off len =>
            cases off with
            | succ k => simp at h'
            | zero =>
              cases hb : Nat.beq s i.size with
              | false => simp [hb] at h'
              | true =>
                have := beqT hb
                subst this
                simp only [hb, cond_true] at h'
                cases hbk : st.blk l with
                | none => simp [hbk] at h'
                | some mt =>
                  obtain ⟨m, tr⟩ := mt
                  simp only [hbk] at h'
                  cases hbm : Nat.ble (len * i.size) m with
                  | false => simp [hbm] at h'
                  | true =>
                    simp only [hbm, cond_true] at h'
                    have hbm := bleT hbm
                    have hbg := blk_get hbk
                    simp only [Rep, RepL] at har
                    obtain ⟨b, base, top, cap, f1, f2, f3, f4⟩ := har
                    obtain ⟨b', bs, tp, ob, e1, e2, e3, e4⟩ := hs.blk l _ hbg rfl
                    rw [f1] at e1
                    obtain ⟨rfl, rfl, rfl⟩ : b = b' ∧ base = bs ∧ top = tp := by simpa using e1
                    obtain ⟨c, ty2, rfl, htop, hcm, hcr⟩ := e4
                    -- what lies there
                    have hcell : ∀ j, j < len * i.size → ∃ v x, tr.get j = some v ∧ leaf v = true ∧ c[base + j]? = some x ∧ Rep g v x := fun j hj => hcr j (by omega)
                    by_cases hroom : len + (n + 1) ≤ cap
                    · unfold appNew at h'
                      cases hsm : Nat.blt ((len + (n + 1)) * (i.bytes + 1)) 1000000000000 with
                      | false => simp [hsm] at h'
                      | true =>
                        simp [hsm] at h'
                        obtain ⟨rfl, rfl, _⟩ := h'
                        have hsm := bltT hsm
                        have hsm2 : (n + 1) * (i.bytes + 1) < 1000000000000 := Nat.lt_of_le_of_lt (Nat.mul_le_mul_right _ (by omega)) hsm
                        have hfit : base + len * i.size + us.length ≤ c.size := by
                          have := Nat.mul_le_mul_right i.size hroom
                          rw [Nat.add_mul] at this
                          omega
                        have hst := run_storeCells_at P b (base + len * i.size) ty2 us 0 c w e3 (by simpa using hfit) (oneCells hn1 hn2)
                        rw [f2]
                        have hrun := run_append_in (w' := w.setRow b (c.toList.take (base + len * i.size + 0) ++ us ++ c.toList.drop (base + len * i.size + 0 + us.length)).toArray) (ty := ty) hu hi hzz (hn4 hsm2)
                          (base := some ⟨b, base + 0, none⟩) (len := len) (cap := cap) hroom (fun ad had => by cases had; rw [add_plain]; exact hst) (fun hh => by cases hh)
                        have hput := Wput.setRow (c' := (c.toList.take (base + len * i.size + 0) ++ us ++ c.toList.drop (base + len * i.size + 0 + us.length)).toArray) e3
                        have hpaste : (c.toList.take (base + len * i.size + 0) ++ us ++ c.toList.drop (base + len * i.size + 0 + us.length)) = paste c.toList (base + len * i.size) us := rfl
                        rw [hpaste] at hrun hput
                        have hps : (paste c.toList (base + len * i.size) us).length = c.size := by rw [paste_length (by simpa using hfit)]; simp
                        have hle : g.le (g.newLoc st.next b base top) := le_newLoc hs.loc_top
                        have hmv := Step.move hs hbg rfl f1 hput (base' := base) (bl := .cells ((len + (n + 1)) * i.size) (tr.fill (len * i.size) new)) (wr := marks st.lim [(l, 0)] st.wr) (lim := st.lim) (by
                          refine ⟨_, ty2, rfl, by rw [htop]; simp [hps], ?_, fun j hj => ?_⟩
                          · simp [hps]; rw [Nat.add_mul, ← hn3]; omega
                          · have hnl := Reps_length hn1
                            have hmul : (len + (n + 1)) * i.size = len * i.size + (n + 1) * i.size := Nat.add_mul ..
                            rw [T.get_fill, List.getElem?_toArray, paste_get (by simpa using hfit)]
                            by_cases hjl : j < len * i.size
                            · rw [if_neg (by omega), if_neg (by omega)]
                              obtain ⟨v, x, k1, k2, k3, k4⟩ := hcell j hjl
                              exact ⟨v, x, k1, k2, by simpa using k3, k4.mono hle⟩
                            · rw [if_pos (by omega), if_pos (by omega)]
                              have hlt : j - len * i.size < new.length := by omega
                              have k1 : new[j - len * i.size]? = some new[j - len * i.size] := List.getElem?_eq_getElem hlt
                              obtain ⟨y, k2, k3⟩ := Reps_get hn1 _ _ k1
                              exact ⟨_, y, k1, leafs_get hn2 _ _ k1, by rw [← k2]; congr 1; omega, k3.mono hle⟩)
                        refine DidV.step hs hf hrun hmv ?_ rfl
                        simp only [Rep, RepL]
                        exact ⟨b, base, top, cap, by simp [G.newLoc, St.putBlk], rfl, hroom, f4⟩
                    · have htk : ∀ (k o : Nat), o + k ≤ len * i.size → ∃ xs, tr.take o k = some xs := by
                        intro k
                        induction k with
                        | zero => intro o _; exact ⟨[], rfl⟩
                        | succ k ih =>
                          intro o ho
                          obtain ⟨v, x, k1, _⟩ := hcell o (by omega)
                          obtain ⟨xs, k2⟩ := ih (o + 1) (by omega)
                          exact ⟨v :: xs, by simp [T.take, k1, k2]⟩
                      obtain ⟨xs, k1⟩ := htk (len * i.size) 0 (by omega)
                      obtain ⟨k2, k3⟩ := T.take_spec _ _ _ _ k1
                      obtain ⟨us3, q1, q2, q3⟩ := Reps_of_cells (g := g) (cs := xs) (f := fun j => c[base + j]?) fun j v hj => by
                        have hjl : j < len * i.size := by have := (List.getElem?_eq_some_iff.1 hj).1; omega
                        obtain ⟨v', x, e1, e2, e3, e4⟩ := hcell j hjl
                        have := k3 j hjl
                        rw [Nat.zero_add, e1, hj] at this
                        cases this
                        exact ⟨x, e3, e4⟩
                      refine grown len cap _ tr us3 (st.putBlk l .gone [(l, 0)]) [(l, 0)] f2 (by omega) ⟨by omega, fun j hj => ?_, fun w' hw => ?_⟩ ?_ h'
                      · obtain ⟨v, x, e1, e2, e3, e4⟩ := hcell j hj
                        have hj3 : j < us3.length := by omega
                        have e5 := q3 j _ (List.getElem?_eq_getElem hj3)
                        rw [e3] at e5
                        exact ⟨v, x, e1, e2, by rw [List.getElem?_eq_getElem hj3, Option.some.inj e5], e4⟩
                      · rw [f2]
                        simp only [Builtin.firstCells]
                        rw [show len * i.size = us3.length from by omega]
                        exact run_loadCells_list (P := P) w' _ us3 fun j x hj => by
                          rw [add_plain]
                          simp only [World.cell?, hw, e3]
                          simpa using q3 j x hj
                      · exact Step.put hs hbg rfl f1 (o := .cells c ty2 (0, 0)) ⟨rfl, rfl, rfl, rfl, e3, fun _ _ => rfl⟩ (fun hh => by cases hh)
end
end Go.Ai
/-! Operations: clear, conversions. -/
namespace Go.Ai
open Go
set_option linter.unusedSimpArgs false

section
variable {P : Program} {X : Env} {g g' : G} {st st' : St} {w w' : World} {fr fr' : T V} {log : List Tc} {v : V} {a : Act} {call : CallF} {yield : Nat → List V → St → R}

theorem did_clear (hs : Sim P X g st w) (hf : FrR g st w fr a.tmps) {t ty : TypeId} {sz bts : Nat} {zs : List V} (hz : elzT P t = some (sz, bts, zs)) {x : Operand}
    (h : runOp X call yield fr st (o1 (.clear sz zs) x) = some (v, st', log, fr')) : DidV P X g st w fr a.tmps (Builtin.clear_ #[t] ty #[a.eval x]) v st' fr' := by
  obtain ⟨x', hx, h⟩ := o1_run h
  simp only [runOp] at h
  obtain ⟨e, i, z, hu, hi, hsz, hbt, hzz, hrz, hlz, hlen⟩ := elz_spec hz g
  subst hsz hbt
  have hzs : z.cells.size = i.size := by have := Reps_length hrz; simp at this; omega
  have nothing : ∀ (p : Option Addr) (c : Nat), (Builtin.clear_ #[t] ty #[.slice p 0 c]).run P w = .ok (.tuple #[]) w := by
    intro p c
    cases p <;> simp [Builtin.clear_, run_underlying hu]
  have hj : Rep g .junk (.tuple #[]) := by simp [Rep, RepL, undef]
  cases h1 : ev fr x' with
  | none => simp [h1] at h
  | some xv =>
    have hr := (ev_sound hf hx h1).1
    cases xv <;> simp only [h1] at h <;> try (cases h; done)
    case nils =>
      simp at h
      obtain ⟨rfl, rfl, _, rfl⟩ := h
      simp only [Rep, RepL] at hr
      rw [hr]
      exact DidV.same hs hf (nothing _ _) hj rfl
    case emp =>
      simp at h
      obtain ⟨rfl, rfl, _, rfl⟩ := h
      simp only [Rep, RepL] at hr
      obtain ⟨_, hr⟩ := hr
      rw [hr]
      exact DidV.same hs hf (nothing _ _) hj rfl
    case non0 =>
      simp at h
      obtain ⟨rfl, rfl, _, rfl⟩ := h
      simp only [Rep, RepL] at hr
      obtain ⟨_, _, hr⟩ := hr
      rw [hr]
      exact DidV.same hs hf (nothing _ _) hj rfl
    case row s l off len =>
      simp only [Rep, RepL] at hr
      obtain ⟨b, base, top, cap, f1, f2, f3, f4⟩ := hr
      rw [f2]
      cases h0 : Nat.beq len 0 with
      | true =>
        have := beqT h0
        subst this
        simp at h
        obtain ⟨rfl, rfl, _, rfl⟩ := h
        exact DidV.same hs hf (nothing _ _) hj rfl
      | false =>
        have hne : len ≠ 0 := fun e => by subst e; simp at h0
        cases hb : Nat.beq s i.size with
        | false => simp [h0, hb] at h
        | true =>
          have := beqT hb
          subst this
          simp only [h0, hb, cond_true, cond_false] at h
          cases hbk : st.blk l with
          | none => simp [hbk] at h
          | some mt =>
            obtain ⟨m, tr⟩ := mt
            simp only [hbk] at h
            cases hbm : Nat.ble (off + len * i.size) m with
            | false => simp [hbm] at h
            | true =>
              simp [hbm] at h
              obtain ⟨rfl, rfl, _, rfl⟩ := h
              have hbm := bleT hbm
              have hbg := blk_get hbk
              obtain ⟨b', bs, tp, ob, e1, e2, e3, e4⟩ := hs.blk l _ hbg rfl
              rw [f1] at e1
              obtain ⟨rfl, rfl, rfl⟩ : b = b' ∧ base = bs ∧ top = tp := by simpa using e1
              obtain ⟨c, ty2, rfl, htop, hcm, hcr⟩ := e4
              have hn1 : Reps g (zeros zs len) (Builtin.zeroCells z.cells len).toList := by
                have := zeros_reps' hrz len
                rw [hlen, ← hzs] at this
                exact this
              have hn2 := zeros_leafs hlz len
              have hn3 : (Builtin.zeroCells z.cells len).toList.length = len * i.size := by simp [Builtin.zeroCells, hzs]
              generalize hus : (Builtin.zeroCells z.cells len).toList = us at hn1 hn3
              have hfit : base + off + us.length ≤ c.size := by omega
              have hst := run_storeCells_at P b (base + off) ty2 us 0 c w e3 (by simpa using hfit) (oneCells hn1 hn2)
              have hpaste : (c.toList.take (base + off + 0) ++ us ++ c.toList.drop (base + off + 0 + us.length)) = paste c.toList (base + off) us := rfl
              rw [hpaste] at hst
              have hput := Wput.setRow (c' := (paste c.toList (base + off) us).toArray) e3
              have hps : (paste c.toList (base + off) us).length = c.size := by rw [paste_length (by simpa using hfit)]; simp
              have hmv := Step.put hs hbg rfl f1 hput (bl := .cells m (tr.fill off (zeros zs len))) (wr := marks st.lim [(l, 0)] st.wr) (lim := st.lim) fun _ => by
                refine ⟨_, ty2, rfl, by rw [htop]; simp [hps], by simp [hps]; omega, fun j hj => ?_⟩
                have hnl := Reps_length hn1
                rw [T.get_fill, List.getElem?_toArray, paste_get (by simpa using hfit)]
                by_cases hjl : off ≤ j ∧ j < off + us.length
                · rw [if_pos (by omega), if_pos (by omega)]
                  have hlt : j - off < (zeros zs len).length := by omega
                  have k1 : (zeros zs len)[j - off]? = some (zeros zs len)[j - off] := List.getElem?_eq_getElem hlt
                  obtain ⟨y, k2, k3⟩ := Reps_get hn1 _ _ k1
                  exact ⟨_, y, k1, leafs_get hn2 _ _ k1, by rw [← k2]; congr 1; omega, k3⟩
                · rw [if_neg (by omega), if_neg (by omega)]
                  obtain ⟨v, x, k1, k2, k3, k4⟩ := hcr j hj
                  exact ⟨v, x, k1, k2, by simpa using k3, k4⟩
              refine DidV.step hs hf (u := .tuple #[]) ?_ hmv (by simp [Rep, RepL, undef]) rfl
              cases len with
              | zero => exact absurd rfl hne
              | succ len => simp [Builtin.clear_, run_underlying hu, zeroValue, typeInfo, hi, hzz, hus, hst]

/-! conversions -/
theorem ofBytes_spec : ∀ {cs : List V} {k : Nat} {us : List Value} {r : Nat}, ofBytes cs k = some r → Reps g cs us → ∃ ns : List Int, us = ns.map (Value.int .u8) ∧ ∀ (s : ByteArray), encArr s = k → encArr (ns.foldl (fun r n => r.push (UInt8.ofNat n.toNat)) s) = r
  | [], k, us, r, h, hr => by
    simp [Reps] at hr; subst hr
    simp [ofBytes] at h; subst h
    exact ⟨[], rfl, fun s hs => hs⟩
  | x :: cs, k, us, r, h, hr => by
    have hsh : ∃ b, x = .int .u8 (.ofNat b) := by
      unfold ofBytes at h
      split at h
      · rename_i e; cases e
      · rename_i e; cases e; exact ⟨_, rfl⟩
      · cases h
    obtain ⟨b, rfl⟩ := hsh
    cases hbb : Nat.blt b 256 with
    | false => simp [ofBytes, hbb] at h
    | true =>
    have hb := bltT hbb
    simp only [ofBytes, hbb, cond_true] at h
    simp only [Reps, Rep, RepL] at hr
    obtain ⟨u, us', rfl, rfl, hr⟩ := hr
    obtain ⟨ns, rfl, h2⟩ := ofBytes_spec h hr
    refine ⟨(b : Int) :: ns, rfl, fun s hs => ?_⟩
    rw [List.foldl_cons]
    apply h2
    rw [← hs]
    have : (s.push (UInt8.ofNat (b : Int).toNat)).data.toList = s.data.toList ++ [UInt8.ofNat b] := by cases s; simp [ByteArray.push]
    rw [encArr, this, enc_append, encArr]
    simp [val, UInt8.toNat_ofNat, Nat.mod_eq_of_lt hb]
theorem cConv_spec {s d : TypeId} {k : Cv} (h : cConv P s d = some k) :
    (∃ j q, k = .int q ∧ P.underlying s = some (.int j) ∧ P.underlying d = some (.int q)) ∨ (k = .same ∧ P.underlying s = some .string ∧ P.underlying d = some .string) ∨
    (∃ j, k = .rune ∧ P.underlying s = some (.int j) ∧ P.underlying d = some .string) ∨ (∃ e, k = .toBytes ∧ P.underlying s = some .string ∧ P.underlying d = some (.slice e) ∧ P.underlying e = some (.int .u8)) ∨
    (∃ e, k = .ofBytes ∧ P.underlying s = some (.slice e) ∧ P.underlying d = some .string ∧ P.underlying e = some (.int .u8)) := by
  unfold cConv at h
  split at h
  · rename_i h1 h2; simp at h; subst h; exact .inl ⟨_, _, rfl, h1, h2⟩
  · rename_i h1 h2; simp at h; subst h; exact .inr (.inl ⟨rfl, h1, h2⟩)
  · rename_i h1 h2; simp at h; subst h; exact .inr (.inr (.inl ⟨_, rfl, h1, h2⟩))
  · rename_i h1 h2
    split at h
    · rename_i h3; simp at h; subst h; exact .inr (.inr (.inr (.inl ⟨_, rfl, h1, h2, h3⟩)))
    · cases h
  · rename_i h1 h2
    split at h
    · rename_i h3; simp at h; subst h; exact .inr (.inr (.inr (.inr ⟨_, rfl, h1, h2, h3⟩)))
    · cases h
  · cases h

theorem push_modify {α : Type} (h : Array α) (x : α) (f : α → α) : (h.push x).modify h.size f = h.push (f x) := by
  apply Array.ext
  · simp
  · intro i h1 h2
    rw [Array.getElem_modify]
    by_cases hi : h.size = i
    · subst hi; simp
    · simp only [hi, if_false]
      simp at h1
      rw [Array.getElem_push_lt (by omega), Array.getElem_push_lt (by omega)]
def strCells (s : ByteArray) (cap : Nat) : Array Value := (s.data.map fun (b : UInt8) => Value.int .u8 b.toNat) ++ Array.replicate (cap - s.size) (Value.int .u8 0)
theorem run_stringToBytes (e : TypeId) (s : ByteArray) : ∃ u w', (Conv.stringToBytes e s).run P w = .ok u w' ∧ ∃ cap c, Wpush w w' (.cells c e (c.size, c.size + 1)) ∧ u = .slice (some ⟨w.heap.size, 0, none⟩) s.size cap ∧ s.size ≤ cap ∧
    ∀ (i : Nat) (b : UInt8), s.data.toList[i]? = some b → c[i]? = some (.int .u8 b.toNat) := by
  generalize hcap : (Question.appendCap s.size 0 e).cut (w.tape w.drawn (Question.appendCap s.size 0 e)) = cap
  have hle : s.size ≤ cap := by rw [← hcap]; simp [Question.cut]
  refine ⟨_, { w with heap := w.heap.push (.cells (strCells s cap) e ((strCells s cap).size, (strCells s cap).size + 1)), drawn := w.drawn + 1 }, ?_, cap, strCells s cap, ⟨rfl, rfl, rfl, rfl⟩, rfl, hle, ?_⟩
  · have hel : (s.data.map fun (b : UInt8) => Value.int .u8 b.toNat) ++ Array.replicate (cap - s.size) (Value.int .u8 0) = strCells s cap := rfl
    simp only [Conv.stringToBytes, Sem.run_bind, run_choose, Question.forced, Bool.false_eq_true, if_false, Result.andThen_ok, hcap, hel, run_newRow, markStringish, run_shape, World.shape?, Array.getElem?_push_size]
    simp only [run_freeze, Sem.run_bind, Result.andThen_ok, Sem.run_pure, World.freeze, push_modify]
    simp
  · intro i b hb
    have hlt : i < s.data.size := by have := (List.getElem?_eq_some_iff.1 hb).1; simpa using this
    unfold strCells
    rw [Array.getElem?_append_left (by simpa using hlt)]
    simp only [Array.getElem?_map]
    have : s.data[i]? = some b := by simpa using hb
    rw [this]; rfl
theorem did_conv (hs : Sim P X g st w) (hf : FrR g st w fr a.tmps) {s d : TypeId} {k : Cv} (hk : cConv P s d = some k) {x : Operand}
    (h : runOp X call yield fr st (o1 (.conv k) x) = some (v, st', log, fr')) : DidV P X g st w fr a.tmps (convert s d (a.eval x)) v st' fr' := by
  obtain ⟨x', hx, h⟩ := o1_run h
  simp only [runOp] at h
  cases h1 : ev fr x' with
  | none => simp [h1] at h
  | some xv =>
    simp only [h1] at h
    obtain ⟨v', h3, h4⟩ := v1_some h
    simp only [Prod.mk.injEq] at h4
    obtain ⟨rfl, rfl, _, rfl⟩ := h4
    have hr := (ev_sound hf hx h1).1
    rcases cConv_spec hk with ⟨j, q, rfl, e1, e2⟩ | ⟨rfl, e1, e2⟩ | ⟨j, rfl, e1, e2⟩ | ⟨e, rfl, e1, e2, e3⟩ | ⟨e, rfl, e1, e2, e3⟩
    · cases xv <;> simp only [convV] at h3 <;> try (cases h3; done)
      simp at h3; subst h3
      simp only [Rep, RepL] at hr
      rw [hr]
      exact DidV.same hs hf (by simp [convert, run_underlying e1, run_underlying e2, Conv.intToInt]; rfl) (by simp only [Rep, RepL]) rfl
    · cases xv <;> simp only [convV] at h3 <;> try (cases h3; done)
      simp at h3; subst h3
      have hr' := hr
      simp only [Rep, RepL] at hr
      obtain ⟨s, hr, _⟩ := hr
      exact DidV.same hs hf (u := a.eval x) (by rw [hr]; simp [convert, run_underlying e1, run_underlying e2]) hr' rfl
    · cases xv <;> simp only [convV] at h3 <;> try (cases h3; done)
      simp at h3; subst h3
      simp only [Rep, RepL] at hr
      rw [hr]
      exact DidV.same hs hf (by simp [convert, run_underlying e1, run_underlying e2, Conv.intToString]; rfl) (by simp only [Rep, RepL]; exact ⟨_, rfl, rfl⟩) rfl
    · cases xv <;> simp only [convV] at h3 <;> try (cases h3; done)
      simp at h3; subst h3
      simp only [Rep, RepL] at hr
      obtain ⟨str, hr, rfl⟩ := hr
      rw [hr]
      obtain ⟨u, w', e4, e5⟩ := run_stringToBytes (P := P) (w := w) e str
      obtain ⟨cap, c, h5, rfl, h6, h7⟩ := e5
      have hst := Step.newFz hs h5 (m := fun i => (str.data.toList[i]?).map fun b => V.int .u8 b.toNat) fun i v hi => by
        cases hb : str.data.toList[i]? with
        | none => simp [hb] at hi
        | some b => simp [hb] at hi; subst hi; exact ⟨rfl, _, h7 i b hb, by simp only [Rep, RepL]⟩
      refine DidV.step hs hf (u := .slice (some ⟨w.heap.size, 0, none⟩) str.size cap) ?_ hst ?_ rfl
      · simp [convert, run_underlying e1, run_underlying e2, run_underlying e3, e4]
      · simp only [Rep, RepL]
        have hsz : str.size = str.data.toList.length := by cases str; rfl
        exact ⟨w.heap.size, 0, cap, fun i => (str.data.toList[i]?).map fun b => V.int .u8 b.toNat, str.data.toList, by simp only [G.newFz, if_true], rfl, by rw [hsz], by omega, fun i x hi => by simp only [Nat.zero_add, hi]; rfl⟩
    · -- out of bytes
      have fin : ∀ (cs : List V) (n r : Nat), SrcR P g w 1 (a.eval x) n cs → ofBytes cs 1 = some r → v = .str r → DidV P X g st' w fr' a.tmps (convert s d (a.eval x)) v st' fr' := by
        intro cs n r h5 h6 h7
        subst h7
        obtain ⟨p, cap, us, h8, h9, h10, h11, h12, h13, h14⟩ := h5
        obtain ⟨ns, rfl, h15⟩ := ofBytes_spec h6 h10
        rw [h8]
        refine DidV.same hs hf (u := .string (ns.foldl (fun r n => r.push (UInt8.ofNat n.toNat)) ByteArray.empty)) ?_ ?_ rfl
        · rw [run_convert_bytes_string w s d e p n cap e1 e3 e2]
          cases p with
          | none =>
            have := h13 rfl
            subst this
            simp at h12; subst h12
            simp [Conv.bytesToString]
          | some ad =>
            refine run_bytesToString w ad n cap ns ?_
            rw [show n = (ns.map (Value.int .u8)).length from by omega]
            exact run_loadCells_list (P := P) w ad _ (h14 ad rfl)
        · simp only [Rep, RepL]
          exact ⟨_, rfl, h15 ByteArray.empty rfl⟩
      have two : (∃ n, xv = .bytes n ∧ v = .str n) ∨ ∃ n cs r, cellsOf st' 1 xv = some (n, cs) ∧ ofBytes cs 1 = some r ∧ v = .str r := by
        by_cases hb : ∃ n, xv = .bytes n
        · obtain ⟨n, rfl⟩ := hb
          simp [convV] at h3
          exact .inl ⟨n, rfl, h3.symm⟩
        · have h3' : (match cellsOf st' 1 xv with | some (_, cs) => (match ofBytes cs 1 with | some n => some (V.str n) | none => none) | none => none) = some v := by
            cases xv <;> first | exact h3 | exact absurd ⟨_, rfl⟩ hb
          cases hc : cellsOf st' 1 xv with
          | none => simp [hc] at h3'
          | some nc =>
            obtain ⟨n, cs⟩ := nc
            simp only [hc] at h3'
            cases ho : ofBytes cs 1 with
            | none => simp [ho] at h3'
            | some r => simp [ho] at h3'; exact .inr ⟨n, cs, r, rfl, ho, h3'.symm⟩
      rcases two with ⟨n, rfl, rfl⟩ | ⟨n, cs, r, h5, h6, h7⟩
      · simp only [Rep, RepL] at hr
        obtain ⟨b, o, cap, m, l, f1, rfl, f2, f3, f4⟩ := hr
        have hsr : SrcR P g w 1 (a.eval x) l.length (l.map fun b => V.int .u8 b.toNat) := by
          rw [f2]
          exact fz_src hs f1 (by simp) (fun i v hi => by
            cases hb : l[i]? with
            | none => simp [hb] at hi
            | some q => simp [hb] at hi; subst hi; exact f4 i q hb) f3
        refine fin _ _ _ hsr ?_ rfl
        have hof : ∀ (l : List UInt8) (k : Nat), ofBytes (l.map fun b => V.int .u8 b.toNat) k = some (l.foldl (fun a b => a * 256 + b.toNat) k) := by
          intro l
          induction l with
          | nil => intro k; rfl
          | cons q l ih =>
            intro k
            have h8 : Nat.blt q.toNat 256 = true := Nat.ble_eq_true_of_le q.toNat_lt
            show (bif Nat.blt q.toNat 256 then ofBytes (l.map fun b => V.int .u8 b.toNat) (k * 256 + q.toNat) else none) = _
            rw [h8]
            exact ih _
        exact hof l 1
      · exact fin cs n r (cellsOf_spec hs h5 hr) h6 h7
end
end Go.Ai
/-! Operations: comparisons. -/
namespace Go.Ai
open Go
set_option linter.unusedSimpArgs false

section
variable {P : Program} {X : Env} {g g' : G} {st st' : St} {w w' : World} {fr fr' : T V} {log : List Tc} {v : V} {a : Act} {call : CallF} {yield : Nat → List V → St → R}

set_option maxHeartbeats 2000000 in
theorem eqV_spec (hs : Sim P X g st w) (hok : OkX P X) {t : TypeId} {cls : Nat} (hc : clsT P t = some cls) {cst b : Bool} {x y : V} {u u' : Value} (hx : Rep g x u) (hy : Rep g y u') (h : eqV X.ok st cst cls x y = some b) :
    (Op.equal t u u').run P w = .ok b w ∧ (∀ op ox oy, (cst = true → (isC ox || isC oy) = true) → eqGuard op t ox oy u u' = pure ()) ∧
    (∀ tt, binOp .eql tt u u' = (do pure (.bool (← Op.equal tt u u')))) ∧ (∀ tt, binOp .neq tt u u' = (do pure (.bool (!(← Op.equal tt u u'))))) := by
  obtain ⟨d, hd⟩ := maxDepth_succ
  have heq : Op.equal t u u' = Op.equalIn (d + 2) t u u' := by unfold Op.equal; rw [hd]
  rw [heq]
  clear heq hd
  rcases clsT_spec hc with ⟨rfl, hu⟩ | ⟨rfl, e, n, hu, hz⟩ | ⟨rfl, e, hu⟩ | ⟨rfl, k, e, hu⟩ | ⟨rfl, ms, hu⟩
  · -- bool
    cases x <;> simp only [eqV, eq0] at h <;> try cases h
    cases y <;> simp only at h <;> try cases h
    simp only [Rep, RepL] at hx hy
    subst hx hy
    exact ⟨by simp [Op.equalIn, run_underlying hu], fun op ox oy _ => eqGuard_at_bool .., fun tt => rfl, fun tt => rfl⟩
  · -- pointers
    have hp : ∀ (p q : Option Addr), (∀ op ox oy, (cst = true → (isC ox || isC oy) = true) → eqGuard op t ox oy (.pointer p) (.pointer q) = pure ()) ∧
      (∀ tt, binOp .eql tt (.pointer p) (.pointer q) = (do pure (.bool (← Op.equal tt (.pointer p) (.pointer q))))) ∧ (∀ tt, binOp .neq tt (.pointer p) (.pointer q) = (do pure (.bool (!(← Op.equal tt (.pointer p) (.pointer q)))))) :=
      fun p q => ⟨fun op ox oy _ => eqGuard_at_pointer .., fun tt => rfl, fun tt => rfl⟩
    cases x <;> simp only [eqV, eq1] at h <;> try cases h
    case nilp =>
      simp only [Rep, RepL] at hx; subst hx
      cases y <;> simp only at h <;> try cases h
      · simp only [Rep, RepL] at hy; subst hy
        exact ⟨by simp [Op.equalIn, run_underlying hu], hp _ _⟩
      · simp only [Rep, RepL] at hy; obtain ⟨_, _, _, _, rfl⟩ := hy
        exact ⟨by simp [Op.equalIn, run_underlying hu], hp _ _⟩
    case ptr l o =>
      simp only [Rep, RepL] at hx; obtain ⟨b1, s1, t1, h1, rfl⟩ := hx
      cases y <;> simp only at h <;> try cases h
      · simp only [Rep, RepL] at hy; subst hy
        exact ⟨by simp [Op.equalIn, run_underlying hu], hp _ _⟩
      · simp only [Rep, RepL] at hy; obtain ⟨b2, s2, t2, h2, rfl⟩ := hy
        have := eqP_spec hs h h1 h2
        refine ⟨?_, hp _ _⟩
        simp [Op.equalIn, run_underlying hu, run_sizeOf hz, this]
  · -- slices
    have hp : ∀ (p q : Option Addr) (i j k l : Nat), (∀ op ox oy, (cst = true → (isC ox || isC oy) = true) → eqGuard op t ox oy (.slice p i j) (.slice q k l) = pure ()) ∧
      (∀ tt, binOp .eql tt (.slice p i j) (.slice q k l) = (do pure (.bool (← Op.equal tt (.slice p i j) (.slice q k l))))) ∧ (∀ tt, binOp .neq tt (.slice p i j) (.slice q k l) = (do pure (.bool (!(← Op.equal tt (.slice p i j) (.slice q k l)))))) :=
      fun p q i j k l => ⟨fun op ox oy _ => eqGuard_at_slice .., fun tt => rfl, fun tt => rfl⟩
    have hn : ∀ {z : V} {q : Value} {b : Bool}, isNils z = some b → Rep g z q → ∃ p i j, q = .slice p i j ∧ p.isNone = b := by
      intro z q b hz hq
      cases z <;> simp only [isNils] at hz <;> try cases hz
      all_goals
        simp only [Rep, RepL] at hq
        first
          | (subst hq; exact ⟨_, _, _, rfl, rfl⟩)
          | (obtain ⟨_, rfl⟩ := hq; exact ⟨_, _, _, rfl, rfl⟩)
          | (obtain ⟨_, _, _, _, _, rfl, _⟩ := hq; exact ⟨_, _, _, rfl, rfl⟩)
    simp only [eqV, eq2] at h
    cases h1 : isNils x with
    | none => simp [h1] at h
    | some p =>
      cases h2 : isNils y with
      | none => cases p <;> simp [h1, h2] at h
      | some q =>
        simp only [h1, h2] at h
        obtain ⟨pa, i, j, rfl, h3⟩ := hn h1 hx
        obtain ⟨qa, k, l, rfl, h4⟩ := hn h2 hy
        refine ⟨?_, hp ..⟩
        cases pa <;> cases qa <;> simp at h3 h4 <;> subst h3 h4 <;> simp at h <;> subst h <;> simp [Op.equalIn, run_underlying hu]
  · -- maps
    have hp : ∀ (p q : Option Nat), (∀ op ox oy, (cst = true → (isC ox || isC oy) = true) → eqGuard op t ox oy (.map p) (.map q) = pure ()) ∧
      (∀ tt, binOp .eql tt (.map p) (.map q) = (do pure (.bool (← Op.equal tt (.map p) (.map q))))) ∧ (∀ tt, binOp .neq tt (.map p) (.map q) = (do pure (.bool (!(← Op.equal tt (.map p) (.map q)))))) :=
      fun p q => ⟨fun op ox oy _ => eqGuard_at_map .., fun tt => rfl, fun tt => rfl⟩
    cases x <;> simp only [eqV, eq3] at h <;> try cases h
    all_goals
      cases y <;> simp only at h <;> try cases h
      all_goals
        simp only [Rep, RepL] at hx hy
        first | subst hx | (obtain ⟨_, _, _, rfl⟩ := hx)
        first | subst hy | (obtain ⟨_, _, _, rfl⟩ := hy)
        exact ⟨by simp [Op.equalIn, run_underlying hu], hp ..⟩
  · -- interfaces
    cases x <;> simp only [eqV, eq4] at h <;> try cases h
    case nili =>
      simp only [Rep, RepL] at hx; subst hx
      cases y <;> simp only at h <;> try cases h
      · simp only [Rep, RepL] at hy; subst hy
        cases hcst : cst <;> simp [hcst] at h
        subst h
        refine ⟨by simp [Op.equalIn, run_underlying hu], fun op ox oy hh => ?_, fun tt => rfl, fun tt => rfl⟩
        have := hh rfl
        cases ox <;> cases oy <;> simp [isC] at this <;> first | exact eqGuard_nil_constL .. | exact eqGuard_nil_constR ..
      · simp only [Rep] at hy; obtain ⟨_, rfl, _⟩ := hy
        exact ⟨by simp [Op.equalIn, run_underlying hu], fun op ox oy _ => eqGuard_nil_iface .., fun tt => rfl, fun tt => rfl⟩
    case iface tx xv =>
      simp only [Rep] at hx; obtain ⟨ux, rfl, hx⟩ := hx
      have hp : ∀ (q : Value), (∀ op ox oy, (cst = true → (isC ox || isC oy) = true) → eqGuard op t ox oy (.iface tx ux) q = pure ()) :=
        fun q op ox oy _ => eqGuard_at_iface ..
      cases y <;> simp only at h <;> try cases h
      · simp only [Rep, RepL] at hy; subst hy
        exact ⟨by simp [Op.equalIn, run_underlying hu], hp _, fun tt => rfl, fun tt => rfl⟩
      · rename_i ty yv
        simp only [Rep] at hy; obtain ⟨uy, rfl, hy⟩ := hy
        refine ⟨?_, hp _, fun tt => rfl, fun tt => rfl⟩
        cases htt : Nat.beq tx ty with
        | false =>
          simp [htt] at h; subst h
          have : tx ≠ ty := fun e => by subst e; simp at htt
          simp [Op.equalIn, run_underlying hu, this]
        | true =>
          have := beqT htt
          subst this
          simp only [htt, cond_true] at h
          cases xv <;> (try simp only at h) <;> try cases h
          cases yv <;> (try simp only at h) <;> try cases h
          rename_i l1 o1 l2 o2
          cases hk : X.ok tx with
          | false => simp [hk] at h
          | true =>
            simp only [hk, cond_true] at h
            obtain ⟨i, e, n, hi, hcmp, hue, hz⟩ := hok tx hk
            simp only [Rep, RepL] at hx hy
            obtain ⟨b1, s1, t1, h1, rfl⟩ := hx
            obtain ⟨b2, s2, t2, h2, rfl⟩ := hy
            have := eqP_spec hs h h1 h2
            simp [Op.equalIn, run_underlying hu, typeInfo, hi, hcmp, Op.equalIn, run_underlying hue, run_sizeOf hz, this]

theorem did_eq (hs : Sim P X g st w) (hok : OkX P X) (hf : FrR g st w fr a.tmps) {neg : Bool} {op : BinOp} (hop : op = if neg then .neq else .eql) {t : TypeId} {cls : Nat} (hc : clsT P t = some cls) {x y : Operand}
    (h : runOp X call yield fr st (o2 (.eq neg (isC x || isC y) cls) x y) = some (v, st', log, fr')) :
    DidV P X g st w fr a.tmps (do eqGuard op t x y (a.eval x) (a.eval y); binOp op t (a.eval x) (a.eval y)) v st' fr' := by
  obtain ⟨x', y', hx, hy, h⟩ := o2_run h
  simp only [runOp] at h
  cases h1 : ev fr x' with
  | none => simp [h1] at h
  | some xv =>
    cases h2 : ev fr y' with
    | none => simp [h1, h2] at h
    | some yv =>
      simp only [h1, h2] at h
      cases h3 : eqV X.ok st (isC x || isC y) cls xv yv with
      | none => simp [h3] at h
      | some b =>
        simp [h3] at h
        obtain ⟨rfl, rfl, _, rfl⟩ := h
        obtain ⟨h4, h5, h6, h7⟩ := eqV_spec hs hok hc (ev_sound hf hx h1).1 (ev_sound hf hy h2).1 h3
        refine DidV.same hs hf (u := .bool (neg != b)) ?_ (by simp [Rep, RepL]) rfl
        rw [h5 op x y (fun h => h)]
        cases neg with
        | true => simp at hop; subst hop; simp [h7, h4]
        | false => simp at hop; subst hop; simp [h6, h4]
end
end Go.Ai
/-! Operations: the sum of them. -/
namespace Go.Ai
open Go
set_option linter.unusedSimpArgs false

def noCall : IOp → Bool
  | .call .. | .callv .. => false
  | _ => true

section
variable {P : Program} {X : Env} {g g' : G} {st st' : St} {w w' : World} {fr fr' : T V} {log : List Tc} {v : V} {a : Act} {call : CallF} {yield : Nat → List V → St → R}

theorem bad_none {r : V × St × List Tc × T V} (h : runOp X call yield fr st .bad = some r) : False := by simp [runOp] at h

theorem builtin_exec {o : Oper} {c : Call} {b : Builtin} (ho : o.op = .call c) (hc : c.callee = .builtin b) {s : Sem Value} (hs : builtin b c.argTypes o.type (c.args.map fun | .const _ => true | _ => false) (c.args.map a.eval) = (do pure (.value (← s)))) :
    execOp a.eval o = (do pure (.value (← s))) := by
  simp only [execOp, ho, resolve, hc]
  show Sem.bind (Sem.pure _) _ = _
  simp only [Sem.bind, invoke]
  exact hs
theorem map1 {α β : Type} (f : α → β) (x : α) : (#[x]).map f = #[f x] := by simp
theorem map2 {α β : Type} (f : α → β) (x y : α) : (#[x, y]).map f = #[f x, f y] := by simp
theorem arr1 {α : Type} {x : Array α} {y : α} (h : x.toList = [y]) : x = #[y] := Array.ext' h
theorem arr2 {α : Type} {x : Array α} {y z : α} (h : x.toList = [y, z]) : x = #[y, z] := Array.ext' h

theorem builtin_sound (hs : Sim P X g st w) (hf : FrR g st w fr a.tmps) {o : Oper} {c : Call} {b : Builtin} (ho : o.op = .call c) (hc : c.callee = .builtin b)
    (h : runOp X call yield fr st (cCall P c) = some (v, st', log, fr')) : Did P X g st w fr a.tmps (execOp a.eval o) v st' fr' := by
  simp only [cCall, hc] at h
  split at h
  · -- append
    rename_i x y t t2 e1 e2
    rw [builtin_exec (s := Builtin.append_ c.argTypes o.type (c.args.map a.eval)) ho hc rfl, arr2 e1, arr2 e2, map2]
    split at h
    · rename_i sz bts zs e' hz hu
      exact Did.ofV (did_app hs hf hz (.inl ⟨rfl, e', hu⟩) h)
    · rename_i sz bts zs e' hz hu
      exact Did.ofV (did_app hs hf hz (.inr ⟨rfl, e', hu⟩) h)
    · exact (bad_none h).elim
  · rename_i x t e1 e2
    rw [builtin_exec (s := Builtin.len_ c.argTypes o.type (c.args.map a.eval)) ho hc rfl, arr1 e1, arr1 e2, map1]
    split at h
    · rename_i hu; exact Did.ofV (did_len hs hf (.inl ⟨rfl, hu⟩) h)
    · rename_i e hu; exact Did.ofV (did_len hs hf (.inr (.inl ⟨rfl, e, hu⟩)) h)
    · rename_i m e hu; exact Did.ofV (did_len hs hf (.inr (.inr ⟨rfl, m, e, hu⟩)) h)
    · exact (bad_none h).elim
  · rename_i x t e1 e2
    rw [builtin_exec (s := Builtin.cap_ c.argTypes o.type (c.args.map a.eval)) ho hc rfl, arr1 e1, arr1 e2, map1]
    split at h
    · rename_i e hu; exact Did.ofV (did_cap hs hf hu h)
    · exact (bad_none h).elim
  · rename_i x t e1 e2
    rw [builtin_exec (s := Builtin.clear_ c.argTypes o.type (c.args.map a.eval)) ho hc rfl, arr1 e1, arr1 e2, map1]
    split at h
    · rename_i sz bts zs hz; exact Did.ofV (did_clear hs hf hz h)
    · exact (bad_none h).elim
  · rename_i x xs e1
    rw [builtin_exec (s := Builtin.min_ c.argTypes o.type (c.args.map a.eval)) ho hc rfl]
    split at h
    · rename_i ys hy
      exact Did.ofV (did_min hs hf (by unfold cOpds; rw [e1]; exact hy) h)
    · exact (bad_none h).elim
  · exact (bad_none h).elim

theorem op_sound (hs : Sim P X g st w) (hok : OkX P X) (hf : FrR g st w fr a.tmps) {pm : List Nat} {o : Oper} (hnc : ∀ c x, o.op = .call c → c.callee ≠ .value x)
    (h : runOp X call yield fr st (cOp P pm o) = some (v, st', log, fr')) : Did P X g st w fr a.tmps (execOp a.eval o) v st' fr' := by
  unfold cOp at h
  cases hop : o.op <;> simp only [hop] at h <;> try exact (bad_none h).elim
  case move x => simp only [execOp, hop]; exact Did.ofV (did_mv hs hf h)
  case assign x => simp only [execOp, hop]; exact Did.ofV (did_mv hs hf h)
  case pick c x y =>
    split at h
    · rename_i h1 h2 h3
      obtain ⟨u, w', g', h4, h5⟩ := did_pick hs hf h1 h2 h3 h
      refine ⟨u, w', g', .inl ?_, h5⟩
      simp only [execOp, hop]
      simp only [Sem.run_bind] at h4 ⊢
      cases hb : (asBool (a.eval c)).run P w with
      | halt q w => simp [hb] at h4
      | ok b w =>
        simp only [hb, Result.andThen_ok, Sem.run_pure] at h4 ⊢
        cases h4; rfl
    · exact (bad_none h).elim
  case alloc t =>
    split at h
    · rename_i h1; simp only [execOp, hop]; exact Did.ofV (did_alloc hs hf h1 h)
    · exact (bad_none h).elim
  case box t x => simp only [execOp, hop]; exact Did.ofV (did_box hs hf h)
  case build t ps =>
    split at h
    · rename_i fs zs qs h1 h2 h3
      cases hall : fs.toList.all (fun f => (P.info? f.type).isSome) with
      | false => simp only [hall, cond_false] at h; exact (bad_none h).elim
      | true =>
        simp only [hall, cond_true] at h
        simp only [execOp, hop]; exact Did.ofV (did_build hs hf h1 h2 h3 hall h)
    · exact (bad_none h).elim
  case buildSlice t len ps =>
    split at h
    · rename_i sz bts zs qs h1 h2
      cases hcap : Nat.ble (len * sz) 16777216 with
      | false => simp only [hcap, cond_false] at h; exact (bad_none h).elim
      | true =>
        simp only [hcap, cond_true] at h
        simp only [execOp, hop]; exact Did.ofV (did_bslice hs hf h1 h2 hcap h)
    · exact (bad_none h).elim
  case load t x =>
    split at h
    · rename_i n b h1 h2
      obtain ⟨y, hy, h⟩ := o1_run h
      simp only [runOp] at h
      obtain ⟨v1, st1, lg, h3, h4⟩ := r1_some h
      simp only [Prod.mk.injEq] at h4
      obtain ⟨rfl, rfl, _, rfl⟩ := h4
      obtain ⟨rfl, h5, u, h6, h7⟩ := runLoad_sound hs hf h1 h2 hy h3
      simp only [execOp, hop]
      exact Did.ofV (DidV.same hs hf h6 h7 h5)
    · exact (bad_none h).elim
  case store t x y =>
    split at h
    · rename_i n h1
      obtain ⟨rfl, h2⟩ := did_store hs hf h1 h
      simp only [execOp, hop]; exact Did.ofU h2
    · exact (bad_none h).elim
  case nilCheck x => exact did_nilc hs hf hop h
  case binOp op t x y dst =>
    simp only [execOp, hop]
    unfold cBin at h
    cases hsc : scalT P t with
    | true => simp only [hsc, cond_true] at h; exact Did.ofV (did_bin hs hf h)
    | false =>
      simp only [hsc, cond_false] at h
      split at h
      · split at h
        · rename_i c hc; exact Did.ofV (did_eq hs hok hf (neg := false) rfl hc h)
        · exact (bad_none h).elim
      · split at h
        · rename_i c hc; exact Did.ofV (did_eq hs hok hf (neg := true) rfl hc h)
        · exact (bad_none h).elim
      · exact (bad_none h).elim
  case unOp op t x => simp only [execOp, hop]; exact Did.ofV (did_un hs hf h)
  case convert s d x =>
    split at h
    · rename_i k h1; simp only [execOp, hop]; exact Did.ofV (did_conv hs hf h1 h)
    · exact (bad_none h).elim
  case makeInterface t x =>
    split at h
    · exact (bad_none h).elim
    · rename_i d h1 h2
      simp only [execOp, hop]; exact Did.ofV (did_mki hs hf h2 h1 h)
    · exact (bad_none h).elim
  case makeFunc f xs ys =>
    cases f <;> simp only at h <;> try exact (bad_none h).elim
    split at h
    · rename_i h1 h2; simp only [execOp, hop]; exact Did.ofV (did_mkf hs hf h1 h2 h)
    · exact (bad_none h).elim
  case makeMap t r =>
    cases r with
    | none => simp only [execOp, hop]; exact Did.ofV (did_mkm hs hf h)
    | some r => exact (bad_none h).elim
  case makeSlice t l c =>
    split at h
    · rename_i h1; simp only [execOp, hop]; exact Did.ofV (did_mks hs hf h1 h)
    · exact (bad_none h).elim
  case slice t x lo hi mx =>
    split at h
    · rename_i h1 h2 h3 h4
      simp only [execOp, hop]
      split at h
      · rename_i hu; exact Did.ofV (did_slice hs hf (.inl ⟨hu, rfl⟩) h1 h2 h3 h4 h)
      · rename_i e hu
        split at h
        · rename_i n hn; exact Did.ofV (did_slice hs hf (.inr ⟨e, n, hu, hn, rfl⟩) h1 h2 h3 h4 h)
        · exact (bad_none h).elim
      · exact (bad_none h).elim
    · exact (bad_none h).elim
  case fieldAddr t x f =>
    split at h
    · rename_i off ft h1
      split at h
      · rename_i n h2; simp only [execOp, hop]; exact Did.ofV (did_fa hs hf h1 h2 h)
      · exact (bad_none h).elim
    · exact (bad_none h).elim
  case field t x f =>
    split at h
    · rename_i off ft h1
      split at h
      · rename_i n b h2 h3; simp only [execOp, hop]; exact Did.ofV (did_fld hs hf h1 h2 h3 h)
      · exact (bad_none h).elim
    · exact (bad_none h).elim
  case indexAddr t x i =>
    split at h
    · rename_i e h1
      split at h
      · rename_i n h2; simp only [execOp, hop]; exact Did.ofV (did_ia hs hf (elemT_spec h1) h2 h)
      · exact (bad_none h).elim
    · exact (bad_none h).elim
  case index t x i =>
    split at h
    · rename_i h1; simp only [execOp, hop]; exact Did.ofV (did_ix hs hf h1 h)
    · exact (bad_none h).elim
  case lookup t x i ok =>
    split at h
    · rename_i k e hu
      split at h
      · rename_i h1 h2 h3 h4; simp only [execOp, hop]; exact Did.ofV (did_look hs hf hu (keyT_spec h1) h2 h3 h4 h)
      · exact (bad_none h).elim
    · exact (bad_none h).elim
  case mapUpdate t m k x =>
    split at h
    · rename_i kt e hu
      split at h
      · rename_i h1 h2 h3 h4
        obtain ⟨rfl, h5⟩ := did_mput hs hf hu (keyT_spec h1) h2 h3 h4 h
        simp only [execOp, hop]; exact Did.ofU h5
      · exact (bad_none h).elim
    · exact (bad_none h).elim
  case range t x =>
    split at h
    · rename_i k e hu; simp only [execOp, hop]; exact Did.ofV (did_rng hs hf hu h)
    · exact (bad_none h).elim
  case next x b =>
    cases b with
    | true => exact (bad_none h).elim
    | false => simp only [execOp, hop]; exact Did.ofV (did_nxt hs hf h)
  case typeAssert x t0 t ok =>
    cases ok with
    | false => exact (bad_none h).elim
    | true =>
      simp only at h
      split at h
      · exact (bad_none h).elim
      · rename_i d z h1 h2 h3
        simp only [execOp, hop]; exact Did.ofV (did_tas hs hf h2 h1 h3 h)
      · exact (bad_none h).elim
  case extract x i => simp only [execOp, hop]; exact Did.ofV (did_ext hs hf h)
  case call c =>
    cases hcal : c.callee with
    | builtin b => exact builtin_sound hs hf hop hcal h
    | value x => exact absurd hcal (hnc c x hop)
    | invoke r n => simp only [cCall, hcal] at h; exact (bad_none h).elim
end
end Go.Ai
/-! Operations in the model's calculus; calls. -/
namespace Go.Ai
open Go
set_option linter.unusedSimpArgs false

structure Wide (F : Fence) : Prop where
  fn : ∀ f, F.fn f
  depth : F.depth = none

/-- what a call ends in -/
def CallPost (P : Program) (X : Env) (g : G) (st : St) (w : World) (v : V) (st' : St) : Ending → World → Prop :=
  fun e w' => ∃ u g', e = .returned u ∧ Step P X g st w g' st' w' ∧ Rep g' v u
def CallAt (P : Program) (X : Env) (F : Fence) (f : FuncId) (us : Array Value) (g : G) (st : St) (w : World) (v : V) (st' : St) : Prop :=
  (∃ u w' g', (callFunc f us).run P w = .ok (.value u) w' ∧ Step P X g st w g' st' w' ∧ Rep g' v u) ∨
  ((callFunc f us).run P w = .ok (.enter f us) w ∧ CallsIn F 0 P f us w (CallPost P X g st w v st'))
def CallOk (P : Program) (X : Env) (F : Fence) (call : CallF) : Prop :=
  ∀ f vs st v st' log, call f vs st = some (v, st', log) → ∀ g w (us : Array Value), Sim P X g st w → Reps g vs us.toList → CallAt P X F f us g st w v st'
def YieldOk (P : Program) (X : Env) (F : Fence) (yield : Nat → List V → St → R) : Prop :=
  ∀ l vs st v st' log, yield l vs st = some (v, st', log) → ∀ g w (us : Array Value) b top, Sim P X g st w → Reps g vs us.toList → g.loc l = some (b, 0, top) →
    ∃ f tmps assign body, (Instr.yield b us).run P w = .ok (.round b f tmps assign body) w ∧ RoundIn F 0 P b f tmps assign body w (CallPost P X g st w v st')

def OpPost (P : Program) (X : Env) (g : G) (st : St) (w : World) (fr : T V) (d : Option Nat) (a : Act) (v : V) (st' : St) (fr' : T V) (a1 : Act) (w1 : World) : Prop :=
  ∃ u g', a1 = a.put d u ∧ Hop P X g st w fr g' st' w1 fr' ∧ VR g' st' w1 v u ∧ (Fresh fr' v ∧ New st v) ∧ FrR g' st' w1 fr' a.tmps

section
variable {P : Program} {X : Env} {F : Fence} {g g' : G} {st st' : St} {w w' : World} {fr fr' : T V} {log : List Tc} {v : V} {a : Act} {call : CallF} {yield : Nat → List V → St → R}

theorem OpPost.ofStep (hs : Sim P X g st w) (hf : FrR g st w fr a.tmps) {d : Option Nat} {u : Value} (h : Step P X g st w g' st' w') (hr : Rep g' v u) : OpPost P X g st w fr d a v st' fr (a.put d u) w' :=
  ⟨u, g', rfl, .ofStep h, (VR_plain (rep_plain hr)).2 hr, ⟨Fresh.plain (rep_plain hr), New.plain (rep_plain hr)⟩, hf.step hs h⟩

theorem callAt_wp (hW : Wide F) (hs : Sim P X g st w) (hf : FrR g st w fr a.tmps) {o : Oper} {c : Call} (ho : o.op = .call c) {f : FuncId} {us : Array Value} (hrun : (execOp a.eval o).run P w = (callFunc f us).run P w)
    (h : CallAt P X F f us g st w v st') {K : Act → World → Prop} {Q : Exit → Act → World → Prop} (hK : ∀ a1 w1, OpPost P X g st w fr o.dst a v st' fr a1 w1 → K a1 w1) : o.wpIn F 0 P a w K Q := by
  refine ⟨fun f _ => hW.fn f, ?_⟩
  rw [Oper.semAt_eq _ _ _ (fun c e => by rw [ho] at e; cases e), hrun]
  rcases h with ⟨u, w', g', h1, h2, h3⟩ | ⟨h1, h2⟩
  · rw [h1, Oper.uponIn_value]
    exact hK _ _ (.ofStep hs hf h2 h3)
  · rw [h1, Oper.uponIn_enter]
    refine ⟨(fun hd => by rw [hW.depth] at hd; cases hd), CallsIn.mono h2 fun e w'' he => ?_⟩
    obtain ⟨u, g', rfl, h3, h4⟩ := he
    exact hK _ _ (.ofStep hs hf h3 h4)

theorem op_wp (hW : Wide F) (hs : Sim P X g st w) (hok : OkX P X) (hcall : CallOk P X F call) (hyield : YieldOk P X F yield) (hf : FrR g st w fr a.tmps) {pm : List Nat} {o : Oper}
    (h : runOp X call yield fr st (cOp P pm o) = some (v, st', log, fr')) {K : Act → World → Prop} {Q : Exit → Act → World → Prop} (hK : ∀ a1 w1, OpPost P X g st w fr o.dst a v st' fr' a1 w1 → K a1 w1) : o.wpIn F 0 P a w K Q := by
  by_cases hnc : ∀ c x, o.op = .call c → c.callee ≠ .value x
  · -- no call
    have hnd : ∀ c, o.op ≠ .defer c := fun c e => by simp only [cOp, e] at h; exact (bad_none h).elim
    obtain ⟨u, w', g', h1, h2, h3, h4, h5⟩ := op_sound hs hok hf hnc h
    refine ⟨fun f _ => hW.fn f, ?_⟩
    rw [Oper.semAt_eq _ _ _ hnd]
    rcases h1 with h1 | ⟨h1, rfl⟩
    · rw [h1, Oper.uponIn_value]; exact hK _ _ ⟨u, g', rfl, h2, h3, h4, h5⟩
    · rw [h1, Oper.uponIn_skip]; exact hK _ _ ⟨undef, g', rfl, h2, h3, h4, h5⟩
  · -- a call
    have hcv : ∃ c x, o.op = .call c ∧ c.callee = .value x := by
      apply Classical.byContradiction
      intro hn
      exact hnc fun c x e1 e2 => hn ⟨c, x, e1, e2⟩
    obtain ⟨c, x0, ho, hx0⟩ := hcv
    simp only [cOp, ho, cCall] at h
    split at h
    · -- a function by its name
      rename_i f hc
      split at h
      · rename_i xs hxs
        simp only [runOp] at h
        cases h1 : evs fr xs with
        | none => simp [h1] at h
        | some vs =>
          simp only [h1] at h
          obtain ⟨v', st1, lg, h2, h3⟩ := r1_some h
          simp only [Prod.mk.injEq] at h3
          obtain ⟨rfl, rfl, _, rfl⟩ := h3
          have hr := evs_sound hf hxs h1
          refine callAt_wp hW hs hf ho (f := f) (us := c.args.map a.eval) ?_ (hcall _ _ _ _ _ _ h2 g w _ hs hr) hK
          simp only [execOp, ho, resolve, hc, Act.eval, Deferred.ofValue]
          show (Sem.bind (Sem.pure _) _).run P w = _
          simp [Sem.bind, invoke]
      · exact (bad_none h).elim
    · -- a function's value
      rename_i x hnf hc
      split at h
      · rename_i y ys hy hys
        simp only [runOp] at h
        cases h0 : ev fr y with
        | none => simp [h0] at h
        | some xv =>
          cases h1 : evs fr ys with
          | none => simp [h0, h1] at h
          | some vs =>
            simp only [h0, h1] at h
            obtain ⟨v', st1, lg, h2, h3⟩ := r1_some h
            simp only [Prod.mk.injEq] at h3
            obtain ⟨rfl, rfl, _, rfl⟩ := h3
            have hr := evs_sound hf hys h1
            have hx := (ev_sound hf hy h0).1
            cases xv <;> simp only [callVal] at h2 <;> try (cases h2; done)
            rename_i fn first cap
            simp only [Rep] at hx
            obtain ⟨f', a', c', hxe, hfn, hra, hrc⟩ := hx
            cases fn <;> (try simp only [callVal] at h2) <;> try (cases h2; done)
            case func f =>
              simp only [FnR] at hfn
              subst hfn
              have hargs : Reps g (first ++ vs ++ cap) (a' ++ c.args.map a.eval ++ c').toList := by
                simp only [Array.toList_append]
                exact Reps_append (Reps_append hra hr) hrc
              refine callAt_wp hW hs hf ho (f := f) (us := a' ++ c.args.map a.eval ++ c') ?_ (hcall _ _ _ _ _ _ h2 g w _ hs hargs) hK
              simp only [execOp, ho, resolve, hc, hxe, Deferred.ofValue]
              show (Sem.bind (Sem.pure _) _).run P w = _
              simp only [Sem.bind, invoke]
            case yield l =>
              simp only [FnR] at hfn
              obtain ⟨b, top, hl, rfl⟩ := hfn
              cases first with
              | cons _ _ => simp at h2
              | nil =>
                cases cap with
                | cons _ _ => simp at h2
                | nil =>
                  simp only at h2
                  simp only [Reps] at hra hrc
                  have ha' : a' = #[] := Array.ext' hra
                  have hc' : c' = #[] := Array.ext' hrc
                  subst ha' hc'
                  obtain ⟨f, tmps, assign, body, h3, h4⟩ := hyield _ _ _ _ _ _ h2 g w _ b top hs hr hl
                  refine ⟨fun f _ => hW.fn f, ?_⟩
                  rw [Oper.semAt_eq _ _ _ (fun c e => by rw [ho] at e; cases e)]
                  have hrun : (execOp a.eval o).run P w = .ok (.round b f tmps assign body) w := by
                    rw [← h3]
                    simp only [execOp, ho, resolve, hc, hxe, Deferred.ofValue]
                    show (Sem.bind (Sem.pure _) _).run P w = _
                    simp [Sem.bind, invoke]
                  rw [hrun, Oper.uponIn_round]
                  refine ⟨(fun hd => by rw [hW.depth] at hd; cases hd), RoundIn.mono h4 fun e w'' he => ?_⟩
                  obtain ⟨u, g', rfl, h5, h6⟩ := he
                  exact hK _ _ (.ofStep hs hf h5 h6)
      · exact (bad_none h).elim
    · exact (bad_none h).elim
    · rename_i b hb
      rw [hx0] at hb; cases hb
end
end Go.Ai
/-! Regions that do not draw. -/
namespace Go.Ai
open Go
set_option linter.unusedSimpArgs false

/-- what a piece of a frame's code leaves behind -/
def RegPost (P : Program) (X : Env) (g : G) (st : St) (w : World) (fr : T V) (a : Act) (st' : St) (fr' : T V) (a' : Act) (w' : World) : Prop :=
  ∃ g', Hop P X g st w fr g' st' w' fr' ∧ FrR g' st' w' fr' a'.tmps ∧ a'.tmps.size = a.tmps.size ∧ a'.defers = a.defers

section
variable {P : Program} {X : Env} {F : Fence} {g g' : G} {st st' st'' : St} {w w' w'' : World} {fr fr' fr'' : T V} {log : List Tc} {v : V} {a a' a'' : Act} {call : CallF} {yield : Nat → List V → St → R}

theorem put_size (d : Option Nat) (u : Value) : (a.put d u).tmps.size = a.tmps.size := by cases d <;> simp [Act.put]
theorem put_defers (d : Option Nat) (u : Value) : (a.put d u).defers = a.defers := by cases d <;> simp [Act.put]
theorem FrR.put' (hf : FrR g st w fr a.tmps) {d : Option Nat} (hd : ∀ i, d = some i → i < a.tmps.size) {u : Value} (hv : VR g st w v u) (hfr : Fresh fr v) : FrR g st w (Go.Ai.put fr d v) (a.put d u).tmps := by
  cases d with
  | none => simpa [Go.Ai.put, Act.put] using hf
  | some d =>
    have := hf.set (hd d rfl) hv hfr
    simpa [Go.Ai.put, Act.put] using this
theorem Hop.put' {d : Option Nat} (h : Hop P X g st w fr g' st' w' fr') (hn : New st v) : Hop P X g st w fr g' st' w' (Go.Ai.put fr' d v) := by
  cases d with
  | none => exact h
  | some d => exact h.put hn
theorem OpPost.reg {d : Option Nat} (hd : ∀ i, d = some i → i < a.tmps.size) (h : OpPost P X g st w fr d a v st' fr' a' w') : RegPost P X g st w fr a st' (put fr' d v) a' w' := by
  obtain ⟨u, g', rfl, h1, h2, ⟨h3, h3'⟩, h4⟩ := h
  exact ⟨g', h1.put' h3', h4.put' hd h2 h3, put_size .., put_defers ..⟩
theorem RegPost.refl (hs : Sim P X g st w) (hf : FrR g st w fr a.tmps) : RegPost P X g st w fr a st fr a w := ⟨g, .ofStep (Step.refl hs), hf, rfl, rfl⟩
theorem RegPost.trans (hs : Sim P X g st w) {g1 : G} (h1 : Hop P X g st w fr g1 st' w' fr') (hz : a'.tmps.size = a.tmps.size) (hd : a'.defers = a.defers) (h : RegPost P X g1 st' w' fr' a' st'' fr'' a'' w'') :
    RegPost P X g st w fr a st'' fr'' a'' w'' := by
  obtain ⟨g2, h2, h3, h4, h5⟩ := h
  exact ⟨g2, Hop.trans hs h1 h2, h3, h4.trans hz, h5.trans hd⟩

theorem wanted_spec (hf : FrR g st w fr a.tmps) {ops : Array Oper} {o : Oper} {gd : Option (Nat × Bool)} (hg : cGuard ops o.guard = some gd) {b : Bool} (h : wantedV fr gd = some b) : Region.wanted o (yielded ops a.tmps) = b := by
  unfold cGuard at hg
  cases hog : o.guard with
  | none =>
    simp [hog] at hg; subst hg
    simp [wantedV] at h; subst h
    simp [Region.wanted, hog]
  | some jb =>
    obtain ⟨j, c⟩ := jb
    simp only [hog] at hg
    cases hj : ops[j]? with
    | none => simp [hj] at hg
    | some oj =>
      simp only [hj] at hg
      cases hdst : oj.dst with
      | none => simp [hdst] at hg
      | some d =>
        simp [hdst] at hg; subst hg
        simp only [wantedV] at h
        cases hget : fr.get d with
        | none => simp [hget] at h
        | some x =>
          obtain ⟨hlt, hvr⟩ := hf.val d x hget
          have hD : a.tmps[d]? = some (a.tmps.getD d undef) := by simp [Array.getD, hlt]
          cases x <;> simp only [hget] at h <;> try (cases h; done)
          case bool q =>
            simp at h; subst h
            simp only [VR, Rep, RepL] at hvr
            rw [hvr] at hD
            simp [Region.wanted, hog, yielded, hj, hdst, hD]
          case junk =>
            simp at h; subst h
            simp only [VR, Rep, RepL] at hvr
            rw [hvr] at hD
            simp [Region.wanted, hog, yielded, hj, hdst, hD, undef]

theorem cOper_spec {nt : Nat} {pm : List Nat} {ops : Array Oper} {o : Oper} :
    (cOper P nt pm ops o).op = .bad ∧ (cOper P nt pm ops o).guard = none ∨
    ((cOper P nt pm ops o).op = cOp P pm o ∧ (∀ i, o.dst = some i → i < nt) ∧ (cOper P nt pm ops o).dst = o.dst ∧ ∃ gd, cGuard ops o.guard = some gd ∧ (cOper P nt pm ops o).guard = gd) := by
  unfold cOper
  cases hd : dstOk nt o.dst with
  | false => exact .inl ⟨rfl, rfl⟩
  | true =>
    cases hg : cGuard ops o.guard with
    | none => exact .inl ⟨rfl, rfl⟩
    | some gd =>
      refine .inr ⟨rfl, fun i hi => ?_, rfl, gd, rfl, rfl⟩
      rw [hi] at hd
      exact bltT hd
theorem runOps_wp (hW : Wide F) (hok : OkX P X) (hcall : CallOk P X F call) (hyield : YieldOk P X F yield) {nt : Nat} {pm : List Nat} {ops : Array Oper} {Q : Exit → Act → World → Prop} :
    ∀ (os : List Oper) (k : Nat), ops.toList.drop k = os → ∀ (fr : T V) (st : St) (g : G) (w : World) (a : Act), Sim P X g st w → FrR g st w fr a.tmps → a.tmps.size = nt →
      runOps X call yield (os.map (cOper P nt pm ops)) fr st = some (fr', st') → (∀ a' w', RegPost P X g st w fr a st' fr' a' w' → Q .normal a' w') → wpOpsIn F 0 P ops Q (List.range' k os.length) a w
  | [], k, _, fr, st, g, w, a, hs, hf, hz, h, hQ => by
    simp [runOps] at h
    obtain ⟨rfl, rfl⟩ := h
    exact hQ _ _ (.refl hs hf)
  | o :: os, k, hdrop, fr, st, g, w, a, hs, hf, hz, h, hQ => by
    have hk : ops[k]? = some o := by
      have := congrArg (fun l => l[0]?) hdrop
      simpa using this
    have hdrop' : ops.toList.drop (k + 1) = os := by
      rw [← List.tail_drop, hdrop]; rfl
    simp only [List.map_cons, runOps] at h
    simp only [List.length_cons, List.range'_succ, wpOpsIn, hk]
    rcases cOper_spec (P := P) (nt := nt) (pm := pm) (ops := ops) (o := o) with ⟨e1, e2⟩ | ⟨h1, h2, h3, gd, h4, h5⟩
    · simp [e1, e2, wantedV, runOp] at h
    rw [h1, h3, h5] at h
    have hd : ∀ i, o.dst = some i → i < a.tmps.size := fun i hi => by rw [hz]; exact h2 i hi
    cases hw : wantedV fr gd with
    | none => simp [hw] at h
    | some b =>
      rw [wanted_spec hf h4 hw]
      cases b with
      | true =>
        simp only [hw] at h
        rw [if_pos rfl]
        cases hr : runOp X call yield fr st (cOp P pm o) with
        | none => simp [hr] at h
        | some r =>
          obtain ⟨v, st1, lg, fr1⟩ := r
          simp only [hr] at h
          refine op_wp hW hs hok hcall hyield hf hr fun a1 w1 hp => ?_
          obtain ⟨g1, e1, e2, e3, e4⟩ := hp.reg hd
          exact runOps_wp hW hok hcall hyield os (k + 1) hdrop' _ _ g1 w1 a1 e1.sim e2 (e3.trans hz) h fun a' w' hq => hQ a' w' (RegPost.trans hs e1 e3 e4 hq)
      | false =>
        simp only [hw] at h
        rw [if_neg (by simp)]
        have hp : OpPost P X g st w fr o.dst a .junk st fr (a.put o.dst undef) w := OpPost.ofStep hs hf (Step.refl hs) (by simp [Rep, RepL])
        obtain ⟨g1, e1, e2, e3, e4⟩ := hp.reg hd
        exact ⟨fun f _ => hW.fn f, runOps_wp hW hok hcall hyield os (k + 1) hdrop' _ _ g1 w _ e1.sim e2 (e3.trans hz) h fun a' w' hq => hQ a' w' (RegPost.trans hs e1 e3 e4 hq)⟩
end
end Go.Ai
/-! What is not marked is not written. -/
namespace Go.Ai
open Go
set_option linter.unusedSimpArgs false

structure Unw (st st' : St) : Prop where
  lim : st'.lim = st.lim
  next : st.next ≤ st'.next
  heap : ∀ l, l < st.lim → st'.heap.get l = st.heap.get l ∨ ∃ x ∈ st'.wr, x.1 = l
  wr : ∀ x ∈ st.wr, ∃ y ∈ st'.wr, y.1 = x.1

section
variable {X : Env} {st st' st'' : St} {fr fr' : T V} {log : List Tc} {v : V} {call : CallF} {yield : Nat → List V → St → R}
theorem Unw.refl (st : St) : Unw st st := ⟨rfl, Nat.le_refl _, fun _ _ => .inl rfl, fun x hx => ⟨x, hx, rfl⟩⟩
theorem Unw.trans (h : Unw st st') (k : Unw st' st'') : Unw st st'' := by
  refine ⟨k.lim.trans h.lim, Nat.le_trans h.next k.next, fun l hl => ?_, fun x hx => ?_⟩
  · rcases k.heap l (by rw [h.lim]; exact hl) with h1 | h1
    · rcases h.heap l hl with h2 | ⟨x, h2, h3⟩
      · exact .inl (h1.trans h2)
      · obtain ⟨y, h4, h5⟩ := k.wr x h2
        exact .inr ⟨y, h4, h5.trans h3⟩
    · exact .inr h1
  · obtain ⟨y, h1, h2⟩ := h.wr x hx
    obtain ⟨z, h3, h4⟩ := k.wr y h1
    exact ⟨z, h3, h4.trans h2⟩
theorem Unw.low (h : Unw st st') (hl : st.lim ≤ st.next) : st'.lim ≤ st'.next := by rw [h.lim]; exact Nat.le_trans hl h.next

theorem addT_mem {x : Tc} {l : List Tc} : (∃ y ∈ addT x l, y.1 = x.1) ∧ ∀ z ∈ l, z ∈ addT x l := by
  unfold addT
  cases h : l.any (sameT x) with
  | true =>
    simp only [cond_true]
    refine ⟨?_, fun z hz => hz⟩
    obtain ⟨y, h1, h2⟩ := List.any_eq_true.1 h
    refine ⟨y, h1, ?_⟩
    unfold sameT at h2
    cases h3 : Nat.beq x.1 y.1 with
    | false => simp [h3] at h2
    | true => exact (beqT h3).symm
  | false => exact ⟨⟨x, by simp, rfl⟩, fun z hz => by simp [hz]⟩
theorem marks_mem {lim : Nat} : ∀ {log wr : List Tc}, (∀ x ∈ log, x.1 < lim → ∃ y ∈ marks lim log wr, y.1 = x.1) ∧ ∀ z ∈ wr, z ∈ marks lim log wr
  | [], wr => ⟨(fun x hx => by cases hx), fun z hz => hz⟩
  | q :: log, wr => by
    unfold marks
    cases hq : Nat.blt q.1 lim with
    | true =>
      simp only [cond_true]
      obtain ⟨h1, h2⟩ := marks_mem (lim := lim) (log := log) (wr := addT q wr)
      obtain ⟨h3, h4⟩ := addT_mem (x := q) (l := wr)
      refine ⟨fun x hx hl => ?_, fun z hz => h2 z (h4 z hz)⟩
      rcases List.mem_cons.1 hx with rfl | hx
      · obtain ⟨y, h5, h6⟩ := h3
        exact ⟨y, h2 y h5, h6⟩
      · exact h1 x hx hl
    | false =>
      simp only [cond_false]
      obtain ⟨h1, h2⟩ := marks_mem (lim := lim) (log := log) (wr := wr)
      refine ⟨fun x hx hl => ?_, h2⟩
      rcases List.mem_cons.1 hx with rfl | hx
      · have : Nat.blt x.1 lim = true := Nat.ble_eq_true_of_le hl
        rw [this] at hq; cases hq
      · exact h1 x hx hl
theorem Unw.put {l : Nat} {b : Blk} {log : List Tc} (h : (∃ x ∈ log, x.1 = l) ∨ st.heap.get l = some b ∨ st.lim ≤ l) : Unw st (st.putBlk l b log) := by
  refine ⟨rfl, Nat.le_refl _, fun k hk => ?_, fun x hx => ⟨x, (marks_mem (log := log)).2 x hx, rfl⟩⟩
  by_cases e : l = k
  · subst e
    rcases h with ⟨x, h1, h2⟩ | h | h
    · obtain ⟨y, h3, h4⟩ := (marks_mem (lim := st.lim) (log := log) (wr := st.wr)).1 x h1 (by rw [h2]; exact hk)
      exact .inr ⟨y, h3, h4.trans h2⟩
    · left; show (st.heap.set l b).get l = _; rw [T.get_set_same, h]
    · omega
  · left; exact T.get_set_ne _ _ e
theorem Unw.new {b : Blk} (hl : st.lim ≤ st.next) : Unw st (st.new b) :=
  ⟨rfl, Nat.le_succ _, fun k hk => .inl (T.get_set_ne _ _ (by omega)), fun x hx => ⟨x, hx, rfl⟩⟩
theorem Unw.bump (st : St) : Unw st { heap := st.heap, next := st.next + 1, lim := st.lim, wr := st.wr } := ⟨rfl, Nat.le_succ _, fun _ _ => .inl rfl, fun x hx => ⟨x, hx, rfl⟩⟩

def CallU (call : CallF) : Prop := ∀ f vs st v st' log, call f vs st = some (v, st', log) → st.lim ≤ st.next → Unw st st'
def YieldU (yield : Nat → List V → St → R) : Prop := ∀ l vs st v st' log, yield l vs st = some (v, st', log) → st.lim ≤ st.next → Unw st st'
def ExecU (ex : IR → T V → St → ER) : Prop := ∀ c fr st r fr' st', ex c fr st = some (r, fr', st') → st.lim ≤ st.next → Unw st st'

theorem touch_mem {l m off : Nat} : ∀ {n : Nat}, 0 < n → ∃ x ∈ touch l m off n, x.1 = l
  | n + 1, _ => by
    unfold touch
    cases Nat.blt 16 m with
    | true => exact ⟨(l, 0), by simp, rfl⟩
    | false => exact ⟨(l, off + 1), by simp, rfl⟩
theorem storeB_unw {n : Nat} {a x : V} (h : storeB st n a x = some (v, st', log)) : Unw st st' := by
  unfold storeB at h
  split at h
  · rename_i l off
    split at h
    · rename_i m t hb
      split at h
      · rename_i cs hc
        cases h1 : Nat.beq cs.length n with
        | false => simp [h1] at h
        | true =>
          cases h2 : Nat.ble (off + n) m with
          | false => simp [h1, h2] at h
          | true =>
            simp [h1, h2] at h
            obtain ⟨_, rfl, _⟩ := h
            refine Unw.put ?_
            by_cases h0 : n = 0
            · subst h0
              have : cs = [] := List.eq_nil_of_length_eq_zero (beqT h1)
              subst this
              right; left
              rw [blk_get hb]; rfl
            · left; exact touch_mem (by omega)
      · cases h
    · cases h
  · cases h
theorem appNew_unw {sz bts n len : Nat} {new : List V} {cs : T V} {lg : List Tc} (hl : st.lim ≤ st.next) (h : appNew sz bts n new len cs st lg = some (v, st', log)) : Unw st st' := by
  unfold appNew at h
  cases h1 : Nat.blt ((len + n) * (bts + 1)) 1000000000000 with
  | false => simp [h1] at h
  | true =>
    simp [h1] at h
    obtain ⟨_, rfl, _⟩ := h
    exact Unw.new hl
theorem append_unw {made : Bool} {sz bts : Nat} {zs : List V} {a b : V} (hl : st.lim ≤ st.next) (h : append made sz bts zs st a b = some (v, st', log)) : Unw st st' := by
  unfold append at h
  split at h
  · cases h
  · unfold app0 at h
    split at h <;> first | (simp at h; obtain ⟨_, rfl, _⟩ := h; exact .refl _) | cases h
  · unfold appTo at h
    split at h
    · exact appNew_unw hl h
    · exact appNew_unw hl h
    · rename_i s xs
      cases h1 : Nat.beq s sz with
      | false => simp [h1] at h
      | true =>
        simp only [h1, cond_true] at h
        split at h
        · exact appNew_unw hl h
        · cases h
    · rename_i s l len
      cases h1 : Nat.beq s sz with
      | false => simp [h1] at h
      | true =>
        simp only [h1, cond_true] at h
        split at h
        · rename_i m t hb
          cases h2 : Nat.ble (len * sz) m with
          | false => simp [h2] at h
          | true =>
            simp only [h2, cond_true] at h
            have hp : Unw st (st.putBlk l .gone [(l, 0)]) := Unw.put (.inl ⟨(l, 0), by simp, rfl⟩)
            exact hp.trans (appNew_unw (hp.low hl) h)
        · cases h
    · cases h
theorem runOp_unw (hc : CallU call) (hy : YieldU yield) (hl : st.lim ≤ st.next) {o : IOp} (h : runOp X call yield fr st o = some (v, st', log, fr')) : Unw st st' := by
  have hv1 : ∀ {x : Option V}, v1 fr st x = some (v, st', log, fr') → Unw st st' := by
    intro x hx
    cases x with
    | none => simp [v1] at hx
    | some y => simp [v1] at hx; obtain ⟨_, rfl, _⟩ := hx; exact .refl _
  have hr1 : ∀ {x : R}, r1 fr x = some (v, st', log, fr') → (∀ v st' log, x = some (v, st', log) → Unw st st') → Unw st st' := by
    intro x hx hh
    cases x with
    | none => simp [r1] at hx
    | some y => obtain ⟨a, b, c⟩ := y; simp [r1] at hx; obtain ⟨rfl, rfl, rfl, _⟩ := hx; exact hh _ _ _ rfl
  have hnl : ∀ {here : Bool} {cs : List V}, newLoc here fr st cs = some (v, st', log, fr') → Unw st st' := by
    intro here cs hx
    unfold newLoc at hx
    cases here with
    | true => simp at hx; obtain ⟨_, rfl, _⟩ := hx; exact .bump _
    | false => simp at hx; obtain ⟨_, rfl, _⟩ := hx; exact .new hl
  have hsame : ∀ {x : V} {lg : List Tc} {f : T V}, some (x, st, lg, f) = some (v, st', log, fr') → Unw st st' := by
    intro x lg f hx
    simp at hx; obtain ⟨_, rfl, _⟩ := hx; exact .refl _
  have hnew : ∀ {x : V} {b : Blk} {lg : List Tc} {f : T V}, some (x, st.new b, lg, f) = some (v, st', log, fr') → Unw st st' := by
    intro x b lg f hx
    simp at hx; obtain ⟨_, rfl, _⟩ := hx; exact .new hl
  have hput : ∀ {x : V} {l : Nat} {b : Blk} {lg : List Tc} {f : T V}, some (x, st.putBlk l b [(l, 0)], lg, f) = some (v, st', log, fr') → Unw st st' := by
    intro x l b lg f hx
    simp at hx; obtain ⟨_, rfl, _⟩ := hx; exact .put (.inl ⟨(l, 0), by simp, rfl⟩)
  cases o <;> simp only [runOp] at h
  case store n a x =>
    unfold runStore at h
    split at h
    · split at h
      · rename_i new hn
        cases hb : Nat.beq new.length n with
        | false => simp [hb] at h
        | true =>
          simp only [hb, cond_true] at h
          split at h
          · exact hsame h
          · cases h
      · cases h
    · exact hr1 h fun v st' log hx => storeB_unw hx
    · cases h
  case load n b a =>
    refine hr1 h fun v st' log hx => ?_
    unfold runLoad at hx
    split at hx
    · split at hx
      · simp at hx; obtain ⟨_, rfl, _⟩ := hx; exact .refl _
      · cases hx
    · split at hx
      · split at hx
        · simp at hx; obtain ⟨_, rfl, _⟩ := hx; exact .refl _
        · cases hx
      · cases hx
    · unfold loadB at hx
      split at hx
      · split at hx
        · simp at hx; obtain ⟨_, rfl, _⟩ := hx; exact .refl _
        · cases hx
      · split at hx
        · split at hx
          · simp at hx; obtain ⟨_, rfl, _⟩ := hx; exact .refl _
          · cases hx
        · cases hx
      · cases hx
    · cases hx
  case fa off x =>
    unfold runFa at h
    split at h
    · exact hsame h
    · exact hv1 h
    · cases h
  case bslice sz len zs ps =>
    split at h
    · split at h
      · rename_i cs hcs
        cases h0 : Nat.beq len 0 with
        | true => simp only [h0, cond_true] at h; exact hsame h
        | false =>
          simp only [h0, cond_false] at h
          cases hp : pureAll cs with
          | true =>
            simp only [hp, cond_true] at h
            split at h
            · exact hsame h
            · cases h
          | false => simp only [hp, cond_false] at h; exact hnew h
      · cases h
    · cases h
  case mks sz bts zs len cap =>
    split at h
    · split at h
      · rename_i len cap _ _
        cases h0 : Nat.ble len cap with
        | false => simp [h0] at h
        | true =>
          cases h2 : Nat.blt (cap * (bts + 1)) 1000000000000 with
          | false => simp [h0, h2] at h
          | true => simp only [h0, h2, cond_true] at h; exact hnew h
      · cases h
    · cases h
  case call f args =>
    split at h
    · exact hr1 h fun v st' log hx => hc _ _ _ _ _ _ hx hl
    · cases h
  case callv x args =>
    split at h
    · refine hr1 h fun v st' log hx => ?_
      unfold callVal at hx
      split at hx
      · exact hc _ _ _ _ _ _ hx hl
      · exact hy _ _ _ _ _ _ hx hl
      · cases hx
    · cases h
  case app made sz bts zs a b =>
    split at h
    · exact hr1 h fun v st' log hx => append_unw hl hx
    · cases h
  case bad => cases h
  all_goals
    (try simp only [Bool.cond_eq_ite] at h)
    (repeat' split at h) <;> first
      | exact hsame h
      | exact hv1 h
      | exact hnew h
      | exact hput h
      | exact hnl h
      | (cases h; done)
end
end Go.Ai
/-! What is not marked is not written: runs. -/
namespace Go.Ai
open Go
set_option linter.unusedSimpArgs false

section
variable {X : Env} {st st' st'' : St} {fr fr' : T V} {log : List Tc} {v : V} {call : CallF} {yield : Nat → List V → St → R}
theorem runOps_unw (hc : CallU call) (hy : YieldU yield) : ∀ {os : List IOpr} {fr : T V} {st : St}, st.lim ≤ st.next → runOps X call yield os fr st = some (fr', st') → Unw st st'
  | [], fr, st, hl, h => by simp [runOps] at h; obtain ⟨_, rfl⟩ := h; exact .refl _
  | o :: os, fr, st, hl, h => by
    simp only [runOps] at h
    split at h
    · split at h
      · rename_i hr
        have h1 := runOp_unw hc hy hl hr
        exact h1.trans (runOps_unw hc hy (h1.low hl) h)
      · cases h
    · exact runOps_unw hc hy hl h
    · cases h
theorem Unw.outer {st1 : St} (hl : st.lim ≤ st.next) (hu : Unw { heap := st.heap, next := st.next, lim := st.next, wr := [] } st1) : Unw st { heap := st1.heap, next := st1.next, lim := st.lim, wr := marks st.lim st1.wr st.wr } := by
  refine ⟨rfl, hu.next, fun l hlt => ?_, fun x hx => ⟨x, (marks_mem (log := st1.wr)).2 x hx, rfl⟩⟩
  rcases hu.heap l (Nat.lt_of_lt_of_le hlt hl) with h1 | ⟨y, h1, h2⟩
  · exact .inl h1
  · obtain ⟨z, h3, h4⟩ := (marks_mem (lim := st.lim) (log := st1.wr) (wr := st.wr)).1 y h1 (by rw [h2]; exact hlt)
    exact .inr ⟨z, h3, h4.trans h2⟩
theorem runK_unw (hc : CallU call) (hy : YieldU yield) {base : Nat} {op : IOp} {k : Kd} (hl : st.lim ≤ st.next) (h : runK X call yield base fr st op k = some (v, st', log, fr')) : Unw st st' := by
  cases k with
  | pure =>
    simp only [runK, Bool.cond_eq_ite] at h
    split at h
    · split at h
      · split at h
        · simp at h; obtain ⟨_, rfl, _⟩ := h; exact .refl _
        · cases h
      · cases h
    · cases h
  | read =>
    simp only [runK, Bool.cond_eq_ite] at h
    split at h
    · exact runOp_unw hc hy hl h
    · cases h
  | slot k =>
    simp only [runK] at h
    split at h
    · simp at h; obtain ⟨_, rfl, _⟩ := h; exact .refl _
    · split at h
      · split at h
        · simp at h; obtain ⟨_, rfl, _⟩ := h; exact .refl _
        · cases h
      · cases h
    · cases h
  | eff =>
    simp only [runK] at h
    split at h
    · rename_i hr
      simp at h; obtain ⟨_, rfl, _⟩ := h
      exact Unw.outer hl (runOp_unw hc hy (Nat.le_refl _) hr)
    · cases h
theorem stepD_unw (hc : CallU call) (hy : YieldU yield) {base : Nat} {o : DOpr} (hl : st.lim ≤ st.next) (h : stepD X call yield base o fr st = some (fr', st', log)) : Unw st st' := by
  simp only [stepD, Bool.cond_eq_ite] at h
  split at h
  · cases h
  · split at h
    · split at h
      · rename_i hr
        split at h
        · cases h
        · simp at h; obtain ⟨_, rfl, _⟩ := h
          exact runK_unw hc hy hl hr
      · cases h
    · simp at h; obtain ⟨_, rfl, _⟩ := h; exact .refl _
    · cases h
theorem runOpsD_unw (hc : CallU call) (hy : YieldU yield) {base top : Nat} : ∀ {os : List DOpr} {logs : List (List Tc)} {fr : T V} {st : St}, st.lim ≤ st.next → runOpsD X call yield base top os logs fr st = some (fr', st') → Unw st st'
  | [], logs, fr, st, hl, h => by simp [runOpsD] at h; obtain ⟨_, rfl⟩ := h; exact .refl _
  | o :: os, logs, fr, st, hl, h => by
    simp only [runOpsD, Bool.cond_eq_ite] at h
    split at h
    · rename_i hr
      have h1 := stepD_unw hc hy hl hr
      split at h
      · exact h1.trans (runOpsD_unw hc hy (h1.low hl) h)
      · cases h
    · cases h
theorem publish_unw {base : Nat} : ∀ {ts : List Nat} {fr : T V} {st : St}, st.lim ≤ base → publish base ts fr st = some (fr', st') → Unw st st'
  | [], fr, st, hb, h => by simp [publish] at h; obtain ⟨_, rfl⟩ := h; exact .refl _
  | t :: ts, fr, st, hb, h => by
    simp only [publish, Bool.cond_eq_ite] at h
    split at h
    · rename_i id cs _
      split at h
      · rename_i hid
        have hid := bleT hid
        have h0 : Unw st { heap := st.heap.set id (.cells cs.length (T.ofList cs)), next := st.next, lim := st.lim, wr := st.wr } :=
          ⟨rfl, Nat.le_refl _, fun l hl => .inl (T.get_set_ne _ _ (by omega)), fun x hx => ⟨x, hx, rfl⟩⟩
        exact h0.trans (publish_unw (st := { heap := st.heap.set id (.cells cs.length (T.ofList cs)), next := st.next, lim := st.lim, wr := st.wr }) hb h)
      · cases h
    · exact publish_unw hb h
theorem finish_unw {m : Nat} {st1 : St} {x : V} (hl : st.lim ≤ st.next) (hu : Unw { heap := st.heap, next := st.next, lim := st.next, wr := [] } st1) (h : finish m st st1 x = some (v, st', log)) : Unw st st' := by
  unfold finish at h
  split at h
  · simp at h
    obtain ⟨_, rfl, _⟩ := h
    refine ⟨rfl, hu.next, fun l hlt => ?_, fun x hx => ⟨x, (marks_mem (log := st1.wr)).2 x hx, rfl⟩⟩
    rcases hu.heap l (Nat.lt_of_lt_of_le hlt hl) with h1 | ⟨y, h1, h2⟩
    · exact .inl h1
    · obtain ⟨z, h3, h4⟩ := (marks_mem (lim := st.lim) (log := st1.wr) (wr := st.wr)).1 y h1 (by rw [h2]; exact hlt)
      exact .inr ⟨z, h3, h4.trans h2⟩
  · split at h
    · split at h
      · simp at h; obtain ⟨_, rfl, _⟩ := h; exact .refl _
      · cases h
    · cases h
  · simp only [Bool.cond_eq_ite] at h
    split at h
    · split at h
      · split at h
        · simp at h; obtain ⟨_, rfl, _⟩ := h; exact .refl _
        · split at h
          · split at h
            · simp at h; obtain ⟨_, rfl, _⟩ := h; exact .new hl
            · cases h
          · cases h
      · split at h
        · simp at h; obtain ⟨_, rfl, _⟩ := h; exact .refl _
        · cases h
    · cases h
theorem rcall_unw (hm : CallU X.memo) {ex : IR → T V → St → ER} (hex : ExecU ex) : CallU (rcall X ex) := by
  intro f vs st v st' log h hl
  unfold rcall at h
  split at h
  · rename_i hq; simp at h; subst h; exact hm _ _ _ _ _ _ hq hl
  · split at h
    · simp at h; obtain ⟨_, rfl, _⟩ := h; exact .refl _
    · split at h
      · simp only [Bool.cond_eq_ite] at h
        split at h
        · cases h
        · split at h
          · rename_i hx
            split at h
            · exact finish_unw hl (hex _ _ _ _ _ _ hx (Nat.le_refl _)) h
            · cases h
          · rename_i hx
            split at h
            · exact finish_unw hl (hex _ _ _ _ _ _ hx (Nat.le_refl _)) h
            · cases h
          · cases h
      · cases h
theorem round_unw {ex : IR → T V → St → ER} (hex : ExecU ex) : YieldU (round ex) := by
  intro l vs st v st' log h hl
  unfold round at h
  have hp : ∀ {s : St} {b : Blk}, Unw s (s.putBlk l b [(l, 0)]) := fun {s b} => .put (.inl ⟨(l, 0), by simp, rfl⟩)
  split at h
  · split at h
    · split at h
      · rename_i h1
        have u1 := hex _ _ _ _ _ _ h1 hl
        split at h
        · split at h
          · rename_i h2
            have u2 := hp.trans (hex _ _ _ _ _ _ h2 ((hp (s := _)).low (u1.low hl)))
            split at h
            · split at h
              · simp at h; obtain ⟨_, rfl, _⟩ := h
                exact u1.trans (u2.trans hp)
              · simp at h; obtain ⟨_, rfl, _⟩ := h
                exact u1.trans (u2.trans hp)
            · cases h
          · cases h
        · cases h
      · cases h
    · cases h
  · cases h
theorem exec_unw (hm : CallU X.memo) : ∀ n, ExecU (exec X n)
  | 0 => fun c fr st r fr' st' h _ => by simp [exec] at h
  | n + 1 => by
    have ih := exec_unw hm n
    intro c fr st r fr' st' h hl
    cases c <;> simp only [exec] at h
    case skip => simp at h; obtain ⟨_, _, rfl⟩ := h; exact .refl _
    case exit => simp at h; obtain ⟨_, _, rfl⟩ := h; exact .refl _
    case ret => simp at h; obtain ⟨_, _, rfl⟩ := h; exact .refl _
    case bad => cases h
    case reg ops =>
      split at h
      · rename_i hr; simp at h; obtain ⟨_, _, rfl⟩ := h; exact runOps_unw (rcall_unw hm ih) (round_unw ih) hl hr
      · cases h
    case regd ops k pub old =>
      split at h
      · rename_i fr1 st1 hr
        have h0 : Unw st { heap := st.heap, next := st.next + k, lim := st.lim, wr := st.wr } := ⟨rfl, Nat.le_add_right _ _, fun _ _ => .inl rfl, fun x hx => ⟨x, hx, rfl⟩⟩
        have h1 := h0.trans (runOpsD_unw (rcall_unw hm ih) (round_unw ih) (h0.low hl) hr)
        split at h
        · rename_i hp; simp at h; obtain ⟨_, _, rfl⟩ := h
          exact h1.trans (publish_unw (by rw [h1.lim]; exact hl) hp)
        · cases h
      · cases h
    case seq a b =>
      split at h
      · rename_i hr
        have h1 := ih _ _ _ _ _ _ hr hl
        exact h1.trans (ih _ _ _ _ _ _ h (h1.low hl))
      · exact ih _ _ _ _ _ _ h hl
    case cond c a b =>
      split at h
      · exact ih _ _ _ _ _ _ h hl
      · exact ih _ _ _ _ _ _ h hl
      · cases h
    case block id b =>
      split at h
      · rename_i hr; simp at h; obtain ⟨_, _, rfl⟩ := h; exact ih _ _ _ _ _ _ hr hl
      · exact ih _ _ _ _ _ _ h hl
    case loop b =>
      split at h
      · rename_i hr
        have h1 := ih _ _ _ _ _ _ hr hl
        exact h1.trans (ih _ _ _ _ _ _ h (h1.low hl))
      · exact ih _ _ _ _ _ _ h hl
    case rfn f ps a b =>
      simp only [Bool.cond_eq_ite] at h
      split at h
      · split at h
        · split at h
          · split at h
            · rename_i hr
              have h0 : Unw st (st.new (.loop 0 fr ps a b .nrm)) := .new hl
              have h1 := rcall_unw hm ih _ _ _ _ _ _ hr (h0.low hl)
              have hlim : ∀ {s : St}, Unw st s → ∀ b, Unw s (s.putBlk st.next b []) := fun hu b => .put (.inr (.inr (by rw [hu.lim]; exact hl)))
              have h2 := h0.trans h1
              split at h
              · simp at h; obtain ⟨_, _, rfl⟩ := h; exact h2.trans (hlim h2 _)
              · simp at h; obtain ⟨_, _, rfl⟩ := h; exact h2.trans (hlim h2 _)
              · cases h
            · cases h
          · cases h
        · cases h
      · cases h
end
end Go.Ai
/-! What an operation looks at. -/
namespace Go.Ai
open Go
set_option linter.unusedSimpArgs false
set_option linter.unusedVariables false

/-- a local's cells, met by its number -/
def locAt (fr : T V) (j id : Nat) : Option (List V) := match fr.get j with
  | some (.loc id' cs) => bif Nat.beq id id' then some cs else none
  | _ => none
def Agr (fr fr' : T V) (t : Nat) : Prop := fr'.get t = fr.get t ∧ ∀ j off id, fr.get t = some (.der j off id) → locAt fr' j id = locAt fr j id

section
variable {X : Env} {st st' : St} {fr fr' fr1 : T V} {log : List Tc} {v : V} {call : CallF} {yield : Nat → List V → St → R}

theorem ev_agr {x : Opd} (h : ∀ t ∈ opdT x, Agr fr fr' t) : ev fr' x = ev fr x := by
  cases x with
  | t i => have := (h i (by simp [opdT])).1; simp [ev, this]
  | c v => rfl
  | g i => rfl
  | f i => rfl
theorem evs_agr : ∀ {xs : List Opd}, (∀ t ∈ opdsT xs, Agr fr fr' t) → evs fr' xs = evs fr xs
  | [], h => rfl
  | x :: xs, h => by
    simp only [evs]
    rw [ev_agr fun t ht => h t (by simp [opdsT, ht]), evs_agr fun t ht => h t (by simp [opdsT, ht])]
theorem parts_agr : ∀ {ps : List (Nat × Nat × Opd)}, (∀ t ∈ opdsT (ps.map (·.2.2)), Agr fr fr' t) → parts fr' ps = parts fr ps
  | [], h => rfl
  | (a, b, x) :: xs, h => by
    simp only [parts]
    rw [ev_agr fun t ht => h t (by simp [opdsT, ht]), parts_agr (ps := xs) fun t ht => h t (by simp only [List.map_cons, opdsT, List.mem_append]; exact .inr ht)]
theorem partsE_agr {sz : Nat} : ∀ {ps : List (Nat × Opd)}, (∀ t ∈ opdsT (ps.map (·.2)), Agr fr fr' t) → partsE fr' sz ps = partsE fr sz ps
  | [], h => rfl
  | (a, x) :: xs, h => by
    simp only [partsE]
    rw [ev_agr fun t ht => h t (by simp [opdsT, ht]), partsE_agr (ps := xs) fun t ht => h t (by simp only [List.map_cons, opdsT, List.mem_append]; exact .inr ht)]
theorem optN_agr {x : Option Opd} (h : ∀ t ∈ optT x, Agr fr fr' t) : optN fr' x = optN fr x := by
  cases x with
  | none => rfl
  | some x => simp only [optN]; rw [ev_agr h]
theorem addr_der {i j off id : Nat} (h : fr.get i = some (.der j off id)) : addr fr (.t i) = (locAt fr j id).map fun cs => .loc j off id cs := by
  simp only [addr, h, locAt]
  cases hj : fr.get j with
  | none => rfl
  | some v =>
    cases v <;> try rfl
    rename_i id' cs
    simp only
    cases Nat.beq id id' <;> rfl
theorem addr_agr {x : Opd} (h : ∀ t ∈ opdT x, Agr fr fr' t) : addr fr' x = addr fr x := by
  cases x with
  | t i =>
    obtain ⟨h1, h2⟩ := h i (by simp [opdT])
    cases hg : fr.get i with
    | none => simp [addr, h1, hg]
    | some v =>
      rw [hg] at h1
      cases v <;> try (simp [addr, h1, hg]; done)
      rename_i j off id
      rw [addr_der hg, addr_der h1, h2 j off id hg]
  | c v => rfl
  | g i => rfl
  | f i => rfl

/-- an answer, with another frame -/
def refr (f : T V) : RO → RO
  | some (a, b, c, _) => some (a, b, c, f)
  | none => none
theorem v1_refr (x : Option V) : v1 fr' st x = refr fr' (v1 fr st x) ∧ v1 fr st x = refr fr (v1 fr st x) := by cases x <;> exact ⟨rfl, rfl⟩
theorem r1_refr (x : R) : r1 fr' x = refr fr' (r1 fr x) ∧ r1 fr x = refr fr (r1 fr x) := by
  cases x with
  | none => exact ⟨rfl, rfl⟩
  | some q => obtain ⟨a, b, c⟩ := q; exact ⟨rfl, rfl⟩
def isStore : IOp → Bool
  | .store .. => true
  | _ => false

theorem runOp_refr {o : IOp} (hs : isStore o = false) (h : ∀ t ∈ o.tmps, Agr fr fr' t) : runOp X call yield fr' st o = refr fr' (runOp X call yield fr st o) ∧ runOp X call yield fr st o = refr fr (runOp X call yield fr st o) := by
  cases o <;> simp only [IOp.tmps, List.mem_append] at h <;> simp only [runOp]
  case mv x => rw [ev_agr h]; exact v1_refr _
  case pick c a b =>
    rw [ev_agr fun t ht => h t (.inl (.inl ht)), ev_agr fun t ht => h t (.inl (.inr ht)), ev_agr fun t ht => h t (.inr ht)]
    split
    · exact v1_refr _
    · exact v1_refr _
    · exact ⟨rfl, rfl⟩
  case alloc here zs => cases here <;> exact ⟨rfl, rfl⟩
  case box here x =>
    rw [ev_agr h]
    split
    · split
      · cases here <;> exact ⟨rfl, rfl⟩
      · exact ⟨rfl, rfl⟩
    · exact ⟨rfl, rfl⟩
  case build zs ps =>
    rw [parts_agr h]
    split
    · split <;> exact ⟨rfl, rfl⟩
    · exact ⟨rfl, rfl⟩
  case bslice sz len zs ps =>
    rw [partsE_agr h]
    simp only [Bool.cond_eq_ite]
    repeat' split
    all_goals exact ⟨rfl, rfl⟩
  case load n agg a =>
    have : runLoad X fr' st n agg a = runLoad X fr st n agg a := by
      unfold runLoad
      rw [addr_agr h]
    rw [this]; exact r1_refr _
  case store => simp [isStore] at hs
  case nilc x => rw [ev_agr h]; repeat' split
                 all_goals exact ⟨rfl, rfl⟩
  case bin op x y =>
    rw [ev_agr fun t ht => h t (.inl ht), ev_agr fun t ht => h t (.inr ht)]
    split
    · exact v1_refr _
    · exact ⟨rfl, rfl⟩
  case eq neg cst cls x y =>
    rw [ev_agr fun t ht => h t (.inl ht), ev_agr fun t ht => h t (.inr ht)]
    repeat' split
    all_goals exact ⟨rfl, rfl⟩
  case un op x => rw [ev_agr h]; split
                  · exact v1_refr _
                  · exact ⟨rfl, rfl⟩
  case conv k x => rw [ev_agr h]; split
                   · exact v1_refr _
                   · exact ⟨rfl, rfl⟩
  case mki t x => rw [ev_agr h]; split <;> exact ⟨rfl, rfl⟩
  case mkf f a b =>
    rw [evs_agr fun t ht => h t (.inl ht), evs_agr fun t ht => h t (.inr ht)]
    split <;> exact ⟨rfl, rfl⟩
  case mkm => exact ⟨rfl, rfl⟩
  case mks sz bytes zs len cap =>
    rw [ev_agr fun t ht => h t (.inl ht), ev_agr fun t ht => h t (.inr ht)]
    simp only [Bool.cond_eq_ite]
    repeat' split
    all_goals exact ⟨rfl, rfl⟩
  case slice sz x lo hi mx =>
    rw [ev_agr fun t ht => h t (.inl (.inl (.inl ht))), optN_agr fun t ht => h t (.inl (.inl (.inr ht))), optN_agr fun t ht => h t (.inl (.inr ht)), optN_agr fun t ht => h t (.inr ht)]
    split
    · exact v1_refr _
    · exact ⟨rfl, rfl⟩
  case fa off x =>
    unfold runFa
    rw [addr_agr h]
    split
    · exact ⟨rfl, rfl⟩
    · exact v1_refr _
    · exact ⟨rfl, rfl⟩
  case fld off n agg x => rw [ev_agr h]; split
                          · exact v1_refr _
                          · exact ⟨rfl, rfl⟩
  case ia sz x i =>
    rw [ev_agr fun t ht => h t (.inl ht), ev_agr fun t ht => h t (.inr ht)]
    split
    · split
      · exact v1_refr _
      · exact ⟨rfl, rfl⟩
    · exact ⟨rfl, rfl⟩
  case ix x i =>
    rw [ev_agr fun t ht => h t (.inl ht), ev_agr fun t ht => h t (.inr ht)]
    simp only [Bool.cond_eq_ite]
    repeat' split
    all_goals exact ⟨rfl, rfl⟩
  case look ks z x i ok =>
    rw [ev_agr fun t ht => h t (.inl ht), ev_agr fun t ht => h t (.inr ht)]
    simp only [Bool.cond_eq_ite]
    repeat' split
    all_goals exact ⟨rfl, rfl⟩
  case mput ks m k x =>
    rw [ev_agr fun t ht => h t (.inl (.inl ht)), ev_agr fun t ht => h t (.inl (.inr ht)), ev_agr fun t ht => h t (.inr ht)]
    simp only [Bool.cond_eq_ite]
    repeat' split
    all_goals exact ⟨rfl, rfl⟩
  case rng x => rw [ev_agr h]; split <;> exact ⟨rfl, rfl⟩
  case nxt x => rw [ev_agr h]; repeat' split
                all_goals exact ⟨rfl, rfl⟩
  case tas t z x =>
    rw [ev_agr h]
    simp only [Bool.cond_eq_ite]
    repeat' split
    all_goals exact ⟨rfl, rfl⟩
  case ext x i => rw [ev_agr h]; split
                  · exact v1_refr _
                  · exact ⟨rfl, rfl⟩
  case call f args => rw [evs_agr h]; split
                      · exact r1_refr _
                      · exact ⟨rfl, rfl⟩
  case callv x args =>
    rw [ev_agr fun t ht => h t (.inl ht), evs_agr fun t ht => h t (.inr ht)]
    split
    · exact r1_refr _
    · exact ⟨rfl, rfl⟩
  case app made sz bytes zs a b =>
    rw [ev_agr fun t ht => h t (.inl ht), ev_agr fun t ht => h t (.inr ht)]
    split
    · exact r1_refr _
    · exact ⟨rfl, rfl⟩
  case len k x => rw [ev_agr h]; repeat' split
                  all_goals exact ⟨rfl, rfl⟩
  case cap x => rw [ev_agr h]; repeat' split
                all_goals exact ⟨rfl, rfl⟩
  case clear sz zs x =>
    rw [ev_agr h]
    simp only [Bool.cond_eq_ite]
    repeat' split
    all_goals exact ⟨rfl, rfl⟩
  case min xs => rw [evs_agr h]; split
                 · exact v1_refr _
                 · exact ⟨rfl, rfl⟩
  case bad => exact ⟨rfl, rfl⟩
end
end Go.Ai
/-! One operation of a region that draws: what it looks at, what it changes. -/
namespace Go.Ai
open Go
set_option linter.unusedSimpArgs false
set_option linter.unusedVariables false

def setO (fr : T V) : Option (Nat × V) → T V
  | some (s, u) => fr.set s u
  | none => fr
def used (o : DOpr) (fr : T V) : List Nat := guardT o.o.guard ++ (match wantedV fr o.o.guard with | some true => o.o.op.tmps | _ => [])

structure DSpec (X : Env) (call : CallF) (yield : Nat → List V → St → R) (base : Nat) (o : DOpr) (fr : T V) (st : St) (fr1 : T V) (st1 : St) (log : List Tc) (v : V) (ws : Option (Nat × V)) : Prop where
  out : fr1 = put (setO fr ws) o.o.dst v
  clear : holdsLoc fr o.o.dst = false
  vloc : ∀ id cs, v = .loc id cs → loud o.kind = true ∧ (id, 0) ∈ log
  wsl : ∀ s u, ws = some (s, u) → isEff o.kind = true ∧ ∃ id cs cs', fr.get s = some (.loc id cs) ∧ u = .loc id cs' ∧ (id, 0) ∈ log
  read : ∀ t ∈ used o fr, (∀ id cs, fr.get t = some (.loc id cs) → (id, 0) ∈ log) ∧ (∀ j off id, fr.get t = some (.der j off id) → (id, 0) ∈ log)
  move : ∀ fr' st', (∀ t ∈ used o fr, Agr fr fr' t) → holdsLoc fr' o.o.dst = false → (isEff o.kind = true → st' = st) → (isEff o.kind = false → ∀ y ∈ log, st'.heap.get y.1 = st.heap.get y.1) →
    stepD X call yield base o fr' st' = some (put (setO fr' ws) o.o.dst v, (if isEff o.kind = true then st1 else st'), log)
  same : isEff o.kind = false → st1 = st

section
variable {X : Env} {st st' st1 : St} {fr fr' fr1 : T V} {log lg : List Tc} {v : V} {call : CallF} {yield : Nat → List V → St → R} {base : Nat}

theorem v1_any {x : Option V} {s : St} (h : v1 fr s x = some (v, st1, lg, fr1)) : v1 fr st x = some (v, st, [], fr) := by
  cases x with
  | none => simp [v1] at h
  | some y => simp [v1] at h; simp [v1, h.1]
theorem eqP_bare {a i b j : Nat} {q : Bool} (h : eqP .bare a i b j = some q) (st : St) : eqP st a i b j = some q := by
  unfold eqP at h ⊢
  cases hb : Nat.beq a b with
  | true => simpa [hb] using h
  | false => simp [hb, St.blk, St.bare, T.get] at h
theorem cellsOf_bare {sz : Nat} {x : V} {q : Nat × List V} (h : cellsOf .bare sz x = some q) (st : St) : cellsOf st sz x = some q := by
  unfold cellsOf at h ⊢
  cases x <;> try exact h
  rename_i s l off len
  simp [St.cut, St.blk, St.bare, T.get] at h
theorem eqV_bare {ok : Nat → Bool} {cst : Bool} {cls : Nat} {x y : V} {q : Bool} (h : eqV ok .bare cst cls x y = some q) (st : St) : eqV ok st cst cls x y = some q := by
  unfold eqV at h ⊢
  split at h
  · exact h
  · unfold eq1 at h ⊢
    split at h <;> first | exact h | (exact eqP_bare h st)
  · exact h
  · exact h
  · rename_i h0 h1 h2 h3
    unfold eq4 at h ⊢
    split at h <;> (try exact h)
    rename_i t x u y
    cases hb : Nat.beq t u with
    | false => simpa [hb] using h
    | true =>
      simp only [hb, cond_true] at h ⊢
      split at h
      · rename_i a i b j
        cases ho : ok t with
        | true => simp only [ho, cond_true] at h ⊢; exact eqP_bare h st
        | false => simp [ho] at h
      · cases h
theorem pure_lift {o : IOp} (hp : pureOp o = true) {s : St} (h : runOp X call yield fr .bare o = some (v, s, lg, fr1)) (hn : Nat.beq s.next 0 = true) (st : St) : ∃ lg', runOp X call yield fr st o = some (v, st, lg', fr) := by
  have hn := beqT hn
  cases o <;> simp only [pureOp] at hp <;> (try cases hp; done) <;> simp only [runOp] at h ⊢
  case mv x => exact ⟨_, v1_any h⟩
  case pick c a b =>
    split at h
    · exact ⟨_, v1_any h⟩
    · exact ⟨_, v1_any h⟩
    · cases h
  case build zs ps =>
    split at h
    · split at h
      · simp at h; exact ⟨[], by simp [h.1]⟩
      · cases h
    · cases h
  case bslice sz len zs ps =>
    simp only [Bool.cond_eq_ite] at h ⊢
    split at h
    · split at h
      · split at h
        · rename_i h0
          simp at h; exact ⟨[], by simp [h0, h.1]⟩
        · rename_i h0
          split at h
          · rename_i h1
            split at h
            · rename_i h2
              simp at h; exact ⟨[], by simp [h0, h1, h2, h.1]⟩
            · cases h
          · simp [St.new, St.bare] at h
            obtain ⟨_, rfl, _⟩ := h
            simp at hn
      · cases h
    · cases h
  case nilc x =>
    split at h
    · simp at h; exact ⟨[], by simp [h.1]⟩
    · simp at h; exact ⟨[], by simp [h.1]⟩
    · cases h
  case bin op x y =>
    split at h
    · exact ⟨_, v1_any h⟩
    · cases h
  case eq neg cst cls x y =>
    split at h
    · split at h
      · rename_i q hq
        simp at h; exact ⟨[], by rw [eqV_bare hq st]; simp [h.1]⟩
      · cases h
    · cases h
  case un op x =>
    split at h
    · exact ⟨_, v1_any h⟩
    · cases h
  case conv k x =>
    split at h
    · rename_i x hx
      cases hc : convV .bare k x with
      | none => rw [hc] at h; simp [v1] at h
      | some q =>
        have : convV st k x = some q := by
          unfold convV at hc ⊢
          split at hc <;> (try exact hc)
          split at hc
          · rename_i hco
            rw [cellsOf_bare hco st]; exact hc
          · cases hc
        rw [hc] at h
        rw [this]
        exact ⟨_, v1_any h⟩
    · cases h
  case mki t x =>
    split at h
    · simp at h; exact ⟨[], by simp [h.1]⟩
    · cases h
  case mkf f a b =>
    split at h
    · simp at h; exact ⟨[], by simp [h.1]⟩
    · cases h
  case slice sz x lo hi mx =>
    split at h
    · exact ⟨_, v1_any h⟩
    · cases h
  case fa off x =>
    unfold runFa at h ⊢
    split at h
    · simp at h; exact ⟨[], by simp [h.1]⟩
    · exact ⟨_, v1_any h⟩
    · cases h
  case fld off n agg x =>
    split at h
    · exact ⟨_, v1_any h⟩
    · cases h
  case ia sz x i =>
    split at h
    · split at h
      · exact ⟨_, v1_any h⟩
      · cases h
    · cases h
  case ix x i =>
    simp only [Bool.cond_eq_ite] at h ⊢
    split at h
    · split at h
      · split at h
        · rename_i h0
          simp at h; exact ⟨[], by simp [h0, h.1]⟩
        · cases h
      · cases h
    · cases h
  case tas t z x =>
    simp only [Bool.cond_eq_ite] at h ⊢
    split at h
    · simp at h; exact ⟨[], by simp [h.1]⟩
    · split at h
      · rename_i h0; simp at h; exact ⟨[], by simp [h0, h.1]⟩
      · rename_i h0; simp at h; exact ⟨[], by simp [h0, h.1]⟩
    · cases h
  case ext x i =>
    split at h
    · exact ⟨_, v1_any h⟩
    · cases h
  case len k x =>
    split at h
    · rename_i x hx
      split at h
      · rename_i n lg hl
        have : ∃ lg', lenC st k x = some (n, lg') := by
          unfold lenC at hl ⊢
          split at hl
          · exact ⟨_, hl⟩
          · exact ⟨_, hl⟩
          · rename_i h0 h1
            split at hl
            · exact ⟨_, hl⟩
            · simp [St.bare, T.get] at hl
            · cases hl
        obtain ⟨lg', h2⟩ := this
        rw [h2]
        simp at h; exact ⟨lg', by simp [h.1]⟩
      · cases h
    · cases h
  case cap x =>
    split at h
    · simp at h; exact ⟨[], by simp [h.1]⟩
    · simp at h; exact ⟨[], by simp [h.1]⟩
    · cases h
  case min xs =>
    split at h
    · exact ⟨_, v1_any h⟩
    · cases h
theorem get_blk {s s' : St} {l : Nat} (h : s'.heap.get l = s.heap.get l) : s'.blk l = s.blk l := by unfold St.blk; rw [h]
theorem get_cut {s s' : St} {l off n : Nat} (h : s'.heap.get l = s.heap.get l) : s'.cut l off n = s.cut l off n := by unfold St.cut; rw [get_blk h]
theorem read_lift {o : IOp} (hp : readOp o = true) (h : runOp X call yield fr st o = some (v, st1, lg, fr1)) : st1 = st ∧ fr1 = fr ∧ (∀ id cs, v = .loc id cs → True) ∧
    ∀ st', (∀ y ∈ lg, st'.heap.get y.1 = st.heap.get y.1) → runOp X call yield fr st' o = some (v, st', lg, fr) := by
  cases o <;> simp only [readOp] at hp <;> (try cases hp; done) <;> simp only [runOp] at h ⊢
  case load n agg a =>
    have hn := bltT hp
    cases hr : runLoad X fr st n agg a with
    | none => rw [hr] at h; simp [r1] at h
    | some q =>
      obtain ⟨v', s', lg'⟩ := q
      rw [hr] at h; simp [r1] at h
      obtain ⟨rfl, rfl, rfl, rfl⟩ := h
      have key : s' = st ∧ ∀ st', (∀ y ∈ lg', st'.heap.get y.1 = st.heap.get y.1) → runLoad X fr st' n agg a = some (v', st', lg') := by
        unfold runLoad at hr ⊢
        split at hr
        · split at hr
          · rename_i hc; simp at hr; obtain ⟨rfl, rfl, rfl⟩ := hr
            refine ⟨rfl, fun st' _ => ?_⟩
            simp only [hc]
          · cases hr
        · split at hr
          · split at hr
            · simp at hr; obtain ⟨rfl, rfl, rfl⟩ := hr
              exact ⟨rfl, fun st' _ => rfl⟩
            · cases hr
          · cases hr
        · rename_i a1 ha1 _
          unfold loadB at hr ⊢
          split at hr
          · split at hr
            · rename_i hc; simp at hr; obtain ⟨rfl, rfl, rfl⟩ := hr
              refine ⟨rfl, fun st' _ => ?_⟩
              simp only [hc]
            · cases hr
          · split at hr
            · split at hr
              · rename_i l off _ _ _ r m t h1 h2 _ _ h3
                simp at hr; obtain ⟨rfl, rfl, rfl⟩ := hr
                refine ⟨rfl, fun st' hy => ?_⟩
                obtain ⟨x, hx, hxl⟩ := touch_mem (l := l) (m := m) (off := off) hn
                have hg := hy x hx
                rw [hxl] at hg
                simp only [get_cut hg, get_blk hg, h1, h2, h3]
              · cases hr
            · cases hr
          · cases hr
        · cases hr
      exact ⟨key.1, rfl, fun _ _ _ => trivial, fun st' hy => by rw [key.2 st' hy]; rfl⟩
  case look ks z x i ok =>
    simp only [Bool.cond_eq_ite] at h ⊢
    split at h
    · split at h
      · rename_i h0
        simp at h; obtain ⟨rfl, rfl, rfl, rfl⟩ := h
        exact ⟨rfl, rfl, fun _ _ _ => trivial, fun st' _ => by simp [h0]⟩
      · cases h
    · rename_i l k h1 h2
      split at h
      · rename_i h0
        split at h
        · rename_i es h3
          split at h
          · rename_i h4
            simp at h; obtain ⟨rfl, rfl, rfl, rfl⟩ := h
            exact ⟨rfl, rfl, fun _ _ _ => trivial, fun st' hy => by have := hy (l, 0) (by simp); simp only at this; simp [h0, this, h3, h4]⟩
          · rename_i h4
            simp at h; obtain ⟨rfl, rfl, rfl, rfl⟩ := h
            exact ⟨rfl, rfl, fun _ _ _ => trivial, fun st' hy => by have := hy (l, 0) (by simp); simp only at this; simp [h0, this, h3, h4]⟩
          · cases h
        · cases h
      · cases h
    · cases h
  case len k x =>
    split at h
    · rename_i x hx
      split at h
      · rename_i n lg hl
        simp at h; obtain ⟨rfl, rfl, rfl, rfl⟩ := h
        refine ⟨rfl, rfl, fun _ _ _ => trivial, fun st' hy => ?_⟩
        have : lenC st' k x = some (n, lg) := by
          unfold lenC at hl ⊢
          split at hl
          · exact hl
          · exact hl
          · split at hl
            · exact hl
            · rename_i l
              split at hl
              · rename_i es he
                simp at hl
                obtain ⟨rfl, rfl⟩ := hl
                have := hy (l, 0) (by simp)
                simp only at this
                simp [this, he]
              · cases hl
            · cases hl
        rw [this]; rfl
      · cases h
    · cases h
end
end Go.Ai
/-! One operation of a region that draws: its laws. -/
namespace Go.Ai
open Go
set_option linter.unusedSimpArgs false
set_option linter.unusedVariables false

section
variable {X : Env} {st st' st1 : St} {fr fr' fr1 frk : T V} {log lg : List Tc} {v : V} {call : CallF} {yield : Nat → List V → St → R} {base : Nat}

theorem wantedV_agr {gd : Option (Nat × Bool)} (h : ∀ t ∈ guardT gd, Agr fr fr' t) : wantedV fr' gd = wantedV fr gd := by
  cases gd with
  | none => rfl
  | some p =>
    obtain ⟨g, b⟩ := p
    have := (h g (by simp [guardT])).1
    simp [wantedV, this]
theorem locLog_agr : ∀ {ts : List Nat}, (∀ t ∈ ts, Agr fr fr' t) → locLog fr' ts = locLog fr ts
  | [], h => rfl
  | t :: ts, h => by
    simp only [locLog]
    rw [(h t (by simp)).1, locLog_agr fun u hu => h u (by simp [hu])]
theorem locLog_mem : ∀ {ts : List Nat} {t : Nat}, t ∈ ts → (∀ id cs, fr.get t = some (.loc id cs) → (id, 0) ∈ locLog fr ts) ∧ (∀ j off id, fr.get t = some (.der j off id) → (id, 0) ∈ locLog fr ts)
  | u :: ts, t, h => by
    rcases List.mem_cons.1 h with rfl | h
    · refine ⟨fun id cs e => by simp [locLog, e], fun j off id e => by simp [locLog, e]⟩
    · obtain ⟨h1, h2⟩ := locLog_mem h
      refine ⟨fun id cs e => ?_, fun j off id e => ?_⟩
      · have := h1 id cs e
        simp only [locLog]; split <;> simp [this]
      · have := h2 j off id e
        simp only [locLog]; split <;> simp [this]
theorem addr_loc {x : Opd} {slot off id : Nat} {cs : List V} (h : addr fr x = some (.loc slot off id cs)) : fr.get slot = some (.loc id cs) ∧ ∃ t ∈ opdT x, (∃ cs, fr.get t = some (.loc id cs)) ∨ ∃ j off, fr.get t = some (.der j off id) := by
  cases x with
  | t i =>
    cases hg : fr.get i with
    | none => simp [addr, hg] at h
    | some v =>
      cases v <;> simp only [addr, hg] at h <;> try (simp at h; done)
      · simp at h
        obtain ⟨rfl, rfl, rfl, rfl⟩ := h
        exact ⟨hg, i, by simp [opdT], .inl ⟨_, hg⟩⟩
      · rename_i j o id0
        split at h
        · rename_i id' cs' hj
          cases hb : Nat.beq id0 id' with
          | false => simp [hb] at h
          | true =>
            simp [hb] at h
            obtain ⟨rfl, rfl, rfl, rfl⟩ := h
            exact ⟨by rw [hj, beqT hb], i, by simp [opdT], .inr ⟨_, _, hg⟩⟩
        · cases h
  | c v =>
    simp only [addr] at h
    cases hp : plain v <;> simp [hp] at h
  | g i => simp [addr] at h
  | f i => simp [addr] at h

/-- what 'runK' does with an operation -/
theorem runK_spec {op : IOp} {k : Kd} (h : runK X call yield base fr st op k = some (v, st1, lg, frk)) :
    ∃ ws, frk = setO fr ws ∧ (∀ s u, ws = some (s, u) → isEff k = true ∧ ∃ id cs cs', fr.get s = some (.loc id cs) ∧ u = .loc id cs' ∧ (id, 0) ∈ locLog fr op.tmps) ∧ (isEff k = false → st1 = st) ∧
      ∀ fr' st', (∀ t ∈ op.tmps, Agr fr fr' t) → (isEff k = true → st' = st) → (isEff k = false → ∀ y ∈ lg, st'.heap.get y.1 = st.heap.get y.1) →
        runK X call yield base fr' st' op k = some (v, (if isEff k = true then st1 else st'), lg, setO fr' ws) := by
  cases k with
  | pure =>
    simp only [runK] at h
    cases hp : pureOp op with
    | false => simp [hp] at h
    | true =>
      simp only [hp, cond_true] at h
      cases hr : runOp X call yield fr .bare op with
      | none => simp [hr] at h
      | some q =>
        obtain ⟨v', s, lg', f⟩ := q
        simp only [hr] at h
        cases hn : Nat.beq s.next 0 with
        | false => simp [hn] at h
        | true =>
          simp [hn] at h
          obtain ⟨rfl, rfl, rfl, rfl⟩ := h
          refine ⟨none, rfl, (fun s u e => by cases e), fun _ => rfl, fun fr' st' ha _ _ => ?_⟩
          have hst : isStore op = false := by cases op <;> simp_all [pureOp, isStore]
          simp only [runK, hp, cond_true]
          rw [(runOp_refr hst ha).1, hr]
          simp [refr, hn, isEff, setO]
  | read =>
    simp only [runK] at h
    cases hp : readOp op with
    | false => simp [hp] at h
    | true =>
      simp only [hp, cond_true] at h
      obtain ⟨rfl, rfl, _, hm⟩ := read_lift hp h
      refine ⟨none, rfl, (fun s u e => by cases e), fun _ => rfl, fun fr' st' ha _ hy => ?_⟩
      have hst : isStore op = false := by cases op <;> simp_all [readOp, isStore]
      simp only [runK, hp, cond_true]
      rw [(runOp_refr hst ha).1, hm st' (hy rfl)]
      simp [refr, isEff, setO]
  | slot k =>
    simp only [runK] at h
    split at h
    · simp at h
      obtain ⟨rfl, rfl, rfl, rfl⟩ := h
      exact ⟨none, rfl, (fun s u e => by cases e), fun _ => rfl, fun fr' st' ha _ _ => by simp [runK, isEff, setO]⟩
    · rename_i here x
      split at h
      · rename_i v1 hv1
        split at h
        · rename_i cs hcs
          simp at h
          obtain ⟨rfl, rfl, rfl, rfl⟩ := h
          refine ⟨none, rfl, (fun s u e => by cases e), fun _ => rfl, fun fr' st' ha _ _ => ?_⟩
          simp only [runK]
          rw [ev_agr (x := x) ha, hv1]
          simp [hcs, isEff, setO]
        · cases h
      · cases h
    · cases h
  | eff =>
    simp only [runK] at h
    cases hr : runOp X call yield fr { heap := st.heap, next := st.next, lim := st.next, wr := [] } op with
    | none => simp [hr] at h
    | some q =>
      obtain ⟨v', s, lg', f⟩ := q
      simp [hr] at h
      obtain ⟨rfl, rfl, rfl, rfl⟩ := h
      cases hst : isStore op with
      | false =>
        have hf : f = fr := by
          have := (runOp_refr (X := X) (call := call) (yield := yield) (st := { heap := st.heap, next := st.next, lim := st.next, wr := [] }) (fr := fr) (fr' := fr) hst (fun t _ => ⟨rfl, fun _ _ _ _ => rfl⟩)).2
          rw [hr] at this
          simp [refr] at this
          exact this
        subst hf
        refine ⟨none, rfl, (fun s u e => by cases e), (fun e => by simp [isEff] at e), fun fr' st' ha he _ => ?_⟩
        obtain rfl := he rfl
        simp only [runK]
        rw [(runOp_refr hst ha).1, hr]
        simp [refr, isEff, setO]
      | true =>
        cases op <;> simp only [isStore] at hst <;> (try cases hst; done)
        rename_i n a x
        simp only [runOp] at hr
        simp only [IOp.tmps, List.mem_append]
        unfold runStore at hr
        split at hr
        · rename_i slot off id cs x0 ha0 hx0
          split at hr
          · rename_i new hnew
            cases hb : Nat.beq new.length n with
            | false => simp [hb] at hr
            | true =>
              simp only [hb, cond_true] at hr
              split at hr
              · rename_i cs' hov
                simp at hr
                obtain ⟨rfl, rfl, rfl, rfl⟩ := hr
                obtain ⟨h1, t, ht, h2⟩ := addr_loc ha0
                refine ⟨some (slot, .loc id cs'), rfl, fun s u e => ?_, (fun e => by simp [isEff] at e), fun fr' st' ha he _ => ?_⟩
                · simp at e
                  obtain ⟨rfl, rfl⟩ := e
                  refine ⟨rfl, id, cs, cs', h1, rfl, ?_⟩
                  have hm := locLog_mem (fr := fr) (ts := (IOp.store n a x).tmps) (t := t) (by simp [IOp.tmps, ht])
                  rcases h2 with ⟨c, h2⟩ | ⟨j, o, h2⟩
                  · exact hm.1 _ _ h2
                  · exact hm.2 _ _ _ h2
                · obtain rfl := he rfl
                  simp only [runK, runOp, runStore]
                  rw [addr_agr fun t ht => ha t (.inl ht), ev_agr fun t ht => ha t (.inr ht), ha0, hx0]
                  simp [hnew, hb, hov, isEff, setO]
              · cases hr
          · cases hr
        · rename_i a0 x0 ha0 hx0
          cases hsb : storeB { heap := st.heap, next := st.next, lim := st.next, wr := [] } n a0 x0 with
          | none => rw [hsb] at hr; simp [r1] at hr
          | some q =>
            obtain ⟨v1, s1, l1⟩ := q
            rw [hsb] at hr; simp [r1] at hr
            obtain ⟨rfl, rfl, rfl, rfl⟩ := hr
            refine ⟨none, rfl, (fun s u e => by cases e), (fun e => by simp [isEff] at e), fun fr' st' ha he _ => ?_⟩
            obtain rfl := he rfl
            simp only [runK, runOp, runStore]
            rw [addr_agr fun t ht => ha t (.inl ht), ev_agr fun t ht => ha t (.inr ht), ha0, hx0]
            simp [hsb, r1, isEff, setO]
        · cases hr

theorem stepD_spec {o : DOpr} (h : stepD X call yield base o fr st = some (fr1, st1, log)) : ∃ v ws, DSpec X call yield base o fr st fr1 st1 log v ws := by
  unfold stepD at h
  cases hh : holdsLoc fr o.o.dst with
  | true => simp [hh] at h
  | false =>
    simp only [hh, cond_false] at h
    cases hw : wantedV fr o.o.guard with
    | none => simp [hw] at h
    | some b =>
      have hgd : ∀ t ∈ guardT o.o.guard, (∀ id cs, fr.get t ≠ some (.loc id cs)) ∧ (∀ j off id, fr.get t ≠ some (.der j off id)) := by
        intro t ht
        cases hgo : o.o.guard with
        | none => rw [hgo] at ht; simp [guardT] at ht
        | some p =>
          obtain ⟨g, b'⟩ := p
          rw [hgo] at ht hw
          simp [guardT] at ht; subst ht
          simp only [wantedV] at hw
          refine ⟨fun id cs e => ?_, fun j off id e => ?_⟩
          · rw [e] at hw; simp at hw
          · rw [e] at hw; simp at hw
      cases b with
      | false =>
        simp [hw] at h
        obtain ⟨rfl, rfl, rfl⟩ := h
        refine ⟨.junk, none, rfl, hh, (fun id cs e => by cases e), (fun s u e => by cases e), fun t ht => ?_, fun fr' st' ha hc he _ => ?_, fun _ => rfl⟩
        · simp only [used, hw, List.append_nil] at ht
          exact ⟨fun id cs e => absurd e ((hgd t ht).1 id cs), fun j off id e => absurd e ((hgd t ht).2 j off id)⟩
        · have hw' : wantedV fr' o.o.guard = some false := by rw [wantedV_agr fun t ht => ha t (by simp [used, ht]), hw]
          simp only [stepD, hc, cond_false, hw']
          cases hq : isEff o.kind with
          | true => simp [setO, he hq]
          | false => simp [setO]
      | true =>
        simp only [hw] at h
        cases hr : runK X call yield base fr st o.o.op o.kind with
        | none => simp [hr] at h
        | some q =>
          obtain ⟨v, s1, lg, frk⟩ := q
          simp only [hr] at h
          cases hl : (isLocV v && !(loud o.kind)) with
          | true => simp [hl] at h
          | false =>
            simp [hl] at h
            obtain ⟨rfl, rfl, rfl⟩ := h
            obtain ⟨ws, h1, h2, h3, h4⟩ := runK_spec hr
            refine ⟨v, ws, by rw [h1], hh, fun id cs e => ?_, fun s u e => ?_, fun t ht => ?_, fun fr' st' ha hc he hy => ?_, h3⟩
            · subst e
              simp [isLocV] at hl
              exact ⟨hl, by simp [locOf]⟩
            · obtain ⟨k1, id, cs, cs', k2, k3, k4⟩ := h2 s u e
              exact ⟨k1, id, cs, cs', k2, k3, by simp [k4]⟩
            · simp only [used, hw, List.mem_append] at ht
              rcases ht with ht | ht
              · exact ⟨fun id cs e => absurd e ((hgd t ht).1 id cs), fun j off id e => absurd e ((hgd t ht).2 j off id)⟩
              · have hm := locLog_mem (fr := fr) ht
                exact ⟨fun id cs e => by simp [hm.1 id cs e], fun j off id e => by simp [hm.2 j off id e]⟩
            · have hw' : wantedV fr' o.o.guard = some true := by rw [wantedV_agr fun t ht => ha t (by simp [used, ht]), hw]
              have ha' : ∀ t ∈ o.o.op.tmps, Agr fr fr' t := fun t ht => ha t (by simp [used, hw, ht])
              have hk := h4 fr' st' ha' he fun hq y hy' => hy hq y (by simp [hy'])
              simp only [stepD, hc, cond_false, hw', hk, hl, locLog_agr ha']
              simp
end
end Go.Ai
/-! Two operations of a region that draws, in either order. -/
namespace Go.Ai
open Go
set_option linter.unusedSimpArgs false
set_option linter.unusedVariables false

def FEq (fr fr' : T V) : Prop := ∀ t, fr'.get t = fr.get t
theorem FEq.agr {fr fr' : T V} (h : FEq fr fr') (t : Nat) : Agr fr fr' t := ⟨h t, fun j off id _ => by simp [locAt, h j]⟩

section
variable {X : Env} {st st' st1 st2 : St} {fr fr' fr1 fr2 fa fb : T V} {log lx li ls lo : List Tc} {v : V} {call : CallF} {yield : Nat → List V → St → R} {base top : Nat}

theorem get_out (fr : T V) (ws : Option (Nat × V)) (d : Option Nat) (v : V) (t : Nat) : (put (setO fr ws) d v).get t = if d = some t then some v else (match ws with | some (s, u) => if s = t then some u else fr.get t | none => fr.get t) := by
  cases d with
  | none => cases ws with
    | none => simp [put, setO]
    | some p => obtain ⟨s, u⟩ := p; simp [put, setO, T.get_set]
  | some d => cases ws with
    | none => simp [put, setO, T.get_set]
    | some p => obtain ⟨s, u⟩ := p; simp [put, setO, T.get_set]

/-- what one operation's writing leaves of what another one reads -/
structure Wr (fa : T V) (ws : Option (Nat × V)) (d : Option Nat) (v : V) (ls lo : List Tc) : Prop where
  clear : holdsLoc fa d = false
  vl : ∀ id cs, v = .loc id cs → ∀ b ∈ lo, id ≠ b.1
  wl : ∀ s u, ws = some (s, u) → ∃ id cs cs', fa.get s = some (.loc id cs) ∧ u = .loc id cs' ∧ ∀ b ∈ lo, id ≠ b.1
theorem Wr.locEq {ws : Option (Nat × V)} {d : Option Nat} (h : Wr fa ws d v ls lo) {j id : Nat} (hid : (id, 0) ∈ lo) : locAt (put (setO fa ws) d v) j id = locAt fa j id := by
  unfold locAt
  rw [get_out]
  by_cases hd : d = some j
  · rw [if_pos hd]
    have hc := h.clear
    rw [hd] at hc
    simp only [holdsLoc] at hc
    have e1 : locAt fa j id = none := by
      unfold locAt
      cases hg : fa.get j with
      | none => rfl
      | some x => cases x <;> simp [hg, isLocO] at hc ⊢
    unfold locAt at e1
    refine Eq.trans ?_ e1.symm
    cases v <;> try rfl
    rename_i id' cs
    have := h.vl id' cs rfl _ hid
    simp only
    rw [beqF (fun e => this e.symm)]
    rfl
  · rw [if_neg hd]
    cases ws with
    | none => rfl
    | some p =>
      obtain ⟨s, u⟩ := p
      simp only
      by_cases hs : s = j
      · subst hs
        obtain ⟨id', cs, cs', h1, rfl, h2⟩ := h.wl s u rfl
        rw [if_pos rfl, h1]
        have := h2 _ hid
        simp only
        rw [beqF (fun e => this e.symm)]
        rfl
      · rw [if_neg hs]
theorem Wr.getEq {ws : Option (Nat × V)} {d : Option Nat} (h : Wr fa ws d v ls lo) {t : Nat} (ht : d ≠ some t) {f : T V} (hf : f = fa ∨ f = put (setO fa ws) d v) (hr : ∀ id cs, f.get t = some (.loc id cs) → (id, 0) ∈ lo) :
    (put (setO fa ws) d v).get t = fa.get t := by
  rw [get_out, if_neg ht]
  cases ws with
  | none => rfl
  | some p =>
    obtain ⟨s, u⟩ := p
    simp only
    by_cases hs : s = t
    · subst hs
      obtain ⟨id', cs, cs', h1, rfl, h2⟩ := h.wl s u rfl
      exfalso
      rcases hf with rfl | rfl
      · exact h2 _ (hr _ _ h1) rfl
      · refine h2 _ (hr id' cs' ?_) rfl
        rw [get_out, if_neg ht]; simp
    · rw [if_neg hs]

/-- may be made in either order -/
structure Indep (top : Nat) (x i : DOpr) (lx li : List Tc) : Prop where
  xi : ∀ d, x.o.dst = some d → d ∉ i.names
  ix : ∀ d, i.o.dst = some d → d ∉ x.names
  eff : isEff x.kind = false ∨ isEff i.kind = false
  apart : (loud x.kind = true ∨ loud i.kind = true) → ∀ a ∈ lx, ∀ b ∈ li, a.1 ≠ b.1
  bx : isEff x.kind = true → ∀ b ∈ li, b.1 < top
  bi : isEff i.kind = true → ∀ a ∈ lx, a.1 < top

theorem used_names {o : DOpr} {t : Nat} (h : t ∈ used o fr) : t ∈ o.names := by
  unfold used at h
  unfold DOpr.names
  simp only [List.mem_append] at h ⊢
  rcases h with h | h
  · exact .inl (.inr h)
  · split at h
    · exact .inr h
    · cases h
theorem dst_names {o : DOpr} {d : Nat} (h : o.o.dst = some d) : d ∈ o.names := by simp [DOpr.names, dstT, h]
theorem eff_loud {k : Kd} (h : isEff k = true) : loud k = true := by cases k <;> simp_all [isEff, loud]

def HeapOk (o : DOpr) (st st1 : St) (log : List Tc) : Prop := st.next ≤ st1.next ∧ ∀ l, l < st.next → st1.heap.get l = st.heap.get l ∨ ∃ y ∈ log, y.1 = l

theorem swap2 {x i : DOpr} (hx : stepD X call yield base x fr st = some (fr1, st1, lx)) (hi : stepD X call yield base i fr1 st1 = some (fr2, st2, li)) (hI : Indep top x i lx li) (ht : top ≤ st.next)
    (hhx : HeapOk x st st1 lx) (hhi : HeapOk i st1 st2 li) : ∃ fr1' st1' fr2', stepD X call yield base i fr st = some (fr1', st1', li) ∧ stepD X call yield base x fr1' st1' = some (fr2', st2, lx) ∧ FEq fr2 fr2' := by
  obtain ⟨vx, wx, dx⟩ := stepD_spec hx
  obtain ⟨vi, wi, di⟩ := stepD_spec hi
  obtain ⟨xout, xclear, xvloc, xwsl, xread, xmove, xsame⟩ := dx
  obtain ⟨iout, iclear, ivloc, iwsl, iread, imove, isame⟩ := di
  subst xout
  have WX : Wr fr wx x.o.dst vx lx li := by
    refine ⟨xclear, fun id cs e b hb => ?_, fun s u e => ?_⟩
    · obtain ⟨h1, h2⟩ := xvloc id cs e
      exact hI.apart (.inl h1) _ h2 b hb
    · obtain ⟨h1, id, cs, cs', h2, h3, h4⟩ := xwsl s u e
      exact ⟨id, cs, cs', h2, h3, fun b hb => hI.apart (.inl (eff_loud h1)) _ h4 b hb⟩
  have hne : ∀ t, x.o.dst = some t → i.o.dst ≠ some t := fun t h1 h2 => hI.xi t h1 (dst_names h2)
  -- the second one first
  have c1 : holdsLoc fr i.o.dst = false := by
    cases hd : i.o.dst with
    | none => rfl
    | some d =>
      rw [hd] at iclear
      simp only [holdsLoc] at iclear ⊢
      have hxd : x.o.dst ≠ some d := fun e => hne d e hd
      rw [get_out, if_neg hxd] at iclear
      cases wx with
      | none => exact iclear
      | some p =>
        obtain ⟨s, u⟩ := p
        simp only at iclear
        by_cases hs : s = d
        · obtain ⟨_, id, cs, cs', h2, rfl, h4⟩ := xwsl s u rfl
          rw [if_pos hs] at iclear
          simp [isLocO] at iclear
        · rw [if_neg hs] at iclear; exact iclear
  have a1 : ∀ t ∈ used i (put (setO fr wx) x.o.dst vx), Agr (put (setO fr wx) x.o.dst vx) fr t := fun t hu =>
    ⟨(WX.getEq (f := put (setO fr wx) x.o.dst vx) (fun e => hI.xi t e (used_names hu)) (.inr rfl) (iread t hu).1).symm, fun j off id he => (WX.locEq ((iread t hu).2 j off id he)).symm⟩
  have b1 : isEff i.kind = true → st = st1 := fun e => by
    rcases hI.eff with h | h
    · exact (xsame h).symm
    · rw [h] at e; cases e
  have b2 : isEff i.kind = false → ∀ y ∈ li, st.heap.get y.1 = st1.heap.get y.1 := fun e y hy => by
    cases hq : isEff x.kind with
    | false => rw [xsame hq]
    | true =>
      rcases hhx.2 y.1 (Nat.lt_of_lt_of_le (hI.bx hq y hy) ht) with h | ⟨a, h1, h2⟩
      · exact h.symm
      · exact absurd h2 (hI.apart (.inl (eff_loud hq)) a h1 y hy)
  have m1 := imove fr st a1 c1 b1 b2
  -- then the first one
  have hwi : ∀ s u, wi = some (s, u) → ∃ id cs cs', fr.get s = some (.loc id cs) ∧ u = .loc id cs' ∧ (id, 0) ∈ li := fun s u e => by
    obtain ⟨h1, id, cs, cs', h2, h3, h4⟩ := iwsl s u e
    refine ⟨id, cs, cs', ?_, h3, h4⟩
    rw [get_out] at h2
    by_cases hd : x.o.dst = some s
    · rw [if_pos hd] at h2
      simp at h2
      obtain ⟨k1, k2⟩ := xvloc id cs h2
      exact absurd rfl (hI.apart (.inl k1) _ k2 _ h4)
    · rw [if_neg hd] at h2
      cases wx with
      | none => exact h2
      | some p =>
        have := (xwsl p.1 p.2 rfl).1
        rcases hI.eff with h | h
        · rw [h] at this; cases this
        · rw [h] at h1; cases h1
  have WI : Wr fr wi i.o.dst vi li lx := by
    refine ⟨c1, fun id cs e b hb e2 => ?_, fun s u e => ?_⟩
    · obtain ⟨h1, h2⟩ := ivloc id cs e
      exact hI.apart (.inr h1) b hb _ h2 e2.symm
    · obtain ⟨id, cs, cs', h2, h3, h4⟩ := hwi s u e
      exact ⟨id, cs, cs', h2, h3, fun b hb e2 => hI.apart (.inr (eff_loud (iwsl s u e).1)) b hb _ h4 e2.symm⟩
  have a2 : ∀ t ∈ used x fr, Agr fr (put (setO fr wi) i.o.dst vi) t := fun t hu =>
    ⟨WI.getEq (f := fr) (fun e => hI.ix t e (used_names hu)) (.inl rfl) (xread t hu).1, fun j off id he => WI.locEq ((xread t hu).2 j off id he)⟩
  have c2 : holdsLoc (put (setO fr wi) i.o.dst vi) x.o.dst = false := by
    cases hd : x.o.dst with
    | none => rfl
    | some d =>
      rw [hd] at xclear
      simp only [holdsLoc] at xclear ⊢
      rw [get_out, if_neg (hne d hd)]
      cases wi with
      | none => exact xclear
      | some p =>
        obtain ⟨s, u⟩ := p
        simp only
        by_cases hs : s = d
        · obtain ⟨id, cs, cs', h2, rfl, h4⟩ := hwi s u rfl
          subst hs
          rw [h2] at xclear
          simp [isLocO] at xclear
        · rw [if_neg hs]; exact xclear
  have b3 : isEff x.kind = true → (if isEff i.kind = true then st2 else st) = st := fun e => by
    rcases hI.eff with h | h
    · rw [h] at e; cases e
    · rw [h]; rfl
  have b4 : isEff x.kind = false → ∀ y ∈ lx, (if isEff i.kind = true then st2 else st).heap.get y.1 = st.heap.get y.1 := fun e y hy => by
    have hst := xsame e
    cases hq : isEff i.kind with
    | false => rfl
    | true =>
      simp only [if_true]
      rw [hst] at hhi
      rcases hhi.2 y.1 (Nat.lt_of_lt_of_le (hI.bi hq y hy) ht) with h | ⟨a, h1, h2⟩
      · exact h
      · exact absurd h2.symm (hI.apart (.inr (eff_loud hq)) y hy a h1)
  have m2 := xmove _ (if isEff i.kind = true then st2 else st) a2 c2 b3 b4
  have hfin : (if isEff x.kind = true then st1 else (if isEff i.kind = true then st2 else st)) = st2 := by
    cases hq : isEff x.kind with
    | true =>
      rcases hI.eff with h | h
      · rw [h] at hq; cases hq
      · exact (isame h).symm
    | false =>
      cases hq2 : isEff i.kind with
      | true => rfl
      | false => simp [isame hq2, xsame hq]
  rw [hfin] at m2
  refine ⟨_, _, _, m1, m2, fun t => ?_⟩
  rw [iout]
  simp only [get_out]
  by_cases hd : x.o.dst = some t
  · rw [if_pos hd, if_neg (hne t hd)]
    cases wi with
    | none => simp [get_out, hd]
    | some p =>
      obtain ⟨s, u⟩ := p
      obtain ⟨id, cs, cs', h2, rfl, h4⟩ := hwi s u rfl
      by_cases hs : s = t
      · subst hs
        rw [hd] at xclear
        simp [holdsLoc, h2, isLocO] at xclear
      · simp [get_out, hd, hs]
  · rw [if_neg hd]
    cases wx with
    | none =>
      simp only
      by_cases hd2 : i.o.dst = some t
      · rw [if_pos hd2, if_pos hd2]
      · rw [if_neg hd2, if_neg hd2]
        cases wi with
        | none => simp [get_out, hd, setO, put]
        | some p => obtain ⟨s, u⟩ := p; simp [get_out, hd]
    | some p =>
      obtain ⟨s, u⟩ := p
      obtain ⟨hex, id, cs, cs', h2, rfl, h4⟩ := xwsl s u rfl
      have hwn : wi = none := by
        cases hq : wi with
        | none => rfl
        | some p =>
          have := (iwsl p.1 p.2 (by rw [hq])).1
          rcases hI.eff with h | h
          · rw [h] at hex; cases hex
          · rw [h] at this; cases this
      subst hwn
      simp only
      by_cases hs : s = t
      · subst hs
        rw [if_pos rfl]
        have hd2 : i.o.dst ≠ some s := fun e => by
          rw [e] at iclear
          simp [holdsLoc, get_out, hd, isLocO] at iclear
        rw [if_neg hd2]
        simp [get_out, hd]
      · rw [if_neg hs]
        by_cases hd2 : i.o.dst = some t
        · rw [if_pos hd2, if_pos hd2]
        · rw [if_neg hd2, if_neg hd2]
          simp [get_out, hd, hs]
end
end Go.Ai
/-! The own blocks of a region that draws. -/
namespace Go.Ai
open Go
set_option linter.unusedSimpArgs false
set_option linter.unusedVariables false

section
variable {P : Program} {X : Env} {g g' g0 : G} {st st' st0 : St} {w w' w0 : World} {fr fr' fr0 : T V} {tmps : Array Value} {log : List Tc} {v : V} {a : Act} {call : CallF} {yield : Nat → List V → St → R}

theorem isAlloc_inv {pm : List Nat} {o : Oper} {here : Bool} {zs : List V} (h : cOp P pm o = .alloc here zs) : ∃ t, o.op = .alloc t ∧ zeroT P t = some zs := by
  unfold cOp at h
  cases hop : o.op <;> simp only [hop] at h
  case alloc t =>
    split at h
    · rename_i h1; simp at h; obtain ⟨_, rfl⟩ := h; exact ⟨t, rfl, h1⟩
    · cases h
  all_goals (exfalso; revert h; (try simp only [o1, o2, cBin, cCall, Bool.cond_eq_ite]); repeat' split)
  all_goals (intro h; first | (cases h; done) | contradiction | (cases h; contradiction))
theorem isBox_inv {pm : List Nat} {o : Oper} {here : Bool} {y : Opd} (h : cOp P pm o = .box here y) : ∃ t x, o.op = .box t x ∧ cOpd x = some y := by
  unfold cOp at h
  cases hop : o.op <;> simp only [hop] at h
  case box t x =>
    unfold o1 at h
    split at h
    · rename_i h1; simp at h; obtain ⟨_, rfl⟩ := h; exact ⟨t, x, rfl, h1⟩
    · cases h
  all_goals (exfalso; revert h; (try simp only [o1, o2, cBin, cCall, Bool.cond_eq_ite]); repeat' split)
  all_goals (intro h; first | (cases h; done) | contradiction | (cases h; contradiction))
theorem Sim.same {st2 : St} (h : Sim P X g st w) (h1 : st2.heap = st.heap) (h2 : st2.next = st.next) : Sim P X g st2 w :=
  ⟨h.sz, fun l x hl => by rw [h2]; exact h.lt l x hl, fun l b hl => by rw [h2]; rw [h1] at hl; exact h.ht l b hl, h.own, fun l bl hl ha => h.blk l bl (by rw [← h1]; exact hl) ha, h.fz, h.glob⟩
theorem live_same {st2 : St} (h1 : st2.heap = st.heap) (l : Nat) : live st2 l ↔ live st l := by unfold live; rw [h1]
theorem Step.same {sa sb : St} (h : Step P X g st w g' st' w') (h1 : sa.heap = st.heap) (h2 : sa.next = st.next) (h3 : sb.heap = st'.heap) (h4 : sb.next = st'.next) : Step P X g sa w g' sb w' :=
  ⟨h.le, h.sim.same h3 h4, by rw [h2, h4]; exact h.next, h.size, fun b o hb hn => h.keep b o hb fun l hl hv => hn l hl ((live_same h1 l).2 hv),
    fun b l ho hb => (h.born b l ho hb).imp id fun ⟨l0, e1, e2⟩ => ⟨l0, e1, (live_same h1 l0).2 e2⟩, fun l hl hv => (live_same h1 l).2 (h.dead l (by rw [← h2]; exact hl) ((live_same h3 l).1 hv)), h.os, h.out, h.tape, fun l x hl hx => h.old l x (by rw [← h2]; exact hl) hx, h.fzo⟩


theorem Hop.same {sa sb : St} (h : Hop P X g st w fr g' st' w' fr') (h1 : sa.heap = st.heap) (h2 : sa.next = st.next) (h3 : sb.heap = st'.heap) (h4 : sb.next = st'.next) : Hop P X g sa w fr g' sb w' fr' :=
  ⟨h.le, h.sim.same h3 h4, by rw [h2, h4]; exact h.next, h.size, fun b o hb hn => h.keep b o hb fun l hl => ⟨fun hv => (hn l hl).1 ((live_same h1 l).2 hv), (hn l hl).2⟩,
    fun b l ho hb => (h.born b l ho hb).imp id fun ⟨l0, e1, e2⟩ => ⟨l0, e1, (live_same h1 l0).2 e2⟩, fun l hl hv => (live_same h1 l).2 (h.dead l (by rw [← h2]; exact hl) ((live_same h3 l).1 hv)), h.os, h.out, h.tape, fun l x hl hx => h.old l x (by rw [← h2]; exact hl) hx, h.fzo,
    fun id hm => by rw [h2]; exact h.mine id hm⟩
theorem FrR.same {s : St} (hf : FrR g st w fr tmps) (h1 : s.heap = st.heap) : FrR g s w fr tmps := by
  refine ⟨fun i v hi => ⟨(hf.val i v hi).1, ?_⟩, hf.apart⟩
  have := (hf.val i v hi).2
  cases v <;> try exact this
  obtain ⟨k1, k2, k3⟩ := this
  exact ⟨k1, fun hv => k2 ((live_same h1 _).1 hv), k3⟩
theorem Sim.bump (h : Sim P X g st w) (k : Nat) : Sim P X g { heap := st.heap, next := st.next + k, lim := st.lim, wr := st.wr } w :=
  ⟨h.sz, fun l x hl => Nat.lt_of_lt_of_le (h.lt l x hl) (Nat.le_add_right _ _), fun l b hl => Nat.lt_of_lt_of_le (h.ht l b hl) (Nat.le_add_right _ _), h.own, h.blk, h.fz, h.glob⟩
theorem Hop.bump (h : Sim P X g st w) (k : Nat) : Hop P X g st w fr g { heap := st.heap, next := st.next + k, lim := st.lim, wr := st.wr } w fr :=
  ⟨G.le.refl g, h.bump k, Nat.le_add_right _ _, Nat.le_refl _, fun b o hb _ => ⟨hb, rfl⟩, fun b l ho _ => .inl ho, fun l _ hv => hv, rfl, rfl, rfl, fun l x _ hx => hx, fun _ _ _ h => h, fun id hm => .inl hm⟩

/-- a frame whose locals are fewer -/
theorem Hop.less (h : Hop P X g st w fr g' st' w' fr') {fr2 : T V} (hm : ∀ id, Go.Ai.mine fr2 id → Go.Ai.mine fr' id) : Hop P X g st w fr g' st' w' fr2 :=
  ⟨h.le, h.sim, h.next, h.size, h.keep, h.born, h.dead, h.os, h.out, h.tape, h.old, h.fzo, fun id hi => h.mine id (hm id hi)⟩
theorem FrR.ptr (hf : FrR g st w fr tmps) {t id : Nat} {cs : List V} (hg : fr.get t = some (.loc id cs)) : FrR g st w (fr.set t (.ptr id 0)) tmps ∧ ∀ k, mine (fr.set t (.ptr id 0)) k → mine fr k ∧ k ≠ id := by
  refine ⟨⟨fun i v hi => ?_, fun i j k cs' cs'' hi hj => ?_⟩, fun k hk => ?_⟩
  · rw [T.get_set] at hi
    by_cases e : t = i
    · subst e
      rw [if_pos rfl] at hi
      simp at hi; subst hi
      obtain ⟨h1, h2⟩ := hf.val t _ hg
      obtain ⟨_, _, b, top, h3, h4⟩ := h2
      refine ⟨h1, ?_⟩
      simp only [VR, Rep, RepL]
      exact ⟨b, 0, top, h3, by simpa using h4⟩
    · rw [if_neg e] at hi; exact hf.val i v hi
  · rw [T.get_set] at hi hj
    by_cases e : t = i
    · rw [if_pos e] at hi; cases hi
    · by_cases e2 : t = j
      · rw [if_pos e2] at hj; cases hj
      · rw [if_neg e] at hi; rw [if_neg e2] at hj
        exact hf.apart i j k cs' cs'' hi hj
  · obtain ⟨i, cs', hi⟩ := hk
    rw [T.get_set] at hi
    by_cases e : t = i
    · rw [if_pos e] at hi; cases hi
    · rw [if_neg e] at hi
      refine ⟨⟨i, cs', hi⟩, fun e2 => ?_⟩
      subst e2
      exact e (hf.apart t i k cs cs' hg hi)
theorem retire_ok : ∀ {ts : List Nat} {fr : T V}, FrR g st w fr tmps → FrR g st w (retire ts fr) tmps ∧ ∀ k, mine (retire ts fr) k → mine fr k
  | [], fr, hf => ⟨hf, fun _ h => h⟩
  | t :: ts, fr, hf => by
    simp only [retire]
    split
    · rename_i id cs hg
      obtain ⟨h1, h2⟩ := hf.ptr hg
      obtain ⟨h3, h4⟩ := retire_ok (ts := ts) h1
      exact ⟨h3, fun k hk => (h2 k (h4 k hk)).1⟩
    · exact retire_ok hf

/-- a local becomes a block that all may see -/
theorem Sim.pub (h : Sim P X g st w) {id : Nat} {cs : List V} (hl : LocR g w id cs) : Sim P X g { heap := st.heap.set id (.cells cs.length (T.ofList cs)), next := st.next, lim := st.lim, wr := st.wr } w := by
  obtain ⟨b, c, e, h1, h2, h3, h4, h5⟩ := hl
  refine ⟨h.sz, h.lt, fun l bl hg => ?_, h.own, fun l bl hg ha => ?_, h.fz, h.glob⟩
  · simp only [T.get_set] at hg
    by_cases e1 : id = l
    · subst e1; exact h.lt _ _ h1
    · rw [if_neg e1] at hg; exact h.ht l bl hg
  · simp only [T.get_set] at hg
    by_cases e1 : id = l
    · subst e1
      rw [if_pos rfl] at hg
      simp at hg; subst hg
      exact ⟨b, 0, c.size, _, h1, h2, h3, c, e, rfl, rfl, by omega, fun i hi => by
        obtain ⟨v, u, k1, k2⟩ := h5 i hi
        exact ⟨v, u, by rw [T.get_ofList]; exact k1, k2⟩⟩
    · rw [if_neg e1] at hg; exact h.blk l bl hg ha
theorem publish_ok : ∀ {ts : List Nat} {fr : T V} {st : St}, publish st0.next ts fr st = some (fr', st') → Hop P X g0 st0 w0 fr0 g st w fr → FrR g st w fr tmps → Hop P X g0 st0 w0 fr0 g st' w fr' ∧ FrR g st' w fr' tmps
  | [], fr, st, h, hh, hf => by
    simp [publish] at h
    obtain ⟨rfl, rfl⟩ := h
    exact ⟨hh, hf⟩
  | t :: ts, fr, st, h, hh, hf => by
    simp only [publish] at h
    split at h
    · rename_i id cs hg
      cases hb : Nat.ble st0.next id with
      | false => simp [hb] at h
      | true =>
        simp only [hb, cond_true] at h
        have hid := bleT hb
        obtain ⟨k1, k2, k3⟩ := (hf.val t _ hg).2
        obtain ⟨f1, f2⟩ := hf.ptr hg
        have hlive : ∀ l, live { heap := st.heap.set id (.cells cs.length (T.ofList cs)), next := st.next, lim := st.lim, wr := st.wr } l → l = id ∨ live st l := fun l ⟨bl, h1, h2⟩ => by
          simp only [T.get_set] at h1
          by_cases e : id = l
          · exact .inl e.symm
          · rw [if_neg e] at h1; exact .inr ⟨bl, h1, h2⟩
        refine publish_ok h ⟨hh.le, hh.sim.pub k1, hh.next, hh.size, hh.keep, hh.born, fun l hl hv => ?_, hh.os, hh.out, hh.tape, hh.old, hh.fzo, fun k hk => hh.mine k (f2 k hk).1⟩ ⟨fun i v hi => ⟨(f1.val i v hi).1, ?_⟩, f1.apart⟩
        · rcases hlive l hv with e | hv
          · omega
          · exact hh.dead l hl hv
        · have h3 := (f1.val i v hi).2
          cases v <;> try exact h3
          rename_i id2 cs2
          obtain ⟨q1, q2, q3⟩ := h3
          refine ⟨q1, fun hv => ?_, q3⟩
          rcases hlive _ hv with e | hv
          · exact (f2 id2 ⟨i, cs2, hi⟩).2 e
          · exact q2 hv
    · exact publish_ok h hh hf

/-- a region's own block is laid -/
theorem Sim.newAt (h : Sim P X g st w) {id : Nat} (hn : g.loc id = none) (hlt : id < st.next) {c : Array Value} {e : TypeId} (hw : Wpush w w' (.cells c e (0, 0))) : Sim P X (g.newLoc id w.heap.size 0 c.size) st w' := by
  have hle : g.le (g.newLoc id w.heap.size 0 c.size) := le_newLoc hn
  have hold : ∀ b x, w.heap[b]? = some x → b ≠ w.heap.size := fun b x hx e => by have := lt_of_get hx; omega
  refine ⟨fun b l ho => ?_, fun l x hl => ?_, h.ht, fun b l ho => ?_, fun l bl hl ha => ?_, fun b m hm => ?_, fun k v hk => ?_⟩
  · rw [hw.size]
    by_cases e : b = w.heap.size
    · omega
    · simp only [G.newLoc, e, if_false] at ho
      exact Nat.lt_succ_of_lt (h.sz b l ho)
  · by_cases e : l = id
    · omega
    · simp only [G.newLoc, e, if_false] at hl
      exact h.lt l x hl
  · by_cases e : b = w.heap.size
    · simp only [G.newLoc, e, if_true, Option.some.injEq] at ho
      subst ho
      exact ⟨0, c.size, by simp [G.newLoc, e]⟩
    · simp only [G.newLoc, e, if_false] at ho
      obtain ⟨bs, tp, h1⟩ := h.own b l ho
      exact ⟨bs, tp, hle.loc _ _ h1⟩
  · obtain ⟨b, bs, tp, o', h2, h3, h4, h5⟩ := h.blk l bl hl ha
    exact ⟨b, bs, tp, o', hle.loc _ _ h2, by simp [G.newLoc, hold b _ h4, h3], hw.get h4, h5.mono hle⟩
  · obtain ⟨h0, c, e, f, h1, h2⟩ := h.fz b m hm
    exact ⟨by simp [G.newLoc, hold b _ h1, h0], c, e, f, hw.get h1, fun i v hi => let ⟨h3, u, h4, h5⟩ := h2 i v hi; ⟨h3, u, h4, h5.mono hle⟩⟩
  · obtain ⟨h0, h5, c, e, f, u, h1, h2, h3⟩ := h.glob k v hk
    exact ⟨by simp [G.newLoc, hold k _ h1, h0], h5, c, e, f, u, hw.get h1, h2, h3.mono hle⟩
theorem newAt_ok (hh : Hop P X g0 st0 w0 fr0 g st w fr) (hf : FrR g st w fr a.tmps) {id : Nat} (hn : g.loc id = none) (hlo : st0.next ≤ id) (hlt : id < st.next) {cs : List V} {z : Value} {e : TypeId} (hr : Reps g cs z.cells.toList) (hl : leafs cs = true) :
    ∃ u w' g', (do pure (.pointer (some (← newVar e z))) : Sem Value).run P w = .ok u w' ∧ Hop P X g0 st0 w0 fr0 g' st w' fr ∧ VR g' st w' (.loc id cs) u ∧ Fresh fr (.loc id cs) ∧ FrR g' st w' fr a.tmps ∧ ∀ l, l ≠ id → g.loc l = none → g'.loc l = none := by
  have hw : Wpush w { w with heap := w.heap.push (.cells z.cells e (0, 0)) } (.cells z.cells e (0, 0)) := ⟨rfl, rfl, rfl, rfl⟩
  have hlen : cs.length = z.cells.size := by simpa using Reps_length hr
  have hle : g.le (g.newLoc id w.heap.size 0 z.cells.size) := le_newLoc hn
  have hrun : (do pure (.pointer (some (← newVar e z))) : Sem Value).run P w = .ok (.pointer (some ⟨w.heap.size, 0, none⟩)) { w with heap := w.heap.push (.cells z.cells e (0, 0)) } := by simp [run_newVar]
  have hown : ∀ b, b < w.heap.size → (g.newLoc id w.heap.size 0 z.cells.size).own b = g.own b := fun b hb => by simp [G.newLoc, Nat.ne_of_lt hb]
  have hnl : ¬ live st id := fun ⟨bl, h1, h2⟩ => by
    obtain ⟨_, _, _, _, h3, _⟩ := hh.sim.blk id bl h1 h2
    rw [hn] at h3; cases h3
  refine ⟨_, _, g.newLoc id w.heap.size 0 z.cells.size, hrun, ⟨hh.le.trans hle, hh.sim.newAt hn hlt hw, hh.next, by rw [hw.size]; exact Nat.le_succ_of_le hh.size, fun b o hb hq => ?_, fun b l ho hb => ?_, hh.dead, hh.os, hh.out, hh.tape, fun l x hl hx => ?_, fun b m hb hm => hh.fzo b m hb hm, hh.mine⟩, ?_, ?_, ⟨fun i v hi => ⟨(hf.val i v hi).1, ?_⟩, hf.apart⟩, fun l hne hl => ?_⟩
  · obtain ⟨h1, h2⟩ := hh.keep b o hb hq
    exact ⟨hw.get h1, by rw [hown b (lt_of_get h1)]; exact h2⟩
  · rw [hown b (Nat.lt_of_lt_of_le hb hh.size)] at ho
    exact hh.born b l ho hb
  · have hne : l ≠ id := by omega
    simp only [G.newLoc, hne, if_false] at hx
    exact hh.old l x hl hx
  · refine ⟨⟨w.heap.size, z.cells, e, by simp [G.newLoc], by simp [G.newLoc], hw.here, hlen.symm, cellsR_list (hr.mono' hle) hl⟩, hnl, w.heap.size, z.cells.size, by simp [G.newLoc], rfl⟩
  · intro k cs' e i cs'' hi
    cases e
    obtain ⟨_, ⟨b, c, e, h1, h2, _⟩, _⟩ := hf.val i _ hi
    rw [hn] at h1; cases h1
  · have h3 := (hf.val i v hi).2
    cases v <;> (try exact Rep.mono hle _ _ h3)
    · obtain ⟨⟨b, c, e, q1, q2, q3, q4, q5⟩, q6, b2, top, q7, q8⟩ := h3
      exact ⟨⟨b, c, e, hle.loc _ _ q1, by rw [hown b (lt_of_get q3)]; exact q2, hw.get q3, q4, q5.mono hle⟩, q6, b2, top, hle.loc _ _ q7, q8⟩
    · obtain ⟨b, top, q1, q2⟩ := h3
      exact ⟨b, top, hle.loc _ _ q1, q2⟩
  · simp [G.newLoc, hne, hl]
/-- of an operation that lays one -/
theorem slot_ok (hh : Hop P X g0 st0 w0 fr0 g st w fr) (hf : FrR g st w fr a.tmps) {k : Nat} (hn : g.loc (st0.next + k) = none) (hlt : st0.next + k < st.next) {pm : List Nat} {o : Oper} {st1 : St} {fr1 : T V}
    (h : runK X call yield st0.next fr st (cOp P pm o) (.slot k) = some (v, st1, log, fr1)) : st1 = st ∧ fr1 = fr ∧ ∃ u w' g', (execOp a.eval o).run P w = .ok (.value u) w' ∧ (∀ c, o.op ≠ .defer c) ∧ Hop P X g0 st0 w0 fr0 g' st w' fr ∧ VR g' st w' v u ∧ Fresh fr v ∧ (∀ id cs, v = .loc id cs → st0.next ≤ id) ∧ FrR g' st w' fr a.tmps ∧
      ∀ l, l ≠ st0.next + k → g.loc l = none → g'.loc l = none := by
  simp only [runK] at h
  split at h
  · rename_i here zs hop
    simp at h
    obtain ⟨rfl, rfl, rfl, rfl⟩ := h
    obtain ⟨t, h1, h2⟩ := isAlloc_inv hop
    obtain ⟨z, h3, h4, h5⟩ := zeroT_spec h2 g
    obtain ⟨u, w', g', k1, k2⟩ := newAt_ok (e := t) hh hf hn (Nat.le_add_right _ _) hlt h4 h5
    refine ⟨rfl, rfl, u, w', g', ?_, (fun c e => by rw [h1] at e; cases e), k2.1, k2.2.1, k2.2.2.1, (fun id cs e => by cases e; exact Nat.le_add_right _ _), k2.2.2.2⟩
    simp only [execOp, h1]
    have : (Instr.alloc t true (.tuple #[])).run P w = .ok u w' := by simpa [Instr.alloc, h3 w] using k1
    simp [this]
  · rename_i here y hop
    obtain ⟨t, x, h1, h2⟩ := isBox_inv hop
    split at h
    · rename_i xv hev
      split at h
      · rename_i cs hc
        simp at h
        obtain ⟨rfl, rfl, rfl, rfl⟩ := h
        obtain ⟨h3, h4⟩ := cells?_spec hc (ev_sound hf h2 hev).1
        obtain ⟨u, w', g', k1, k2⟩ := newAt_ok (e := t) hh hf hn (Nat.le_add_right _ _) hlt h4 h3
        refine ⟨rfl, rfl, u, w', g', ?_, (fun c e => by rw [h1] at e; cases e), k2.1, k2.2.1, k2.2.2.1, (fun id cs e => by cases e; exact Nat.le_add_right _ _), k2.2.2.2⟩
        simp only [execOp, h1]
        have : (Instr.box t (a.eval x)).run P w = .ok u w' := k1
        simp [this]
      · cases h
    · cases h
  · cases h
end
end Go.Ai
/-! Regions that draw: any order. -/
namespace Go.Ai
open Go
set_option linter.unusedSimpArgs false
set_option linter.unusedVariables false

section
variable {X : Env} {st st' st1 st2 stF : St} {fr fr' fr1 fr2 frF : T V} {log lx li : List Tc} {v : V} {call : CallF} {yield : Nat → List V → St → R} {base top : Nat}

/-! ### runs -/
def RunOk (X : Env) (call : CallF) (yield : Nat → List V → St → R) (base : Nat) : List (DOpr × List Tc) → T V → St → T V → St → Prop
  | [], fr, st, frF, stF => FEq fr frF ∧ st = stF
  | (o, l) :: os, fr, st, frF, stF => ∃ fr1 st1, stepD X call yield base o fr st = some (fr1, st1, l) ∧ RunOk X call yield base os fr1 st1 frF stF

theorem FEq.trans {a b c : T V} (h : FEq a b) (k : FEq b c) : FEq a c := fun t => (k t).trans (h t)
theorem FEq.symm {a b : T V} (h : FEq a b) : FEq b a := fun t => (h t).symm
theorem RunOk.congr : ∀ {os : List (DOpr × List Tc)} {fr fr' : T V} {st : St}, FEq fr fr' → RunOk X call yield base os fr st frF stF → RunOk X call yield base os fr' st frF stF
  | [], fr, fr', st, h, hr => ⟨h.symm.trans hr.1, hr.2⟩
  | (o, l) :: os, fr, fr', st, h, ⟨fr1, st1, h1, h2⟩ => by
    obtain ⟨v, ws, hd⟩ := stepD_spec h1
    have hc : holdsLoc fr' o.o.dst = false := by
      have := hd.clear
      cases hq : o.o.dst with
      | none => rfl
      | some d => rw [hq] at this; simpa [holdsLoc, h d] using this
    have hm := hd.move fr' st (fun t _ => h.agr t) hc (fun _ => rfl) (fun _ _ _ => rfl)
    have hst : (if isEff o.kind = true then st1 else st) = st1 := by
      cases hq : isEff o.kind with
      | true => rfl
      | false => simp [hd.same hq]
    rw [hst] at hm
    refine ⟨_, _, hm, RunOk.congr (fun t => ?_) h2⟩
    rw [hd.out]
    simp only [get_out, h t]

theorem stepD_heap (hc : CallU call) (hy : YieldU yield) {o : DOpr} (h : stepD X call yield base o fr st = some (fr1, st1, log)) : HeapOk o st st1 log := by
  have hself : st1 = st → HeapOk o st st1 log := fun e => by subst e; exact ⟨Nat.le_refl _, fun l _ => .inl rfl⟩
  cases hk : isEff o.kind with
  | false =>
    obtain ⟨v, ws, hd⟩ := stepD_spec h
    exact hself (hd.same hk)
  | true =>
    cases hq : o.kind <;> rw [hq] at hk <;> (try cases hk; done)
    simp only [stepD, Bool.cond_eq_ite] at h
    split at h
    · cases h
    · split at h
      · split at h
        · rename_i hr
          split at h
          · cases h
          · simp only [Option.some.injEq, Prod.mk.injEq] at h; obtain ⟨_, rfl, rfl⟩ := h
            rw [hq] at hr
            simp only [runK] at hr
            split at hr
            · rename_i hr
              simp only [Option.some.injEq, Prod.mk.injEq] at hr; obtain ⟨_, rfl, rfl, _⟩ := hr
              have hu := runOp_unw hc hy (Nat.le_refl _) hr
              refine ⟨hu.next, fun l hl => ?_⟩
              rcases hu.heap l hl with h1 | ⟨y, h1, h2⟩
              · exact .inl h1
              · exact .inr ⟨y, by simp [h1], h2⟩
            · cases hr
        · cases h
      · simp only [Option.some.injEq, Prod.mk.injEq] at h; obtain ⟨_, rfl, _⟩ := h; exact hself rfl
      · cases h

theorem RunOk.front (hc : CallU call) (hy : YieldU yield) {p : DOpr × List Tc} {ys : List (DOpr × List Tc)} : ∀ {xs : List (DOpr × List Tc)} {fr : T V} {st : St}, top ≤ st.next → (∀ x ∈ xs, Indep top x.1 p.1 x.2 p.2) →
    RunOk X call yield base (xs ++ p :: ys) fr st frF stF → RunOk X call yield base (p :: (xs ++ ys)) fr st frF stF
  | [], fr, st, ht, hi, h => h
  | (o, l) :: xs, fr, st, ht, hi, ⟨fr1, st1, h1, h2⟩ => by
    have hh := stepD_heap hc hy h1
    obtain ⟨fr2, st2, h3, h4⟩ := RunOk.front hc hy (xs := xs) (Nat.le_trans ht hh.1) (fun x hx => hi x (by simp [hx])) h2
    obtain ⟨fr1', st1', fr2', k1, k2, k3⟩ := swap2 h1 h3 (hi (o, l) (by simp)) ht hh (stepD_heap hc hy h3)
    exact ⟨fr1', st1', k1, fr2', st2, k2, RunOk.congr k3 h4⟩

/-! ### what has been looked at -/
def Dyn (top : Nat) : List (List Tc) → List (DOpr × List Tc) → Prop
  | _, [] => True
  | logs, (o, l) :: r => apartAll l logs o.far = true ∧ (o.chk = true → below top l = true) ∧ Dyn top (l :: logs) r
theorem runOpsD_dyn : ∀ {os : List DOpr} {logs : List (List Tc)} {fr : T V} {st : St}, runOpsD X call yield base top os logs fr st = some (frF, stF) → ∃ L : List (DOpr × List Tc), L.map (·.1) = os ∧ RunOk X call yield base L fr st frF stF ∧ Dyn top logs L
  | [], logs, fr, st, h => by
    simp [runOpsD] at h
    obtain ⟨rfl, rfl⟩ := h
    exact ⟨[], rfl, ⟨fun _ => rfl, rfl⟩, trivial⟩
  | o :: os, logs, fr, st, h => by
    simp only [runOpsD] at h
    cases h1 : stepD X call yield base o fr st with
    | none => simp [h1] at h
    | some q =>
      obtain ⟨fr1, st1, l⟩ := q
      simp only [h1] at h
      cases h2 : (apartAll l logs o.far && (!o.chk || below top l)) with
      | false => simp [h2] at h
      | true =>
        simp only [h2, cond_true] at h
        obtain ⟨L, e1, e2, e3⟩ := runOpsD_dyn h
        simp only [Bool.and_eq_true, Bool.or_eq_true, Bool.not_eq_true'] at h2
        exact ⟨(o, l) :: L, by simp [e1], ⟨fr1, st1, h1, e2⟩, h2.1, fun hc => by simpa [hc] using h2.2, e3⟩

theorem apart_spec : ∀ {a b : List Tc}, apart a b = true → ∀ x ∈ a, ∀ y ∈ b, y.1 ≠ x.1
  | x :: xs, b, h, z, hz, y, hy => by
    simp only [apart] at h
    cases h1 : b.any (hitB x) with
    | true => simp [h1] at h
    | false =>
      simp only [h1, cond_false] at h
      rcases List.mem_cons.1 hz with rfl | hz
      · intro e
        have : b.any (hitB z) = true := List.any_eq_true.2 ⟨y, hy, by simp [hitB, e]⟩
        rw [this] at h1; cases h1
      · exact apart_spec h z hz y hy
theorem apartAll_spec {l : List Tc} {logs : List (List Tc)} : ∀ {js : List Nat}, apartAll l logs js = true → ∀ q, js.any (Nat.beq q) = true → ∃ l', logs[q]? = some l' ∧ apart l l' = true
  | j :: js, h, q, hq => by
    simp only [apartAll] at h
    cases h1 : nth? logs j with
    | none => simp [h1] at h
    | some l' =>
      simp only [h1] at h
      cases h2 : apart l l' with
      | false => simp [h2] at h
      | true =>
        simp only [h2, cond_true] at h
        simp only [List.any_cons, Bool.or_eq_true] at hq
        rcases hq with hq | hq
        · rw [beqT hq]; exact ⟨l', by rw [← nth?_eq]; exact h1, h2⟩
        · exact apartAll_spec h q hq
theorem below_spec {n : Nat} : ∀ {l : List Tc}, below n l = true → ∀ y ∈ l, y.1 < n
  | x :: xs, h, y, hy => by
    simp only [below] at h
    cases h1 : Nat.blt x.1 n with
    | false => simp [h1] at h
    | true =>
      simp only [h1, cond_true] at h
      rcases List.mem_cons.1 hy with rfl | hy
      · exact bltT h1
      · exact below_spec h y hy
theorem notIn_spec {l : List Nat} {o : Option Nat} (h : notIn l o = true) : ∀ d, o = some d → d ∉ l := fun d e hd => by
  subst e
  simp only [notIn, Bool.not_eq_true'] at h
  have : l.any (Nat.beq d) = true := List.any_eq_true.2 ⟨d, hd, by simp⟩
  rw [this] at h; cases h

/-- of one operation with those ahead of it -/
def Pre (top k m : Nat) (d : DOpr × List Tc) (j : Nat) (x : DOpr × List Tc) : Prop := slotsApart x.1.kind d.1.kind = true ∧ (bitAt m j = true ∨ Indep top x.1 d.1 x.2 d.2)
theorem okOne_spec {k m : Nat} {d : DOpr × List Tc} (hd : d.1.chk = true → below top d.2 = true) (B0 : List (DOpr × List Tc)) (hB0 : ∀ x ∈ B0, x.1.chk = true → below top x.2 = true) (hap : apartAll d.2 (B0.map (·.2)) d.1.far = true) :
    ∀ {B : List (DOpr × List Tc)} {q : Nat}, B0.drop q = B → okOne m d.1 q (B.map (·.1)) B.length = true → ∀ r x, B[r]? = some x → Pre top k m d (B.length - 1 - r) x
  | [], q, hB, h, r, x, hx => by simp at hx
  | y :: B, q, hB, h, r, x, hx => by
    simp only [List.map_cons, List.length_cons, okOne, Bool.and_eq_true, Bool.or_eq_true, Nat.add_sub_cancel] at h
    obtain ⟨⟨h1, h2⟩, h3⟩ := h
    have hy0 : B0[q]? = some y := by have := congrArg (fun l => l[0]?) hB; simpa using this
    cases r with
    | succ r =>
      have hB' : B0.drop (q + 1) = B := by rw [← List.tail_drop, hB]; rfl
      have := okOne_spec (k := k) hd B0 hB0 hap hB' h3 r x (by simpa using hx)
      rw [show (y :: B).length - 1 - (r + 1) = B.length - 1 - r from by simp; omega]
      exact this
    | zero =>
      simp at hx; subst hx
      refine ⟨h1, ?_⟩
      rcases h2 with h2 | h2
      · left; simpa using h2
      · right
        simp only [pairOk, Bool.and_eq_true, Bool.or_eq_true, Bool.not_eq_true'] at h2
        obtain ⟨⟨⟨⟨e1, e2⟩, e3⟩, e4⟩, e5⟩ := h2
        have hyc := hB0 y (List.mem_of_getElem? hy0)
        refine ⟨notIn_spec e1, notIn_spec e2, ?_, fun hl a ha b hb => ?_, fun hx b hb => ?_, fun hx a ha => ?_⟩
        · cases hq : isEff y.1.kind with
          | false => exact .inl rfl
          | true => right; simpa [hq] using e3
        · have hfar : d.1.far.any (Nat.beq q) = true := by
            rcases e4 with e4 | e4
            · rcases hl with hl | hl <;> simp [hl] at e4
            · exact e4
          obtain ⟨l', k1, k2⟩ := apartAll_spec hap q hfar
          have : l' = y.2 := by
            rw [List.getElem?_map, hy0] at k1
            simpa using k1.symm
          subst this
          exact apart_spec k2 b hb a ha
        · have : d.1.chk = true := by
            rcases e5 with e5 | e5
            · simp [hx] at e5
            · rcases e5.2 with e | e
              · rw [hx, e] at e3; simp at e3
              · exact e
          exact below_spec (hd this) b hb
        · have : y.1.chk = true := by
            rcases e5 with e5 | e5
            · simp [hx] at e5
            · rcases e5.1 with e | e
              · rw [hx, e] at e3; simp at e3
              · exact e
          exact below_spec (hyc this) a ha
theorem okGo_spec {k : Nat} : ∀ {L : List (DOpr × List Tc)} {ms : List Nat} {B : List (DOpr × List Tc)}, okGo k ms (B.map (·.1)) B.length (L.map (·.1)) = true → Dyn top (B.map (·.2)) L → (∀ x ∈ B, x.1.chk = true → below top x.2 = true) →
    ∀ i d, L[i]? = some d → ∃ m, ms[i]? = some m ∧ slotOk k d.1.kind = true ∧ ∀ j x, j < B.length + i → (B.reverse ++ L)[j]? = some x → Pre top k m d j x
  | [], ms, B, h, hd, hB, i, d, hi => by simp at hi
  | y :: L, [], B, h, hd, hB, i, d, hi => by simp [okGo] at h
  | y :: L, m :: ms, B, h, hd, hB, i, d, hi => by
    simp only [List.map_cons, okGo, Bool.and_eq_true] at h
    obtain ⟨⟨h1, h2⟩, h3⟩ := h
    obtain ⟨d1, d2, d3⟩ := hd
    cases i with
    | zero =>
      simp at hi; subst hi
      refine ⟨m, rfl, h1, fun j x hj hx => ?_⟩
      rw [List.getElem?_append_left (by simpa using hj), List.getElem?_reverse (by simpa using hj)] at hx
      have := okOne_spec (k := k) d2 B hB d1 (q := 0) rfl h2 _ x hx
      rw [List.drop_zero, show B.length - 1 - (B.length - 1 - j) = j from by omega] at this
      exact this
    | succ i =>
      have hB' : ∀ x ∈ y :: B, x.1.chk = true → below top x.2 = true := fun x hx => by
        rcases List.mem_cons.1 hx with rfl | hx
        · exact d2
        · exact hB x hx
      obtain ⟨m', k1, k2, k3⟩ := okGo_spec (k := k) (B := y :: B) (ms := ms) (by simpa using h3) (by simpa using d3) hB' i d (by simpa using hi)
      refine ⟨m', by simpa using k1, k2, fun j x hj hx => k3 j x (by simp at hj ⊢; omega) ?_⟩
      simpa using hx
end
end Go.Ai
/-! Regions that draw are met. -/
namespace Go.Ai
open Go
set_option linter.unusedSimpArgs false
set_option linter.unusedVariables false
set_option maxHeartbeats 2000000

/-! ### what is ahead of what -/
theorem bitAt_eq (m j : Nat) : bitAt m j = m.testBit j := by
  unfold bitAt
  have h1 : Nat.land (Nat.shiftRight m j) 1 = (m >>> j) % 2 := Nat.and_one_is_mod _
  rw [h1, Nat.shiftRight_eq_div_pow, Nat.testBit_eq_decide_div_mod_eq]
  by_cases h : m / 2 ^ j % 2 = 1
  · simp [h]
  · rw [beqF h]; simp [h]
theorem maskOf_spec {acc : List Nat} {j : Nat} : ∀ {es : List Edge}, bitAt (maskOf acc es) j = true → ∃ e ∈ es, Region.binds .any e = true ∧ (j = e.on ∨ ∃ m', acc[e.on]? = some m' ∧ bitAt m' j = true)
  | [], h => by simp [maskOf, bitAt_eq] at h
  | e :: es, h => by
    simp only [maskOf] at h
    cases hb : Region.binds .any e with
    | false =>
      simp only [hb, cond_false] at h
      obtain ⟨e', h1, h2⟩ := maskOf_spec h
      exact ⟨e', by simp [h1], h2⟩
    | true =>
      simp only [hb, cond_true] at h
      rw [bitAt_eq] at h
      have e1 : ∀ a b : Nat, Nat.lor a b = a ||| b := fun _ _ => rfl
      rw [e1, e1, Nat.testBit_or, Nat.testBit_or, Bool.or_eq_true, Bool.or_eq_true] at h
      rcases h with (h | h) | h
      · rw [Nat.testBit_two_pow] at h
        exact ⟨e, by simp, hb, .inl (by simpa [eq_comm] using h)⟩
      · refine ⟨e, by simp, hb, .inr ?_⟩
        cases hn : nth? acc e.on with
        | none => simp [hn] at h
        | some m => simp only [hn] at h; exact ⟨m, by rw [← nth?_eq]; exact hn, by rw [bitAt_eq]; exact h⟩
      · rw [← bitAt_eq] at h
        obtain ⟨e', h1, h2⟩ := maskOf_spec h
        exact ⟨e', by simp [h1], h2⟩
theorem masksG_spec : ∀ (os : List Oper) (acc : List Nat), (∃ ext, masksG os acc = acc ++ ext) ∧ ∀ i o, os[i]? = some o → (masksG os acc)[acc.length + i]? = some (maskOf ((masksG os acc).take (acc.length + i)) o.after.toList)
  | [], acc => ⟨⟨[], by simp [masksG]⟩, fun i o h => by simp at h⟩
  | o :: os, acc => by
    obtain ⟨⟨ext, h1⟩, h2⟩ := masksG_spec os (acc ++ [maskOf acc o.after.toList])
    have h3 : masksG (o :: os) acc = acc ++ (maskOf acc o.after.toList :: ext) := by rw [masksG, h1]; simp
    refine ⟨⟨_, h3⟩, fun i o' hi => ?_⟩
    cases i with
    | zero =>
      simp at hi; subst hi
      rw [h3]; simp
    | succ i =>
      have := h2 i o' (by simpa using hi)
      rw [List.length_append, List.length_singleton, Nat.add_assoc, Nat.add_comm 1 i] at this
      exact this
theorem masks_back {ops : List Oper} {i : Nat} {o : Oper} {m : Nat} (ho : ops[i]? = some o) (hm : (masksG ops [])[i]? = some m) {j : Nat} (h : bitAt m j = true) :
    ∃ e ∈ o.after, Region.binds .any e = true ∧ (j = e.on ∨ ∃ m', (masksG ops [])[e.on]? = some m' ∧ bitAt m' j = true) := by
  have := (masksG_spec ops []).2 i o ho
  simp only [List.length_nil, Nat.zero_add] at this
  rw [this] at hm
  simp at hm; subst hm
  obtain ⟨e, h1, h2, h3⟩ := maskOf_spec h
  refine ⟨e, by simpa using h1, h2, h3.imp id fun ⟨m', h4, h5⟩ => ⟨m', ?_, h5⟩⟩
  rw [List.getElem?_take] at h4
  split at h4
  · exact h4
  · cases h4
theorem edgesOk_spec {i : Nat} : ∀ {es : List Edge}, edgesOk i es = true → ∀ e ∈ es, Region.binds .any e = true → e.on < i
  | e :: es, h, e', he, hb => by
    simp only [edgesOk, Bool.and_eq_true, Bool.or_eq_true, Bool.not_eq_true'] at h
    rcases List.mem_cons.1 he with rfl | he
    · rcases h.1 with h1 | h1
      · rw [hb] at h1; cases h1
      · exact bltT h1
    · exact edgesOk_spec h.2 e' he hb
theorem edgesGo_spec : ∀ {os : List Oper} {i : Nat}, edgesGo i os = true → ∀ j o, os[j]? = some o → ∀ e ∈ o.after, Region.binds .any e = true → e.on < i + j
  | x :: os, i, h, j, o, hj, e, he, hb => by
    simp only [edgesGo, Bool.and_eq_true] at h
    cases j with
    | zero => simp at hj; subst hj; exact edgesOk_spec h.1 e (by simpa using he) hb
    | succ j =>
      have := edgesGo_spec h.2 j o (by simpa using hj) e he hb
      omega
theorem mkD_o : ∀ (is : List IOpr) (ks : List (Kd × List Nat × Bool)), (mkD is ks).map (·.o) = is
  | [], _ => by simp [mkD]
  | o :: os, [] => by simp [mkD, mkD_o os []]
  | o :: os, (k, f, c) :: ks => by simp [mkD, mkD_o os ks]

section
variable {P : Program} {X : Env} {F : Fence} {g g1 g' g0 : G} {st st' st0 st1 stF : St} {w w' w0 : World} {fr fr' fr0 fr1 frF : T V} {log l : List Tc} {v : V} {a : Act} {call : CallF} {yield : Nat → List V → St → R} {nt : Nat} {pm : List Nat} {ops : Array Oper} {Q : Exit → Act → World → Prop}

theorem Hop.none_old (h : Hop P X g st w fr g' st' w' fr') {l : Nat} (hl : l < st.next) (hn : g.loc l = none) : g'.loc l = none := by
  cases hq : g'.loc l with
  | none => rfl
  | some x => rw [h.old l x hl hq] at hn; cases hn

/-- one operation -/
theorem dop_wp (hW : Wide F) (hok : OkX P X) (hcall : CallOk P X F call) (hyield : YieldOk P X F yield) (hs0 : Sim P X g0 st0 w0) {d : DOpr} {i : Nat} {o : Oper} (ho : ops[i]? = some o) (hd : d.o = cOper P nt pm ops o)
    (h : stepD X call yield st0.next d fr st = some (fr1, st1, l)) (hh : Hop P X g0 st0 w0 fr0 g st w fr) (hf : FrR g st w fr a.tmps) (hz : a.tmps.size = nt) (hslot : ∀ k, d.kind = .slot k → g.loc (st0.next + k) = none ∧ st0.next + k < st.next)
    {K : Act → World → Prop} (hK : ∀ a1 w1 g1, Hop P X g0 st0 w0 fr0 g1 st1 w1 fr1 → FrR g1 st1 w1 fr1 a1.tmps → a1.tmps.size = nt → a1.defers = a.defers → (∀ l, l < st.next → (∀ k, d.kind = .slot k → l ≠ st0.next + k) → g.loc l = none → g1.loc l = none) → K a1 w1) :
    wpOpIn F 0 P ops Q i K a w := by
  have hs := hh.sim
  unfold wpOpIn
  simp only [ho]
  simp only [stepD] at h
  cases hc : holdsLoc fr d.o.dst with
  | true => simp [hc] at h
  | false =>
    simp only [hc, cond_false] at h
    rw [hd] at h
    rcases cOper_spec (P := P) (nt := nt) (pm := pm) (ops := ops) (o := o) with ⟨e1, e2⟩ | ⟨h1, h2, h3, gd, h4, h5⟩
    · exfalso
      simp only [e1, e2, wantedV] at h
      cases hk : d.kind <;> simp [hk, runK, pureOp, readOp, runOp] at h
    · rw [h1, h3, h5] at h
      have hdd : ∀ i, o.dst = some i → i < a.tmps.size := fun i hi => by rw [hz]; exact h2 i hi
      cases hw : wantedV fr gd with
      | none => simp [hw] at h
      | some b =>
        rw [wanted_spec hf h4 hw]
        cases b with
        | false =>
          simp [hw] at h
          obtain ⟨rfl, rfl, rfl⟩ := h
          rw [if_neg (by simp)]
          have hp : OpPost P X g st w fr o.dst a .junk st fr (a.put o.dst undef) w := OpPost.ofStep hs hf (Step.refl hs) (by simp [Rep, RepL])
          obtain ⟨g1, e1, e2, e3, e4⟩ := hp.reg hdd
          exact ⟨fun f _ => hW.fn f, hK _ _ g1 (Hop.trans hs0 hh e1) e2 (e3.trans hz) e4 fun l hl _ hn => e1.none_old hl hn⟩
        | true =>
          rw [if_pos rfl]
          simp only [hw] at h
          cases hr : runK X call yield st0.next fr st (cOp P pm o) d.kind with
          | none => simp [hr] at h
          | some q =>
            obtain ⟨v, s1, lg, frk⟩ := q
            simp only [hr] at h
            cases hlv : (isLocV v && !(loud d.kind)) with
            | true => simp [hlv] at h
            | false =>
              simp [hlv] at h
              obtain ⟨rfl, rfl, rfl⟩ := h
              -- an operation that the calculus knows
              have main : ∀ (sa sb : St) (lg' : List Tc), sa.heap = st.heap → sa.next = st.next → sb.heap = s1.heap → sb.next = s1.next → runOp X call yield fr sa (cOp P pm o) = some (v, sb, lg', frk) → o.wpIn F 0 P a w K Q := by
                intro sa sb lg' k1 k2 k3 k4 hrun
                refine op_wp hW (hs.same k1 k2) hok hcall hyield (hf.same k1) hrun fun a1 w1 hp => ?_
                obtain ⟨g1, e1, e2, e3, e4⟩ := hp.reg hdd
                have e1' : Hop P X g st w fr g1 s1 w1 (put frk o.dst v) := e1.same k1.symm k2.symm k3.symm k4.symm
                exact hK _ _ g1 (Hop.trans hs0 hh e1') (e2.same k3.symm) (e3.trans hz) e4 fun l hl _ hn => e1'.none_old hl hn
              cases hk : d.kind with
              | pure =>
                rw [hk] at hr
                simp only [runK] at hr
                cases hp : pureOp (cOp P pm o) with
                | false => simp [hp] at hr
                | true =>
                  simp only [hp, cond_true] at hr
                  cases hro : runOp X call yield fr .bare (cOp P pm o) with
                  | none => simp [hro] at hr
                  | some q =>
                    obtain ⟨v', s, lg2, f⟩ := q
                    simp only [hro] at hr
                    cases hn : Nat.beq s.next 0 with
                    | false => simp [hn] at hr
                    | true =>
                      simp [hn] at hr
                      obtain ⟨rfl, rfl, rfl, rfl⟩ := hr
                      obtain ⟨lg3, h6⟩ := pure_lift hp hro hn st
                      exact main st st lg3 rfl rfl rfl rfl h6
              | read =>
                rw [hk] at hr
                simp only [runK] at hr
                cases hp : readOp (cOp P pm o) with
                | false => simp [hp] at hr
                | true =>
                  simp only [hp, cond_true] at hr
                  exact main st s1 lg rfl rfl rfl rfl hr
              | eff =>
                rw [hk] at hr
                simp only [runK] at hr
                split at hr
                · rename_i hro
                  simp at hr
                  obtain ⟨rfl, rfl, rfl, rfl⟩ := hr
                  exact main _ _ _ (by rfl) (by rfl) (by rfl) (by rfl) hro
                · cases hr
              | slot k =>
                rw [hk] at hr
                obtain ⟨n1, n2⟩ := hslot k hk
                obtain ⟨rfl, rfl, u, w', g', r1, r2, r3, r4, r5, r6, r7, r8⟩ := slot_ok (a := a) hh hf n1 n2 hr
                refine ⟨fun f _ => hW.fn f, ?_⟩
                rw [Oper.semAt_eq _ _ _ r2, r1, Oper.uponIn_value]
                refine hK _ _ g' (r3.put' r6) (r7.put' hdd r4 r5) ((put_size ..).trans hz) (put_defers ..) fun l hl hne hn => r8 l (hne k hk) hn
end
end Go.Ai
/-! Regions that draw: whatever the order. -/
namespace Go.Ai
open Go
set_option linter.unusedSimpArgs false
set_option linter.unusedVariables false

section
variable {P : Program} {X : Env} {F : Fence} {g g1 g' g0 : G} {st st' st0 st1 stF : St} {w w' w0 : World} {fr fr' fr0 fr1 frF : T V} {a : Act} {call : CallF} {yield : Nat → List V → St → R} {nt : Nat} {pm : List Nat} {ops : Array Oper} {Q : Exit → Act → World → Prop}

/-- what is known of a region, once and for all -/
structure Plan (P : Program) (nt : Nat) (pm : List Nat) (ops : Array Oper) (top k : Nat) (ms : List Nat) (L : List (DOpr × List Tc)) : Prop where
  op : ∀ (i : Nat) (d : DOpr × List Tc), L[i]? = some d → ∃ o, ops[i]? = some o ∧ d.1.o = cOper P nt pm ops o
  pre : ∀ (i : Nat) (d : DOpr × List Tc), L[i]? = some d → ∃ m, ms[i]? = some m ∧ slotOk k d.1.kind = true ∧ ∀ j x, j < i → L[j]? = some x → Pre top k m d j x
  mask : ∀ (i : Nat) (o : Oper) (m : Nat), ops[i]? = some o → ms[i]? = some m → ∀ j, bitAt m j = true → ∃ e ∈ o.after, Region.binds .any e = true ∧ (j = e.on ∨ ∃ m', ms[e.on]? = some m' ∧ bitAt m' j = true)
  edge : ∀ (i : Nat) (o : Oper), ops[i]? = some o → ∀ e ∈ o.after, Region.binds .any e = true → e.on < i

theorem getD_tf {listed : Array Bool} {i : Nat} (h : listed.getD i false = true) : listed.getD i true = true := by
  rcases Nat.lt_or_ge i listed.size with h' | h'
  · simp [h'] at h ⊢; exact h
  · simp [Array.getElem?_eq_none h'] at h
theorem getD_ft {listed : Array Bool} {i : Nat} (hl : i < listed.size) (h : listed.getD i true ≠ false) : listed.getD i false = true := by
  simp [hl] at h ⊢; exact h

theorem slots_ne {x d : Kd} {a b : Nat} (h : slotsApart x d = true) (hx : x = .slot a) (hd : d = .slot b) : a ≠ b := by
  subst hx hd
  intro e
  subst e
  simp [slotsApart] at h

theorem draw_go (hW : Wide F) (hok : OkX P X) (hcall : CallOk P X F call) (hyield : YieldOk P X F yield) (hcu : CallU call) (hyu : YieldU yield) (hs0 : Sim P X g0 st0 w0) {k : Nat} {ms : List Nat} {L : List (DOpr × List Tc)} (hP : Plan P nt pm ops (st0.next + k) k ms L) {ds : List Deferred}
    (hQ : ∀ a w g fr, FEq fr frF → Hop P X g0 st0 w0 fr0 g stF w fr → FrR g stF w fr a.tmps → a.tmps.size = nt → a.defers = ds → Q .normal a w) :
    ∀ (fuel : Nat) (rem : List (Nat × (DOpr × List Tc))) (listed : Array Bool) (fr : T V) (st : St) (g : G) (w : World) (a : Act), rem.length ≤ fuel → (∀ p ∈ rem, L[p.1]? = some p.2) → rem.Pairwise (fun p q => p.1 < q.1) → listed.size = ops.size →
      (∀ i, i < ops.size → (listed.getD i true = false ↔ ∃ p ∈ rem, p.1 = i)) → (∀ i m j, listed.getD i false = true → ms[i]? = some m → bitAt m j = true → listed.getD j false = true) → RunOk X call yield st0.next (rem.map (·.2)) fr st frF stF →
      Hop P X g0 st0 w0 fr0 g st w fr → FrR g st w fr a.tmps → a.tmps.size = nt → a.defers = ds → st0.next + k ≤ st.next → (∀ p ∈ rem, ∀ q, p.2.1.kind = .slot q → g.loc (st0.next + q) = none) → wpAnyIn F 0 P .any ops Q fuel listed a w := by
  have done : ∀ (rem : List (Nat × (DOpr × List Tc))) (listed : Array Bool) (fr : T V) (st : St) (g : G) (w : World) (a : Act), (∀ p ∈ rem, L[p.1]? = some p.2) → rem.Pairwise (fun p q => p.1 < q.1) → listed.size = ops.size →
      (∀ i, i < ops.size → (listed.getD i true = false ↔ ∃ p ∈ rem, p.1 = i)) → RunOk X call yield st0.next (rem.map (·.2)) fr st frF stF →
      Hop P X g0 st0 w0 fr0 g st w fr → FrR g st w fr a.tmps → a.tmps.size = nt → a.defers = ds → Region.ready .any ops listed = [] → Q .normal a w := by
    intro rem listed fr st g w a hr hp hsz hun hrun hh hf hz hd hready
    cases rem with
    | nil =>
      obtain ⟨e1, e2⟩ := hrun
      subst e2
      exact hQ a w g fr e1 hh hf hz hd
    | cons p rem =>
      exfalso
      obtain ⟨o, ho, _⟩ := hP.op p.1 p.2 (hr p (by simp))
      have hlt : p.1 < ops.size := lt_of_get ho
      have : p.1 ∈ Region.ready .any ops listed := by
        refine mem_ready.2 ⟨(hun p.1 hlt).2 ⟨p, by simp, rfl⟩, o, ho, fun e he hb => ?_⟩
        have hel := hP.edge p.1 o ho e he hb
        refine getD_ft (by omega) fun hq => ?_
        obtain ⟨q, hq1, hq2⟩ := (hun e.on (by omega)).1 hq
        rcases List.mem_cons.1 hq1 with rfl | hq1
        · omega
        · have := (List.pairwise_cons.1 hp).1 q hq1
          omega
      rw [hready] at this
      cases this
  intro fuel
  induction fuel with
  | zero =>
    intro rem listed fr st g w a hlen hr hp hsz hun hcl hrun hh hf hz hd hto hfree
    have hnil : rem = [] := List.eq_nil_of_length_eq_zero (by omega)
    have hready : Region.ready .any ops listed = [] := by
      cases hq : Region.ready .any ops listed with
      | nil => rfl
      | cons x xs =>
        exfalso
        have hx : x ∈ Region.ready .any ops listed := by rw [hq]; simp
        obtain ⟨h1, o, h2, _⟩ := mem_ready.1 hx
        obtain ⟨p, h3, _⟩ := (hun x (lt_of_get h2)).1 h1
        rw [hnil] at h3; cases h3
    exact ⟨hready, done rem listed fr st g w a hr hp hsz hun hrun hh hf hz hd hready⟩
  | succ fuel ih =>
    intro rem listed fr st g w a hlen hr hp hsz hun hcl hrun hh hf hz hd hto hfree
    refine ⟨done rem listed fr st g w a hr hp hsz hun hrun hh hf hz hd, fun i hi => ?_⟩
    obtain ⟨h1, o, h2, h3⟩ := mem_ready.1 hi
    have hlt : i < ops.size := lt_of_get h2
    obtain ⟨p, h4, h5⟩ := (hun i hlt).1 h1
    subst h5
    obtain ⟨xs, ys, rfl⟩ := List.append_of_mem h4
    have hLp := hr p h4
    obtain ⟨o', ho', hdo⟩ := hP.op p.1 p.2 hLp
    rw [h2] at ho'
    simp at ho'
    subst ho'
    obtain ⟨m, hm, hslotp, hpre⟩ := hP.pre p.1 p.2 hLp
    rw [List.pairwise_append] at hp
    obtain ⟨hp1, hp2, hp3⟩ := hp
    obtain ⟨hp4, hp5⟩ := List.pairwise_cons.1 hp2
    have hback : ∀ j, bitAt m j = true → listed.getD j false = true := fun j hb => by
      obtain ⟨e, he, hbd, hj⟩ := hP.mask p.1 o m h2 hm j hb
      have hle := h3 e he hbd
      rcases hj with rfl | ⟨m', hm', hb'⟩
      · exact hle
      · exact hcl e.on m' j hle hm' hb'
    rw [List.map_append, List.map_cons] at hrun
    have hrun' := RunOk.front (top := st0.next + k) hcu hyu (xs := xs.map (·.2)) (p := p.2) (ys := ys.map (·.2)) hto (fun x hx => by
      obtain ⟨q, hq1, rfl⟩ := List.mem_map.1 hx
      have hlt2 := hp3 q hq1 p (by simp)
      obtain ⟨_, h6⟩ := hpre q.1 q.2 hlt2 (hr q (by simp [hq1]))
      rcases h6 with h6 | h6
      · exfalso
        obtain ⟨o2, ho2, _⟩ := hP.op q.1 q.2 (hr q (by simp [hq1]))
        have h7 := (hun q.1 (lt_of_get ho2)).2 ⟨q, by simp [hq1], rfl⟩
        rw [getD_tf (hback q.1 h6)] at h7
        cases h7
      · exact h6) hrun
    obtain ⟨fr1, st1, hstep, hrest⟩ := hrun'
    refine dop_wp hW hok hcall hyield hs0 h2 hdo hstep hh hf hz (fun q hq => ⟨hfree p (by simp) q hq, ?_⟩) fun a1 w1 g1 k1 k2 k3 k4 k5 => ?_
    · rw [hq] at hslotp
      have := bltT hslotp
      omega
    · have hhp := stepD_heap hcu hyu hstep
      refine ih (xs ++ ys) _ fr1 st1 g1 w1 a1 (by simp at hlen ⊢; omega) (fun q hq => hr q (by simp at hq ⊢; rcases hq with hq | hq <;> simp [hq])) ?_ (by simpa using hsz) ?_ ?_ (by simpa using hrest) k1 k2 k3 (k4.trans hd) (Nat.le_trans hto hhp.1) ?_
      · rw [List.pairwise_append]
        exact ⟨hp1, hp5, fun x hx y hy => hp3 x hx y (by simp [hy])⟩
      · intro j hj
        by_cases e : p.1 = j
        · subst e
          have hself : (listed.setIfInBounds p.1 true).getD p.1 true = true := by simp [hsz, hlt]
          rw [hself]
          refine ⟨fun h => by simp at h, fun ⟨q, hq1, hq2⟩ => ?_⟩
          exfalso
          rcases List.mem_append.1 hq1 with hq1 | hq1
          · have := hp3 q hq1 p (by simp); omega
          · have := hp4 q hq1; omega
        · rw [getD_set_ne true e, hun j hj]
          refine ⟨fun ⟨q, hq1, hq2⟩ => ⟨q, ?_, hq2⟩, fun ⟨q, hq1, hq2⟩ => ⟨q, ?_, hq2⟩⟩
          · rcases List.mem_append.1 hq1 with hq1 | hq1
            · simp [hq1]
            · rcases List.mem_cons.1 hq1 with rfl | hq1
              · exact absurd hq2 e
              · simp [hq1]
          · rcases List.mem_append.1 hq1 with hq1 | hq1 <;> simp [hq1]
      · intro j m' q hj hm' hb'
        by_cases e : p.1 = j
        · subst e
          rw [hm] at hm'
          simp at hm'; subst hm'
          exact getD_set_true (hback q hb')
        · rw [getD_set_ne false e] at hj
          exact getD_set_true (hcl j m' q hj hm' hb')
      · intro q hq r hr'
        have hqL := hr q (by simp at hq ⊢; rcases hq with hq | hq <;> simp [hq])
        obtain ⟨mq, hmq, hsq, hpq⟩ := hP.pre q.1 q.2 hqL
        rw [hr'] at hsq
        have hrk := bltT hsq
        refine k5 _ (by omega) (fun r' hk' => ?_) (hfree q (by simp at hq ⊢; rcases hq with hq | hq <;> simp [hq]) r hr')
        have hne : r ≠ r' := by
          rcases List.mem_append.1 hq with hq | hq
          · have := (hpre q.1 q.2 (hp3 q hq p (by simp)) hqL).1
            exact slots_ne this hr' hk'
          · have := (hpq p.1 p.2 (hp4 q hq) hLp).1
            exact fun e => slots_ne this hk' hr' e.symm
        omega

/-- a region that draws -/
theorem draw_ok (hW : Wide F) (hm : P.follows .mixedOrders = true) (hok : OkX P X) (hcall : CallOk P X F call) (hyield : YieldOk P X F yield) (hcu : CallU call) (hyu : YieldU yield) {id : Nat} {kk : Nat} {dops : List DOpr} {pub old : List Nat}
    (hc : cDraw P nt pm ops = .regd dops kk pub old) {frD : T V} {stD : St} (hrun : runOpsD X call yield st.next (st.next + kk) dops [] (retire old fr) { heap := st.heap, next := st.next + kk, lim := st.lim, wr := st.wr } = some (frD, stD))
    (hpub : publish st.next pub frD stD = some (fr', st')) (hs : Sim P X g st w) (hf : FrR g st w fr a.tmps) (hz : a.tmps.size = nt) (hQ : ∀ a' w', RegPost P X g st w fr a st' fr' a' w' → Q .normal a' w') :
    (Code.region id ops true).wpIn F 0 P Q a w := by
  refine wpIn_region_any hm ?_
  unfold cDraw at hc
  simp only at hc
  generalize hms : masksG ops.toList [] = ms at hc
  generalize hks : kindsG ms (ops.toList.map (cOper P nt pm ops)) = ks at hc
  cases hok2 : (edgesGo 0 ops.toList && okGo (ks.filter isSlot).length ms [] 0 (mkD (ops.toList.map (cOper P nt pm ops)) (farsG ms ks))) with
  | false => simp [hok2] at hc
  | true =>
    simp only [hok2, cond_true, IR.regd.injEq] at hc
    obtain ⟨h1, h2, _, _⟩ := hc
    simp only [Bool.and_eq_true] at hok2
    obtain ⟨he, hg⟩ := hok2
    rw [h1, h2] at hg
    obtain ⟨L, hL, hR, hD⟩ := runOpsD_dyn hrun
    have hlen : L.length = ops.size := by
      have := congrArg List.length (mkD_o (ops.toList.map (cOper P nt pm ops)) (farsG ms ks))
      rw [h1, ← hL] at this
      simpa using this
    have hstep0 : Step P X g st w g st { w with drawn := w.drawn + 1 } := Step.drew hs _
    have hs1 := hstep0.sim
    have hf1 := hf.step hs hstep0
    obtain ⟨r1, r2⟩ := retire_ok (ts := old) hf1
    have hh0 : Hop P X g st { w with drawn := w.drawn + 1 } fr g { heap := st.heap, next := st.next + kk, lim := st.lim, wr := st.wr } { w with drawn := w.drawn + 1 } (retire old fr) := (Hop.bump hs1 kk).less r2
    refine draw_go (pm := pm) (k := kk) (ms := ms) (L := L) (stF := stD) (frF := frD) (fr0 := fr) (ds := a.defers) hW hok hcall hyield hcu hyu hs1 ⟨fun i d hd => ?_, fun i d hd => ?_, fun i o m ho hm' j hb => ?_, fun i o ho e he' hb => ?_⟩ ?_ ops.size (L.zipIdx.map fun p => (p.2, p.1)) _ (retire old fr) _ g _ a ?_ ?_ ?_ (by simp) ?_ ?_ ?_ hh0 (r1.same rfl) hz rfl (Nat.le_refl _) ?_
    · have h3 : (L.map (·.1))[i]? = some d.1 := by rw [List.getElem?_map, hd]; rfl
      rw [hL, ← h1] at h3
      have h4 : ((mkD (ops.toList.map (cOper P nt pm ops)) (farsG ms ks)).map (·.o))[i]? = some d.1.o := by rw [List.getElem?_map, h3]; rfl
      rw [mkD_o, List.getElem?_map] at h4
      cases ho : ops[i]? with
      | none => simp [ho] at h4
      | some o => simp [ho] at h4; exact ⟨o, rfl, h4.symm⟩
    · obtain ⟨m, k1, k2, k3⟩ := okGo_spec (k := kk) (L := L) (ms := ms) (B := []) (top := st.next + kk) (by simpa [hL] using hg) hD (by simp) i d hd
      exact ⟨m, k1, k2, fun j x hj hx => k3 j x (by simpa using hj) (by simpa using hx)⟩
    · rw [← hms] at hm'
      obtain ⟨e, e1, e2, e3⟩ := masks_back (by simpa using ho) hm' hb
      rw [hms] at e3
      exact ⟨e, e1, e2, e3⟩
    · have := edgesGo_spec he i o (by simpa using ho) e he' hb
      omega
    · intro a1 w1 g1 fr1 e1 k1 k2 k3 k4
      have k1' : Hop P X g st { w with drawn := w.drawn + 1 } fr g1 stD w1 frD := k1.less fun id ⟨i, cs, hi⟩ => ⟨i, cs, by rw [← e1 i]; exact hi⟩
      have k2' : FrR g1 stD w1 frD a1.tmps := ⟨fun i v hi => k2.val i v (by rw [← e1 i]; exact hi), fun i j id cs cs' hi hj => k2.apart i j id cs cs' (by rw [← e1 i]; exact hi) (by rw [← e1 j]; exact hj)⟩
      obtain ⟨p1, p2⟩ := publish_ok hpub k1' k2'
      exact hQ a1 w1 ⟨g1, Hop.trans hs (.ofStep hstep0) p1, p2, k3.trans hz.symm, k4⟩
    · simp [hlen]
    · intro p hp
      simp only [List.mem_map] at hp
      obtain ⟨⟨d, i⟩, hq, rfl⟩ := hp
      have := List.mem_zipIdx' hq
      rw [List.getElem?_eq_some_iff]
      exact ⟨this.1, this.2.symm⟩
    · rw [List.pairwise_map, List.pairwise_iff_getElem]
      intro i j hi hj hij
      simp only [List.getElem_zipIdx]
      omega
    · intro i hi
      constructor
      · intro _
        have : i < L.length := by omega
        refine ⟨(i, L[i]), List.mem_map.2 ⟨(L[i], i), ?_, rfl⟩, rfl⟩
        rw [List.mem_iff_getElem]
        exact ⟨i, by simpa using this, by simp⟩
      · intro _
        simp [hi]
    · intro i m j hi
      rw [Array.getD_eq_getD_getElem?, Array.getElem?_replicate] at hi
      split at hi <;> simp at hi
    · have : (L.zipIdx.map fun p => (p.2, p.1)).map (·.2) = L := by
        rw [List.map_map]
        have : ((fun x : Nat × (DOpr × List Tc) => x.2) ∘ fun p : (DOpr × List Tc) × Nat => (p.2, p.1)) = Prod.fst := rfl
        rw [this, List.zipIdx_map_fst]
      rw [this]
      exact hR
    · intro p _ q _
      cases hq : g.loc (st.next + q) with
      | none => rfl
      | some x => have := hs.lt _ _ hq; omega
end
end Go.Ai
/-! Code. -/
namespace Go.Ai
open Go
set_option linter.unusedSimpArgs false

/-- marks among the deferred calls -/
def Marks (g : G) (w : World) (lo : Nat) : List Deferred → Prop
  | [] => lo ≤ w.heap.size
  | d :: ds => (∃ r, d.target = .collected r ∧ lo ≤ r ∧ w.heap[r]? = some (.deferred (some [])) ∧ g.own r = none ∧ ∀ d' ∈ ds, d'.target ≠ .collected r) ∧ Marks g w lo ds

def exitOf : Ex → Exit
  | .nrm => .normal
  | .exit i => .exit i
  | .ret => .ret

def CodePost (P : Program) (X : Env) (g : G) (st : St) (w : World) (fr : T V) (nt lo : Nat) (r : Ex) (st' : St) (fr' : T V) : Exit → Act → World → Prop :=
  fun e a' w' => e = exitOf r ∧ ∃ g', Hop P X g st w fr g' st' w' fr' ∧ FrR g' st' w' fr' a'.tmps ∧ a'.tmps.size = nt ∧ Marks g' w' lo a'.defers

def ExecOk (P : Program) (X : Env) (F : Fence) (ex : IR → T V → St → ER) : Prop :=
  ∀ (c : Code) (nt : Nat) (pm : List Nat), (F.round = none ∨ noRfn c = true) → ∀ fr st r fr' st', ex (cCode P nt pm c) fr st = some (r, fr', st') →
    ∀ g w (a : Act) lo, Sim P X g st w → FrR g st w fr a.tmps → a.tmps.size = nt → Marks g w lo a.defers → c.wpIn F 0 P (CodePost P X g st w fr nt lo r st' fr') a w

section
variable {P : Program} {X : Env} {F : Fence} {g g' : G} {st st' st'' : St} {w w' w'' : World} {fr fr' fr'' : T V} {a a' : Act} {nt lo : Nat}

theorem Marks.hop (h : Hop P X g st w fr g' st' w' fr') : ∀ {ds : List Deferred}, Marks g w lo ds → Marks g' w' lo ds
  | [], h0 => Nat.le_trans h0 h.size
  | d :: ds, ⟨⟨r, h1, h2, h3, h4, h5⟩, h6⟩ => by
    obtain ⟨h7, h8⟩ := h.keep r _ h3 fun l hl => by rw [h4] at hl; cases hl
    exact ⟨⟨r, h1, h2, h7, h8.trans h4, h5⟩, Marks.hop h h6⟩
theorem Marks.size : ∀ {ds : List Deferred}, Marks g w lo ds → lo ≤ w.heap.size
  | [], h => h
  | _ :: _, ⟨_, h⟩ => Marks.size h
theorem Marks.old : ∀ {ds : List Deferred}, Marks g w lo ds → ∀ d ∈ ds, d.target ≠ .collected w.heap.size
  | d :: ds, ⟨⟨r, h1, h2, h3, h4, h5⟩, h6⟩, d', hd => by
    rcases List.mem_cons.1 hd with rfl | hd
    · rw [h1]
      intro e
      simp at e
      have := lt_of_get h3
      omega
    · exact Marks.old h6 d' hd
theorem CodePost.trans (hs : Sim P X g st w) (h : Hop P X g st w fr g' st' w' fr') {r : Ex} {e : Exit} (hp : CodePost P X g' st' w' fr' nt lo r st'' fr'' e a' w'') : CodePost P X g st w fr nt lo r st'' fr'' e a' w'' := by
  obtain ⟨h1, g2, h2, h3⟩ := hp
  exact ⟨h1, g2, Hop.trans hs h h2, h3⟩
theorem CodePost.here (hs : Sim P X g st w) (hf : FrR g st w fr a.tmps) (hz : a.tmps.size = nt) (hm : Marks g w lo a.defers) (r : Ex) : CodePost P X g st w fr nt lo r st fr (exitOf r) a w :=
  ⟨rfl, g, .ofStep (Step.refl hs), hf, hz, hm⟩

theorem exec_loop {n : Nat} (ih : ∀ k, k ≤ n → ExecOk P X F (exec X k)) {x : Code} {pm : List Nat} (hx : F.round = none ∨ noRfn x = true) {r : Ex} (h : exec X (n + 1) (.loop (cCode P nt pm x)) fr st = some (r, fr', st'))
    (hs : Sim P X g st w) (hf : FrR g st w fr a.tmps) (hz : a.tmps.size = nt) (hm : Marks g w lo a.defers) : (Code.loop x).wpIn F 0 P (CodePost P X g st w fr nt lo r st' fr') a w := by
  intro b k cs hro hb hr
  have key : ∀ m, m ≤ n → ∀ (fr1 : T V) (st1 : St) (g1 : G) (a1 : Act) (w1 : World), exec X (m + 1) (.loop (cCode P nt pm x)) fr1 st1 = some (r, fr', st') → Hop P X g st w fr g1 st1 w1 fr1 → FrR g1 st1 w1 fr1 a1.tmps → a1.tmps.size = nt →
      Marks g1 w1 lo a1.defers → ∃ e a' w', CodePost P X g st w fr nt lo r st' fr' e a' w' ∧ ArrivesIn (Machine.fenced P F) P (lone (b.atR a1 (.code x :: .inLoop x :: k)) cs w1) b k cs e a' w' := by
    intro m
    induction m with
    | zero => intro _ fr1 st1 g1 a1 w1 h1; simp [exec] at h1
    | succ m ihm =>
      intro hmn fr1 st1 g1 a1 w1 h1 h2 h3 h4 h5
      rw [exec] at h1
      cases h6 : exec X (m + 1) (cCode P nt pm x) fr1 st1 with
      | none => simp [h6] at h1
      | some q =>
        obtain ⟨e1, fr2, st2⟩ := q
        obtain ⟨e, a2, w2, hp, harr⟩ := ih (m + 1) hmn x nt pm hx fr1 st1 e1 fr2 st2 h6 g1 w1 a1 lo h2.sim h3 h4 h5 b (.inLoop x :: k) cs hro hb hr
        cases e1 with
        | nrm =>
          simp only [h6] at h1
          obtain ⟨rfl, g2, h7, h8, h9, h10⟩ := hp
          obtain ⟨e3, a3, w3, hq, harr2⟩ := ihm (by omega) fr2 st2 g2 a2 w2 h1 (Hop.trans hs h2 h7) h8 h9 h10
          exact ⟨e3, a3, w3, hq, .of_steps (StepsIn.trans harr (.one (fenced_calm hb hr rfl) stepR_inLoop)) harr2⟩
        | exit i =>
          simp [h6] at h1
          obtain ⟨rfl, rfl, rfl⟩ := h1
          have := hp.1
          simp only [exitOf] at this
          subst this
          exact ⟨_, a2, w2, CodePost.trans hs h2 hp, .pass (x := .inLoop x) rfl (fun _ _ => .inl (by simp)) harr⟩
        | ret =>
          simp [h6] at h1
          obtain ⟨rfl, rfl, rfl⟩ := h1
          have := hp.1
          simp only [exitOf] at this
          subst this
          exact ⟨_, a2, w2, CodePost.trans hs h2 hp, .pass (x := .inLoop x) rfl (fun _ _ => .inl (by simp)) harr⟩
  obtain ⟨e, a', w', hq, harr⟩ := key n (Nat.le_refl _) fr st g a w h (.ofStep (Step.refl hs)) hf hz hm
  exact ⟨e, a', w', hq, .of_steps (.one (fenced_calm hb hr rfl) stepR_loop) harr⟩

theorem noLoc_spec : ∀ {t : T V}, noLoc t = true → ∀ i v, t.get i = some v → plain v = true
  | .lf, _, i, v, h => by simp [T.get] at h
  | .nd l x r, hn, i, v, h => by
    simp only [noLoc, Bool.and_eq_true] at hn
    obtain ⟨⟨h1, h2⟩, h3⟩ := hn
    simp only [T.get, Bool.cond_eq_ite] at h
    split at h
    · subst h; simpa using h3
    · split at h
      · exact noLoc_spec h2 _ _ h
      · exact noLoc_spec h1 _ _ h
theorem FrR.frP {tmps : Array Value} (hf : FrR g st w fr tmps) (hn : noLoc fr = true) : FrP g fr tmps := fun i v e => ⟨noLoc_spec hn i v e, (hf.val i v e).1, (VR_plain (noLoc_spec hn i v e)).1 (hf.val i v e).2⟩

theorem loop_at (hs : Sim P X g st w) {l s : Nat} {fr : T V} {ps : List Nat} {a b : IR} {pend : Ex} (h : st.heap.get l = some (.loop s fr ps a b pend)) {bb top : Nat} (hl : g.loc l = some (bb, 0, top)) :
    ∃ L : Loop, w.heap[bb]? = some (.loop L) ∧ LoopR P g s fr ps a b pend L := by
  obtain ⟨b', base, tp, o, e1, e2, e3, e4⟩ := hs.blk l _ h rfl
  rw [hl] at e1
  obtain ⟨rfl, rfl, rfl⟩ : bb = b' ∧ 0 = base ∧ top = tp := by simpa using e1
  obtain ⟨_, L, rfl, e5⟩ := e4
  exact ⟨L, e3, e5⟩
theorem run_getLoop {bb : Nat} {L : Loop} (h : w.heap[bb]? = some (.loop L)) : (Instr.getLoop bb).run P w = .ok L w := by
  simp [Instr.getLoop, getObj, Sem.run, h]
theorem run_setLoop {bb : Nat} {L L' : Loop} (h : w.heap[bb]? = some (.loop L)) : (setObj bb (.loop L')).run P w = .ok () { w with heap := w.heap.setIfInBounds bb (.loop L') } := by
  simp [setObj, Sem.run, h]
theorem run_endLoop {bb : Nat} {L : Loop} (h : w.heap[bb]? = some (.loop L)) (hr : L.state ≠ .busy) : (Instr.endLoop bb).run P w = .ok L.pending { w with heap := w.heap.setIfInBounds bb (.loop { L with state := .exhausted }) } := by
  have : (L.state == LoopState.busy) = false := by cases hq : L.state <;> simp_all <;> rfl
  simp only [Instr.endLoop, Sem.run_bind, run_getLoop h, Result.andThen_ok, this]
  simp [run_setLoop h]

/-- calls that enter a function -/
def CallEnt (P : Program) (X : Env) (F : Fence) (ext : Nat → List V → Option V) (call : CallF) : Prop :=
  ∀ f vs st v st' log, ext f vs = none → call f vs st = some (v, st', log) → ∀ g w (us : Array Value), Sim P X g st w → Reps g vs us.toList →
    (callFunc f us).run P w = .ok (.enter f us) w ∧ CallsIn F 0 P f us w (CallPost P X g st w v st')

theorem rfn_ok (hW : Wide F) {n : Nat} (hro : F.round = none) (hcE : CallEnt P X F X.ext (rcall X (exec X n))) {f : Operand} {ps : Array Tmp} {x y : Code} {pm : List Nat} {r : Ex}
    (h : exec X (n + 1) (cCode P nt pm (.rangeFunc f ps x y)) fr st = some (r, fr', st')) (hs : Sim P X g st w) (hf : FrR g st w fr a.tmps) (hz : a.tmps.size = nt) (hm : Marks g w lo a.defers) :
    (Code.rangeFunc f ps x y).wpIn F 0 P (CodePost P X g st w fr nt lo r st' fr') a w := by
  simp only [cCode] at h
  cases hf' : cOpd f with
  | none => simp [hf', exec] at h
  | some f' =>
    simp only [hf'] at h
    cases hchk : (noRfn x && noRfn y && ps.toList.all fun p => Nat.blt p nt) with
    | false => rw [hchk] at h; simp [exec] at h
    | true =>
      rw [hchk] at h
      simp only [cond_true, exec] at h
      simp only [Bool.and_eq_true, List.all_eq_true] at hchk
      obtain ⟨⟨hx, hy⟩, hps⟩ := hchk
      cases hnl : noLoc fr with
      | false => simp [hnl] at h
      | true =>
        simp only [hnl, cond_true] at h
        split at h
        case h_2 => cases h
        rename_i hfn c1 c2 hev
        split at h
        case h_2 => cases h
        rename_i hext
        split at h
        case h_2 => cases h
        rename_i v1 st2 lg hcall
        have hxe := (ev_sound hf hf' hev).1
        simp only [Rep] at hxe
        obtain ⟨fn', a', c', hxe, hfr, hra, hrc⟩ := hxe
        simp only [FnR] at hfr
        subst hfr
        refine wpIn_rangeFunc fun fn hfnn => ?_
        -- the worlds
        let w1 : World := { w with heap := w.heap.push (.deferred (some [])), drawn := w.drawn }
        have hp1 : Wpush w w1 (.deferred (some [])) := ⟨rfl, rfl, rfl, rfl⟩
        have st1 := Step.garbage hs hp1
        let L : Loop := { state := .ready, pending := none, fn := fn, tmps := a.tmps, params := ps, assign := x, body := y, defers := w.heap.size }
        let w2 : World := { w1 with heap := w1.heap.push (.loop L) }
        have hp2 : Wpush w1 w2 (.loop L) := ⟨rfl, rfl, rfl, rfl⟩
        have hfp : FrP g fr a.tmps := hf.frP hnl
        have step2 := Step.newLoc st1.sim hp2 (some (.loop 0 fr ps.toList (cCode P nt pm x) (cCode P nt pm y) .nrm)) 0 0 (fun bl e => by
          simp at e; subst e
          have hle := le_newLoc (g := g) (l := st.next) (b := w1.heap.size) (base := 0) (top := 0) st1.sim.loc_top
          exact ⟨rfl, L, rfl, rfl, rfl, by simp [L], ⟨nt, pm, rfl, rfl, hz, hx, hy⟩, fun p hp => by show p < a.tmps.size; rw [hz]; exact bltT (hps p hp), hfp.mono hle⟩)
        have hrun : (Instr.enterLoop fn a.tmps ps x y F.round).run P w = .ok (w1.heap.size, [{ target := .collected w.heap.size, args := #[] }]) w2 := by
          simp only [Instr.enterLoop, hro]
          rfl
        generalize hg2 : g.newLoc st.next w1.heap.size 0 0 = g2 at step2
        have hloc : g2.loc st.next = some (w1.heap.size, 0, 0) := by rw [← hg2]; simp [G.newLoc]
        have hargs : Reps g2 (c1 ++ [V.fn (.yield st.next) [] []] ++ c2) (a' ++ #[Value.func (.yield w1.heap.size) #[] #[]] ++ c').toList := by
          simp only [Array.toList_append]
          refine Reps_append (Reps_append (Reps.mono step2.le _ _ hra) ?_) (Reps.mono step2.le _ _ hrc)
          simp only [Reps, Rep]
          exact ⟨_, [], rfl, ⟨.yield w1.heap.size, #[], #[], rfl, ⟨_, _, hloc, rfl⟩, by simp, by simp⟩, rfl⟩
        obtain ⟨hen, hca⟩ := hcE hfn _ _ _ _ _ hext hcall g2 w2 _ step2.sim hargs
        have hres : (resolve a.eval (rangeCall f w1.heap.size) 0).run P w2 = .ok { target := .fn (.func hfn) c', args := a' ++ #[Value.func (.yield w1.heap.size) #[] #[]] } w2 := by
          have e1 : #[Operand.const (Value.func (Fn.yield w1.heap.size) #[] #[])].map a.eval = #[Value.func (Fn.yield w1.heap.size) #[] #[]] := by simp [Act.eval]
          simp only [resolve, rangeCall, hxe, Deferred.ofValue]
          rw [e1]
          rfl
        refine ⟨_, _, _, _, _, _, _, _, hrun, hres, fun f _ => hW.fn f, hen, (fun hd => by rw [hW.depth] at hd; cases hd), CallsIn.mono hca fun e w3 he => ?_⟩
        obtain ⟨u, g3, rfl, h3, _⟩ := he
        have hloc3 := h3.le.loc _ _ hloc
        have hown1 : g.own w.heap.size = none := hs.own_top
        have fin : ∀ (s : Nat) (fra : T V) (psa : List Nat) (aa ba : IR) (pe : Ex), st2.heap.get st.next = some (.loop s fra psa aa ba pe) → (s = 0 ∨ s = 2) → r = pe → fr' = fr → st' = st2.putBlk st.next .gone [] →
            rangePost F 0 P w1.heap.size (CodePost P X g st w fr nt lo r st' fr') { a with defers := [{ target := .collected w.heap.size, args := #[] }] ++ a.defers } (.returned u) w3 := by
          intro s fra psa aa ba pe hget hsv er ef es
          obtain ⟨L3, hL3, hLR3⟩ := loop_at h3.sim hget hloc3
          have hnb : L3.state ≠ .busy := by rw [hLR3.state]; rcases hsv with rfl | rfl <;> simp [stateOf]
          let w4 : World := { w3 with heap := w3.heap.setIfInBounds w1.heap.size (.loop { L3 with state := .exhausted }) }
          have step4 : Step P X g3 st2 w3 g3 (st2.putBlk st.next .gone []) w4 := Step.put h3.sim hget rfl hloc3 (Wput.setObj hL3) (fun e => by simp [alive] at e)
          have stepA : Step P X g st w1 g3 (st2.putBlk st.next .gone []) w4 := Step.trans st1.sim step2 (Step.trans step2.sim h3 step4)
          have stepT : Step P X g st w g3 (st2.putBlk st.next .gone []) w4 := Step.trans hs st1 stepA
          have hpost : CodePost P X g st w fr nt lo r st' fr' (exitOf r) { a with defers := [{ target := .collected w.heap.size, args := #[] }] ++ a.defers } w4 := by
            subst ef es
            refine ⟨rfl, g3, .ofStep stepT, hf.step hs stepT, hz, Marks.hop (fr := fr') (.ofStep stepA) (?_ : Marks g w1 lo _)⟩
            exact ⟨⟨w.heap.size, rfl, hm.size, hp1.here, hown1, hm.old⟩, Marks.hop (fr := fr') (.ofStep st1) hm⟩
          refine ⟨L3.pending, w4, run_endLoop hL3 hnb, ?_⟩
          rw [hLR3.pend]
          subst er
          cases r with
          | nrm => exact hpost
          | exit i => exact wpIn_exit hpost
          | ret => exact wpIn_ret hpost
        split at h
        · rename_i hget
          simp at h
          obtain ⟨rfl, rfl, rfl⟩ := h
          exact fin _ _ _ _ _ _ hget (.inl rfl) rfl rfl rfl
        · rename_i hget
          simp at h
          obtain ⟨rfl, rfl, rfl⟩ := h
          exact fin _ _ _ _ _ _ hget (.inr rfl) rfl rfl rfl
        · cases h

theorem cDraw_or (P : Program) (nt : Nat) (pm : List Nat) (ops : Array Oper) : (∃ d k p o, cDraw P nt pm ops = .regd d k p o) ∨ cDraw P nt pm ops = .bad := by
  unfold cDraw
  simp only
  generalize (edgesGo 0 ops.toList && _) = b
  cases b with
  | true => exact .inl ⟨_, _, _, _, rfl⟩
  | false => exact .inr rfl
theorem exec_step (hmu : CallU X.memo) (hW : Wide F) (hmx : P.follows .mixedOrders = true) (hok : OkX P X) {n : Nat} (ihs : ∀ k, k ≤ n → ExecOk P X F (exec X k)) (hcall : CallOk P X F (rcall X (exec X n))) (hcE : CallEnt P X F X.ext (rcall X (exec X n))) (hyield : YieldOk P X F (round (exec X n))) : ExecOk P X F (exec X (n + 1)) := by
  intro c nt pm hrf fr st r fr' st' h g w a lo hs hf hz hm
  have ih := ihs n (Nat.le_refl _)
  cases c with
  | skip =>
    simp [cCode, exec] at h
    obtain ⟨rfl, rfl, rfl⟩ := h
    exact wpIn_skip (.here hs hf hz hm .nrm)
  | label l =>
    simp [cCode, exec] at h
    obtain ⟨rfl, rfl, rfl⟩ := h
    exact wpIn_label (.here hs hf hz hm .nrm)
  | exit i =>
    simp [cCode, exec] at h
    obtain ⟨rfl, rfl, rfl⟩ := h
    exact wpIn_exit (.here hs hf hz hm (.exit i))
  | ret =>
    simp [cCode, exec] at h
    obtain ⟨rfl, rfl, rfl⟩ := h
    exact wpIn_ret (.here hs hf hz hm .ret)
  | goto l => simp [cCode, exec] at h
  | refuse s => simp [cCode, exec] at h
  | seq x y =>
    simp only [cCode, exec] at h
    have hx : F.round = none ∨ noRfn x = true := hrf.imp id fun q => by simp [noRfn] at q; exact q.1
    have hy : F.round = none ∨ noRfn y = true := hrf.imp id fun q => by simp [noRfn] at q; exact q.2
    cases h1 : exec X n (cCode P nt pm x) fr st with
    | none => simp [h1] at h
    | some q =>
      obtain ⟨e1, fr1, st1⟩ := q
      have ihx := ih x nt pm hx fr st e1 fr1 st1 h1 g w a lo hs hf hz hm
      refine wpIn_seq (wpIn_mono ihx fun e a1 w1 hp => ?_)
      cases e1 with
      | nrm =>
        simp only [h1] at h
        obtain ⟨rfl, g1, h2, h3, h4, h5⟩ := hp
        simp only [exitOf, Exit.then]
        exact wpIn_mono (ih y nt pm hy fr1 st1 r fr' st' h g1 w1 a1 lo h2.sim h3 h4 h5) fun e a2 w2 hq => CodePost.trans hs h2 hq
      | exit i =>
        simp [h1] at h
        obtain ⟨rfl, rfl, rfl⟩ := h
        have := hp.1
        simp only [exitOf] at this
        subst this
        exact hp
      | ret =>
        simp [h1] at h
        obtain ⟨rfl, rfl, rfl⟩ := h
        have := hp.1
        simp only [exitOf] at this
        subst this
        exact hp
  | cond x y z =>
    simp only [cCode] at h
    have hy : F.round = none ∨ noRfn y = true := hrf.imp id fun q => by simp [noRfn] at q; exact q.1
    have hzz : F.round = none ∨ noRfn z = true := hrf.imp id fun q => by simp [noRfn] at q; exact q.2
    cases hx : cOpd x with
    | none => simp [hx, exec] at h
    | some x' =>
      simp only [hx, exec] at h
      cases h1 : ev fr x' with
      | none => simp [h1] at h
      | some v =>
        have hr := (ev_sound hf hx h1).1
        cases v <;> simp only [h1] at h <;> try (cases h; done)
        rename_i b
        simp only [Rep, RepL] at hr
        cases b with
        | true => exact wpIn_cond_true hr (ih y nt pm hy fr st r fr' st' h g w a lo hs hf hz hm)
        | false => exact wpIn_cond_false hr (ih z nt pm hzz fr st r fr' st' h g w a lo hs hf hz hm)
  | block i x =>
    simp only [cCode, exec] at h
    have hx : F.round = none ∨ noRfn x = true := hrf
    cases h1 : exec X n (cCode P nt pm x) fr st with
    | none => simp [h1] at h
    | some q =>
      obtain ⟨e1, fr1, st1⟩ := q
      have ihx := ih x nt pm hx fr st e1 fr1 st1 h1 g w a lo hs hf hz hm
      refine wpIn_block (wpIn_mono ihx fun e a1 w1 hp => ?_)
      cases e1 with
      | nrm =>
        simp [h1] at h
        obtain ⟨rfl, rfl, rfl⟩ := h
        have := hp.1
        simp only [exitOf] at this
        subst this
        exact hp
      | ret =>
        simp [h1] at h
        obtain ⟨rfl, rfl, rfl⟩ := h
        have := hp.1
        simp only [exitOf] at this
        subst this
        exact hp
      | exit j =>
        simp only [h1, Option.some.injEq, Prod.mk.injEq] at h
        obtain ⟨h2, rfl, rfl⟩ := h
        have h3 := hp.1
        simp only [exitOf] at h3
        subst h3
        simp only [Exit.inBlock]
        by_cases hji : j = i
        · subst hji
          simp at h2; subst h2
          rw [if_pos rfl]
          exact ⟨rfl, hp.2⟩
        · rw [beqF hji] at h2
          simp at h2; subst h2
          rw [if_neg hji]
          exact hp
  | loop x =>
    simp only [cCode] at h
    exact exec_loop (x := x) ihs hrf h hs hf hz hm
  | scope x =>
    simp only [cCode, exec] at h
    cases n with
    | zero => simp [exec] at h
    | succ n =>
      have h1 : exec X (n + 1) .skip fr st = some (.nrm, fr, st) := rfl
      simp only [h1] at h
      have hx : F.round = none ∨ noRfn x = true := hrf
      intro b k cs hro hb hr
      obtain ⟨e, a', w', hq, harr⟩ := ih x nt pm hx fr st r fr' st' h g w a lo hs hf hz hm b (.inScope x :: k) cs hro hb hr
      have s1 : step P (lone (b.atR a (.code (.scope x) :: k)) cs w) = .next (lone (b.atR a (.code x :: .inScope x :: k)) cs w) := step_lone_go (by simp [stepG, stepG.exec, Frame.atR])
      have s2 : step P (lone (b.atR a' (.inScope x :: k)) cs w') = .next (lone (b.atR a' k) cs w') := step_lone_go (by simp [stepG, stepG.exec, Frame.atR])
      refine ⟨e, a', w', hq, .of_steps (.one (fenced_calm hb hr rfl) s1) ?_⟩
      have he := hq.1
      cases r with
      | nrm =>
        simp only [exitOf] at he; subst he
        exact StepsIn.trans harr (.one (fenced_calm hb hr rfl) s2)
      | exit i => simp only [exitOf] at he; subst he; exact harr
      | ret => simp only [exitOf] at he; subst he; exact harr
  | region i ops draw =>
    cases draw with
    | false =>
      simp only [cCode, cond_false, exec] at h
      cases h1 : runOps X (rcall X (exec X n)) (round (exec X n)) (ops.toList.map (cOper P nt pm ops)) fr st with
      | none => simp [h1] at h
      | some q =>
        obtain ⟨fr1, st1⟩ := q
        simp [h1] at h
        obtain ⟨rfl, rfl, rfl⟩ := h
        refine wpIn_region ?_
        have := runOps_wp hW hok hcall hyield (Q := CodePost P X g st w fr nt lo .nrm st1 fr1) ops.toList 0 (by simp) fr st g w a hs hf hz h1 fun a' w' hp => by
          obtain ⟨g1, e1, e2, e3, e4⟩ := hp
          exact ⟨rfl, g1, e1, e2, e3.trans hz, e4 ▸ hm.hop e1⟩
        rw [List.range_eq_range']
        simpa using this
    | true =>
      simp only [cCode, cond_true] at h
      rcases cDraw_or P nt pm ops with ⟨d, k, p, o, hcd⟩ | hcd
      · rw [hcd] at h
        simp only [exec] at h
        split at h
        · rename_i fr1 st1 hrun
          split at h
          · rename_i hpub
            simp at h
            obtain ⟨rfl, rfl, rfl⟩ := h
            exact draw_ok hW hmx hok hcall hyield (rcall_unw hmu (exec_unw hmu n)) (round_unw (exec_unw hmu n)) hcd hrun hpub hs hf hz fun a' w' hp => by
              obtain ⟨g1, e1, e2, e3, e4⟩ := hp
              exact ⟨rfl, g1, e1, e2, e3.trans hz, e4 ▸ hm.hop e1⟩
          · cases h
        · cases h
      · rw [hcd] at h; simp [exec] at h
  | rangeFunc f ps x y =>
    rcases hrf with hro | hrf
    · exact rfn_ok hW hro hcE h hs hf hz hm
    · simp [noRfn] at hrf
end
end Go.Ai
/-! Functions: their answers, their ends. -/
namespace Go.Ai
open Go
set_option linter.unusedSimpArgs false

section
variable {P : Program} {X : Env} {F : Fence} {g g' : G} {st st' st'' : St} {w w' w'' : World} {fr fr' fr'' : T V} {a a' : Act} {nt lo : Nat}

def resM (tmps : Array Value) : ResultVar → Sem Value
  | .tmp t => pure (tmps.getD t undef)
  | .cell x t => do loadVar t (← asAddr (tmps.getD x undef))
theorem resOne_sound (hs : Sim P X g st w) (hf : FrR g st w fr a.tmps) {rv : ResultVar} {r : Res} {v : V} (hc : cRes P rv = some r) (h : resOne X fr st r = some v) :
    ∃ u, (resM a.tmps rv).run P w = .ok u w ∧ Rep g v u := by
  cases rv with
  | tmp t =>
    simp [cRes] at hc; subst hc
    simp only [resOne] at h
    exact ⟨_, rfl, (ev_sound (x := .tmp t) hf rfl h).1⟩
  | cell x t =>
    simp only [cRes] at hc
    cases h1 : sizeT P t with
    | none => simp [h1] at hc
    | some n =>
      cases h2 : aggT P t with
      | none => simp [h1, h2] at hc
      | some b =>
        simp [h1, h2] at hc; subst hc
        simp only [resOne] at h
        cases h3 : runLoad X fr st n b (.t x) with
        | none => simp [h3] at h
        | some q =>
          obtain ⟨v', st1, lg⟩ := q
          simp [h3] at h; subst h
          obtain ⟨_, _, u, h4, h5⟩ := runLoad_sound (x := .tmp x) hs hf h1 h2 rfl h3
          refine ⟨u, ?_, h5⟩
          simp only [Act.eval] at h4
          simp only [resM]
          generalize a.tmps.getD x undef = y at h4 ⊢
          cases y <;> simp [Instr.loadAt, Instr.sureAddr] at h4
          rename_i ad
          cases ad <;> simp [Instr.loadAt, Instr.sureAddr] at h4
          simp [asAddr, h4]
theorem resList_sound (hs : Sim P X g st w) (hf : FrR g st w fr a.tmps) : ∀ {rvs : List ResultVar} {rs : List Res} {vs : List V}, mapO (cRes P) rvs = some rs → mapO (resOne X fr st) rs = some vs →
    ∃ us, (rvs.mapM (resM a.tmps)).run P w = .ok us w ∧ Reps g vs us
  | [], rs, vs, hc, h => by
    simp [mapO] at hc; subst hc
    simp [mapO] at h; subst h
    exact ⟨[], by simp, by simp [Reps]⟩
  | rv :: rvs, rs, vs, hc, h => by
    simp only [mapO] at hc
    cases h1 : cRes P rv with
    | none => simp [h1] at hc
    | some r =>
      cases h2 : mapO (cRes P) rvs with
      | none => simp [h1, h2] at hc
      | some rs' =>
        simp [h1, h2] at hc; subst hc
        simp only [mapO] at h
        cases h3 : resOne X fr st r with
        | none => simp [h3] at h
        | some v =>
          cases h4 : mapO (resOne X fr st) rs' with
          | none => simp [h3, h4] at h
          | some vs' =>
            simp [h3, h4] at h; subst h
            obtain ⟨u, h5, h6⟩ := resOne_sound hs hf h1 h3
            obtain ⟨us, h7, h8⟩ := resList_sound hs hf h2 h4
            exact ⟨u :: us, by simp [List.mapM_cons, h5, h7], by simp only [Reps]; exact ⟨u, us, rfl, h6, h8⟩⟩
theorem results_sound (hs : Sim P X g st w) (hf : FrR g st w fr a.tmps) {fn : Func} {rs : List Res} {v : V} (hc : mapO (cRes P) fn.results.toList = some rs) (h : results X fr st rs = some v) :
    ∃ u, (Go.results fn a.tmps).run P w = .ok u w ∧ Rep g v u := by
  unfold results at h
  cases h1 : mapO (resOne X fr st) rs with
  | none => simp [h1] at h
  | some vs =>
    simp only [h1] at h
    obtain ⟨us, h2, h3⟩ := resList_sound hs hf hc h1
    have hm : (fn.results.mapM (resM a.tmps)).run P w = .ok us.toArray w := by
      rw [Array.mapM_eq_mapM_toList]
      simp [h2]
    have hrun : (Go.results fn a.tmps).run P w = .ok (if h : us.toArray.size = 1 then us.toArray[0] else .tuple us.toArray) w := by
      have : Go.results fn a.tmps = (do let vs ← fn.results.mapM (resM a.tmps); pure (if h : vs.size = 1 then vs[0] else .tuple vs)) := by
        rfl
      rw [this]
      simp only [Sem.run_bind, hm, Result.andThen_ok, Sem.run_pure]
    refine ⟨_, hrun, ?_⟩
    cases vs with
    | nil =>
      simp at h; subst h
      simp only [Reps] at h3; subst h3
      simp only [Rep]; exact ⟨#[], by simp, by simp [Reps]⟩
    | cons x vs =>
      cases vs with
      | nil =>
        simp at h; subst h
        simp only [Reps] at h3
        obtain ⟨u, r, rfl, h4, rfl⟩ := h3
        simpa using h4
      | cons y vs =>
        simp at h; subst h
        have := Reps_length h3
        have hne : ¬ (us.toArray.size = 1) := by simp; simp at this; omega
        rw [dif_neg hne]
        simp only [Rep]
        exact ⟨us.toArray, rfl, h3⟩

/-! marks are taken -/
theorem Sim.shut (hs : Sim P X g st w) {r : Nat} {o : Obj} {ds : Option (List Deferred)} (hr : w.heap[r]? = some (.deferred ds)) (ho : g.own r = none) : Sim P X g st { w with heap := w.heap.setIfInBounds r o } := by
  have hother : ∀ k, k ≠ r → (w.heap.setIfInBounds r o)[k]? = w.heap[k]? := fun k hk => Array.getElem?_setIfInBounds_ne (Ne.symm hk)
  refine ⟨fun b l hb => by simpa using hs.sz b l hb, hs.lt, hs.ht, hs.own, fun l bl e1 e2 => ?_, fun b m hm => ?_, fun k v hk => ?_⟩
  · obtain ⟨b, base, top, o', h1, h2, h3, h4⟩ := hs.blk l bl e1 e2
    exact ⟨b, base, top, o', h1, h2, by rw [hother b fun e => by subst e; rw [ho] at h2; cases h2]; exact h3, h4⟩
  · obtain ⟨h0, c, e, f, h1, h2⟩ := hs.fz b m hm
    exact ⟨h0, c, e, f, by rw [hother b fun e => by subst e; rw [hr] at h1; cases h1]; exact h1, h2⟩
  · obtain ⟨h0, h5, c, e, f, u, h1, h2⟩ := hs.glob k v hk
    exact ⟨h0, h5, c, e, f, u, by rw [hother k fun e => by subst e; rw [hr] at h1; cases h1]; exact h1, h2⟩
theorem FrR.shut {tmps : Array Value} (hf : FrR g st w fr tmps) {r : Nat} {o : Obj} (ho : g.own r = none) : FrR g st { w with heap := w.heap.setIfInBounds r o } fr tmps := by
  refine ⟨fun i v hi => ⟨(hf.val i v hi).1, ?_⟩, hf.apart⟩
  have h := (hf.val i v hi).2
  cases v <;> try exact h
  rename_i id cs
  obtain ⟨⟨b, c, e, h1, h2, h3, h4, h5⟩, h6, h7⟩ := h
  refine ⟨⟨b, c, e, h1, h2, ?_, h4, h5⟩, h6, h7⟩
  rw [← h3]
  exact Array.getElem?_setIfInBounds_ne (fun e => by subst e; rw [ho] at h2; cases h2)
structure Shut (lo : Nat) (w w' : World) : Prop where
  low : ∀ b, b < lo → w'.heap[b]? = w.heap[b]?
  size : w'.heap.size = w.heap.size
  os : w'.os = w.os
  out : w'.output = w.output
  tape : w'.tape = w.tape
theorem leave_marks {fn : Func} {tmps : Array Value} {R : Ending → World → Prop} : ∀ {ds : List Deferred} {w : World}, Sim P X g st w → FrR g st w fr tmps → Marks g w lo ds →
    (∀ w', Sim P X g st w' → FrR g st w' fr tmps → Shut lo w w' → LeavesIn F 0 P fn tmps R [] .returning w') → LeavesInM F 0 P fn tmps R ds .returning w
  | [], w, hs, hf, _, hR => hR w hs hf ⟨fun _ _ => rfl, rfl, rfl, rfl, rfl⟩
  | d :: ds, w, hs, hf, ⟨⟨r, h1, h2, h3, h4, h5⟩, h6⟩, hR => by
    have hlt := lt_of_get h3
    have hother : ∀ k, k ≠ r → (w.heap.setIfInBounds r (.deferred none))[k]? = w.heap[k]? := fun k hk => Array.getElem?_setIfInBounds_ne (Ne.symm hk)
    refine ⟨by simp, .inl ⟨r, { w with heap := w.heap.setIfInBounds r (.deferred none) }, h1, ?_, ?_⟩⟩
    · simp [Instr.takeDeferred, getObj, setObj, Sem.run, h3]
    · refine leave_marks (hs.shut h3 h4) (hf.shut h4) ?_ fun w' e1 e2 e3 => hR w' e1 e2 ⟨fun b hb => (e3.low b hb).trans (hother b (by omega)), e3.size.trans (by simp), e3.os, e3.out, e3.tape⟩
      have keep : ∀ (q : List Deferred), (∀ d' ∈ q, d'.target ≠ .collected r) → Marks g w lo q → Marks g { w with heap := w.heap.setIfInBounds r (.deferred none) } lo q := by
        intro q
        induction q with
        | nil => intro _ hm; simpa [Marks] using hm
        | cons x q ih =>
          intro hx hm
          obtain ⟨⟨r', k1, k2, k3, k4, k5⟩, k6⟩ := hm
          refine ⟨⟨r', k1, k2, ?_, k4, k5⟩, ih (fun d' hd => hx d' (List.mem_cons_of_mem _ hd)) k6⟩
          rw [← k3]
          exact hother r' fun e => by subst e; exact hx x (List.mem_cons_self ..) k1
      exact keep ds h5 h6

theorem enter_frame {us : Array Value} {vs : List V} (hr : Reps g vs us.toList) {n : Nat} (hn : vs.length ≤ n) : FrR g st w (T.ofList vs) (us ++ Array.replicate (n - us.size) undef) ∧ (us ++ Array.replicate (n - us.size) undef).size = n ∧ ∀ id, ¬ mine (T.ofList vs) id := by
  have hl := Reps_length hr
  simp at hl
  have hpl : ∀ i v, (T.ofList vs).get i = some v → plain v = true ∧ i < us.size ∧ Rep g v (us.getD i undef) := by
    intro i v hi
    rw [T.get_ofList] at hi
    obtain ⟨u, h1, h2⟩ := Reps_get hr i v hi
    have hlt := (List.getElem?_eq_some_iff.1 hi).1
    have h3 : us[i]? = some u := by simpa using h1
    have h4 : i < us.size := lt_of_get h3
    refine ⟨rep_plain h2, h4, ?_⟩
    rw [Array.getD_eq_getD_getElem?, h3]
    exact h2
  refine ⟨⟨fun i v hi => ?_, fun i j id cs cs' hi _ => ?_⟩, by simp; omega, fun id hm => ?_⟩
  · obtain ⟨h1, h2, h3⟩ := hpl i v hi
    refine ⟨by simp; omega, (VR_plain h1).2 ?_⟩
    rw [Array.getD_eq_getD_getElem?] at h3 ⊢
    rw [Array.getElem?_append_left h2]
    exact h3
  · have := (hpl i _ hi).1
    simp [plain] at this
  · obtain ⟨i, cs, hi⟩ := hm
    have := (hpl i _ hi).1
    simp [plain] at this

/-- a function's run, before its end is met -/
theorem func_run (hW : Wide F) (hro : F.round = none) {ex : IR → T V → St → ER} (hex : ExecOk P X F ex) {f : FuncId} {fn : Func} {pm : List Nat} {b : IFn} (hfn : P.funcs[f]? = some fn) (hc : cFn P pm fn b.mode = some b)
    {vs : List V} {us : Array Value} (hs : Sim P X g st w) (hr : Reps g vs us.toList) (hle : vs.length ≤ b.nt) {r : Ex} (hret : r = .nrm ∨ r = .ret) (h : ex b.body (T.ofList vs) st = some (r, fr, st')) {v : V} (hv : results X fr st' b.res = some v) :
    CallsIn F 0 P f us w (CallPost P X g st w v st') := by
  unfold cFn at hc
  cases hb : fn.body with
  | none => simp [hb] at hc
  | some c =>
    simp only [hb] at hc
    cases hres : mapO (cRes P) fn.results.toList with
    | none => simp [hres] at hc
    | some rs =>
      simp [hres] at hc
      have hbody : b.body = cCode P fn.ntmps pm c := by rw [← hc]
      have hnt : b.nt = fn.ntmps := by rw [← hc]
      have hrs : b.res = rs := by rw [← hc]
      rw [hbody] at h
      rw [hnt] at hle
      rw [hrs] at hv
      obtain ⟨h1, h2, h3⟩ := enter_frame (st := st) (w := w) hr hle
      refine callsIn_of_wp_marks hfn hb (hW.fn f) (wpIn_mono (hex c fn.ntmps pm (.inl hro) _ st r fr st' h g w { tmps := us ++ Array.replicate (fn.ntmps - us.size) undef, defers := [] } w.heap.size hs h1 h2 (by simp [Marks])) fun e a' w' hp => ?_) hro
      obtain ⟨he, g1, e1, e2, e3, e4⟩ := hp
      have main : LeavesInM F 0 P fn a'.tmps (CallPost P X g st w v st') a'.defers .returning w' := by
        refine leave_marks e1.sim e2 e4 fun w2 k1 k2 k3 => ?_
        obtain ⟨u, k4, k5⟩ := results_sound k1 (a := a') k2 hres hv
        refine ⟨u, k4, u, g1, rfl, ⟨e1.le, k1, e1.next, by rw [k3.size]; exact e1.size, fun b o hb hn => ?_, e1.born, e1.dead, k3.os.trans e1.os, k3.out.trans e1.out, k3.tape.trans e1.tape, e1.old, e1.fzo⟩, k5⟩
        obtain ⟨k6, k7⟩ := e1.keep b o hb fun l hl => ⟨hn l hl, h3 l⟩
        exact ⟨by rw [k3.low b (lt_of_get hb)]; exact k6, k7⟩
      rcases hret with rfl | rfl
      · simp only [exitOf] at he; subst he; exact main
      · simp only [exitOf] at he; subst he; exact main
end
end Go.Ai
/-! Forgetting what a call has made. -/
namespace Go.Ai
open Go
set_option linter.unusedSimpArgs false

/-- g' knows g's places and all that g1 has frozen -/
structure Back (g g1 g' : G) : Prop where
  le : g.le g1
  loc : ∀ l x, g.loc l = some x → g'.loc l = some x
  fz : ∀ b m, g1.fz b = some m → g'.fz b = some m

section
variable {P : Program} {X : Env} {g g1 g' : G} {st st1 : St} {w w1 : World}

theorem Back.at (h : Back g g1 g') {l : Nat} {x y : Nat × Nat × Nat} (h0 : g.loc l = some x) (h1 : g1.loc l = some y) : g'.loc l = some y := by
  have := h.le.loc l x h0
  rw [h1] at this; cases this
  exact h.loc l _ h0
theorem RepL.back (h : Back g g1 g') {v : V} {u0 u : Value} (h0 : RepL g v u0) (h1 : RepL g1 v u) : RepL g' v u := by
  cases v <;> simp only [RepL] at h0 h1 ⊢ <;> try exact h1
  case ptr l off =>
    obtain ⟨_, _, _, e0, _⟩ := h0
    obtain ⟨b, base, top, e1, e2⟩ := h1
    exact ⟨b, base, top, h.at e0 e1, e2⟩
  case eptr cs => obtain ⟨b, o, m, e1, e2⟩ := h1; exact ⟨b, o, m, h.fz _ _ e1, e2⟩
  case sl sz xs t => obtain ⟨b, o, cap, m, e1, e2⟩ := h1; exact ⟨b, o, cap, m, h.fz _ _ e1, e2⟩
  case big sz n t => obtain ⟨b, o, cap, m, e1, e2⟩ := h1; exact ⟨b, o, cap, m, h.fz _ _ e1, e2⟩
  case bytes n => obtain ⟨b, o, cap, m, l, e1, e2⟩ := h1; exact ⟨b, o, cap, m, l, h.fz _ _ e1, e2⟩
  case row sz l off len =>
    obtain ⟨_, _, _, _, e0, _⟩ := h0
    obtain ⟨b, base, top, cap, e1, e2⟩ := h1
    exact ⟨b, base, top, cap, h.at e0 e1, e2⟩
  case map l =>
    obtain ⟨_, _, e0, _⟩ := h0
    obtain ⟨b, top, e1, e2⟩ := h1
    exact ⟨b, top, h.at e0 e1, e2⟩
theorem FnR.back (h : Back g g1 g') {f f0 f' : Fn} (h0 : FnR g f f0) (h1 : FnR g1 f f') : FnR g' f f' := by
  cases f <;> simp only [FnR] at h0 h1 ⊢ <;> try exact h1
  obtain ⟨_, _, e0, _⟩ := h0
  obtain ⟨b, top, e1, e2⟩ := h1
  exact ⟨b, top, h.at e0 e1, e2⟩
mutual
theorem Rep.back (h : Back g g1 g') : ∀ (v : V) (u0 u : Value), Rep g v u0 → Rep g1 v u → Rep g' v u
  | .iface t v, u0, u, h0, h1 => by
    simp only [Rep] at h0 h1 ⊢
    obtain ⟨_, _, e0⟩ := h0
    obtain ⟨u', rfl, e1⟩ := h1
    exact ⟨u', rfl, Rep.back h v _ u' e0 e1⟩
  | .fn f a c, u0, u, h0, h1 => by
    simp only [Rep] at h0 h1 ⊢
    obtain ⟨_, _, _, _, e0, e1, e2⟩ := h0
    obtain ⟨f', a', c', rfl, k0, k1, k2⟩ := h1
    exact ⟨f', a', c', rfl, FnR.back h e0 k0, Reps.back h a _ _ e1 k1, Reps.back h c _ _ e2 k2⟩
  | .agg cs, u0, u, h0, h1 => by
    simp only [Rep] at h0 h1 ⊢
    obtain ⟨_, _, _, e0⟩ := h0
    obtain ⟨us, rfl, hl, e1⟩ := h1
    exact ⟨us, rfl, hl, Reps.back h cs _ _ e0 e1⟩
  | .tuple vs, u0, u, h0, h1 => by
    simp only [Rep] at h0 h1 ⊢
    obtain ⟨_, _, e0⟩ := h0
    obtain ⟨us, rfl, e1⟩ := h1
    exact ⟨us, rfl, Reps.back h vs _ _ e0 e1⟩
  | .bool _, u0, u, h0, h1 | .int _ _, u0, u, h0, h1 | .str _, u0, u, h0, h1 | .nilp, u0, u, h0, h1 | .ptr _ _, u0, u, h0, h1 | .gptr _, u0, u, h0, h1 | .eptr _, u0, u, h0, h1 | .nils, u0, u, h0, h1
  | .emp, u0, u, h0, h1 | .non0, u0, u, h0, h1 | .sl _ _ _, u0, u, h0, h1 | .big _ _ _, u0, u, h0, h1 | .bytes _, u0, u, h0, h1 | .row _ _ _ _, u0, u, h0, h1 | .nilm, u0, u, h0, h1 | .map _, u0, u, h0, h1
  | .nilf, u0, u, h0, h1 | .nili, u0, u, h0, h1 | .junk, u0, u, h0, h1 | .loc _ _, u0, u, h0, h1 | .der _ _ _, u0, u, h0, h1 => by
    simp only [Rep] at h0 h1 ⊢
    exact RepL.back h h0 h1
theorem Reps.back (h : Back g g1 g') : ∀ (vs : List V) (us0 us : List Value), Reps g vs us0 → Reps g1 vs us → Reps g' vs us
  | [], us0, us, h0, h1 => by simpa [Reps] using h1
  | v :: vs, us0, us, h0, h1 => by
    simp only [Reps] at h0 h1 ⊢
    obtain ⟨_, _, _, e0, k0⟩ := h0
    obtain ⟨u, r, rfl, e1, k1⟩ := h1
    exact ⟨u, r, rfl, Rep.back h v _ u e0 e1, Reps.back h vs _ _ k0 k1⟩
end
theorem CellsR.back (h : Back g g1 g') {f : Nat → Option V} {n : Nat} {c0 c : Array Value} {b0 b : Nat} (h0 : CellsR g f n c0 b0) (h1 : CellsR g1 f n c b) : CellsR g' f n c b := fun i hi => by
  obtain ⟨v0, u0, e0, _, _, e1⟩ := h0 i hi
  obtain ⟨v, u, k0, k1, k2, k3⟩ := h1 i hi
  rw [e0] at k0; cases k0
  exact ⟨v0, u, e0, k1, k2, Rep.back h _ _ _ e1 k3⟩
theorem MapR.back (h : Back g g1 g') : ∀ {es : List (V × V)} {c0 c : List MapEntry}, MapR g es c0 → MapR g1 es c → MapR g' es c
  | [], c0, c, h0, h1 => h1
  | (k, v) :: es, c0, c, h0, h1 => by
    simp only [MapR] at h0 h1 ⊢
    obtain ⟨_, _, _, e0, e1, e2⟩ := h0
    obtain ⟨e, q, rfl, k0, k1, k2⟩ := h1
    exact ⟨e, q, rfl, Rep.back h _ _ _ e0 k0, Rep.back h _ _ _ e1 k1, MapR.back h e2 k2⟩
theorem BlkR.back (h : Back g g1 g') {bl : Blk} {b0 t0 b t : Nat} {o0 o : Obj} (h0 : BlkR P g bl b0 t0 o0) (h1 : BlkR P g1 bl b t o) : BlkR P g' bl b t o := by
  cases bl with
  | cells n tr =>
    obtain ⟨c0, _, _, _, _, e0⟩ := h0
    obtain ⟨c, e, k0, k1, k2, k3⟩ := h1
    exact ⟨c, e, k0, k1, k2, CellsR.back h e0 k3⟩
  | map es =>
    obtain ⟨_, _, _, _, e0⟩ := h0
    obtain ⟨k0, ce, ck, k1, k2⟩ := h1
    exact ⟨k0, ce, ck, k1, MapR.back h e0 k2⟩
  | iter => exact h1
  | loop s fr ps a b pend =>
    obtain ⟨_, L0, _, l0⟩ := h0
    obtain ⟨k0, L, k1, l1⟩ := h1
    refine ⟨k0, L, k1, ⟨l1.state, l1.pend, l1.params, l1.code, l1.small, fun i v e => ⟨(l1.frame i v e).1, (l1.frame i v e).2.1, Rep.back h _ _ _ (l0.frame i v e).2.2 (l1.frame i v e).2.2⟩⟩⟩
  | gone => trivial

/-- what a pure value stands for, whatever the places -/
theorem pure_back (hfz : ∀ b m, g1.fz b = some m → g'.fz b = some m) {v : V} (hp : pureV v = true) {u : Value} (h : Rep g1 v u) : Rep g' v u := by
  cases v <;> simp only [pureV] at hp <;> try (cases hp; done)
  case fn f a c =>
    cases f <;> try (simp [pureV] at hp; done)
    cases a <;> try (simp [pureV] at hp; done)
    cases c <;> try (simp [pureV] at hp; done)
    simp only [Rep, FnR, Reps] at h ⊢
    exact h
  case iface t x =>
    cases x <;> try (simp [pureV] at hp; done)
    all_goals
      simp only [Rep, RepL] at h ⊢
      exact h
  case sl sz xs t => simp only [Rep, RepL] at h ⊢; obtain ⟨b, o, cap, m, e1, e2⟩ := h; exact ⟨b, o, cap, m, hfz _ _ e1, e2⟩
  case big sz n t => simp only [Rep, RepL] at h ⊢; obtain ⟨b, o, cap, m, e1, e2⟩ := h; exact ⟨b, o, cap, m, hfz _ _ e1, e2⟩
  case bytes n => simp only [Rep, RepL] at h ⊢; obtain ⟨b, o, cap, m, l, e1, e2⟩ := h; exact ⟨b, o, cap, m, l, hfz _ _ e1, e2⟩
  all_goals
    simp only [Rep, RepL] at h ⊢
    exact h
end
end Go.Ai
/-! Forgetting what a call has made: freezing. -/
namespace Go.Ai
open Go
set_option linter.unusedSimpArgs false

/-- a forgotten block's cells -/
def iced (st1 : St) (lim ban n : Nat) (t : T V) (base : Nat) (j : Nat) : Option V :=
  if base ≤ j ∧ j < base + n then (match t.get (j - base) with | some v => freeze st1 lim ban 100 v | none => none) else none
def G.forget (g g1 : G) (st1 : St) (lim ban : Nat) : G :=
  { loc := g.loc, own := g.own
    fz := fun b => match g1.fz b with
      | some m => some m
      | none => match g1.own b with
        | some l => if lim ≤ l ∧ l ≠ ban then (match st1.heap.get l, g1.loc l with
          | some (.cells n t), some (_, base, _) => some (iced st1 lim ban n t base)
          | _, _ => none) else none
        | none => none }

section
variable {P : Program} {X : Env} {g g1 g' : G} {st st1 : St} {w w1 : World} {lim ban : Nat}

theorem mapO_mono {α β : Type} {f f' : α → Option β} (h : ∀ x y, f x = some y → f' x = some y) : ∀ {xs : List α} {ys : List β}, mapO f xs = some ys → mapO f' xs = some ys
  | [], ys, hm => hm
  | x :: xs, ys, hm => by
    simp only [mapO] at hm ⊢
    cases h1 : f x with
    | none => simp [h1] at hm
    | some y =>
      cases h2 : mapO f xs with
      | none => simp [h1, h2] at hm
      | some r =>
        simp [h1, h2] at hm; subst hm
        simp [h x y h1, mapO_mono h h2]
theorem freeze_succ : ∀ (k : Nat) {v v' : V}, freeze st1 lim ban k v = some v' → freeze st1 lim ban (k + 1) v = some v'
  | 0, v, v', h => by simp [freeze] at h
  | k + 1, v, v', h => by
    by_cases hrow : ∃ sz l off len, v = .row sz l off len
    case neg =>
      have e : ∀ m, freeze st1 lim ban (m + 1) v = bif pureV v then some v else none := fun m => by
        cases v <;> first | rfl | exact absurd ⟨_, _, _, _, rfl⟩ hrow
      rw [e] at h ⊢
      exact h
    obtain ⟨sz, l, off, len, rfl⟩ := hrow
    simp only [freeze] at h ⊢
    cases h1 : Nat.blt l lim with
    | true => simp [h1] at h
    | false =>
      cases h2 : Nat.beq l ban with
      | true => simp [h1, h2] at h
      | false =>
        simp only [h1, h2, cond_false] at h ⊢
        cases h3 : st1.cut l off (len * sz) with
        | none => simp [h3] at h
        | some cs =>
          simp only [h3] at h ⊢
          cases h4 : mapO (freeze st1 lim ban k) cs with
          | none => simp [h4] at h
          | some cs' =>
            simp only [h4] at h
            have h5 := mapO_mono (fun x y hq => freeze_succ k hq) h4
            simp only [freeze] at h5 ⊢
            rw [h5]
            exact h
theorem freeze_le {k m : Nat} (h : k ≤ m) {v v' : V} (hv : freeze st1 lim ban k v = some v') : freeze st1 lim ban m v = some v' := by
  induction h with
  | refl => exact hv
  | step _ ih => exact freeze_succ _ ih

theorem forget_fz (b : Nat) (m : Nat → Option V) (h : g1.fz b = some m) : (G.forget g g1 st1 lim ban).fz b = some m := by simp [G.forget, h]

theorem freeze_rep (hs : Sim P X g1 st1 w1) : ∀ (k : Nat), k ≤ 100 → ∀ {v v' : V} {u : Value}, freeze st1 lim ban k v = some v' → Rep g1 v u → pureV v' = true ∧ Rep (G.forget g g1 st1 lim ban) v' u
  | 0, _, v, v', u, h, _ => by simp [freeze] at h
  | k + 1, hk, v, v', u, h, hr => by
    by_cases hrow : ∃ sz l off len, v = .row sz l off len
    · obtain ⟨sz, l, off, len, rfl⟩ := hrow
      simp only [freeze] at h
      cases h1 : Nat.blt l lim with
      | true => simp [h1] at h
      | false =>
        cases h2 : Nat.beq l ban with
        | true => simp [h1, h2] at h
        | false =>
          simp only [h1, h2, cond_false] at h
          cases h3 : st1.cut l off (len * sz) with
          | none => simp [h3] at h
          | some cs =>
            simp only [h3] at h
            cases h4 : mapO (freeze st1 lim ban k) cs with
            | none => simp [h4] at h
            | some cs' =>
              simp only [h4] at h
              have hle : lim ≤ l := by
                rcases Nat.lt_or_ge l lim with h' | h'
                · have : Nat.blt l lim = true := Nat.ble_eq_true_of_le h'
                  rw [this] at h1; cases h1
                · exact h'
              have hban : l ≠ ban := fun e => by subst e; simp at h2
              simp only [Rep, RepL] at hr
              obtain ⟨b, base, top, cap, e1, e2, e3, e4⟩ := hr
              obtain ⟨e5, c, e, e6, e7⟩ := cut_cells hs h3 e1
              -- the block
              unfold St.cut at h3
              cases hb : st1.blk l with
              | none => simp [hb] at h3
              | some nt =>
                obtain ⟨n, t⟩ := nt
                simp only [hb] at h3
                cases hbm : Nat.ble (off + len * sz) n with
                | false => simp [hbm] at h3
                | true =>
                  simp only [hbm, cond_true] at h3
                  have hbm := bleT hbm
                  obtain ⟨_, htk⟩ := T.take_spec _ _ _ _ h3
                  obtain ⟨b', base', top', o', k1, k2, k3, k4⟩ := hs.blk l _ (blk_get hb) rfl
                  rw [e1] at k1
                  obtain ⟨rfl, rfl, rfl⟩ : b = b' ∧ base = base' ∧ top = top' := by simpa using k1
                  have hfz0 : g1.fz b = none := by
                    cases hf : g1.fz b with
                    | none => rfl
                    | some m => have := (hs.fz b m hf).1; rw [k2] at this; cases this
                  have hfz : (G.forget g g1 st1 lim ban).fz b = some (iced st1 lim ban n t base) := by
                    simp [G.forget, hfz0, k2, hle, hban, blk_get hb, e1]
                  obtain ⟨m1, m2⟩ := mapO_spec h4
                  have hpure : ∀ (i : Nat) (q : V), cs'[i]? = some q → pureV q = true := by
                    intro i q hi
                    have hil : i < cs.length := by have := (List.getElem?_eq_some_iff.1 hi).1; omega
                    have k5 : cs[i]? = some cs[i] := List.getElem?_eq_getElem hil
                    obtain ⟨y, k6, k7⟩ := m2 i _ k5
                    rw [hi] at k7; cases k7
                    obtain ⟨u2, _, _, k8⟩ := e7 i _ k5
                    exact (freeze_rep hs k (by omega) k6 k8).1
                  unfold chunkT at h
                  cases h6 : chunks sz len cs' with
                  | none => simp [h6] at h
                  | some xs =>
                    simp only [h6] at h
                    obtain ⟨q1, q2, q3⟩ := chunks_spec len cs' xs (leafs_of fun i q hi => pureV_leaf (hpure i q hi)) h6
                    have hat : ∀ i x, xs[i]? = some x → x.cells.length = sz ∧ AtF (iced st1 lim ban n t base) (base + off + i * sz) x.cells := by
                      intro i x hi
                      obtain ⟨q4, q5⟩ := q3 i x hi
                      refine ⟨q4, fun j q hj => ?_⟩
                      have q6 := q5 j q hj
                      have hil : i * sz + j < cs.length := by have := (List.getElem?_eq_some_iff.1 q6).1; omega
                      have k5 : cs[i * sz + j]? = some cs[i * sz + j] := List.getElem?_eq_getElem hil
                      obtain ⟨y, k6, k7⟩ := m2 _ _ k5
                      rw [q6] at k7; cases k7
                      have k8 := htk (i * sz + j) (by omega)
                      rw [k5] at k8
                      unfold iced
                      rw [if_pos (by omega), show base + off + i * sz + j - base = off + (i * sz + j) from by omega, k8]
                      exact freeze_le (by omega) k6
                    cases h7 : Nat.blt 24 len with
                    | true =>
                      simp [h7] at h; subst h
                      refine ⟨rfl, ?_⟩
                      simp only [Rep, RepL]
                      refine ⟨b, base + off, cap, _, hfz, e2, e3, fun i hi => ?_⟩
                      have hix : xs[i]? = some xs[i] := List.getElem?_eq_getElem (by omega)
                      exact ⟨xs[i], by rw [T.get_ofList]; exact hix, hat i _ hix⟩
                    | false =>
                      simp [h7] at h; subst h
                      refine ⟨rfl, ?_⟩
                      simp only [Rep, RepL]
                      exact ⟨b, base + off, cap, _, hfz, by rw [e2, q1], by omega, (by simp), hat⟩
    · have h' : pureV v = true ∧ v' = v := by
        simp only [freeze] at h
        cases hp : pureV v with
        | false => cases v <;> simp_all
        | true => cases v <;> simp_all
      obtain ⟨hp, rfl⟩ := h'
      exact ⟨hp, pure_back (fun b m => forget_fz b m) hp hr⟩
end
end Go.Ai
/-! Forgetting what a call has made: the step. -/
namespace Go.Ai
open Go
set_option linter.unusedSimpArgs false

section
variable {P : Program} {X : Env} {g g1 g' : G} {st st1 : St} {w w1 : World} {ban : Nat}

theorem own_kept (hs : Sim P X g st w) (h : Step P X g st w g1 st1 w1) (hun : ∀ l, l < st.next → st1.heap.get l = st.heap.get l) {b l : Nat} (hb : g.own b = some l) : g1.own b = some l := by
  have hlt := hs.own_lt hb
  by_cases hv : live st l
  · obtain ⟨bl, h1, h2⟩ := hv
    obtain ⟨base, top, h3⟩ := hs.own b l hb
    obtain ⟨b', bs, tp, o, e1, e2, _⟩ := h.sim.blk l bl (by rw [hun l hlt]; exact h1) h2
    have := h.le.loc _ _ h3
    rw [this] at e1
    obtain ⟨rfl, _⟩ : b = b' ∧ _ := by simpa using e1
    exact e2
  · have hsz := hs.sz b l hb
    have hget : w.heap[b]? = some w.heap[b] := Array.getElem?_eq_getElem hsz
    obtain ⟨_, h2⟩ := h.keep b _ hget fun l' hl' => by rw [hb] at hl'; cases hl'; exact hv
    rw [h2]; exact hb
theorem back_forget (h : Step P X g st w g1 st1 w1) : Back g g1 (G.forget g g1 st1 st.next ban) := ⟨h.le, fun _ _ hx => hx, fun b m hm => forget_fz b m hm⟩

theorem forget_fz_inv {b : Nat} {m : Nat → Option V} (h : (G.forget g g1 st1 st.next ban).fz b = some m) : g1.fz b = some m ∨
    (g1.fz b = none ∧ ∃ l n t base x, g1.own b = some l ∧ st.next ≤ l ∧ l ≠ ban ∧ st1.heap.get l = some (.cells n t) ∧ g1.loc l = some (x, base) ∧ m = iced st1 st.next ban n t base.1) := by
  unfold G.forget at h
  simp only at h
  cases h1 : g1.fz b with
  | some m' => simp [h1] at h; exact .inl (by rw [h])
  | none =>
    simp only [h1] at h
    cases h2 : g1.own b with
    | none => simp [h2] at h
    | some l =>
      simp only [h2] at h
      by_cases h3 : st.next ≤ l ∧ l ≠ ban
      · rw [if_pos h3] at h
        split at h
        · rename_i n t x base y e1 e2
          simp at h
          exact .inr ⟨rfl, l, n, t, _, _, rfl, h3.1, h3.2, e1, e2, h.symm⟩
        · cases h
      · rw [if_neg h3] at h; cases h

theorem forget_sim (hs : Sim P X g st w) (h : Step P X g st w g1 st1 w1) (hun : ∀ l, l < st.next → st1.heap.get l = st.heap.get l) : Sim P X (G.forget g g1 st1 st.next ban) st w1 := by
  have hbk := back_forget (ban := ban) h
  refine ⟨fun b l hb => Nat.lt_of_lt_of_le (hs.sz b l hb) h.size, hs.lt, hs.ht, hs.own, fun l bl hl ha => ?_, fun b m hm => ?_, fun k v hk => ?_⟩
  · obtain ⟨b, base, top, o, e1, e2, e3, e4⟩ := hs.blk l bl hl ha
    obtain ⟨b', base', top', o', k1, k2, k3, k4⟩ := h.sim.blk l bl (by rw [hun l (hs.ht l bl hl)]; exact hl) ha
    rw [h.le.loc _ _ e1] at k1
    obtain ⟨rfl, rfl, rfl⟩ : b = b' ∧ base = base' ∧ top = top' := by simpa using k1
    exact ⟨b, base, top, o', e1, e2, k3, BlkR.back hbk e4 k4⟩
  · have hown : ∀ b', (g1.own b' = none ∨ ∃ l, g1.own b' = some l ∧ st.next ≤ l) → g.own b' = none := by
      intro b' hb'
      cases ho : g.own b' with
      | none => rfl
      | some l0 =>
        have h1 := own_kept hs h hun ho
        have h2 := hs.own_lt ho
        rcases hb' with hb' | ⟨l, hb', hl⟩
        · rw [h1] at hb'; cases hb'
        · rw [h1] at hb'; cases hb'; omega
    rcases forget_fz_inv hm with h1 | ⟨h0, l, n, t, base, x, h1, h2, h3, h4, h5, rfl⟩
    · obtain ⟨e0, c, e, f, e1, e2⟩ := h.sim.fz b m h1
      refine ⟨hown b (.inl e0), c, e, f, e1, fun i v hi => ?_⟩
      obtain ⟨e3, u, e4, e5⟩ := e2 i v hi
      exact ⟨e3, u, e4, pure_back (fun b m hb => forget_fz b m hb) e3 e5⟩
    · obtain ⟨b', bs, tp, o, k1, k2, k3, k4⟩ := h.sim.blk l _ h4 rfl
      rw [h5] at k1
      obtain ⟨hb, hbs⟩ : x = b' ∧ base = (bs, tp) := by simpa using k1
      subst hb hbs
      have hbb : b = x := by
        obtain ⟨_, _, q⟩ := h.sim.own b l h1
        rw [h5] at q
        exact ((by simpa using q : x = b ∧ _).1).symm
      subst hbb
      obtain ⟨c, e, rfl, k5, k6, k7⟩ := k4
      refine ⟨hown b (.inr ⟨l, h1, h2⟩), c, e, _, k3, fun i v hi => ?_⟩
      unfold iced at hi
      by_cases hin : bs ≤ i ∧ i < bs + n
      · rw [if_pos hin] at hi
        obtain ⟨v0, u, q1, q2, q3, q4⟩ := k7 (i - bs) (by omega)
        simp only [q1] at hi
        obtain ⟨q5, q6⟩ := freeze_rep (g := g) h.sim 100 (Nat.le_refl _) hi q4
        exact ⟨q5, u, by rw [← q3]; congr 1; omega, q6⟩
      · rw [if_neg hin] at hi; cases hi
  · obtain ⟨e0, e1, c, e, f, u0, e2, e3, e4⟩ := hs.glob k v hk
    obtain ⟨_, _, c', e', f', u, k2, k3, k4⟩ := h.sim.glob k v hk
    exact ⟨e0, e1, c', e', f', u, k2, k3, Rep.back hbk _ _ _ e4 k4⟩
theorem forget_step (hs : Sim P X g st w) (h : Step P X g st w g1 st1 w1) (hun : ∀ l, l < st.next → st1.heap.get l = st.heap.get l) : Step P X g st w (G.forget g g1 st1 st.next ban) st w1 :=
  ⟨⟨fun _ _ hx => hx, fun b m hm => forget_fz b m (h.le.fz b m hm)⟩, forget_sim hs h hun, Nat.le_refl _, h.size, fun b o hb hn => ⟨(h.keep b o hb hn).1, rfl⟩, fun _ _ ho _ => .inl ho, fun _ _ hv => hv, h.os, h.out, h.tape, fun _ _ _ hx => hx, fun b m hb hm => by
    rcases forget_fz_inv hm with h1 | ⟨h0, l, n, t, base, x, h1, h2, h3, h4, h5, rfl⟩
    · exact h.fzo b m hb h1
    · exfalso
      cases ho : g.own b with
      | some l0 =>
        have e1 := own_kept hs h hun ho
        have e2 := hs.own_lt ho
        rw [h1] at e1; cases e1; omega
      | none =>
        have e1 := (h.keep b _ (Array.getElem?_eq_getElem hb) fun l' hl' => by rw [ho] at hl'; cases hl').2
        rw [h1, ho] at e1; cases e1⟩

/-- what is handed out -/
theorem outL_rep (_hs : Sim P X g st w) (h : Step P X g st w g1 st1 w1) {v v' : V} {u : Value} (hv : outL st1 st.next ban v = some v') (hr : Rep g1 v u) : leaf v' = true ∧ Rep (G.forget g g1 st1 st.next ban) v' u := by
  have old : ∀ l x, l < st.next → g1.loc l = some x → (G.forget g g1 st1 st.next ban).loc l = some x := fun l x hl hx => h.old l x hl hx
  unfold outL at hv
  split at hv
  · rename_i sz l off len
    cases hlt : Nat.blt l st.next with
    | true =>
      simp [hlt] at hv; subst hv
      simp only [Rep, RepL] at hr ⊢
      obtain ⟨b, base, top, cap, e1, e2⟩ := hr
      exact ⟨rfl, b, base, top, cap, old _ _ (bltT hlt) e1, e2⟩
    | false =>
      simp only [hlt, cond_false] at hv
      obtain ⟨h1, h2⟩ := freeze_rep (g := g) h.sim 100 (Nat.le_refl _) hv hr
      exact ⟨pureV_leaf h1, h2⟩
  · rename_i l off
    cases hlt : Nat.blt l st.next with
    | false => simp [hlt] at hv
    | true =>
      simp [hlt] at hv; subst hv
      simp only [Rep, RepL] at hr ⊢
      obtain ⟨b, base, top, e1, e2⟩ := hr
      exact ⟨rfl, b, base, top, old _ _ (bltT hlt) e1, e2⟩
  · rename_i l
    cases hlt : Nat.blt l st.next with
    | false => simp [hlt] at hv
    | true =>
      simp [hlt] at hv; subst hv
      simp only [Rep, RepL] at hr ⊢
      obtain ⟨b, top, e1, e2⟩ := hr
      exact ⟨rfl, b, top, old _ _ (bltT hlt) e1, e2⟩
  · rename_i t l off
    cases hlt : Nat.blt l st.next with
    | false => simp [hlt] at hv
    | true =>
      simp [hlt] at hv; subst hv
      simp only [Rep, RepL] at hr ⊢
      obtain ⟨u', rfl, b, base, top, e1, e2⟩ := hr
      exact ⟨rfl, u', rfl, b, base, top, old _ _ (bltT hlt) e1, e2⟩
  · cases hp : pureV v with
    | false => simp [hp] at hv
    | true =>
      simp [hp] at hv; subst hv
      exact ⟨pureV_leaf hp, pure_back (fun b m hm => forget_fz b m hm) hp hr⟩
end
end Go.Ai
/-! How a function's end is met. -/
namespace Go.Ai
open Go
set_option linter.unusedSimpArgs false

section
variable {P : Program} {X : Env} {g g1 g' : G} {st st1 st' : St} {w w1 : World} {ban : Nat}

theorem outLs_rep (hs : Sim P X g st w) (h : Step P X g st w g1 st1 w1) : ∀ {vs vs' : List V} {us : List Value}, mapO (outL st1 st.next ban) vs = some vs' → Reps g1 vs us → leafs vs' = true ∧ Reps (G.forget g g1 st1 st.next ban) vs' us
  | [], vs', us, hm, hr => by
    simp [mapO] at hm; subst hm
    exact ⟨rfl, by simpa [Reps] using hr⟩
  | v :: vs, vs', us, hm, hr => by
    simp only [mapO] at hm
    cases h1 : outL st1 st.next ban v with
    | none => simp [h1] at hm
    | some v' =>
      cases h2 : mapO (outL st1 st.next ban) vs with
      | none => simp [h1, h2] at hm
      | some r =>
        simp [h1, h2] at hm; subst hm
        simp only [Reps] at hr ⊢
        obtain ⟨u, us', rfl, h3, h4⟩ := hr
        obtain ⟨h5, h6⟩ := outL_rep hs h h1 h3
        obtain ⟨h7, h8⟩ := outLs_rep hs h h2 h4
        exact ⟨by simp [leafs, h5, h7], u, us', rfl, h6, h8⟩
theorem outC_rep (hs : Sim P X g st w) (h : Step P X g st w g1 st1 w1) {v v' : V} {u : Value} (hv : outC st1 st.next ban v = some v') (hr : Rep g1 v u) : Rep (G.forget g g1 st1 st.next ban) v' u := by
  unfold outC at hv
  split at hv
  · rename_i cs
    cases h1 : mapO (outL st1 st.next ban) cs with
    | none => simp [h1] at hv
    | some r =>
      simp [h1] at hv; subst hv
      simp only [Rep] at hr ⊢
      obtain ⟨us, rfl, _, h2⟩ := hr
      obtain ⟨h3, h4⟩ := outLs_rep hs h h1 h2
      exact ⟨us, rfl, h3, h4⟩
  · exact (outL_rep hs h hv hr).2
theorem outCs_rep (hs : Sim P X g st w) (h : Step P X g st w g1 st1 w1) : ∀ {vs vs' : List V} {us : List Value}, mapO (outC st1 st.next ban) vs = some vs' → Reps g1 vs us → Reps (G.forget g g1 st1 st.next ban) vs' us
  | [], vs', us, hm, hr => by
    simp [mapO] at hm; subst hm
    simpa [Reps] using hr
  | v :: vs, vs', us, hm, hr => by
    simp only [mapO] at hm
    cases h1 : outC st1 st.next ban v with
    | none => simp [h1] at hm
    | some v' =>
      cases h2 : mapO (outC st1 st.next ban) vs with
      | none => simp [h1, h2] at hm
      | some r =>
        simp [h1, h2] at hm; subst hm
        simp only [Reps] at hr ⊢
        obtain ⟨u, us', rfl, h3, h4⟩ := hr
        exact ⟨u, us', rfl, outC_rep hs h h1 h3, outCs_rep hs h h2 h4⟩
theorem outV_rep (hs : Sim P X g st w) (h : Step P X g st w g1 st1 w1) {v v' : V} {u : Value} (hv : outV st1 st.next ban v = some v') (hr : Rep g1 v u) : Rep (G.forget g g1 st1 st.next ban) v' u := by
  unfold outV at hv
  split at hv
  · rename_i vs
    cases h1 : mapO (outC st1 st.next ban) vs with
    | none => simp [h1] at hv
    | some r =>
      simp [h1] at hv; subst hv
      simp only [Rep] at hr ⊢
      obtain ⟨us, rfl, h2⟩ := hr
      exact ⟨us, rfl, outCs_rep hs h h1 h2⟩
  · exact outC_rep hs h hv hr

/-- a block that nobody has becomes an abstract one's -/
theorem Sim.adopt (h : Sim P X g st w) {b base top : Nat} {o : Obj} {bl : Blk} (hb : w.heap[b]? = some o) (hown : g.own b = none) (hfz : g.fz b = none) (hgl : ∀ k v, X.glob k = some v → k ≠ b)
    (hbl : BlkR P (g.newLoc st.next b base top) bl base top o) : Sim P X (g.newLoc st.next b base top) (st.new bl) w := by
  have hle : g.le (g.newLoc st.next b base top) := le_newLoc h.loc_top
  have hget : ∀ l bl', (st.new bl).heap.get l = some bl' → (l = st.next ∧ bl' = bl) ∨ st.heap.get l = some bl' := by
    intro l bl' hl
    simp only [St.new, T.get_set] at hl
    by_cases e : st.next = l
    · rw [if_pos e] at hl; exact .inl ⟨e.symm, (Option.some.inj hl).symm⟩
    · rw [if_neg e] at hl; exact .inr hl
  refine ⟨fun b' l ho => ?_, fun l x hl => ?_, fun l bl' hl => ?_, fun b' l ho => ?_, fun l bl' hl ha => ?_, fun b' m hm => ?_, fun k v hk => ?_⟩
  · by_cases e : b' = b
    · subst e; exact lt_of_get hb
    · simp only [G.newLoc, e, if_false] at ho; exact h.sz _ _ ho
  · show l < st.next + 1
    by_cases e : l = st.next
    · omega
    · simp only [G.newLoc, e, if_false] at hl; exact Nat.lt_succ_of_lt (h.lt _ _ hl)
  · show l < st.next + 1
    rcases hget l bl' hl with ⟨e, _⟩ | h1
    · omega
    · exact Nat.lt_succ_of_lt (h.ht _ _ h1)
  · by_cases e : b' = b
    · simp only [G.newLoc, e, if_true, Option.some.injEq] at ho
      subst ho
      exact ⟨base, top, by simp [G.newLoc, e]⟩
    · simp only [G.newLoc, e, if_false] at ho
      obtain ⟨bs, tp, h1⟩ := h.own b' l ho
      exact ⟨bs, tp, hle.loc _ _ h1⟩
  · rcases hget l bl' hl with ⟨e, e2⟩ | h1
    · subst e; subst e2
      exact ⟨b, base, top, o, by simp [G.newLoc], by simp [G.newLoc], hb, hbl⟩
    · obtain ⟨b', bs, tp, o', h2, h3, h4, h5⟩ := h.blk l bl' h1 ha
      have hne : b' ≠ b := fun e => by subst e; rw [hown] at h3; cases h3
      exact ⟨b', bs, tp, o', hle.loc _ _ h2, by simp [G.newLoc, hne, h3], h4, h5.mono hle⟩
  · obtain ⟨h0, c, e, f, h1, h2⟩ := h.fz b' m hm
    have hne : b' ≠ b := fun e => by subst e; have hm2 : g.fz b' = some m := hm; rw [hfz] at hm2; cases hm2
    exact ⟨by simp [G.newLoc, hne, h0], c, e, f, h1, fun i v hi => let ⟨h3, u, h4, h5⟩ := h2 i v hi; ⟨h3, u, h4, h5.mono hle⟩⟩
  · obtain ⟨h0, h5, c, e, f, u, h1, h2, h3⟩ := h.glob k v hk
    exact ⟨by simp [G.newLoc, hgl k v hk, h0], h5, c, e, f, u, h1, h2, h3.mono hle⟩

theorem finish_sound {m : Nat} (hs : Sim P X g st w) (h : Step P X g st w g1 st1 w1) (hu : Unw { heap := st.heap, next := st.next, lim := st.next, wr := [] } st1) {v v' : V} {log : List Tc} (hf : finish m st st1 v = some (v', st', log))
    {u : Value} (hr : Rep g1 v u) : ∃ g', Step P X g st w g' st' w1 ∧ Rep g' v' u := by
  have hun : st1.wr = [] → ∀ l, l < st.next → st1.heap.get l = st.heap.get l := fun hw l hl => by
    rcases hu.heap l hl with h1 | ⟨x, h1, _⟩
    · exact h1
    · rw [hw] at h1; cases h1
  unfold finish at hf
  split at hf
  · simp at hf
    obtain ⟨rfl, rfl, _⟩ := hf
    exact ⟨g1, h.same rfl rfl rfl rfl, hr⟩
  · split at hf
    · rename_i hw
      split at hf
      · rename_i hv
        simp at hf
        obtain ⟨rfl, rfl, _⟩ := hf
        exact ⟨_, forget_step hs h (hun hw), outV_rep hs h hv hr⟩
      · cases hf
    · cases hf
  · split at hf
    · rename_i hw
      split at hf
      · rename_i sz l off len
        cases hlt : Nat.blt l st.next with
        | true =>
          simp [hlt] at hf
          obtain ⟨rfl, rfl, _⟩ := hf
          refine ⟨_, forget_step (ban := 0) hs h (hun hw), ?_⟩
          simp only [Rep, RepL] at hr ⊢
          obtain ⟨b, base, top, cap, e1, e2⟩ := hr
          exact ⟨b, base, top, cap, h.old _ _ (bltT hlt) e1, e2⟩
        | false =>
          simp only [hlt, cond_false] at hf
          have hle : st.next ≤ l := by
            rcases Nat.lt_or_ge l st.next with h' | h'
            · have : Nat.blt l st.next = true := Nat.ble_eq_true_of_le h'
              rw [this] at hlt; cases hlt
            · exact h'
          cases hcut : st1.cut l off (len * sz) with
          | none => simp [hcut] at hf
          | some cs =>
            simp only [hcut] at hf
            cases hout : mapO (outL st1 st.next l) cs with
            | none => simp [hout] at hf
            | some cs' =>
              simp [hout] at hf
              obtain ⟨rfl, rfl, _⟩ := hf
              simp only [Rep, RepL] at hr
              obtain ⟨b, base, top, cap, e1, e2, e3, e4⟩ := hr
              obtain ⟨e5, c, e, e6, e7⟩ := cut_cells h.sim hcut e1
              have hbk : ∃ nn tt, st1.blk l = some (nn, tt) := by
                unfold St.cut at hcut
                cases hb : st1.blk l with
                | none => simp [hb] at hcut
                | some nt => exact ⟨nt.1, nt.2, rfl⟩
              obtain ⟨nn, tt, hbk⟩ := hbk
              obtain ⟨b', base', top', o', k1, k2, k3, k4⟩ := h.sim.blk l _ (blk_get hbk) rfl
              rw [e1] at k1
              obtain ⟨rfl, rfl, rfl⟩ : b = b' ∧ base = base' ∧ top = top' := by simpa using k1
              obtain ⟨c', ty, rfl, k5, _, _⟩ := k4
              rw [k3] at e6
              obtain ⟨rfl, rfl⟩ : c' = c ∧ ty = e := by simpa using e6
              obtain ⟨us, q1, q2, q3⟩ := Reps_of_cells (g := g1) (cs := cs) (f := fun j => c'[base + (off + j)]?) fun j v hj => let ⟨u, z1, _, z2⟩ := e7 j v hj; ⟨u, z1, z2⟩
              obtain ⟨q4, q5⟩ := outLs_rep hs h hout q2
              have hst := forget_step (ban := l) hs h (hun hw)
              have hgown : g.own b = none := by
                cases ho : g.own b with
                | none => rfl
                | some l0 =>
                  have h1 := own_kept hs h (hun hw) ho
                  have h2 := hs.own_lt ho
                  rw [k2] at h1; cases h1; omega
              have hfz : (G.forget g g1 st1 st.next l).fz b = none := by
                have h0 : g1.fz b = none := by
                  cases hq : g1.fz b with
                  | none => rfl
                  | some m => have := (h.sim.fz b m hq).1; rw [k2] at this; cases this
                simp [G.forget, h0, k2]
              have hgl : ∀ k v, X.glob k = some v → k ≠ b := fun k v hk e => by
                subst e
                have := (h.sim.glob k v hk).1
                rw [k2] at this; cases this
              have hnew : w.heap.size ≤ b := by
                rcases Nat.lt_or_ge b w.heap.size with h' | h'
                · have h1 := (h.keep b _ (Array.getElem?_eq_getElem h') fun l' hl' => by rw [hgown] at hl'; cases hl').2
                  rw [k2, hgown] at h1; cases h1
                · exact h'
              have hgle : (G.forget g g1 st1 st.next l).le ((G.forget g g1 st1 st.next l).newLoc st.next b (base + off) top) := le_newLoc hst.sim.loc_top
              have hl2 := Reps_length q5
              have hsim := Sim.adopt hst.sim (bl := .cells (len * sz) (T.ofList cs')) (base := base + off) (top := top) k3 hgown hfz hgl (by
                refine ⟨c', ty, rfl, k5, ?_, fun i hi => ?_⟩
                · have := Nat.mul_le_mul_right sz e3
                  omega
                · have hi' : i < cs'.length := by omega
                  have z1 : cs'[i]? = some cs'[i] := List.getElem?_eq_getElem hi'
                  obtain ⟨y, z2, z3⟩ := Reps_get q5 i _ z1
                  refine ⟨_, y, by rw [T.get_ofList]; exact z1, leafs_get q4 i _ z1, ?_, z3.mono hgle⟩
                  have := q3 i y z2
                  rw [← this]; congr 1; omega)
              refine ⟨_, ⟨hst.le.trans hgle, hsim, Nat.le_succ _, h.size, fun b' o hb hn => ?_, fun b' l' ho hlt' => .inl ?_, fun l' hl' hv => ?_, h.os, h.out, h.tape, fun l' x hl' hx => ?_, fun b2 m2 hb2 hm2 => hst.fzo b2 m2 hb2 hm2⟩, ?_⟩
              · have hne : b' ≠ b := fun e => by have := lt_of_get hb; omega
                exact ⟨(h.keep b' o hb hn).1, by simp [G.newLoc, hne, G.forget]⟩
              · have hne : b' ≠ b := fun e => by omega
                simpa [G.newLoc, hne, G.forget] using ho
              · obtain ⟨bl, z1, z2⟩ := hv
                rw [show (st.new (.cells (len * sz) (T.ofList cs'))).heap = st.heap.set st.next (.cells (len * sz) (T.ofList cs')) from rfl, T.get_set, if_neg (by omega)] at z1
                exact ⟨bl, z1, z2⟩
              · simpa [G.newLoc, Nat.ne_of_lt hl', G.forget] using hx
              · simp only [Rep, RepL]
                refine ⟨b, base + off, top, cap, by simp [G.newLoc], by rw [e2]; rfl, e3, by omega⟩
      · split at hf
        · rename_i hv
          simp at hf
          obtain ⟨rfl, rfl, _⟩ := hf
          exact ⟨_, forget_step hs h (hun hw), outV_rep hs h hv hr⟩
        · cases hf
    · cases hf
end
end Go.Ai
/-! Calls of functions. -/
namespace Go.Ai
open Go
set_option linter.unusedSimpArgs false

/-- an entry that stands for a function's calls -/
def Entry (P : Program) (X : Env) (m : Nat → List V → Option V) : Prop :=
  ∀ f vs v, m f vs = some v → ∀ F, Wide F → F.round = none → ∀ g st w (us : Array Value), Sim P X g st w → Reps g vs us.toList → CallAt P X F f us g st w v st
/-- of an entry: a function is entered; nothing else happens -/
def EntryE (P : Program) (X : Env) (m : CallF) : Prop :=
  ∀ f vs st v st' lg, m f vs st = some (v, st', lg) → st' = st ∧ ∀ F, Wide F → F.round = none → ∀ g w (us : Array Value), Sim P X g st w → Reps g vs us.toList →
    (callFunc f us).run P w = .ok (.enter f us) w ∧ CallsIn F 0 P f us w (CallPost P X g st w v st)
theorem EntryE.unw {P : Program} {X : Env} {m : CallF} (h : EntryE P X m) : CallU m := fun f vs st v st' lg hm _ => (h f vs st v st' lg hm).1 ▸ .refl _
structure Valid (P : Program) (X : Env) : Prop where
  mixed : P.follows .mixedOrders = true
  ok : OkX P X
  fn : ∀ f b, X.fn f = some b → ∃ fn pm, P.funcs[f]? = some fn ∧ (fn.name == "runtime.NumGoroutine") = false ∧ cFn P pm fn b.mode = some b
  ext : Entry P X X.ext
  memo : EntryE P X X.memo

section
variable {P : Program} {X : Env} {F : Fence} {g g1 g' : G} {st st1 st' : St} {w w1 : World}

theorem rcall_ent (hW : Wide F) (hro : F.round = none) (hV : Valid P X) {ex : IR → T V → St → ER} (hex : ExecOk P X F ex) (hexu : ExecU ex) : CallEnt P X F X.ext (rcall X ex) := by
  intro f vs st v st' log hext h g w us hs hr
  unfold rcall at h
  split at h
  · rename_i hm
    simp at h
    subst h
    obtain ⟨h1, h2⟩ := hV.memo f vs _ _ _ _ hm
    subst h1
    exact h2 F hW hro g w us hs hr
  · split at h
    · rename_i hm
      rw [hext] at hm; cases hm
    · split at h
      · rename_i nt body res mode hb
        obtain ⟨fn, pm, h1, h2, h3⟩ := hV.fn f _ hb
        cases hlt : Nat.blt nt vs.length with
        | true => simp [hlt] at h
        | false =>
          simp only [hlt, cond_false] at h
          have hle : vs.length ≤ nt := by
            rcases Nat.lt_or_ge nt vs.length with h' | h'
            · have : Nat.blt nt vs.length = true := Nat.ble_eq_true_of_le h'
              rw [this] at hlt; cases hlt
            · exact h'
          have hbody : ∃ c, fn.body = some c := by
            unfold cFn at h3
            cases hq : fn.body with
            | none => simp [hq] at h3
            | some c => exact ⟨c, rfl⟩
          obtain ⟨c, hbody⟩ := hbody
          have main : ∀ (r : Ex) (fr : T V) (st1 : St), (r = .nrm ∨ r = .ret) → ex body (T.ofList vs) { heap := st.heap, next := st.next, lim := st.next, wr := [] } = some (r, fr, st1) →
              (match results X fr st1 res with | some v => finish mode st st1 v | none => none) = some (v, st', log) → (callFunc f us).run P w = .ok (.enter f us) w ∧ CallsIn F 0 P f us w (CallPost P X g st w v st') := by
            intro r fr st1 hret hrun hfin
            cases hres : results X fr st1 res with
            | none => simp [hres] at hfin
            | some v1 =>
              simp only [hres] at hfin
              have hs0 : Sim P X g { heap := st.heap, next := st.next, lim := st.next, wr := [] } w := hs.same rfl rfl
              have hc := func_run hW hro hex h1 h3 hs0 hr hle hret hrun hres
              have hname : ¬ fn.name = "runtime.NumGoroutine" := by simpa using h2
              refine ⟨by simp [callFunc, h1, hname, hbody], CallsIn.mono hc fun e w' he => ?_⟩
              obtain ⟨u, g1, rfl, h4, h5⟩ := he
              obtain ⟨g', h6, h7⟩ := finish_sound hs (h4.same (sa := st) (sb := st1) rfl rfl rfl rfl) (hexu _ _ _ _ _ _ hrun (Nat.le_refl _)) hfin h5
              exact ⟨u, g', rfl, h6, h7⟩
          split at h
          · rename_i hrun; exact main _ _ _ (.inl rfl) hrun h
          · rename_i hrun; exact main _ _ _ (.inr rfl) hrun h
          · cases h
      · cases h
theorem rcall_ok (hW : Wide F) (hro : F.round = none) (hV : Valid P X) {ex : IR → T V → St → ER} (hex : ExecOk P X F ex) (hexu : ExecU ex) : CallOk P X F (rcall X ex) := by
  intro f vs st v st' log h g w us hs hr
  cases hext : X.ext f vs with
  | none => exact .inr (rcall_ent hW hro hV hex hexu f vs st v st' log hext h g w us hs hr)
  | some v1 =>
    unfold rcall at h
    split at h
    · rename_i hm
      simp at h
      subst h
      obtain ⟨h1, h2⟩ := hV.memo f vs _ _ _ _ hm
      subst h1
      exact .inr (h2 F hW hro g w us hs hr)
    · simp [hext] at h
      obtain ⟨rfl, rfl, _⟩ := h
      exact hV.ext f vs _ hext F hW hro g _ w us hs hr
theorem CallOk.anyRound {call : CallF} (h : CallOk P X F.plain call) : CallOk P X F call := h
end
end Go.Ai
