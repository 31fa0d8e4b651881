/- A part of the law's closed computation, run in the kernel. -/
import Derived.Test.YtcllhahbhmehkaaGreatDoorV3
import Derived.Test.YtcllhahbhmehkaaGreatDoorU5a
import Derived.Test.YtcllhahbhmehkaaGreatDoorU5b
import Derived.Test.YtcllhahbhmehkaaGreatDoorU9
namespace Go.Proofs.YtcllhahbhmehkaaGreatDoor.U
open Go Go.Ai Go.Ai.Fl Go.Proofs
set_option maxRecDepth 1000000
set_option linter.unusedVariables false
theorem isW_eq {r : Rho} {e : Nat × Nat × Nat × Nat} (h : isW r e = true) : ∃ st, r = some (wV e, st) := by
  unfold isW at h
  split at h
  · rename_i k z s c n st
    simp only [Bool.and_eq_true] at h
    obtain ⟨h1, h2, h3, h4, h5⟩ := h
    rw [beqT h1, beqT h2, beqT h3, beqT h4, beqT h5]
    exact ⟨st, rfl⟩
  · cases h
theorem ok0 : TabOk (E0 p0) tab0 := tabOk tabP fun g n h => ⟨h, fun _ _ => rfl, ext0 g n h⟩
theorem wAll (g0 : Nat → Option IFn) : AllT (fun i x => wchk g0 i x = true) wtab 1 0 := ⟨trivial, ⟨t1 g0, ⟨t3 g0, (chkT_all (c0 g0)), (chkT_all (c1 g0))⟩, ⟨trivial, (chkT_all (c2 g0)), (chkT_all (c3 g0))⟩⟩, ⟨trivial, ⟨trivial, (chkT_all (c4 g0)), (chkT_all (c5 g0))⟩, ⟨trivial, (chkT_all (c6 g0)), (chkT_all (c7 g0))⟩⟩⟩
theorem wordM_ok (m : CallF) (args : List V) (v : V) (h : wordM args = some v) : Ent Tryz.prog (envM fnI extI m) 159 args v := by
  unfold wordM at h
  split at h
  · rename_i n
    unfold wordK at h
    cases hb : Nat.beq n (sfx (slenF n)) with
    | false => simp [hb] at h
    | true =>
      have e1 := beqT hb
      simp only [hb, cond_true] at h
      cases hg : getF wtab (slenF n) with
      | none => rw [hg] at h; cases h
      | some e =>
        rw [hg] at h
        have h : some (wV e) = some v := h
        simp at h
        subst h
        rw [getF_eq] at hg
        have h2 := allT_get (wAll p0) hg
        simp only [Nat.one_mul, Nat.add_zero] at h2
        obtain ⟨st, h3⟩ := isW_eq h2
        rw [← e1] at h3
        exact base.ent noM_ok ok0 rfl rfl rfl h3
  · cases h
theorem m1_ok (m : CallF) : EntryE Tryz.prog (envM fnI extI m) M1 := oneM_ok (wordM_ok m) (EntryE.env noM_ok)
theorem ok1 : TabOk (E1 p0) tab1 := tabOk tabP fun g n h => by
  unfold tab1 at h
  cases hb : Nat.beq g 159 with
  | true => simp [hb] at h
  | false =>
    simp only [hb, cond_false] at h
    exact ⟨h, fun _ _ => by simp [M1, oneM, hb, noM], ext0 g n h⟩
theorem split_ent (m : CallF) : Ent Tryz.prog (envM fnI extI m) 116 [.bytes moreN] splitV := base.ent (m1_ok _) ok1 rfl rfl rfl (split_run p0)
theorem splitM_ok (m : CallF) (args : List V) (v : V) (h : splitM args = some v) : Ent Tryz.prog (envM fnI extI m) 116 args v := by
  unfold splitM at h
  split at h
  · rename_i n
    cases hb : Nat.beq n moreN with
    | false => simp [hb] at h
    | true =>
      simp only [hb, cond_true] at h
      simp at h
      rw [beqT hb, ← h]
      exact split_ent m
  · cases h
theorem m2_ok (m : CallF) : EntryE Tryz.prog (envM fnI extI m) M2 := oneM_ok (splitM_ok m) (EntryE.env noM_ok)
theorem ok2 : TabOk (E2 p0) tab2 := tabOk tabP fun g n h => by
  unfold tab2 at h
  cases hb : Nat.beq g 116 with
  | true => simp [hb] at h
  | false =>
    simp only [hb, cond_false] at h
    exact ⟨h, fun _ _ => by simp [M2, oneM, hb, noM], ext0 g n h⟩
theorem prog_ent (m : CallF) : Ent Tryz.prog (envM fnI extI m) 33 [.bytes moreN] progV := base.ent (m2_ok _) ok2 rfl rfl rfl (prog_run p0)
theorem progM_ok (m : CallF) (args : List V) (v : V) (h : progM args = some v) : Ent Tryz.prog (envM fnI extI m) 33 args v := by
  unfold progM at h
  split at h
  · rename_i n
    cases hb : Nat.beq n moreN with
    | false => simp [hb] at h
    | true =>
      simp only [hb, cond_true] at h
      simp at h
      rw [beqT hb, ← h]
      exact prog_ent m
  · cases h
theorem m3_ok (m : CallF) : EntryE Tryz.prog (envM fnI extI m) M3 := oneM_ok (progM_ok m) (EntryE.env noM_ok)
theorem ok3 : TabOk (E3 p0) tab3 := tabOk tabP fun g n h => by
  unfold tab3 at h
  cases hb : Nat.beq g 33 with
  | true => simp [hb] at h
  | false =>
    simp only [hb, cond_false] at h
    exact ⟨h, fun _ _ => by simp [M3, oneM, hb, noM], ext0 g n h⟩
theorem first_ent (m : CallF) : Ent Tryz.prog (envM fnI extI m) 7 [] (.bool true) := base.ent (m3_ok _) ok3 rfl rfl rfl (first_run p0)
theorem firstM_ok (m : CallF) (args : List V) (v : V) (h : firstM args = some v) : Ent Tryz.prog (envM fnI extI m) 7 args v := by
  unfold firstM at h
  split at h
  · simp at h
    subst h
    exact first_ent m
  · cases h
theorem m4_ok (m : CallF) : EntryE Tryz.prog (envM fnI extI m) M4 := oneM_ok (firstM_ok m) (oneM_ok (progM_ok m) (EntryE.env noM_ok))
theorem ok4 : TabOk (E4 p0) tab4 := tabOk tabP fun g n h => by
  unfold tab4 at h
  cases hb : Nat.beq g 7 with
  | true => simp [hb] at h
  | false =>
    cases hc : Nat.beq g 33 with
    | true => simp [hb, hc] at h
    | false =>
      simp only [hb, hc, cond_false] at h
      exact ⟨h, fun _ _ => by simp [M4, oneM, hb, hc, noM], ext0 g n h⟩

end Go.Proofs.YtcllhahbhmehkaaGreatDoor.U
