/- A part of the law's closed computation, run in the kernel. -/
import Derived.Test.YtcllhahbhmehkaaGreatDoorA3
import Derived.Test.YtcllhahbhmehkaaGreatDoorU0
import Derived.Test.YtcllhahbhmehkaaGreatDoorChecked
namespace Go.Proofs.YtcllhahbhmehkaaGreatDoor.U
open Go Go.Ai Go.Ai.Fl Go.Proofs
set_option maxRecDepth 1000000
set_option linter.unusedVariables false
def pmL : List (Nat × List Nat × Nat) := [(5, [7, 13, 14, 17], 1), (7, [4, 5, 7], 1), (8, [5, 6, 14], 0), (9, [], 1), (13, [5, 6, 8, 12, 14, 15], 1), (16, [], 1), (19, [2], 1), (20, [5, 6, 9], 1), (21, [6, 7, 14], 1), (24, [3, 6], 1), (33, [2, 3, 5, 6], 1), (34, [2, 4, 6, 12, 16], 1), (35, [7, 12, 17], 0), (36, [9, 12], 0), (37, [11], 0), (38, [4], 0), (39, [4], 0), (40, [4], 0), (41, [], 1), (43, [], 1), (45, [], 0), (46, [2, 3], 1), (47, [], 1), (48, [5, 8], 1), (49, [6, 7], 1), (51, [], 2), (52, [], 1), (53, [], 1), (54, [6], 0), (55, [2, 3, 6], 0), (56, [2, 7], 0), (57, [], 1), (63, [], 1), (66, [4], 0), (67, [0], 1), (68, [4], 0), (69, [2, 3], 0), (70, [2], 1), (71, [], 1), (72, [6], 1), (73, [4], 1), (74, [2, 4], 1), (75, [4], 1), (76, [], 1), (77, [6], 1), (78, [6, 7], 1), (79, [3, 4], 0), (80, [5], 0), (81, [], 1), (82, [7], 1), (83, [3, 5], 0), (84, [1, 2, 3, 5, 6, 8], 1), (85, [], 1), (86, [5], 0), (87, [3], 1), (88, [3, 5], 0), (89, [1, 2, 5], 1), (90, [5, 12], 1), (91, [5], 0), (92, [7], 1), (93, [3], 0), (94, [1, 2], 1), (95, [], 1), (96, [], 1), (97, [4, 5], 1), (98, [], 1), (99, [], 1), (100, [3], 1), (101, [3], 1), (103, [], 1), (104, [2, 3], 1), (106, [], 1), (107, [], 1), (108, [3, 5], 0), (109, [2, 3, 4, 5, 7, 9], 0), (113, [], 1), (116, [3, 6], 1), (117, [], 1), (118, [], 1), (119, [2, 3, 4], 0), (120, [2, 3], 0), (121, [2, 3], 0), (122, [11], 0), (123, [], 1), (124, [], 0), (125, [], 0), (126, [], 1), (127, [6], 1), (128, [4, 5], 1), (129, [2, 4], 1), (130, [1, 2, 3, 5], 1), (131, [], 0), (132, [3], 1), (133, [5], 1), (134, [], 1), (135, [], 1), (136, [4], 1), (137, [5], 1), (138, [], 1), (139, [2], 1), (140, [], 1), (141, [2], 1), (142, [], 1), (143, [], 1), (144, [3, 6, 8], 1), (145, [3, 7], 1), (146, [5], 1), (147, [1], 0), (148, [3], 1), (149, [], 1), (150, [], 1), (151, [], 1), (152, [], 1), (153, [], 1), (154, [8, 9], 1), (155, [], 2), (159, [2], 1), (160, [], 1), (161, [], 1), (162, [], 0), (163, [], 0), (164, [], 1), (165, [], 1), (166, [2, 3], 0), (167, [], 0), (168, [], 0), (169, [], 0), (170, [], 0), (171, [2, 3], 0), (172, [2, 5, 7, 8, 10, 11, 12, 13], 0), (173, [4, 6], 0), (174, [], 0), (175, [2, 6], 0), (176, [], 1), (177, [1, 2, 3, 5, 7], 1), (178, [], 1), (179, [2], 1), (180, [], 1), (181, [7], 1), (182, [5], 1), (183, [], 1), (184, [], 1), (185, [], 1), (186, [], 1), (187, [], 1), (188, [], 1), (189, [], 1), (190, [], 1), (191, [], 1), (192, [], 0), (193, [2, 3], 0), (194, [], 0), (195, [], 1), (196, [4, 5], 0), (197, [3], 2), (198, [], 0), (199, [4], 0), (200, [2, 3], 0), (201, [], 1), (202, [4, 6, 8, 9], 0), (203, [], 1), (205, [], 1), (206, [2, 3], 0), (207, [], 1), (208, [2, 3], 0), (209, [2, 3, 4], 0), (210, [3, 4, 6], 1), (211, [2, 3, 4], 0), (212, [], 1)]
noncomputable def p0 : Nat → Option IFn := fnOf Tryz.prog pmL
noncomputable def fnI : Nat → Option IFn := fnG p0
theorem v81 : fnOf Tryz.prog pmL 81 = some ir81 := (fnOf_at (pm := []) (m := 1) Tryz.func81 (by kernel_rfl) (by kernel_rfl) (by kernel_rfl) (rs := ir81.res) (by kernel_rfl)).trans (by kernel_rfl)
theorem v85 : fnOf Tryz.prog pmL 85 = some ir85 := (fnOf_at (pm := []) (m := 1) Tryz.func85 (by kernel_rfl) (by kernel_rfl) (by kernel_rfl) (rs := ir85.res) (by kernel_rfl)).trans (by kernel_rfl)
theorem v103 : fnOf Tryz.prog pmL 103 = some ir103 := (fnOf_at (pm := []) (m := 1) Tryz.func103 (by kernel_rfl) (by kernel_rfl) (by kernel_rfl) (rs := ir103.res) (by kernel_rfl)).trans (by kernel_rfl)
theorem v130 : fnOf Tryz.prog pmL 130 = some ir130 := (fnOf_at (pm := [1, 2, 3, 5]) (m := 1) Tryz.func130 (by kernel_rfl) (by kernel_rfl) (by kernel_rfl) (rs := ir130.res) (by kernel_rfl)).trans (by kernel_rfl)
theorem v131 : fnOf Tryz.prog pmL 131 = some ir131 := (fnOf_at (pm := []) (m := 0) Tryz.func131 (by kernel_rfl) (by kernel_rfl) (by kernel_rfl) (rs := ir131.res) (by kernel_rfl)).trans (by kernel_rfl)
theorem v132 : fnOf Tryz.prog pmL 132 = some ir132 := (fnOf_at (pm := [3]) (m := 1) Tryz.func132 (by kernel_rfl) (by kernel_rfl) (by kernel_rfl) (rs := ir132.res) (by kernel_rfl)).trans (by kernel_rfl)
theorem v138 : fnOf Tryz.prog pmL 138 = some ir138 := (fnOf_at (pm := []) (m := 1) Tryz.func138 (by kernel_rfl) (by kernel_rfl) (by kernel_rfl) (rs := ir138.res) (by kernel_rfl)).trans (by kernel_rfl)
theorem v150 : fnOf Tryz.prog pmL 150 = some ir150 := (fnOf_at (pm := []) (m := 1) Tryz.func150 (by kernel_rfl) (by kernel_rfl) (by kernel_rfl) (rs := ir150.res) (by kernel_rfl)).trans (by kernel_rfl)
theorem v174 : fnOf Tryz.prog pmL 174 = some ir174 := (fnOf_at (pm := []) (m := 0) Tryz.func174 (by kernel_rfl) (by kernel_rfl) (by kernel_rfl) (rs := ir174.res) (by kernel_rfl)).trans (by kernel_rfl)
theorem v175 : fnOf Tryz.prog pmL 175 = some ir175 := (fnOf_at (pm := [2, 6]) (m := 0) Tryz.func175 (by kernel_rfl) (by kernel_rfl) (by kernel_rfl) (rs := ir175.res) (by kernel_rfl)).trans (by kernel_rfl)
theorem irAll : AllT (fun g b => fnOf Tryz.prog pmL g = some b) irT 1 0 := ⟨trivial, ⟨trivial, ⟨trivial, ⟨trivial, ⟨trivial, trivial, ⟨trivial, trivial, ⟨trivial, ⟨v175, trivial, trivial⟩, trivial⟩⟩⟩, ⟨trivial, ⟨trivial, trivial, ⟨v103, trivial, trivial⟩⟩, trivial⟩⟩, ⟨trivial, ⟨trivial, ⟨trivial, ⟨trivial, ⟨v131, trivial, trivial⟩, trivial⟩, trivial⟩, trivial⟩, trivial⟩⟩, ⟨trivial, ⟨trivial, ⟨trivial, trivial, ⟨trivial, ⟨v81, trivial, trivial⟩, trivial⟩⟩, trivial⟩, ⟨trivial, ⟨trivial, trivial, ⟨trivial, ⟨v85, trivial, trivial⟩, trivial⟩⟩, trivial⟩⟩⟩, ⟨trivial, ⟨trivial, trivial, ⟨trivial, ⟨trivial, ⟨trivial, ⟨trivial, ⟨v132, trivial, trivial⟩, trivial⟩, trivial⟩, trivial⟩, trivial⟩⟩, ⟨trivial, ⟨trivial, ⟨trivial, ⟨trivial, ⟨trivial, ⟨v130, trivial, trivial⟩, trivial⟩, trivial⟩, trivial⟩, ⟨trivial, ⟨trivial, ⟨trivial, ⟨v138, trivial, trivial⟩, trivial⟩, trivial⟩, trivial⟩⟩, ⟨trivial, ⟨trivial, trivial, ⟨trivial, ⟨trivial, ⟨v150, trivial, trivial⟩, trivial⟩, trivial⟩⟩, ⟨trivial, ⟨trivial, trivial, ⟨trivial, ⟨v174, trivial, trivial⟩, trivial⟩⟩, trivial⟩⟩⟩⟩⟩
theorem fnI_eq : fnI = fnOf Tryz.prog pmL := by
  funext g
  cases h : getF irT g with
  | none => simp only [fnI, fnG, p0, h]
  | some b =>
    have h2 := h
    rw [getF_eq] at h2
    have h3 := allT_get irAll h2
    simp only [Nat.one_mul, Nat.add_zero] at h3
    simp only [fnI, fnG, p0, h, h3]
theorem base : Base Tryz.prog fnI extI := ⟨by kernel_rfl, fun f b h => fnOf_ok (by rw [← fnI_eq]; exact h), fun X => cmp_entry Tryz.func204 (by kernel_rfl) (by kernel_rfl) (by kernel_rfl) (by kernel_rfl)⟩

end Go.Proofs.YtcllhahbhmehkaaGreatDoor.U
