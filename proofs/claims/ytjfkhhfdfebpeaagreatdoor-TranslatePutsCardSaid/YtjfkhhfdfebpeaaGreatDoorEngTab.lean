/- The engine: the table of the resolved functions, and what each one reaches. Printed by wip/tools/gen_tab.py. -/
import Derived.Test.YtjfkhhfdfebpeaaGreatDoorEngIR
import Derived.KernelRfl
set_option linter.all false
set_option linter.unusedVariables false
set_option linter.unusedSimpArgs false
set_option maxRecDepth 100000
namespace Eng
open Go
def tabL : List (Nat × RFunc) := [(2, r2), (3, r3), (5, r5), (6, r6), (7, r7), (9, r9), (11, r11), (12, r12), (13, r13), (14, r14), (16, r16), (17, r17), (18, r18), (19, r19), (20, r20), (21, r21), (22, r22), (23, r23), (24, r24), (25, r25), (28, r28), (29, r29), (30, r30), (31, r31), (32, r32), (35, r35), (36, r36), (37, r37), (38, r38), (39, r39), (40, r40), (41, r41), (42, r42), (43, r43), (44, r44), (45, r45), (46, r46), (47, r47), (48, r48), (49, r49), (50, r50), (51, r51), (52, r52), (53, r53), (54, r54), (55, r55), (56, r56), (57, r57), (58, r58), (59, r59), (60, r60), (62, r62), (63, r63), (68, r68), (69, r69), (70, r70), (71, r71), (72, r72), (73, r73), (74, r74), (75, r75), (76, r76), (77, r77), (78, r78), (79, r79), (80, r80), (81, r81), (82, r82), (84, r84), (85, r85), (86, r86), (87, r87), (88, r88), (89, r89), (90, r90), (91, r91), (92, r92), (93, r93), (94, r94), (95, r95), (96, r96), (97, r97), (98, r98), (99, r99), (100, r100), (101, r101), (102, r102), (103, r103), (104, r104), (105, r105), (106, r106), (107, r107), (108, r108), (109, r109), (110, r110), (111, r111), (112, r112), (113, r113), (114, r114), (115, r115), (116, r116), (117, r117), (118, r118), (119, r119), (120, r120), (121, r121), (122, r122), (123, r123), (124, r124), (125, r125), (126, r126), (127, r127), (128, r128), (129, r129), (130, r130)]
def tab (i : Nat) : Option RFunc := lkL i tabL
structure Has (R : RProg) (G : Nat → AV) (l : List Nat) : Prop where
  r : ∀ i, memN l i = true → R i = tab i
  g : G = GV
def subN : List Nat → List Nat → Bool
  | [], _ => true
  | i :: l, m => memN m i && subN l m
theorem subN_mem : ∀ {l m : List Nat} {i : Nat}, subN l m = true → memN l i = true → memN m i = true
  | [], _, _, _, h => by simp [memN] at h
  | k :: l, m, i, hs, h => by
    simp only [subN, Bool.and_eq_true] at hs
    simp only [memN] at h
    cases hb : Nat.beq k i with
    | true => rw [← Nat.eq_of_beq_eq_true hb]; exact hs.1
    | false => rw [hb] at h; exact subN_mem hs.2 h
theorem Has.sub {R : RProg} {G : Nat → AV} {l m : List Nat} (h : Has R G l) (hs : subN m l = true) : Has R G m := ⟨fun i hi => h.r i (subN_mem hs hi), h.g⟩
theorem Has.at {R : RProg} {G : Nat → AV} {l : List Nat} (h : Has R G l) (i : Nat) {r : RFunc} (hm : memN l i = true) (ht : tab i = some r) : R i = some r := (h.r i hm).trans ht
theorem lkL_filter {α : Type} {q : Nat → Bool} {i : Nat} (hq : q i = true) : ∀ l : List (Nat × α), lkL i (l.filter fun p => q p.1) = lkL i l
  | [] => rfl
  | (k, x) :: l => by
    have ih := lkL_filter hq l
    cases hb : Nat.beq k i with
    | true =>
      have e := Nat.eq_of_beq_eq_true hb
      subst e
      simp only [List.filter_cons, hq, if_true, lkL, hb, cond_true]
    | false =>
      cases hk : q k with
      | true => simp only [List.filter_cons, hk, if_true, lkL, hb, cond_false, ih]
      | false => simp only [List.filter_cons, hk, lkL, hb, cond_false, ih, Bool.false_eq_true, if_false]
theorem has_of {R : RProg} {l : List (Nat × RFunc)} {ids : List Nat} (hR : R = fun f => lkL f l) (hl : l = tabL.filter fun p => memN ids p.1) : Has R GV ids := ⟨fun i hi => by
  rw [hR, hl]
  exact lkL_filter (q := memN ids) hi tabL, rfl⟩
theorem tab2 : tab 2 = some r2 := by kernel_rfl
def c2 : List Nat := [2, 9, 11, 12, 13, 14, 22, 23, 24, 25, 28, 29, 30, 31, 32, 40, 44, 48, 49, 50, 51, 52, 53, 54, 55, 56, 57, 58, 59, 68, 69, 73, 74, 75, 76, 77, 78, 79, 84, 85, 86, 87, 88, 95, 96, 97, 98, 99, 100, 105, 106, 107, 108, 109, 110, 111, 112]
theorem tab3 : tab 3 = some r3 := by kernel_rfl
def c3 : List Nat := [3]
theorem tab5 : tab 5 = some r5 := by kernel_rfl
def c5 : List Nat := [5]
theorem tab6 : tab 6 = some r6 := by kernel_rfl
def c6 : List Nat := [6, 16, 17, 20, 35, 36, 37, 38, 39, 40]
theorem tab7 : tab 7 = some r7 := by kernel_rfl
def c7 : List Nat := [7, 12, 13, 14, 16, 17, 18, 19, 20, 21, 28, 29, 31, 32, 35, 36, 37, 38, 39, 40, 41, 42, 43, 44, 45, 46, 47, 69, 70, 71, 72]
theorem tab9 : tab 9 = some r9 := by kernel_rfl
def c9 : List Nat := [9, 22, 23, 24, 25, 48, 49, 50, 51, 52, 53, 54, 55, 56, 57, 58, 59, 73, 74, 75, 76, 77, 78, 79, 84, 85, 86, 87, 88, 95, 96, 97, 98, 99, 100, 105, 106, 107, 108, 109, 110, 111, 112]
theorem tab11 : tab 11 = some r11 := by kernel_rfl
def c11 : List Nat := [11, 29, 30, 68]
theorem tab12 : tab 12 = some r12 := by kernel_rfl
def c12 : List Nat := [12, 31, 32, 40, 44, 69]
theorem tab13 : tab 13 = some r13 := by kernel_rfl
def c13 : List Nat := [13, 32, 40]
theorem tab14 : tab 14 = some r14 := by kernel_rfl
def c14 : List Nat := [14, 28, 32, 40]
theorem tab16 : tab 16 = some r16 := by kernel_rfl
def c16 : List Nat := [16, 35]
theorem tab17 : tab 17 = some r17 := by kernel_rfl
def c17 : List Nat := [16, 17, 20, 35, 36, 37, 38, 39, 40]
theorem tab18 : tab 18 = some r18 := by kernel_rfl
def c18 : List Nat := [18]
theorem tab19 : tab 19 = some r19 := by kernel_rfl
def c19 : List Nat := [19, 28, 32, 40]
theorem tab20 : tab 20 = some r20 := by kernel_rfl
def c20 : List Nat := [20]
theorem tab21 : tab 21 = some r21 := by kernel_rfl
def c21 : List Nat := [12, 16, 17, 18, 20, 21, 29, 31, 32, 35, 36, 37, 38, 39, 40, 41, 42, 43, 44, 45, 46, 47, 69, 70, 71, 72]
theorem tab22 : tab 22 = some r22 := by kernel_rfl
def c22 : List Nat := [22, 48, 49, 50, 51, 52, 58, 73, 74, 75, 76, 77, 78, 84, 85, 86, 87, 88, 95, 96, 97, 98, 99, 100, 105, 106, 107, 108, 109, 110, 111, 112]
theorem tab23 : tab 23 = some r23 := by kernel_rfl
def c23 : List Nat := [23]
theorem tab24 : tab 24 = some r24 := by kernel_rfl
def c24 : List Nat := [24, 53, 54, 55, 56, 57, 58, 75, 77, 78, 86, 96, 107, 108, 111, 112]
theorem tab25 : tab 25 = some r25 := by kernel_rfl
def c25 : List Nat := [25, 58, 59, 77, 78, 79]
theorem tab28 : tab 28 = some r28 := by kernel_rfl
def c28 : List Nat := [28, 32, 40]
theorem tab29 : tab 29 = some r29 := by kernel_rfl
def c29 : List Nat := [29]
theorem tab30 : tab 30 = some r30 := by kernel_rfl
def c30 : List Nat := [29, 30, 68]
theorem tab31 : tab 31 = some r31 := by kernel_rfl
def c31 : List Nat := [31, 32, 40, 44, 69]
theorem tab32 : tab 32 = some r32 := by kernel_rfl
def c32 : List Nat := [32, 40]
theorem tab35 : tab 35 = some r35 := by kernel_rfl
def c35 : List Nat := [35]
theorem tab36 : tab 36 = some r36 := by kernel_rfl
def c36 : List Nat := [36]
theorem tab37 : tab 37 = some r37 := by kernel_rfl
def c37 : List Nat := [37]
theorem tab38 : tab 38 = some r38 := by kernel_rfl
def c38 : List Nat := [38, 40]
theorem tab39 : tab 39 = some r39 := by kernel_rfl
def c39 : List Nat := [39, 40]
theorem tab40 : tab 40 = some r40 := by kernel_rfl
def c40 : List Nat := [40]
theorem tab41 : tab 41 = some r41 := by kernel_rfl
def c41 : List Nat := [29, 41]
theorem tab42 : tab 42 = some r42 := by kernel_rfl
def c42 : List Nat := [42]
theorem tab43 : tab 43 = some r43 := by kernel_rfl
def c43 : List Nat := [32, 40, 43, 44]
theorem tab44 : tab 44 = some r44 := by kernel_rfl
def c44 : List Nat := [32, 40, 44]
theorem tab45 : tab 45 = some r45 := by kernel_rfl
def c45 : List Nat := [20, 32, 40, 42, 43, 44, 45, 70, 71]
theorem tab46 : tab 46 = some r46 := by kernel_rfl
def c46 : List Nat := [32, 40, 44, 46]
theorem tab47 : tab 47 = some r47 := by kernel_rfl
def c47 : List Nat := [20, 32, 40, 42, 43, 44, 47, 70, 71, 72]
theorem tab48 : tab 48 = some r48 := by kernel_rfl
def c48 : List Nat := [48, 51, 76, 87, 88, 97, 98, 99, 100, 109]
theorem tab49 : tab 49 = some r49 := by kernel_rfl
def c49 : List Nat := [49]
theorem tab50 : tab 50 = some r50 := by kernel_rfl
def c50 : List Nat := [48, 50, 51, 58, 73, 74, 75, 76, 77, 78, 84, 85, 86, 87, 88, 95, 96, 97, 98, 99, 100, 105, 106, 107, 108, 109, 110, 111, 112]
theorem tab51 : tab 51 = some r51 := by kernel_rfl
def c51 : List Nat := [51, 76, 87, 88, 97, 98, 99, 100, 109]
theorem tab52 : tab 52 = some r52 := by kernel_rfl
def c52 : List Nat := [51, 52, 76, 87, 88, 97, 98, 99, 100, 109]
theorem tab53 : tab 53 = some r53 := by kernel_rfl
def c53 : List Nat := [53, 58, 75, 77, 78, 86, 96, 107, 108, 111, 112]
theorem tab54 : tab 54 = some r54 := by kernel_rfl
def c54 : List Nat := [54, 55]
theorem tab55 : tab 55 = some r55 := by kernel_rfl
def c55 : List Nat := [55]
theorem tab56 : tab 56 = some r56 := by kernel_rfl
def c56 : List Nat := [56]
theorem tab57 : tab 57 = some r57 := by kernel_rfl
def c57 : List Nat := [24, 53, 54, 55, 56, 57, 58, 75, 77, 78, 86, 96, 107, 108, 111, 112]
theorem tab58 : tab 58 = some r58 := by kernel_rfl
def c58 : List Nat := [58, 77, 78]
theorem tab59 : tab 59 = some r59 := by kernel_rfl
def c59 : List Nat := [59, 77, 79]
theorem tab60 : tab 60 = some r60 := by kernel_rfl
def c60 : List Nat := [60, 63, 80, 82, 89, 90, 91, 92, 101, 102, 103]
theorem tab62 : tab 62 = some r62 := by kernel_rfl
def c62 : List Nat := [62, 81]
theorem tab63 : tab 63 = some r63 := by kernel_rfl
def c63 : List Nat := [63, 82]
theorem tab68 : tab 68 = some r68 := by kernel_rfl
def c68 : List Nat := [29, 68]
theorem tab69 : tab 69 = some r69 := by kernel_rfl
def c69 : List Nat := [32, 40, 44, 69]
theorem tab70 : tab 70 = some r70 := by kernel_rfl
def c70 : List Nat := [20, 32, 40, 43, 44, 70]
theorem tab71 : tab 71 = some r71 := by kernel_rfl
def c71 : List Nat := [20, 32, 40, 43, 44, 71]
theorem tab72 : tab 72 = some r72 := by kernel_rfl
def c72 : List Nat := [20, 32, 40, 42, 43, 44, 70, 71, 72]
theorem tab73 : tab 73 = some r73 := by kernel_rfl
def c73 : List Nat := [73]
theorem tab74 : tab 74 = some r74 := by kernel_rfl
def c74 : List Nat := [74, 78, 84, 85, 95, 105, 106, 110]
theorem tab75 : tab 75 = some r75 := by kernel_rfl
def c75 : List Nat := [58, 75, 77, 78, 86, 96, 107, 108, 111, 112]
theorem tab76 : tab 76 = some r76 := by kernel_rfl
def c76 : List Nat := [76, 87, 88, 97, 98, 99, 100, 109]
theorem tab77 : tab 77 = some r77 := by kernel_rfl
def c77 : List Nat := [77]
theorem tab78 : tab 78 = some r78 := by kernel_rfl
def c78 : List Nat := [78]
theorem tab79 : tab 79 = some r79 := by kernel_rfl
def c79 : List Nat := [77, 79]
theorem tab80 : tab 80 = some r80 := by kernel_rfl
def c80 : List Nat := [80, 89, 90, 91, 92, 101, 102, 103]
theorem tab81 : tab 81 = some r81 := by kernel_rfl
def c81 : List Nat := [81]
theorem tab82 : tab 82 = some r82 := by kernel_rfl
def c82 : List Nat := [82]
theorem tab84 : tab 84 = some r84 := by kernel_rfl
def c84 : List Nat := [84, 95, 105, 106, 110]
theorem tab85 : tab 85 = some r85 := by kernel_rfl
def c85 : List Nat := [78, 85]
theorem tab86 : tab 86 = some r86 := by kernel_rfl
def c86 : List Nat := [77, 86, 96, 107, 108, 111, 112]
theorem tab87 : tab 87 = some r87 := by kernel_rfl
def c87 : List Nat := [87, 97, 98, 109]
theorem tab88 : tab 88 = some r88 := by kernel_rfl
def c88 : List Nat := [88, 97, 98, 99, 100, 109]
theorem tab89 : tab 89 = some r89 := by kernel_rfl
def c89 : List Nat := [89]
theorem tab90 : tab 90 = some r90 := by kernel_rfl
def c90 : List Nat := [89, 90, 92, 101, 102, 103]
theorem tab91 : tab 91 = some r91 := by kernel_rfl
def c91 : List Nat := [91]
theorem tab92 : tab 92 = some r92 := by kernel_rfl
def c92 : List Nat := [92, 102, 103]
theorem tab93 : tab 93 = some r93 := by kernel_rfl
def c93 : List Nat := [93, 104]
theorem tab94 : tab 94 = some r94 := by kernel_rfl
def c94 : List Nat := [91, 94]
theorem tab95 : tab 95 = some r95 := by kernel_rfl
def c95 : List Nat := [95, 105, 106, 110]
theorem tab96 : tab 96 = some r96 := by kernel_rfl
def c96 : List Nat := [77, 96, 107, 108, 111, 112]
theorem tab97 : tab 97 = some r97 := by kernel_rfl
def c97 : List Nat := [97, 109]
theorem tab98 : tab 98 = some r98 := by kernel_rfl
def c98 : List Nat := [98]
theorem tab99 : tab 99 = some r99 := by kernel_rfl
def c99 : List Nat := [99]
theorem tab100 : tab 100 = some r100 := by kernel_rfl
def c100 : List Nat := [100]
theorem tab101 : tab 101 = some r101 := by kernel_rfl
def c101 : List Nat := [101]
theorem tab102 : tab 102 = some r102 := by kernel_rfl
def c102 : List Nat := [102]
theorem tab103 : tab 103 = some r103 := by kernel_rfl
def c103 : List Nat := [103]
theorem tab104 : tab 104 = some r104 := by kernel_rfl
def c104 : List Nat := [104]
theorem tab105 : tab 105 = some r105 := by kernel_rfl
def c105 : List Nat := [105]
theorem tab106 : tab 106 = some r106 := by kernel_rfl
def c106 : List Nat := [106, 110]
theorem tab107 : tab 107 = some r107 := by kernel_rfl
def c107 : List Nat := [107, 111]
theorem tab108 : tab 108 = some r108 := by kernel_rfl
def c108 : List Nat := [77, 108, 112]
theorem tab109 : tab 109 = some r109 := by kernel_rfl
def c109 : List Nat := [109]
theorem tab110 : tab 110 = some r110 := by kernel_rfl
def c110 : List Nat := [110]
theorem tab111 : tab 111 = some r111 := by kernel_rfl
def c111 : List Nat := [111]
theorem tab112 : tab 112 = some r112 := by kernel_rfl
def c112 : List Nat := [77, 112]
theorem tab113 : tab 113 = some r113 := by kernel_rfl
def c113 : List Nat := [2, 3, 5, 6, 7, 9, 11, 12, 13, 14, 16, 17, 18, 19, 20, 21, 22, 23, 24, 25, 28, 29, 30, 31, 32, 35, 36, 37, 38, 39, 40, 41, 42, 43, 44, 45, 46, 47, 48, 49, 50, 51, 52, 53, 54, 55, 56, 57, 58, 59, 60, 62, 63, 68, 69, 70, 71, 72, 73, 74, 75, 76, 77, 78, 79, 80, 81, 82, 84, 85, 86, 87, 88, 89, 90, 91, 92, 93, 94, 95, 96, 97, 98, 99, 100, 101, 102, 103, 104, 105, 106, 107, 108, 109, 110, 111, 112, 113, 114, 115, 116, 117, 118, 119, 120, 121, 122, 123, 124, 125, 126, 127, 128, 129, 130]
theorem tab114 : tab 114 = some r114 := by kernel_rfl
def c114 : List Nat := [28, 32, 40, 42, 60, 62, 63, 80, 81, 82, 89, 90, 91, 92, 93, 94, 101, 102, 103, 104, 114, 117, 118, 119, 124, 125]
theorem tab115 : tab 115 = some r115 := by kernel_rfl
def c115 : List Nat := [60, 63, 80, 82, 89, 90, 91, 92, 94, 101, 102, 103, 104, 115, 120, 121, 126]
theorem tab116 : tab 116 = some r116 := by kernel_rfl
def c116 : List Nat := [20, 29, 36, 37, 38, 39, 40, 60, 63, 80, 82, 89, 90, 91, 92, 101, 102, 103, 116, 117, 122, 123, 127, 128, 129, 130]
theorem tab117 : tab 117 = some r117 := by kernel_rfl
def c117 : List Nat := [82, 89, 90, 92, 101, 102, 103, 117]
theorem tab118 : tab 118 = some r118 := by kernel_rfl
def c118 : List Nat := [91, 94, 104, 118, 124]
theorem tab119 : tab 119 = some r119 := by kernel_rfl
def c119 : List Nat := [42, 91, 93, 94, 104, 119, 125]
theorem tab120 : tab 120 = some r120 := by kernel_rfl
def c120 : List Nat := [91, 94, 104, 120, 126]
theorem tab121 : tab 121 = some r121 := by kernel_rfl
def c121 : List Nat := [121]
theorem tab122 : tab 122 = some r122 := by kernel_rfl
def c122 : List Nat := [92, 102, 103, 122]
theorem tab123 : tab 123 = some r123 := by kernel_rfl
def c123 : List Nat := [20, 29, 36, 37, 38, 39, 40, 60, 63, 80, 82, 89, 90, 91, 92, 101, 102, 103, 117, 123, 127, 128, 129, 130]
theorem tab124 : tab 124 = some r124 := by kernel_rfl
def c124 : List Nat := [104, 124]
theorem tab125 : tab 125 = some r125 := by kernel_rfl
def c125 : List Nat := [42, 93, 104, 125]
theorem tab126 : tab 126 = some r126 := by kernel_rfl
def c126 : List Nat := [104, 126]
theorem tab127 : tab 127 = some r127 := by kernel_rfl
def c127 : List Nat := [20, 29, 36, 37, 38, 39, 40, 82, 89, 90, 91, 92, 101, 102, 103, 117, 127, 128, 129, 130]
theorem tab128 : tab 128 = some r128 := by kernel_rfl
def c128 : List Nat := [20, 29, 36, 37, 38, 39, 40, 82, 89, 90, 92, 101, 102, 103, 117, 128, 129, 130]
theorem tab129 : tab 129 = some r129 := by kernel_rfl
def c129 : List Nat := [20, 29, 36, 37, 38, 39, 40, 92, 102, 103, 129, 130]
theorem tab130 : tab 130 = some r130 := by kernel_rfl
def c130 : List Nat := [92, 102, 103, 130]
end Eng

