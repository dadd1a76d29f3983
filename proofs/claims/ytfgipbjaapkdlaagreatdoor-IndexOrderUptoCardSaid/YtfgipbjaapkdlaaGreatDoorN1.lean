/- A part of the proof of this seat's statement. Conditions: in each theorem. -/
import Derived.Test.YtfgipbjaapkdlaaGreatDoorL9
namespace Go.Proofs.YtfgipbjaapkdlaaGreatDoor
open Go.Xq
noncomputable section
abbrev qN3_1 : List DI := [⟨[0], .look (lkMove (.tmp 0)), (some 34), none, 0, 1, true, false⟩, ⟨[34], .look (⟨lenSl (.tmp 34)⟩), (some 35), none, 0, 1, false, false⟩, ⟨[35], .look (⟨binInt akGtr (.tmp 35) (.const (.int .i64 16))⟩), (some 36), none, 0, 1, false, false⟩, ⟨[36], .look (lkMove (.tmp 36)), (some 37), none, 0, 1, true, false⟩, ⟨[0, 37], .look (lkMove (.tmp 0)), (some 38), (some (37, true)), 0, 1, true, false⟩, ⟨[0, 37], .look (lkMove (.tmp 0)), (some 40), (some (37, true)), 0, 2, true, false⟩, ⟨[40, 37], .look (⟨slSl 1 (.tmp 40) (some (.const (.int .i64 8))) none none⟩), (some 41), (some (37, true)), 0, 2, false, false⟩, ⟨[38, 37], .heavy ⟨hvCallF E 172 (opnds [(.tmp 38)])⟩, (some 39), (some (37, true)), 0, 2, false, true⟩, ⟨[41, 37], .heavy ⟨hvCallF E 172 (opnds [(.tmp 41)])⟩, (some 42), (some (37, true)), 1, 2, false, true⟩, ⟨[39, 42, 37], .look (⟨binInt akOr (.tmp 39) (.tmp 42)⟩), (some 43), (some (37, true)), 2, 1, false, false⟩, ⟨[43, 37], .look (⟨binInt akAnd (.tmp 43) (.const (.int .u64 9259542123273814144))⟩), (some 44), (some (37, true)), 2, 1, false, false⟩, ⟨[44, 37], .look (⟨binInt akEql (.tmp 44) (.const (.int .u64 0))⟩), (some 45), (some (37, true)), 2, 1, false, false⟩, ⟨[37, 45], .look (⟨pickA (.tmp 37) (.tmp 45) (.const (.bool false))⟩), (some 46), none, 2, 1, true, false⟩]
abbrev qN3_2 : List DI := [⟨[0], .look (lkMove (.tmp 0)), (some 49), none, 0, 1, true, false⟩, ⟨[49], .look (⟨lenSl (.tmp 49)⟩), (some 50), none, 0, 1, false, false⟩, ⟨[50], .look (⟨binInt akGtr (.tmp 50) (.const (.int .i64 32))⟩), (some 51), none, 0, 1, false, false⟩, ⟨[51], .look (lkMove (.tmp 51)), (some 52), none, 0, 1, true, false⟩, ⟨[0, 52], .look (lkMove (.tmp 0)), (some 53), (some (52, true)), 0, 1, true, false⟩, ⟨[0, 52], .look (lkMove (.tmp 0)), (some 55), (some (52, true)), 0, 2, true, false⟩, ⟨[55, 52], .look (⟨slSl 1 (.tmp 55) (some (.const (.int .i64 8))) none none⟩), (some 56), (some (52, true)), 0, 2, false, false⟩, ⟨[0, 52], .look (lkMove (.tmp 0)), (some 59), (some (52, true)), 0, 3, true, false⟩, ⟨[59, 52], .look (⟨slSl 1 (.tmp 59) (some (.const (.int .i64 16))) none none⟩), (some 60), (some (52, true)), 0, 3, false, false⟩, ⟨[0, 52], .look (lkMove (.tmp 0)), (some 62), (some (52, true)), 0, 4, true, false⟩, ⟨[62, 52], .look (⟨slSl 1 (.tmp 62) (some (.const (.int .i64 24))) none none⟩), (some 63), (some (52, true)), 0, 4, false, false⟩, ⟨[53, 52], .heavy ⟨hvCallF E 172 (opnds [(.tmp 53)])⟩, (some 54), (some (52, true)), 0, 2, false, true⟩, ⟨[56, 52], .heavy ⟨hvCallF E 172 (opnds [(.tmp 56)])⟩, (some 57), (some (52, true)), 1, 2, false, true⟩, ⟨[54, 57, 52], .look (⟨binInt akOr (.tmp 54) (.tmp 57)⟩), (some 58), (some (52, true)), 2, 3, false, false⟩, ⟨[60, 52], .heavy ⟨hvCallF E 172 (opnds [(.tmp 60)])⟩, (some 61), (some (52, true)), 2, 2, false, true⟩, ⟨[63, 52], .heavy ⟨hvCallF E 172 (opnds [(.tmp 63)])⟩, (some 64), (some (52, true)), 3, 2, false, true⟩, ⟨[61, 64, 52], .look (⟨binInt akOr (.tmp 61) (.tmp 64)⟩), (some 65), (some (52, true)), 4, 1, false, false⟩, ⟨[58, 65, 52], .look (⟨binInt akOr (.tmp 58) (.tmp 65)⟩), (some 66), (some (52, true)), 4, 1, false, false⟩, ⟨[66, 52], .look (⟨binInt akAnd (.tmp 66) (.const (.int .u64 9259542123273814144))⟩), (some 67), (some (52, true)), 4, 1, false, false⟩, ⟨[67, 52], .look (⟨binInt akEql (.tmp 67) (.const (.int .u64 0))⟩), (some 68), (some (52, true)), 4, 1, false, false⟩, ⟨[52, 68], .look (⟨pickA (.tmp 52) (.tmp 68) (.const (.bool false))⟩), (some 69), none, 4, 1, true, false⟩]
abbrev qN3_3 : List Dk := [⟨[0], lkMove (.tmp 0), (some 25), none⟩, ⟨[25], ⟨ixSl 1 (.tmp 25) (.const (.int .i64 0))⟩, (some 26), none⟩, ⟨[26], ⟨ldA ⟨ld1⟩ (.tmp 26)⟩, (some 27), none⟩, ⟨[27], ⟨cvInt .u64 (.tmp 27)⟩, (some 28), none⟩, ⟨[0], lkMove (.tmp 0), (some 29), none⟩, ⟨[29], ⟨ixSl 1 (.tmp 29) (.const (.int .i64 1))⟩, (some 30), none⟩, ⟨[30], ⟨ldA ⟨ld1⟩ (.tmp 30)⟩, (some 31), none⟩, ⟨[31], ⟨cvInt .u64 (.tmp 31)⟩, (some 32), none⟩, ⟨[32], ⟨binShl (.tmp 32) (.const (.int .u64 8))⟩, (some 33), none⟩, ⟨[28, 33], ⟨binInt akOr (.tmp 28) (.tmp 33)⟩, (some 34), none⟩, ⟨[0], lkMove (.tmp 0), (some 35), none⟩, ⟨[35], ⟨ixSl 1 (.tmp 35) (.const (.int .i64 2))⟩, (some 36), none⟩, ⟨[36], ⟨ldA ⟨ld1⟩ (.tmp 36)⟩, (some 37), none⟩, ⟨[37], ⟨cvInt .u64 (.tmp 37)⟩, (some 38), none⟩, ⟨[38], ⟨binShl (.tmp 38) (.const (.int .u64 16))⟩, (some 39), none⟩, ⟨[34, 39], ⟨binInt akOr (.tmp 34) (.tmp 39)⟩, (some 40), none⟩, ⟨[0], lkMove (.tmp 0), (some 41), none⟩, ⟨[41], ⟨ixSl 1 (.tmp 41) (.const (.int .i64 3))⟩, (some 42), none⟩, ⟨[42], ⟨ldA ⟨ld1⟩ (.tmp 42)⟩, (some 43), none⟩, ⟨[43], ⟨cvInt .u64 (.tmp 43)⟩, (some 44), none⟩, ⟨[44], ⟨binShl (.tmp 44) (.const (.int .u64 24))⟩, (some 45), none⟩, ⟨[40, 45], ⟨binInt akOr (.tmp 40) (.tmp 45)⟩, (some 46), none⟩, ⟨[0], lkMove (.tmp 0), (some 47), none⟩, ⟨[47], ⟨ixSl 1 (.tmp 47) (.const (.int .i64 4))⟩, (some 48), none⟩, ⟨[48], ⟨ldA ⟨ld1⟩ (.tmp 48)⟩, (some 49), none⟩, ⟨[49], ⟨cvInt .u64 (.tmp 49)⟩, (some 50), none⟩, ⟨[50], ⟨binShl (.tmp 50) (.const (.int .u64 32))⟩, (some 51), none⟩, ⟨[46, 51], ⟨binInt akOr (.tmp 46) (.tmp 51)⟩, (some 52), none⟩, ⟨[0], lkMove (.tmp 0), (some 53), none⟩, ⟨[53], ⟨ixSl 1 (.tmp 53) (.const (.int .i64 5))⟩, (some 54), none⟩, ⟨[54], ⟨ldA ⟨ld1⟩ (.tmp 54)⟩, (some 55), none⟩, ⟨[55], ⟨cvInt .u64 (.tmp 55)⟩, (some 56), none⟩, ⟨[56], ⟨binShl (.tmp 56) (.const (.int .u64 40))⟩, (some 57), none⟩, ⟨[52, 57], ⟨binInt akOr (.tmp 52) (.tmp 57)⟩, (some 58), none⟩, ⟨[0], lkMove (.tmp 0), (some 59), none⟩, ⟨[59], ⟨ixSl 1 (.tmp 59) (.const (.int .i64 6))⟩, (some 60), none⟩, ⟨[60], ⟨ldA ⟨ld1⟩ (.tmp 60)⟩, (some 61), none⟩, ⟨[61], ⟨cvInt .u64 (.tmp 61)⟩, (some 62), none⟩, ⟨[62], ⟨binShl (.tmp 62) (.const (.int .u64 48))⟩, (some 63), none⟩, ⟨[58, 63], ⟨binInt akOr (.tmp 58) (.tmp 63)⟩, (some 64), none⟩, ⟨[0], lkMove (.tmp 0), (some 65), none⟩, ⟨[65], ⟨ixSl 1 (.tmp 65) (.const (.int .i64 7))⟩, (some 66), none⟩, ⟨[66], ⟨ldA ⟨ld1⟩ (.tmp 66)⟩, (some 67), none⟩, ⟨[67], ⟨cvInt .u64 (.tmp 67)⟩, (some 68), none⟩, ⟨[68], ⟨binShl (.tmp 68) (.const (.int .u64 56))⟩, (some 69), none⟩, ⟨[64, 69], ⟨binInt akOr (.tmp 64) (.tmp 69)⟩, (some 70), none⟩, ⟨[70], lkMove (.tmp 70), (some 2), none⟩]
abbrev qN3_4 : List Dk := [⟨[0], lkMove (.tmp 0), (some 108), none⟩, ⟨[108], ⟨lenSl (.tmp 108)⟩, (some 109), none⟩, ⟨[109], ⟨binInt akLss (.tmp 109) (.const (.int .i64 3))⟩, (some 110), none⟩, ⟨[110], lkMove (.tmp 110), (some 111), none⟩, ⟨[0, 111], lkMove (.tmp 0), (some 112), (some (111, false))⟩, ⟨[112, 111], ⟨ixSl 1 (.tmp 112) (.const (.int .i64 1))⟩, (some 113), (some (111, false))⟩, ⟨[113, 111], ⟨ldA ⟨ld1⟩ (.tmp 113)⟩, (some 114), (some (111, false))⟩, ⟨[6, 111], ⟨fAddr (.tmp 6) 0⟩, (some 115), (some (111, false))⟩, ⟨[115, 111], ⟨ldA ⟨ld1⟩ (.tmp 115)⟩, (some 116), (some (111, false))⟩, ⟨[114, 116, 111], ⟨binInt akLss (.tmp 114) (.tmp 116)⟩, (some 117), (some (111, false))⟩, ⟨[111, 117], ⟨pickA (.tmp 111) (.const (.bool true)) (.tmp 117)⟩, (some 118), none⟩, ⟨[118], lkMove (.tmp 118), (some 119), none⟩, ⟨[6, 119], ⟨fAddr (.tmp 6) 1⟩, (some 120), (some (119, false))⟩, ⟨[120, 119], ⟨ldA ⟨ld1⟩ (.tmp 120)⟩, (some 121), (some (119, false))⟩, ⟨[0, 119], lkMove (.tmp 0), (some 122), (some (119, false))⟩, ⟨[122, 119], ⟨ixSl 1 (.tmp 122) (.const (.int .i64 1))⟩, (some 123), (some (119, false))⟩, ⟨[123, 119], ⟨ldA ⟨ld1⟩ (.tmp 123)⟩, (some 124), (some (119, false))⟩, ⟨[121, 124, 119], ⟨binInt akLss (.tmp 121) (.tmp 124)⟩, (some 125), (some (119, false))⟩, ⟨[119, 125], ⟨pickA (.tmp 119) (.const (.bool true)) (.tmp 125)⟩, (some 126), none⟩, ⟨[126], lkMove (.tmp 126), (some 127), none⟩, ⟨[0, 127], lkMove (.tmp 0), (some 128), (some (127, false))⟩, ⟨[128, 127], ⟨ixSl 1 (.tmp 128) (.const (.int .i64 2))⟩, (some 129), (some (127, false))⟩, ⟨[129, 127], ⟨ldA ⟨ld1⟩ (.tmp 129)⟩, (some 130), (some (127, false))⟩, ⟨[130, 127], ⟨binInt akLss (.tmp 130) (.const (.int .u8 128))⟩, (some 131), (some (127, false))⟩, ⟨[127, 131], ⟨pickA (.tmp 127) (.const (.bool true)) (.tmp 131)⟩, (some 132), none⟩, ⟨[132], lkMove (.tmp 132), (some 133), none⟩, ⟨[0, 133], lkMove (.tmp 0), (some 134), (some (133, false))⟩, ⟨[134, 133], ⟨ixSl 1 (.tmp 134) (.const (.int .i64 2))⟩, (some 135), (some (133, false))⟩, ⟨[135, 133], ⟨ldA ⟨ld1⟩ (.tmp 135)⟩, (some 136), (some (133, false))⟩, ⟨[136, 133], ⟨binInt akLss (.const (.int .u8 191)) (.tmp 136)⟩, (some 137), (some (133, false))⟩, ⟨[133, 137], ⟨pickA (.tmp 133) (.const (.bool true)) (.tmp 137)⟩, (some 138), none⟩]
abbrev qN3_5 : List Dk := [⟨[0], lkMove (.tmp 0), (some 143), none⟩, ⟨[143], ⟨lenSl (.tmp 143)⟩, (some 144), none⟩, ⟨[144], ⟨binInt akLss (.tmp 144) (.const (.int .i64 4))⟩, (some 145), none⟩, ⟨[145], lkMove (.tmp 145), (some 146), none⟩, ⟨[0, 146], lkMove (.tmp 0), (some 147), (some (146, false))⟩, ⟨[147, 146], ⟨ixSl 1 (.tmp 147) (.const (.int .i64 1))⟩, (some 148), (some (146, false))⟩, ⟨[148, 146], ⟨ldA ⟨ld1⟩ (.tmp 148)⟩, (some 149), (some (146, false))⟩, ⟨[6, 146], ⟨fAddr (.tmp 6) 0⟩, (some 150), (some (146, false))⟩, ⟨[150, 146], ⟨ldA ⟨ld1⟩ (.tmp 150)⟩, (some 151), (some (146, false))⟩, ⟨[149, 151, 146], ⟨binInt akLss (.tmp 149) (.tmp 151)⟩, (some 152), (some (146, false))⟩, ⟨[146, 152], ⟨pickA (.tmp 146) (.const (.bool true)) (.tmp 152)⟩, (some 153), none⟩, ⟨[153], lkMove (.tmp 153), (some 154), none⟩, ⟨[6, 154], ⟨fAddr (.tmp 6) 1⟩, (some 155), (some (154, false))⟩, ⟨[155, 154], ⟨ldA ⟨ld1⟩ (.tmp 155)⟩, (some 156), (some (154, false))⟩, ⟨[0, 154], lkMove (.tmp 0), (some 157), (some (154, false))⟩, ⟨[157, 154], ⟨ixSl 1 (.tmp 157) (.const (.int .i64 1))⟩, (some 158), (some (154, false))⟩, ⟨[158, 154], ⟨ldA ⟨ld1⟩ (.tmp 158)⟩, (some 159), (some (154, false))⟩, ⟨[156, 159, 154], ⟨binInt akLss (.tmp 156) (.tmp 159)⟩, (some 160), (some (154, false))⟩, ⟨[154, 160], ⟨pickA (.tmp 154) (.const (.bool true)) (.tmp 160)⟩, (some 161), none⟩, ⟨[161], lkMove (.tmp 161), (some 162), none⟩, ⟨[0, 162], lkMove (.tmp 0), (some 163), (some (162, false))⟩, ⟨[163, 162], ⟨ixSl 1 (.tmp 163) (.const (.int .i64 2))⟩, (some 164), (some (162, false))⟩, ⟨[164, 162], ⟨ldA ⟨ld1⟩ (.tmp 164)⟩, (some 165), (some (162, false))⟩, ⟨[165, 162], ⟨binInt akLss (.tmp 165) (.const (.int .u8 128))⟩, (some 166), (some (162, false))⟩, ⟨[162, 166], ⟨pickA (.tmp 162) (.const (.bool true)) (.tmp 166)⟩, (some 167), none⟩, ⟨[167], lkMove (.tmp 167), (some 168), none⟩, ⟨[0, 168], lkMove (.tmp 0), (some 169), (some (168, false))⟩, ⟨[169, 168], ⟨ixSl 1 (.tmp 169) (.const (.int .i64 2))⟩, (some 170), (some (168, false))⟩, ⟨[170, 168], ⟨ldA ⟨ld1⟩ (.tmp 170)⟩, (some 171), (some (168, false))⟩, ⟨[171, 168], ⟨binInt akLss (.const (.int .u8 191)) (.tmp 171)⟩, (some 172), (some (168, false))⟩, ⟨[168, 172], ⟨pickA (.tmp 168) (.const (.bool true)) (.tmp 172)⟩, (some 173), none⟩, ⟨[173], lkMove (.tmp 173), (some 174), none⟩, ⟨[0, 174], lkMove (.tmp 0), (some 175), (some (174, false))⟩, ⟨[175, 174], ⟨ixSl 1 (.tmp 175) (.const (.int .i64 3))⟩, (some 176), (some (174, false))⟩, ⟨[176, 174], ⟨ldA ⟨ld1⟩ (.tmp 176)⟩, (some 177), (some (174, false))⟩, ⟨[177, 174], ⟨binInt akLss (.tmp 177) (.const (.int .u8 128))⟩, (some 178), (some (174, false))⟩, ⟨[174, 178], ⟨pickA (.tmp 174) (.const (.bool true)) (.tmp 178)⟩, (some 179), none⟩, ⟨[179], lkMove (.tmp 179), (some 180), none⟩, ⟨[0, 180], lkMove (.tmp 0), (some 181), (some (180, false))⟩, ⟨[181, 180], ⟨ixSl 1 (.tmp 181) (.const (.int .i64 3))⟩, (some 182), (some (180, false))⟩, ⟨[182, 180], ⟨ldA ⟨ld1⟩ (.tmp 182)⟩, (some 183), (some (180, false))⟩, ⟨[183, 180], ⟨binInt akLss (.const (.int .u8 191)) (.tmp 183)⟩, (some 184), (some (180, false))⟩, ⟨[180, 184], ⟨pickA (.tmp 180) (.const (.bool true)) (.tmp 184)⟩, (some 185), none⟩]
abbrev qN3_6 : List Lk := [⟨⟨binInt akAnd (.tmp 28) (.const (.int .u64 9259542123273814144))⟩, (some 29), (some (26, true))⟩, ⟨⟨binInt akEql (.tmp 29) (.const (.int .u64 0))⟩, (some 30), (some (26, true))⟩, xA 26 30 31 false]
set_option maxHeartbeats 1000000 in
theorem wordB_ok {H : AH} {v : AV} {l : List UInt8} (h : RdS H v l) (hl : l.length < 17179869184) (h8 : 8 ≤ l.length) : DC Tryz.prog .normal 172 (.cons v .nil) H fun v' H2 => (∃ w : Nat, v' = .int .u64 (w : Int) ∧ HiW w l) ∧ H2 = H := by
  refine DC.of_wd (re := reTmp 2 reNil) tyOk Tryz.func172 (by kernel_rfl) rfl (by kernel_rfl) (by kernel_rfl) ?_
  rw [tl_nil, argsT_cons, argsT_nil]
  obtain ⟨vb, off, cap, o, hv, _, hg, hby⟩ := h.pos (by omega)
  have hx0 : l[0]? = some (l[0]'(by omega)) := List.getElem?_eq_getElem _
  have hx1 : l[1]? = some (l[1]'(by omega)) := List.getElem?_eq_getElem _
  have hx2 : l[2]? = some (l[2]'(by omega)) := List.getElem?_eq_getElem _
  have hx3 : l[3]? = some (l[3]'(by omega)) := List.getElem?_eq_getElem _
  have hx4 : l[4]? = some (l[4]'(by omega)) := List.getElem?_eq_getElem _
  have hx5 : l[5]? = some (l[5]'(by omega)) := List.getElem?_eq_getElem _
  have hx6 : l[6]? = some (l[6]'(by omega)) := List.getElem?_eq_getElem _
  have hx7 : l[7]? = some (l[7]'(by omega)) := List.getElem?_eq_getElem _
  generalize l[0]'_ = x0 at hx0
  generalize l[1]'_ = x1 at hx1
  generalize l[2]'_ = x2 at hx2
  generalize l[3]'_ = x3 at hx3
  generalize l[4]'_ = x4 at hx4
  generalize l[5]'_ = x5 at hx5
  generalize l[6]'_ = x6 at hx6
  generalize l[7]'_ = x7 at hx7
  have b0 : rdCell o off = some (.int .u8 (x0.toNat : Int)) := by have := hby 0 x0 hx0; rwa [Nat.add_zero] at this
  have b1 := hby 1 x1 hx1
  have b2 := hby 2 x2 hx2
  have b3 := hby 3 x3 hx3
  have b4 := hby 4 x4 hx4
  have b5 := hby 5 x5 hx5
  have b6 := hby 6 x6 hx6
  have b7 := hby 7 x7 hx7
  have k0 : 0 < l.length := by omega
  have k1 : 1 < l.length := by omega
  have k2 : 2 < l.length := by omega
  have k3 : 3 < l.length := by omega
  have k4 : 4 < l.length := by omega
  have k5 : 5 < l.length := by omega
  have k6 : 6 < l.length := by omega
  have k7 : 7 < l.length := by omega
  have c0 : mkInt .u64 (x0.toNat : Int) = some (.int .u64 (x0.toNat : Int)) := mkInt_u64n (by have := x0.toNat_lt; omega)
  have c1 : mkInt .u64 (x1.toNat : Int) = some (.int .u64 (x1.toNat : Int)) := mkInt_u64n (by have := x1.toNat_lt; omega)
  have c2 : mkInt .u64 (x2.toNat : Int) = some (.int .u64 (x2.toNat : Int)) := mkInt_u64n (by have := x2.toNat_lt; omega)
  have c3 : mkInt .u64 (x3.toNat : Int) = some (.int .u64 (x3.toNat : Int)) := mkInt_u64n (by have := x3.toNat_lt; omega)
  have c4 : mkInt .u64 (x4.toNat : Int) = some (.int .u64 (x4.toNat : Int)) := mkInt_u64n (by have := x4.toNat_lt; omega)
  have c5 : mkInt .u64 (x5.toNat : Int) = some (.int .u64 (x5.toNat : Int)) := mkInt_u64n (by have := x5.toNat_lt; omega)
  have c6 : mkInt .u64 (x6.toNat : Int) = some (.int .u64 (x6.toNat : Int)) := mkInt_u64n (by have := x6.toNat_lt; omega)
  have c7 : mkInt .u64 (x7.toNat : Int) = some (.int .u64 (x7.toNat : Int)) := mkInt_u64n (by have := x7.toNat_lt; omega)
  have s1 : shlA .u64 (x1.toNat : Int) 8 = _ := shiftFact x1 8 (by omega)
  have s2 : shlA .u64 (x2.toNat : Int) 16 = _ := shiftFact x2 16 (by omega)
  have s3 : shlA .u64 (x3.toNat : Int) 24 = _ := shiftFact x3 24 (by omega)
  have s4 : shlA .u64 (x4.toNat : Int) 32 = _ := shiftFact x4 32 (by omega)
  have s5 : shlA .u64 (x5.toNat : Int) 40 = _ := shiftFact x5 40 (by omega)
  have s6 : shlA .u64 (x6.toNat : Int) 48 = _ := shiftFact x6 48 (by omega)
  have s7 : shlA .u64 (x7.toNat : Int) 56 = _ := shiftFact x7 56 (by omega)
  have t1 := shift_bit x1 1
  have t2 := shift_bit x2 2
  have t3 := shift_bit x3 3
  have t4 := shift_bit x4 4
  have t5 := shift_bit x5 5
  have t6 := shift_bit x6 6
  have t7 := shift_bit x7 7
  have l1 := shift_lt x1 8 (by omega)
  have l2 := shift_lt x2 16 (by omega)
  have l3 := shift_lt x3 24 (by omega)
  have l4 := shift_lt x4 32 (by omega)
  have l5 := shift_lt x5 40 (by omega)
  have l6 := shift_lt x6 48 (by omega)
  have l7 := shift_lt x7 56 (by omega)
  have l0 := x0.toNat_lt
  simp only [Nat.reduceMul] at t1 t2 t3 t4 t5 t6 t7
  obtain ⟨y1, hy1⟩ : ∃ y, y = x1.toNat * 2 ^ 8 := ⟨_, rfl⟩
  rw [← hy1] at s1 t1 l1
  clear hy1
  obtain ⟨y2, hy2⟩ : ∃ y, y = x2.toNat * 2 ^ 16 := ⟨_, rfl⟩
  rw [← hy2] at s2 t2 l2
  clear hy2
  obtain ⟨y3, hy3⟩ : ∃ y, y = x3.toNat * 2 ^ 24 := ⟨_, rfl⟩
  rw [← hy3] at s3 t3 l3
  clear hy3
  obtain ⟨y4, hy4⟩ : ∃ y, y = x4.toNat * 2 ^ 32 := ⟨_, rfl⟩
  rw [← hy4] at s4 t4 l4
  clear hy4
  obtain ⟨y5, hy5⟩ : ∃ y, y = x5.toNat * 2 ^ 40 := ⟨_, rfl⟩
  rw [← hy5] at s5 t5 l5
  clear hy5
  obtain ⟨y6, hy6⟩ : ∃ y, y = x6.toNat * 2 ^ 48 := ⟨_, rfl⟩
  rw [← hy6] at s6 t6 l6
  clear hy6
  obtain ⟨y7, hy7⟩ : ∃ y, y = x7.toNat * 2 ^ 56 := ⟨_, rfl⟩
  rw [← hy7] at s7 t7 l7
  clear hy7
  have or_lt : ∀ a b : Nat, a < 18446744073709551616 → b < 18446744073709551616 → a ||| b < 18446744073709551616 := fun a b ha hb => Nat.or_lt_two_pow (n := 64) ha hb
  obtain ⟨w1, e1⟩ : ∃ w, w = x0.toNat ||| y1 := ⟨_, rfl⟩
  obtain ⟨w2, e2⟩ : ∃ w, w = w1 ||| y2 := ⟨_, rfl⟩
  obtain ⟨w3, e3⟩ : ∃ w, w = w2 ||| y3 := ⟨_, rfl⟩
  obtain ⟨w4, e4⟩ : ∃ w, w = w3 ||| y4 := ⟨_, rfl⟩
  obtain ⟨w5, e5⟩ : ∃ w, w = w4 ||| y5 := ⟨_, rfl⟩
  obtain ⟨w6, e6⟩ : ∃ w, w = w5 ||| y6 := ⟨_, rfl⟩
  obtain ⟨w7, e7⟩ : ∃ w, w = w6 ||| y7 := ⟨_, rfl⟩
  have m1 : w1 < 18446744073709551616 := e1 ▸ or_lt _ _ (by omega) l1
  have m2 : w2 < 18446744073709551616 := e2 ▸ or_lt _ _ m1 l2
  have m3 : w3 < 18446744073709551616 := e3 ▸ or_lt _ _ m2 l3
  have m4 : w4 < 18446744073709551616 := e4 ▸ or_lt _ _ m3 l4
  have m5 : w5 < 18446744073709551616 := e5 ▸ or_lt _ _ m4 l5
  have m6 : w6 < 18446744073709551616 := e6 ▸ or_lt _ _ m5 l6
  have m7 : w7 < 18446744073709551616 := e7 ▸ or_lt _ _ m6 l7
  have o1 : akOr.f .u64 (x0.toNat : Int) (y1 : Int) = some (.int .u64 (w1 : Int)) := akOr_u64 (by omega) l1 e1
  have o2 : akOr.f .u64 (w1 : Int) (y2 : Int) = some (.int .u64 (w2 : Int)) := akOr_u64 m1 l2 e2
  have o3 : akOr.f .u64 (w2 : Int) (y3 : Int) = some (.int .u64 (w3 : Int)) := akOr_u64 m2 l3 e3
  have o4 : akOr.f .u64 (w3 : Int) (y4 : Int) = some (.int .u64 (w4 : Int)) := akOr_u64 m3 l4 e4
  have o5 : akOr.f .u64 (w4 : Int) (y5 : Int) = some (.int .u64 (w5 : Int)) := akOr_u64 m4 l5 e5
  have o6 : akOr.f .u64 (w5 : Int) (y6 : Int) = some (.int .u64 (w6 : Int)) := akOr_u64 m5 l6 e6
  have o7 : akOr.f .u64 (w6 : Int) (y7 : Int) = some (.int .u64 (w7 : Int)) := akOr_u64 m6 l7 e7
  have hw : HiW w7 l := by
    refine ⟨m7, fun i x hi hx hb => ?_⟩
    have e : w7 = ((((((x0.toNat ||| y1) ||| y2) ||| y3) ||| y4) ||| y5) ||| y6) ||| y7 := by rw [e7, e6, e5, e4, e3, e2, e1]
    rw [e]
    simp only [Nat.testBit_or, Bool.or_eq_true]
    match i, hi with
    | 0, _ => rw [hx0] at hx; cases hx; simp [hb]
    | 1, _ => rw [hx1] at hx; cases hx; have := t1 hb; simp [this]
    | 2, _ => rw [hx2] at hx; cases hx; have := t2 hb; simp [this]
    | 3, _ => rw [hx3] at hx; cases hx; have := t3 hb; simp [this]
    | 4, _ => rw [hx4] at hx; cases hx; have := t4 hb; simp [this]
    | 5, _ => rw [hx5] at hx; cases hx; have := t5 hb; simp [this]
    | 6, _ => rw [hx6] at hx; cases hx; have := t6 hb; simp [this]
    | 7, _ => rw [hx7] at hx; cases hx; have := t7 hb; simp [this]
  clear e1 e2 e3 e4 e5 e6 e7 t1 t2 t3 t4 t5 t6 t7 m1 m2 m3 m4 m5 m6 m7 l1 l2 l3 l4 l5 l6 l7 or_lt hx0 hx1 hx2 hx3 hx4 hx5 hx6 hx7
  refine WD.seqR ?_
  refine WDO.looks1 tyOk extOk 1 (ls := [⟨lkMove (.const (.int .u64 0)), (some 2), none⟩]) (by kernel_rfl) (by simp (disch := omega) []; exact rfl) ?_
  refine WDO.nilS (WD.seq (WD.cond (t := false) (by simp) (by simp) fun _ => WD.skip (.inl rfl) (WD.seq ?_)))
  have hr : ∃ l2, runDk qN3_3 (tl [(2, .int .u64 0), (0, v)]) H = some (tl l2) ∧ tget 2 l2 = some (.int .u64 (w7 : Int)) := ⟨_, by
    iterate 47 (first | (refine dkSkip ?_ ?_; focus (simp; done)) | refine dkStep (by first | rfl | (simp [-resL_cons, resL_cc]; exact rfl)) (by simp) (by simp (disch := omega) [hv, hg, b0, b1, b2, b3, b4, b5, b6, b7, c0, c1, c2, c3, c4, c5, c6, c7, s1, s2, s3, s4, s5, s6, s7, o1, o2, o3, o4, o5, o6, o7]; exact rfl) ?_)
    exact rfl, by simp⟩
  obtain ⟨l2, hr1, hr2⟩ := hr
  refine WD.drawLooks tyOk extOk (by kernel_rfl) (ls := qN3_3) (by kernel_rfl) hr1 ?_
  exact WD.ret (endR _ (by simp [hr2]; rfl) ⟨⟨w7, rfl, hw⟩, rfl⟩)
def S172 : Nat → AV → AH → AV → AH → Prop := fun _ a Hx v' H2 => H2 = Hx ∧ ∀ (v : AV) (l : List UInt8), a = .cons v .nil → RdS Hx v l → ∃ w : Nat, v' = .int .u64 (w : Int) ∧ HiW w l
theorem wordB_S {H : AH} {v : AV} {l : List UInt8} (h : RdS H v l) (hl : l.length < 17179869184) (h8 : 8 ≤ l.length) : DC Tryz.prog .normal 172 (.cons v .nil) H (S172 172 (.cons v .nil) H) :=
  (wordB_ok h hl h8).mono fun v' H2 ⟨⟨w, h1, h2⟩, h3⟩ => ⟨h3, fun v2 l' e hr => by
    injection e with e _
    subst e
    have := h.inj hr
    subst this
    exact ⟨w, h1, h2⟩⟩
set_option maxHeartbeats 4000000 in
theorem validB_ok {H : AH} {v : AV} {l : List UInt8} (h : Sl8 H v l) (hnil : l = [] → v = .snil) (hl : l.length < 17179869184) (hG : GlobU H) (hu : utf8L l = true) : DC Tryz.prog .normal 138 (.cons v .nil) H fun v' H2 => v' = .bool true ∧ Keep noB H H2 := by
  refine DC.of_wd (re := reTmp 2 reNil) tyOk Tryz.func138 (by kernel_rfl) rfl (by kernel_rfl) (by kernel_rfl) ?_
  rw [tl_nil, argsT_cons, argsT_nil]
  have hlen := h.rd.len
  obtain ⟨v1, hv1, hs1⟩ : ∃ v1, slD 1 0 l.length l.length v H = some v1 ∧ Sl8 H v1 l := by
    by_cases hn : l = []
    · rw [hnil hn] at h ⊢
      subst hn
      exact ⟨.snil, rfl, h⟩
    · obtain ⟨v1, a1, a2, _⟩ := h.whole hn
      exact ⟨v1, a1, a2⟩
  refine WD.seqR ?_
  refine WDO.looks1 tyOk extOk 1 (ls := [xZ false 2]) (by kernel_rfl) (by simp (disch := omega) []; exact rfl) ?_
  refine WDO.nilS (WD.seqR ?_)
  refine WDO.looks1 tyOk extOk 7 (ls := [xM 0 7, xM 0 8, xN 8 9, xM 0 10, xN 10 11, ⟨⟨slSl 1 (.tmp 7) none (some (.tmp 9)) (some (.tmp 11))⟩, (some 12), none⟩, xM 12 0]) (by kernel_rfl) (by simp (disch := omega) [hlen, hv1]; exact rfl) ?_
  refine WDO.nilS (WD.seq ?_)
  refine WD.forWC (σ := AV × List UInt8) (fun s => [(0, s.1)]) (fun s H' => utf8L s.2 = true ∧ s.2.length ≤ l.length ∧ Keep noB H H' ∧ Sl8 H' s.1 s.2) (fun s => s.2.length) (v1, l) ⟨hu, Nat.le_refl _, Keep.refl _ _, hs1⟩ (by simp) ?_
  rintro ⟨u, q⟩ H' ⟨hu, hle, hk, hq⟩
  simp only at hu hle hq
  have hGk := hG.keep hk fun _ _ => id
  have hlq := hq.rd.len
  refine WDO.looks1 tyOk extOk 3 (ls := [xM 0 13, xN 13 14, xC akGtr 14 0 15]) (by kernel_rfl) (by simp (disch := omega) [hlq]; exact rfl) ?_
  refine WDO.nil ⟨decide (0 < q.length), _, rfl, by simp, fun hc => ?_, fun hc => ?_⟩
  · refine WD.seqR ?_
    refine WDO.looks1 tyOk extOk 1 (ls := [xZ true 2]) (by kernel_rfl) (by simp (disch := omega) []; exact rfl) ?_
    exact WDO.nilS (WD.ret (endR _ (by simp; rfl) ⟨rfl, hk⟩))
  · have hc : 0 < q.length := of_decide_eq_true hc
    obtain ⟨c, r, rfl⟩ : ∃ c r, q = c :: r := by
      cases q with
      | nil => simp at hc
      | cons c r => exact ⟨c, r, rfl⟩
    obtain ⟨vb, off, cap, o, hv, hg, hby⟩ := hq.pos hc
    rw [List.length_cons] at hv
    subst hv
    have hb0 : rdCell o off = some (.int .u8 (c.toNat : Int)) := hby 0 c rfl
    have hcl := c.toNat_lt
    simp only [List.length_cons] at hle hc
    obtain ⟨u1, a1, q1, _⟩ := hq.drop 1 (by simp) (by simp)
    have hl1 := q1.rd.len
    rw [List.drop_succ_cons, List.drop_zero] at q1 hl1
    refine WD.seqR ?_
    refine WDO.looks1 tyOk extOk 4 (ls := [xM 0 16, ⟨⟨ixSl 1 (.tmp 16) (.const (.int .i64 0))⟩, (some 17), none⟩, xL 17 18, xM 18 3]) (by kernel_rfl) (by simp (disch := omega) [hg, hb0]; exact rfl) ?_
    refine WDO.nilS (WD.seq (WD.seqR ?_))
    by_cases h1 : c.toNat < 128
    · refine WDO.looks1 tyOk extOk 2 (ls := [xM 3 19, ⟨⟨binInt akLss (.tmp 19) (.const (.int .u8 128))⟩, (some 20), none⟩]) (by kernel_rfl) (by simp (disch := omega) [decT]; exact rfl) ?_
      refine WDO.nilS (WD.cond (t := true) (by simp) (fun _ => WD.seqR ?_) (by simp))
      refine WDO.looks1 tyOk extOk 3 (ls := [xM 0 21, ⟨⟨slSl 1 (.tmp 21) (some (.const (.int .i64 1))) none none⟩, (some 22), none⟩, xM 22 0]) (by kernel_rfl) (by simp (disch := omega) [a1]; exact rfl) ?_
      have hur : utf8L r = true := by rw [utf8L_step (letterN_ascii h1) (by omega)] at hu; exact hu
      refine WDO.nilS (WD.seq (WD.mono (Q := fun o => ∃ (q' : List UInt8) (u' : AV) (l' : List (Nat × AV)), o = .nor (tl l') [] H' ∧ tget 0 l' = some u' ∧ Sl8 H' u' q' ∧ utf8L q' = true ∧ q'.length ≤ r.length) ?_ ?_))
      · refine WD.seqR ?_
        by_cases h2 : 8 < r.length
        · have hrn : r ≠ [] := by intro e; subst e; simp at h2
          refine WDO.looks1 tyOk extOk 5 (ls := [xM 0 23, xN 23 24, xC akGtr 24 8 25, xM 25 26, yM 0 27 26 true]) (by kernel_rfl) (by simp (disch := omega) [hl1, decT]; exact rfl) ?_
          refine WDO.callG (g := 172) (gd := some (26, true)) rfl rfl (by kernel_rfl) (by simp) (by kernel_rfl) (l := .cons u1 .nil) (by simp) (wordB_ok q1.rd (by omega) (by omega)) fun x H2 ⟨⟨w, hw1, hw2⟩, hH⟩ => ?_
          subst hw1
          subst hH
          obtain ⟨a, ha⟩ : ∃ a, a = w &&& 9259542123273814144 := ⟨_, rfl⟩
          have gA : akAnd.f .u64 (w : Int) 9259542123273814144 = some (.int .u64 (a : Int)) := akAnd_hm hw2.lt ha
          by_cases h3 : a = 0
          · subst h3
            have hlow := hw2.low fun i hi => and_hm ha.symm hi
            have hu2 : utf8L (r.drop 8) = true := by rw [← utf8L_ascii 8 r (by omega) fun i x hi hx => hlow i x hi hx]; exact hur
            have hl2 : (r.drop 8).length = r.length - 8 := List.length_drop
            obtain ⟨u2, a2, q2, _⟩ := q1.drop 8 (by omega) hrn
            refine WDO.looks1 tyOk extOk 3 (ls := qN3_6) (by kernel_rfl) (by simp (disch := omega) [gA]; exact rfl) ?_
            refine WDO.nilS (WD.cond (t := true) (by simp) (fun _ => WD.seqR ?_) (by simp))
            refine WDO.looks1 tyOk extOk 3 (ls := [xM 0 32, ⟨⟨slSl 1 (.tmp 32) (some (.const (.int .i64 8))) none none⟩, (some 33), none⟩, xM 33 0]) (by kernel_rfl) (by simp (disch := omega) [a2]; exact rfl) ?_
            refine WDO.nilS ?_
            generalize hr2 : r.drop 8 = r2 at hu2 hl2 q2 ⊢
            refine WD.mono (Q := fun o => ∃ (q' : List UInt8) (u' : AV) (l' : List (Nat × AV)), o = .nor (tl l') [] H2 ∧ tget 0 l' = some u' ∧ Sl8 H2 u' q' ∧ utf8L q' = true ∧ q'.length ≤ r2.length) ?_ fun o ⟨q', u', l', g0, g1, g2, g3, g4⟩ => ⟨q', u', l', g0, g1, g2, g3, by omega⟩
            refine WD.seq ?_
            have hm2 : r2.length < 17179869184 := by omega
            have hln2 := q2.rd.len
            clear hl2 hr2 hlow hw2 gA ha h2 hur h1
            by_cases h4 : 16 < r2.length
            · have hr2n : r2 ≠ [] := by intro e; subst e; simp at h4
              obtain ⟨u3, a3, q3, _⟩ := q2.drop 8 (by omega) hr2n
              obtain ⟨u4, a4, q4, _⟩ := q2.drop 16 (by omega) hr2n
              obtain ⟨R, hR, hRc⟩ := specR_ex Tryz.prog S172
              refine WD.drawnK tyOk extOk (by kernel_rfl) (ls := qN3_1) (by kernel_rfl) hR fun K hK => ?_
              simp (disch := omega) [decT, hln2, a3]
              have hl8 : (r2.drop 8).length = r2.length - 8 := List.length_drop
              obtain ⟨x1, H1, c1, rfl, p1⟩ := hRc 172 _ _ (wordB_S q2.rd hm2 (by omega))
              obtain ⟨w1, rfl, hw1⟩ := p1 _ _ rfl q2.rd
              refine diCall (by simp) (extFree _ _ _ rfl rfl rfl) c1 (Nat.le_refl _) ?_
              simp (disch := omega) []
              obtain ⟨x2, H2, c2, rfl, p2⟩ := hRc 172 _ _ (wordB_S q3.rd (by omega) (by omega))
              obtain ⟨w2, rfl, hw2⟩ := p2 _ _ rfl q3.rd
              refine diCall (by simp) (extFree _ _ _ rfl rfl rfl) c2 (Nat.le_refl _) ?_
              obtain ⟨o1, ho1⟩ : ∃ o, o = w1 ||| w2 := ⟨_, rfl⟩
              obtain ⟨a, ha⟩ : ∃ a, a = o1 &&& 9259542123273814144 := ⟨_, rfl⟩
              have gO : akOr.f .u64 (w1 : Int) (w2 : Int) = some (.int .u64 (o1 : Int)) := akOr_u64 hw1.lt hw2.lt ho1
              have gA : akAnd.f .u64 (o1 : Int) 9259542123273814144 = some (.int .u64 (a : Int)) := akAnd_hm (by rw [ho1]; exact or_lt64 hw1.lt hw2.lt) ha
              by_cases h3 : a = 0
              · subst h3
                simp (disch := omega) [gO, gA]
                have hbits : ∀ i, i < 8 → w1.testBit (8 * i + 7) = false ∧ w2.testBit (8 * i + 7) = false := fun i hi => or_bits (by rw [← ho1]; exact and_hm ha.symm hi)
                have low1 := hw1.low fun i hi => (hbits i hi).1
                have low2 := low_at (hw2.low fun i hi => (hbits i hi).2)
                have hu3 : utf8L (r2.drop 16) = true := by
                  rw [← utf8L_ascii 16 r2 (by omega) fun i x hi hx => by
                    rcases Nat.lt_or_ge i 8 with h | h
                    · exact low1 i x h hx
                    · exact low2 i x h (by omega) hx]
                  exact hu2
                clear hbits low1 low2 hw1 hw2 gO gA ho1 ha p1 p2 c1 c2
                refine ⟨by (repeat' apply And.intro) <;> first | assumption | omega, hK _ _ ?_⟩
                clear hK hRc hR
                refine WD.cond (t := true) (by simp) (fun _ => ?_) (by simp)
                refine WD.seqR ?_
                refine WDO.looks1 tyOk extOk 3 (ls := [xM 0 47, ⟨⟨slSl 1 (.tmp 47) (some (.const (.int .i64 16))) none none⟩, (some 48), none⟩, xM 48 0]) (by kernel_rfl) (by simp (disch := omega) [a4]; exact rfl) ?_
                refine WDO.nilS ?_
                refine WD.block (WD.loopS (σ := AV × List UInt8) (fun s => [(0, s.1)]) (fun s H3 => utf8L s.2 = true ∧ s.2.length ≤ r2.length ∧ H3 = H2 ∧ Sl8 H2 s.1 s.2) (fun s => s.2.length) (u4, r2.drop 16) ⟨hu3, by simp, rfl, q4⟩ (by simp) ?_)
                rintro ⟨y, q⟩ H3 ⟨hq1, hq2, rfl, hq3⟩
                simp only at hq1 hq2 hq3
                have hly := hq3.rd.len
                refine WD.seq (WD.seq ?_)
                by_cases h5 : 32 < q.length
                · have hqn : q ≠ [] := by intro e; subst e; simp at h5
                  have hl8 : (q.drop 8).length = q.length - 8 := List.length_drop
                  have hl16 : (q.drop 16).length = q.length - 16 := List.length_drop
                  have hl24 : (q.drop 24).length = q.length - 24 := List.length_drop
                  obtain ⟨y8, b1, t1, _⟩ := hq3.drop 8 (by omega) hqn
                  obtain ⟨y16, b2, t2, _⟩ := hq3.drop 16 (by omega) hqn
                  obtain ⟨y24, b3, t3, _⟩ := hq3.drop 24 (by omega) hqn
                  obtain ⟨y32, b4, t4, _⟩ := hq3.drop 32 (by omega) hqn
                  obtain ⟨R, hR, hRc⟩ := specR_ex Tryz.prog S172
                  refine WD.drawnK tyOk extOk (by kernel_rfl) (ls := qN3_2) (by kernel_rfl) hR fun K hK => ?_
                  simp (disch := omega) [decT, hly, b1, b2, b3]
                  obtain ⟨x1, H4, c1, e1, p1⟩ := hRc 172 _ _ (wordB_S hq3.rd (by omega) (by omega))
                  obtain ⟨w1, rfl, hw1⟩ := p1 _ _ rfl hq3.rd
                  subst e1
                  refine diCall (by simp) (extFree _ _ _ rfl rfl rfl) c1 (Nat.le_refl _) ?_
                  simp (disch := omega) []
                  obtain ⟨x2, H5, c2, e2, p2⟩ := hRc 172 _ _ (wordB_S t1.rd (by omega) (by omega))
                  obtain ⟨w2, rfl, hw2⟩ := p2 _ _ rfl t1.rd
                  subst e2
                  refine diCall (by simp) (extFree _ _ _ rfl rfl rfl) c2 (Nat.le_refl _) ?_
                  obtain ⟨o1, ho1⟩ : ∃ o, o = w1 ||| w2 := ⟨_, rfl⟩
                  have gO1 : akOr.f .u64 (w1 : Int) (w2 : Int) = some (.int .u64 (o1 : Int)) := akOr_u64 hw1.lt hw2.lt ho1
                  have o1l : o1 < 18446744073709551616 := by rw [ho1]; exact or_lt64 hw1.lt hw2.lt
                  simp (disch := omega) [gO1]
                  obtain ⟨x3, H6, c3, e3, p3⟩ := hRc 172 _ _ (wordB_S t2.rd (by omega) (by omega))
                  obtain ⟨w3, rfl, hw3⟩ := p3 _ _ rfl t2.rd
                  subst e3
                  refine diCall (by simp) (extFree _ _ _ rfl rfl rfl) c3 (Nat.le_refl _) ?_
                  simp (disch := omega) []
                  obtain ⟨x4, H7, c4, e4, p4⟩ := hRc 172 _ _ (wordB_S t3.rd (by omega) (by omega))
                  obtain ⟨w4, rfl, hw4⟩ := p4 _ _ rfl t3.rd
                  subst e4
                  refine diCall (by simp) (extFree _ _ _ rfl rfl rfl) c4 (Nat.le_refl _) ?_
                  obtain ⟨o2, ho2⟩ : ∃ o, o = w3 ||| w4 := ⟨_, rfl⟩
                  have gO2 : akOr.f .u64 (w3 : Int) (w4 : Int) = some (.int .u64 (o2 : Int)) := akOr_u64 hw3.lt hw4.lt ho2
                  have o2l : o2 < 18446744073709551616 := by rw [ho2]; exact or_lt64 hw3.lt hw4.lt
                  obtain ⟨o3, ho3⟩ : ∃ o, o = o1 ||| o2 := ⟨_, rfl⟩
                  have gO3 : akOr.f .u64 (o1 : Int) (o2 : Int) = some (.int .u64 (o3 : Int)) := akOr_u64 o1l o2l ho3
                  have o3l : o3 < 18446744073709551616 := by rw [ho3]; exact or_lt64 o1l o2l
                  obtain ⟨a, ha⟩ : ∃ a, a = o3 &&& 9259542123273814144 := ⟨_, rfl⟩
                  have gA : akAnd.f .u64 (o3 : Int) 9259542123273814144 = some (.int .u64 (a : Int)) := akAnd_hm o3l ha
                  by_cases h6 : a = 0
                  · subst h6
                    simp (disch := omega) [gO2, gO3, gA]
                    have hb3 : ∀ i, i < 8 → o1.testBit (8 * i + 7) = false ∧ o2.testBit (8 * i + 7) = false := fun i hi => or_bits (by rw [← ho3]; exact and_hm ha.symm hi)
                    have hb1 : ∀ i, i < 8 → w1.testBit (8 * i + 7) = false ∧ w2.testBit (8 * i + 7) = false := fun i hi => or_bits (by rw [← ho1]; exact (hb3 i hi).1)
                    have hb2 : ∀ i, i < 8 → w3.testBit (8 * i + 7) = false ∧ w4.testBit (8 * i + 7) = false := fun i hi => or_bits (by rw [← ho2]; exact (hb3 i hi).2)
                    have low1 := hw1.low fun i hi => (hb1 i hi).1
                    have low2 := low_at (hw2.low fun i hi => (hb1 i hi).2)
                    have low3 := low_at (hw3.low fun i hi => (hb2 i hi).1)
                    have low4 := low_at (hw4.low fun i hi => (hb2 i hi).2)
                    have hu4 : utf8L (q.drop 32) = true := by
                      rw [← utf8L_ascii 32 q (by omega) fun i x hi hx => by
                        rcases Nat.lt_or_ge i 8 with h | h
                        · exact low1 i x h hx
                        · rcases Nat.lt_or_ge i 16 with h' | h'
                          · exact low2 i x h (by omega) hx
                          · rcases Nat.lt_or_ge i 24 with h'' | h''
                            · exact low3 i x h' (by omega) hx
                            · exact low4 i x h'' (by omega) hx]
                      exact hq1
                    refine ⟨by (repeat' apply And.intro) <;> first | assumption | omega, hK _ _ ?_⟩
                    refine WD.cond (t := true) (by simp) (fun _ => WD.skip (.inl rfl) ?_) (by simp)
                    refine WD.block (WD.region ?_)
                    refine WDO.looks1 tyOk extOk 3 (ls := [xM 0 70, ⟨⟨slSl 1 (.tmp 70) (some (.const (.int .i64 32))) none none⟩, (some 71), none⟩, xM 71 0]) (by kernel_rfl) (by simp (disch := omega) [b4]; exact rfl) ?_
                    exact WDO.nil ⟨rfl, (y32, q.drop 32), _, rfl, by simp, ⟨hu4, by simp; omega, rfl, t4⟩, by simp; omega⟩
                  · simp (disch := omega) [gO2, gO3, gA, h6]
                    refine ⟨by (repeat' apply And.intro) <;> first | assumption | omega, hK _ _ ?_⟩
                    refine WD.cond (t := false) (by simp) (by simp) fun _ => WD.exit ?_
                    exact ⟨q, y, _, rfl, by simp, hq3, hq1, hq2⟩
                · skip
                  obtain ⟨R, hR, hRc⟩ := specR_ex Tryz.prog S172
                  refine WD.drawnK tyOk extOk (by kernel_rfl) (ls := qN3_2) (by kernel_rfl) hR fun K hK => ?_
                  simp (disch := omega) [decF, hly]
                  refine hK _ _ ?_
                  refine WD.cond (t := false) (by simp) (by simp) fun _ => WD.exit ?_
                  exact ⟨q, y, _, rfl, by simp, hq3, hq1, hq2⟩
              · simp (disch := omega) [gO, gA, h3]
                refine ⟨by (repeat' apply And.intro) <;> first | assumption | omega, hK _ _ ?_⟩
                refine WD.cond (t := false) (by simp) (by simp) fun _ => WD.skip (.inl rfl) ?_
                exact ⟨r2, u2, _, rfl, by simp, q2, hu2, Nat.le_refl _⟩
            · skip
              obtain ⟨R, hR, hRc⟩ := specR_ex Tryz.prog S172
              refine WD.drawnK tyOk extOk (by kernel_rfl) (ls := qN3_1) (by kernel_rfl) hR fun K hK => ?_
              simp (disch := omega) [decF, hln2]
              refine hK _ _ ?_
              refine WD.cond (t := false) (by simp) (by simp) fun _ => WD.skip (.inl rfl) ?_
              exact ⟨r2, u2, _, rfl, by simp, q2, hu2, Nat.le_refl _⟩
          · refine WDO.looks1 tyOk extOk 3 (ls := qN3_6) (by kernel_rfl) (by simp (disch := omega) [gA, h3]; exact rfl) ?_
            refine WDO.nilS (WD.cond (t := false) (by simp) (by simp) fun _ => WD.skip (.inl rfl) ?_)
            exact ⟨r, u1, _, rfl, by simp, q1, hur, Nat.le_refl _⟩
        · refine WDO.looks1 tyOk extOk 5 (ls := [xM 0 23, xN 23 24, xC akGtr 24 8 25, xM 25 26, yM 0 27 26 true]) (by kernel_rfl) (by simp (disch := omega) [hl1, decF]; exact rfl) ?_
          refine WDO.skipG (g := some (26, true)) (by kernel_rfl) (by simp) (by kernel_rfl) ?_
          refine WDO.looks1 tyOk extOk 3 (ls := qN3_6) (by kernel_rfl) (by simp (disch := omega) []; exact rfl) ?_
          refine WDO.nilS (WD.cond (t := false) (by simp) (by simp) fun _ => WD.skip (.inl rfl) ?_)
          exact ⟨r, u1, _, rfl, by simp, q1, hur, Nat.le_refl _⟩
      · rintro o ⟨q', u', l', rfl, g1, g2, g3, g4⟩
        exact WD.exit ⟨rfl, rfl, (u', q'), l', rfl, by simp [g1], ⟨g3, by simp only; omega, hk, g2⟩, by simp only [List.length_cons]; omega⟩
    · have hln0 := letter_parts hu h1
      refine WDO.looks1 tyOk extOk 2 (ls := [xM 3 19, ⟨⟨binInt akLss (.tmp 19) (.const (.int .u8 128))⟩, (some 20), none⟩]) (by kernel_rfl) (by simp (disch := omega) [decF]; exact rfl) ?_
      refine WDO.nilS (WD.cond (t := false) (by simp) (by simp) fun _ => WD.skip (.inl rfl) ?_)
      refine WD.seqR ?_
      obtain ⟨hn2, ⟨fo, f1, f2⟩, ⟨ao, a1', a2'⟩⟩ := hGk
      have hf := f2 c.toNat (by omega)
      refine WDO.looks1 tyOk extOk 4 (ls := [xM 3 72, ⟨⟨ixArr 256 1 (.global 1) (.tmp 72)⟩, (some 73), none⟩, xL 73 74, xM 74 4]) (by kernel_rfl) (by simp (disch := omega) [opnd_g1, f1, hf]; exact rfl) ?_
      refine WDO.nilS (WD.seqR ?_)
      have fin : (lead c.toNat).1 ≠ 0 := fun h0 => hln0 (by
        unfold letterN
        dsimp only
        rw [if_neg h1, if_pos (.inl h0)])
      rcases first_cases (c := c.toNat) (by omega) hcl with ⟨n, i, k1, k2, k3, k4, k5⟩ | ⟨k1, k2, k3⟩
      rotate_left
      · exact absurd k3 fin
      obtain ⟨ha1, ha2⟩ := a2' i k3
      have hcells : rdCells ao 2 (2 * i) = some (.cons (.int .u8 (accLo i : Int)) (.cons (.int .u8 (accHi i : Int)) .nil)) := by
        refine rdCells_of [.int .u8 (accLo i : Int), .int .u8 (accHi i : Int)] (2 * i) fun j v hj => ?_
        match j, hj with
        | 0, hj => simp at hj; subst hj; exact ha1
        | 1, hj => simp at hj; subst hj; exact ha2
        | j + 2, hj => simp at hj
      have gn : mkInt .i64 (n : Int) = some (.int .i64 (n : Int)) := mkInt_i64 (by omega) (by omega)
      rw [Nat.mul_comm] at hcells
      refine WDO.looks1 tyOk extOk 4 (ls := [xM 4 75, ⟨⟨binInt akAnd (.tmp 75) (.const (.int .u8 7))⟩, (some 76), none⟩, ⟨⟨cvInt .i64 (.tmp 76)⟩, (some 77), none⟩, xM 77 5]) (by kernel_rfl) (by simp (disch := omega) [k1, gn]; exact rfl) ?_
      refine WDO.nilS (WD.seqR ?_)
      refine WDO.looks1 tyOk extOk 4 (ls := [xM 4 78, ⟨⟨binShr (.tmp 78) (.const (.int .u64 4))⟩, (some 79), none⟩, ⟨⟨ixArr 16 2 (.global 2) (.tmp 79)⟩, (some 80), none⟩, xD 2 80 81]) (by kernel_rfl) (by simp (disch := omega) [opnd_g2, k2, a1', hcells]; exact rfl) ?_
      refine WDO.fresh1 tyOk (k := ⟨frAlloc (.cs 253 2 2 false (.cons (.int .u8 0) (.cons (.int .u8 0) .nil)) .e)⟩) (by kernel_rfl) rfl (by kernel_rfl) (v := .ptr H'.next 0) (x := .cs 253 2 2 false (.cons (.int .u8 0) (.cons (.int .u8 0) .nil)) .e) ?_ ?_
      · simp
      have b1 := Bx.new (enc := encA) (e := 253) (es := 2) (z := .cons (.int .u8 0) (.cons (.int .u8 0) .nil)) (a := (0, 0)) encA_len rfl H' (n := 2) rfl
      obtain ⟨H2, s1, s2, s3, s4⟩ := b1.store encA_len (accLo i, accHi i) (cells_encA _)
      have kn2 : Keep noB H' H2 := (Keep.new _ _ _).trans' s4 fun b hb e => by omega
      have kq : Keep noB H H2 := hk.trans kn2
      refine WDO.heavy1 tyOk extOk (k := ⟨hvStore ⟨stN 2⟩ (.tmp 6) (.tmp 81)⟩) (by kernel_rfl) rfl (by kernel_rfl) (by simp only [encA, avl_cons, avl_nil] at s1; simp [s1]; exact ⟨rfl, rfl⟩) ?_
      refine WDO.nilS (WD.seqR ?_)
      refine WDO.looks1 tyOk extOk 1 (ls := [xM 5 82]) (by kernel_rfl) (by simp (disch := omega) []; exact rfl) ?_
      refine WDO.nilS (WD.block ?_)
      obtain ⟨oo, g0, g1, _⟩ := s3.get encA_len
      have gl : rdCell oo 0 = some (.int .u8 (accLo i : Int)) := g1 0 _ rfl
      have gh : rdCell oo 1 = some (.int .u8 (accHi i : Int)) := g1 1 _ rfl
      have hq := hq.keep kn2 fun _ _ => id
      have hlq := hq.rd.len
      obtain ⟨vb', off', cap', o', hv', hg', hby'⟩ := hq.pos (by simp)
      injection hv' with e1 e2 _ e4
      subst e1 e2 e4
      have hshort : n ≤ r.length + 1 := by
        rcases Nat.lt_or_ge (r.length + 1) n with h | h
        · exact absurd (ln_short h1 k4 k5 h) hln0
        · exact h
      have hx1 : (c :: r)[1]? = some (r[0]'(by omega)) := by rw [List.getElem?_cons_succ]; exact List.getElem?_eq_getElem _
      have hr0 : r[0]? = some (r[0]'(by omega)) := List.getElem?_eq_getElem _
      generalize r[0]'_ = d0 at hx1 hr0
      have hb1 := hby' 1 d0 hx1
      have j1 : ¬ d0.toNat < accLo i := fun j => hln0 (ln_b0 h1 k4 k5 hshort hr0 (.inl j))
      have j2 : ¬ accHi i < d0.toNat := fun j => hln0 (ln_b0 h1 k4 k5 hshort hr0 (.inr j))
      simp only [List.length_cons] at hlq
      obtain ⟨un, an, qn, _⟩ := hq.drop n (by simp; omega) (by simp)
      generalize H'.next = N at g0 ⊢
      clear b1 s1 s2 s3 s4 hcells ha1 ha2 fin g1 hby hg hb0
      rcases k5 with rfl | rfl | rfl
      · have hln : letterN (c :: r) = 2 := ln_ok h1 k4 (.inl rfl) (by omega) (fun d hd => by rw [hr0] at hd; cases hd; omega) (fun h => by omega) (fun h => by omega)
        have hu' : utf8L ((c :: r).drop 2) = true := by rw [← utf8L_step hln (by omega)]; exact hu
        refine WD.seqR ?_
        refine WDO.looks1 tyOk extOk 2 (ls := [xC akEql 82 2 84, xM 84 83]) (by kernel_rfl) (by simp (disch := omega) []; exact rfl) ?_
        refine WDO.nilS (WD.cond (t := true) (by simp) (fun _ => WD.seq (WD.seq ?_)) (by simp))
        refine WD.keep (l := [(0, .sl vb off (r.length + 1) cap), (6, .ptr N 0)]) ?_ (by simp)
        refine WD.drawLooks tyOk extOk (by kernel_rfl) (ls := [⟨[0], lkMove (.tmp 0), (some 85), none⟩, ⟨[85], ⟨lenSl (.tmp 85)⟩, (some 86), none⟩, ⟨[86], ⟨binInt akLss (.tmp 86) (.const (.int .i64 2))⟩, (some 87), none⟩, ⟨[87], lkMove (.tmp 87), (some 88), none⟩, ⟨[0, 88], lkMove (.tmp 0), (some 89), (some (88, false))⟩, ⟨[89, 88], ⟨ixSl 1 (.tmp 89) (.const (.int .i64 1))⟩, (some 90), (some (88, false))⟩, ⟨[90, 88], ⟨ldA ⟨ld1⟩ (.tmp 90)⟩, (some 91), (some (88, false))⟩, ⟨[6, 88], ⟨fAddr (.tmp 6) 0⟩, (some 92), (some (88, false))⟩, ⟨[92, 88], ⟨ldA ⟨ld1⟩ (.tmp 92)⟩, (some 93), (some (88, false))⟩, ⟨[91, 93, 88], ⟨binInt akLss (.tmp 91) (.tmp 93)⟩, (some 94), (some (88, false))⟩, ⟨[88, 94], ⟨pickA (.tmp 88) (.const (.bool true)) (.tmp 94)⟩, (some 95), none⟩, ⟨[95], lkMove (.tmp 95), (some 96), none⟩, ⟨[6, 96], ⟨fAddr (.tmp 6) 1⟩, (some 97), (some (96, false))⟩, ⟨[97, 96], ⟨ldA ⟨ld1⟩ (.tmp 97)⟩, (some 98), (some (96, false))⟩, ⟨[0, 96], lkMove (.tmp 0), (some 99), (some (96, false))⟩, ⟨[99, 96], ⟨ixSl 1 (.tmp 99) (.const (.int .i64 1))⟩, (some 100), (some (96, false))⟩, ⟨[100, 96], ⟨ldA ⟨ld1⟩ (.tmp 100)⟩, (some 101), (some (96, false))⟩, ⟨[98, 101, 96], ⟨binInt akLss (.tmp 98) (.tmp 101)⟩, (some 102), (some (96, false))⟩, ⟨[96, 102], ⟨pickA (.tmp 96) (.const (.bool true)) (.tmp 102)⟩, (some 103), none⟩]) (by kernel_rfl) (by simp (disch := omega) [decF, g0, gl, gh, hb1, hg', hlq]; exact rfl) ?_
        refine WD.cond (t := false) (by simp) (by simp) fun _ => WD.skip (.inl rfl) ?_
        refine WD.region ?_
        refine WDO.looks1 tyOk extOk 3 (ls := [xM 0 104, ⟨⟨slSl 1 (.tmp 104) (some (.const (.int .i64 2))) none none⟩, (some 105), none⟩, xM 105 0]) (by kernel_rfl) (by simp (disch := omega) [an]; exact rfl) ?_
        exact WDO.nil ⟨rfl, (un, (c :: r).drop 2), _, rfl, by simp, ⟨hu', by simp; omega, kq, qn⟩, by simp; omega⟩
      · have hx2 : (c :: r)[2]? = some (r[1]'(by omega)) := by rw [List.getElem?_cons_succ]; exact List.getElem?_eq_getElem _
        have hr1 : r[1]? = some (r[1]'(by omega)) := List.getElem?_eq_getElem _
        generalize r[1]'_ = d1 at hx2 hr1
        have hb2 := hby' 2 d1 hx2
        have j3 : ¬ d1.toNat < 128 := fun j => hln0 (ln_b1 h1 k4 (.inr (.inl rfl)) hshort (by omega) hr1 (.inl j))
        have j4 : ¬ 191 < d1.toNat := fun j => hln0 (ln_b1 h1 k4 (.inr (.inl rfl)) hshort (by omega) hr1 (.inr j))
        have hln : letterN (c :: r) = 3 := ln_ok h1 k4 (.inr (.inl rfl)) (by omega) (fun d hd => by rw [hr0] at hd; cases hd; omega) (fun _ d hd => by rw [hr1] at hd; cases hd; omega) (fun h => by omega)
        have hu' : utf8L ((c :: r).drop 3) = true := by rw [← utf8L_step hln (by omega)]; exact hu
        refine WD.seqR ?_
        refine WDO.looks1 tyOk extOk 2 (ls := [xC akEql 82 2 84, xM 84 83]) (by kernel_rfl) (by simp (disch := omega) []; exact rfl) ?_
        refine WDO.nilS (WD.cond (t := false) (by simp) (by simp) fun _ => WD.seqR ?_)
        refine WDO.looks1 tyOk extOk 2 (ls := [xC akEql 82 3 107, xM 107 106]) (by kernel_rfl) (by simp (disch := omega) []; exact rfl) ?_
        refine WDO.nilS (WD.cond (t := true) (by simp) (fun _ => WD.seq (WD.seq ?_)) (by simp))
        refine WD.keep (l := [(0, .sl vb off (r.length + 1) cap), (6, .ptr N 0)]) ?_ (by simp)
        have f3 : ¬ (r.length : Int) + 1 < 3 := by omega
        have hr : ∃ l2, runDk qN3_4 (tl [(0, .sl vb off (r.length + 1) cap), (6, .ptr N 0)]) H2 = some (tl l2) ∧ tget 138 l2 = some (.bool false) ∧ tget 0 l2 = some (.sl vb off (r.length + 1) cap) := ⟨_, by
          iterate 31 (first | (refine dkSkip ?_ ?_; focus (simp; done)) | refine dkStep (by first | rfl | (simp [-resL_cons, resL_cc]; exact rfl)) (by simp) (by simp (disch := omega) [decF, g0, gl, gh, hb1, hb2, hg', f3]; exact rfl) ?_)
          exact rfl, by simp, by simp⟩
        obtain ⟨l2, ht1, ht2, ht3⟩ := hr
        refine WD.drawLooks tyOk extOk (by kernel_rfl) (ls := qN3_4) (by kernel_rfl) ht1 ?_
        refine WD.cond (t := false) (by simp [ht2]) (by simp) fun _ => WD.skip (.inl rfl) ?_
        refine WD.region ?_
        refine WDO.looks1 tyOk extOk 3 (ls := [xM 0 139, ⟨⟨slSl 1 (.tmp 139) (some (.const (.int .i64 3))) none none⟩, (some 140), none⟩, xM 140 0]) (by kernel_rfl) (by simp (disch := omega) [ht3, an]; exact rfl) ?_
        exact WDO.nil ⟨rfl, (un, (c :: r).drop 3), _, rfl, by simp, ⟨hu', by simp; omega, kq, qn⟩, by simp; omega⟩
      · have hx2 : (c :: r)[2]? = some (r[1]'(by omega)) := by rw [List.getElem?_cons_succ]; exact List.getElem?_eq_getElem _
        have hr1 : r[1]? = some (r[1]'(by omega)) := List.getElem?_eq_getElem _
        generalize r[1]'_ = d1 at hx2 hr1
        have hb2 := hby' 2 d1 hx2
        have hx3 : (c :: r)[3]? = some (r[2]'(by omega)) := by rw [List.getElem?_cons_succ]; exact List.getElem?_eq_getElem _
        have hr2 : r[2]? = some (r[2]'(by omega)) := List.getElem?_eq_getElem _
        generalize r[2]'_ = d2 at hx3 hr2
        have hb3 := hby' 3 d2 hx3
        have j3 : ¬ d1.toNat < 128 := fun j => hln0 (ln_b1 h1 k4 (.inr (.inr rfl)) hshort (by omega) hr1 (.inl j))
        have j4 : ¬ 191 < d1.toNat := fun j => hln0 (ln_b1 h1 k4 (.inr (.inr rfl)) hshort (by omega) hr1 (.inr j))
        have j5 : ¬ d2.toNat < 128 := fun j => hln0 (ln_b2 h1 k4 (.inr (.inr rfl)) hshort (by omega) hr2 (.inl j))
        have j6 : ¬ 191 < d2.toNat := fun j => hln0 (ln_b2 h1 k4 (.inr (.inr rfl)) hshort (by omega) hr2 (.inr j))
        have hln : letterN (c :: r) = 4 := ln_ok h1 k4 (.inr (.inr rfl)) (by omega) (fun d hd => by rw [hr0] at hd; cases hd; omega) (fun _ d hd => by rw [hr1] at hd; cases hd; omega) (fun _ d hd => by rw [hr2] at hd; cases hd; omega)
        have hu' : utf8L ((c :: r).drop 4) = true := by rw [← utf8L_step hln (by omega)]; exact hu
        refine WD.seqR ?_
        refine WDO.looks1 tyOk extOk 2 (ls := [xC akEql 82 2 84, xM 84 83]) (by kernel_rfl) (by simp (disch := omega) []; exact rfl) ?_
        refine WDO.nilS (WD.cond (t := false) (by simp) (by simp) fun _ => WD.seqR ?_)
        refine WDO.looks1 tyOk extOk 2 (ls := [xC akEql 82 3 107, xM 107 106]) (by kernel_rfl) (by simp (disch := omega) []; exact rfl) ?_
        refine WDO.nilS (WD.cond (t := false) (by simp) (by simp) fun _ => WD.seqR ?_)
        refine WDO.looks1 tyOk extOk 2 (ls := [xC akEql 82 4 142, xM 142 141]) (by kernel_rfl) (by simp (disch := omega) []; exact rfl) ?_
        refine WDO.nilS (WD.cond (t := true) (by simp) (fun _ => WD.seq (WD.seq ?_)) (by simp))
        refine WD.keep (l := [(0, .sl vb off (r.length + 1) cap), (6, .ptr N 0)]) ?_ (by simp)
        have f3 : ¬ (r.length : Int) + 1 < 4 := by omega
        have hr : ∃ l2, runDk qN3_5 (tl [(0, .sl vb off (r.length + 1) cap), (6, .ptr N 0)]) H2 = some (tl l2) ∧ tget 185 l2 = some (.bool false) ∧ tget 0 l2 = some (.sl vb off (r.length + 1) cap) := ⟨_, by
          iterate 43 (first | (refine dkSkip ?_ ?_; focus (simp; done)) | refine dkStep (by first | rfl | (simp [-resL_cons, resL_cc]; exact rfl)) (by simp) (by simp (disch := omega) [decF, g0, gl, gh, hb1, hb2, hb3, hg', f3]; exact rfl) ?_)
          exact rfl, by simp, by simp⟩
        obtain ⟨l2, ht1, ht2, ht3⟩ := hr
        refine WD.drawLooks tyOk extOk (by kernel_rfl) (ls := qN3_5) (by kernel_rfl) ht1 ?_
        refine WD.cond (t := false) (by simp [ht2]) (by simp) fun _ => WD.skip (.inl rfl) ?_
        refine WD.region ?_
        refine WDO.looks1 tyOk extOk 3 (ls := [xM 0 186, ⟨⟨slSl 1 (.tmp 186) (some (.const (.int .i64 4))) none none⟩, (some 187), none⟩, xM 187 0]) (by kernel_rfl) (by simp (disch := omega) [ht3, an]; exact rfl) ?_
        exact WDO.nil ⟨rfl, (un, (c :: r).drop 4), _, rfl, by simp, ⟨hu', by simp; omega, kq, qn⟩, by simp; omega⟩
end
end Go.Proofs.YtfgipbjaapkdlaaGreatDoor
