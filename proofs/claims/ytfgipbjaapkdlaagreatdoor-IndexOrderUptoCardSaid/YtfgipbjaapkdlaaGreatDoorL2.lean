/- A part of the proof of this seat's statement. Conditions: in each theorem. -/
import Derived.Test.YtfgipbjaapkdlaaGreatDoorL1
namespace Go.Proofs.YtfgipbjaapkdlaaGreatDoor
open Go.Xq
noncomputable section
abbrev qM3_1 : List Lk := [⟨⟨binInt akAnd (.tmp 21) (.const (.int .u64 9259542123273814144))⟩, (some 22), (some (19, true))⟩, ⟨⟨binInt akEql (.tmp 22) (.const (.int .u64 0))⟩, (some 23), (some (19, true))⟩, xA 19 23 24 false]
abbrev qM3_2 : List Lk := [xM 4 68, ⟨⟨binInt akAnd (.tmp 68) (.const (.int .u8 7))⟩, (some 69), none⟩, ⟨⟨cvInt .i64 (.tmp 69)⟩, (some 70), none⟩, xM 70 5]
abbrev qM3_3 : List Lk := [xM 4 71, ⟨⟨binShr (.tmp 71) (.const (.int .u64 4))⟩, (some 72), none⟩, ⟨⟨ixArr 16 2 (.global 2) (.tmp 72)⟩, (some 73), none⟩, xD 2 73 74]
abbrev qM3_4 : List DI := [zM 0 27 0 1, ⟨[27], .look (⟨lenStr (.tmp 27)⟩), (some 28), none, 0, 1, false, false⟩, ⟨[28], .look (⟨binInt akGtr (.tmp 28) (.const (.int .i64 16))⟩), (some 29), none, 0, 1, false, false⟩, zM 29 30 0 1, ⟨[0, 30], .look (lkMove (.tmp 0)), (some 31), (some (30, true)), 0, 1, true, false⟩, ⟨[0, 30], .look (lkMove (.tmp 0)), (some 33), (some (30, true)), 0, 2, true, false⟩, ⟨[33, 30], .look (⟨slStr (.tmp 33) (some (.const (.int .i64 8))) none⟩), (some 34), (some (30, true)), 0, 2, false, false⟩, ⟨[31, 30], .heavy ⟨hvCallF E 229 (opnds [(.tmp 31)])⟩, (some 32), (some (30, true)), 0, 2, false, true⟩, ⟨[34, 30], .heavy ⟨hvCallF E 229 (opnds [(.tmp 34)])⟩, (some 35), (some (30, true)), 1, 2, false, true⟩, ⟨[32, 35, 30], .look (⟨binInt akOr (.tmp 32) (.tmp 35)⟩), (some 36), (some (30, true)), 2, 1, false, false⟩, ⟨[36, 30], .look (⟨binInt akAnd (.tmp 36) (.const (.int .u64 9259542123273814144))⟩), (some 37), (some (30, true)), 2, 1, false, false⟩, ⟨[37, 30], .look (⟨binInt akEql (.tmp 37) (.const (.int .u64 0))⟩), (some 38), (some (30, true)), 2, 1, false, false⟩, ⟨[30, 38], .look (⟨pickA (.tmp 30) (.tmp 38) (.const (.bool false))⟩), (some 39), none, 2, 1, true, false⟩]
abbrev qM3_5 : List DI := [zM 0 42 0 1, ⟨[42], .look (⟨lenStr (.tmp 42)⟩), (some 43), none, 0, 1, false, false⟩, ⟨[43], .look (⟨binInt akGtr (.tmp 43) (.const (.int .i64 32))⟩), (some 44), none, 0, 1, false, false⟩, zM 44 45 0 1, ⟨[0, 45], .look (lkMove (.tmp 0)), (some 46), (some (45, true)), 0, 1, true, false⟩, ⟨[0, 45], .look (lkMove (.tmp 0)), (some 48), (some (45, true)), 0, 2, true, false⟩, ⟨[48, 45], .look (⟨slStr (.tmp 48) (some (.const (.int .i64 8))) none⟩), (some 49), (some (45, true)), 0, 2, false, false⟩, ⟨[0, 45], .look (lkMove (.tmp 0)), (some 52), (some (45, true)), 0, 3, true, false⟩, ⟨[52, 45], .look (⟨slStr (.tmp 52) (some (.const (.int .i64 16))) none⟩), (some 53), (some (45, true)), 0, 3, false, false⟩, ⟨[0, 45], .look (lkMove (.tmp 0)), (some 55), (some (45, true)), 0, 4, true, false⟩, ⟨[55, 45], .look (⟨slStr (.tmp 55) (some (.const (.int .i64 24))) none⟩), (some 56), (some (45, true)), 0, 4, false, false⟩, ⟨[46, 45], .heavy ⟨hvCallF E 229 (opnds [(.tmp 46)])⟩, (some 47), (some (45, true)), 0, 2, false, true⟩, ⟨[49, 45], .heavy ⟨hvCallF E 229 (opnds [(.tmp 49)])⟩, (some 50), (some (45, true)), 1, 2, false, true⟩, ⟨[47, 50, 45], .look (⟨binInt akOr (.tmp 47) (.tmp 50)⟩), (some 51), (some (45, true)), 2, 3, false, false⟩, ⟨[53, 45], .heavy ⟨hvCallF E 229 (opnds [(.tmp 53)])⟩, (some 54), (some (45, true)), 2, 2, false, true⟩, ⟨[56, 45], .heavy ⟨hvCallF E 229 (opnds [(.tmp 56)])⟩, (some 57), (some (45, true)), 3, 2, false, true⟩, ⟨[54, 57, 45], .look (⟨binInt akOr (.tmp 54) (.tmp 57)⟩), (some 58), (some (45, true)), 4, 1, false, false⟩, ⟨[51, 58, 45], .look (⟨binInt akOr (.tmp 51) (.tmp 58)⟩), (some 59), (some (45, true)), 4, 1, false, false⟩, ⟨[59, 45], .look (⟨binInt akAnd (.tmp 59) (.const (.int .u64 9259542123273814144))⟩), (some 60), (some (45, true)), 4, 1, false, false⟩, ⟨[60, 45], .look (⟨binInt akEql (.tmp 60) (.const (.int .u64 0))⟩), (some 61), (some (45, true)), 4, 1, false, false⟩, ⟨[45, 61], .look (⟨pickA (.tmp 45) (.tmp 61) (.const (.bool false))⟩), (some 62), none, 4, 1, true, false⟩]
abbrev qM3_6 : List Dk := [⟨[0], lkMove (.tmp 0), (some 21), none⟩, ⟨[21], ⟨ixStr (.tmp 21) (.const (.int .i64 0))⟩, (some 22), none⟩, ⟨[22], ⟨cvInt .u64 (.tmp 22)⟩, (some 23), none⟩, ⟨[0], lkMove (.tmp 0), (some 24), none⟩, ⟨[24], ⟨ixStr (.tmp 24) (.const (.int .i64 1))⟩, (some 25), none⟩, ⟨[25], ⟨cvInt .u64 (.tmp 25)⟩, (some 26), none⟩, ⟨[26], ⟨binShl (.tmp 26) (.const (.int .u64 8))⟩, (some 27), none⟩, ⟨[23, 27], ⟨binInt akOr (.tmp 23) (.tmp 27)⟩, (some 28), none⟩, ⟨[0], lkMove (.tmp 0), (some 29), none⟩, ⟨[29], ⟨ixStr (.tmp 29) (.const (.int .i64 2))⟩, (some 30), none⟩, ⟨[30], ⟨cvInt .u64 (.tmp 30)⟩, (some 31), none⟩, ⟨[31], ⟨binShl (.tmp 31) (.const (.int .u64 16))⟩, (some 32), none⟩, ⟨[28, 32], ⟨binInt akOr (.tmp 28) (.tmp 32)⟩, (some 33), none⟩, ⟨[0], lkMove (.tmp 0), (some 34), none⟩, ⟨[34], ⟨ixStr (.tmp 34) (.const (.int .i64 3))⟩, (some 35), none⟩, ⟨[35], ⟨cvInt .u64 (.tmp 35)⟩, (some 36), none⟩, ⟨[36], ⟨binShl (.tmp 36) (.const (.int .u64 24))⟩, (some 37), none⟩, ⟨[33, 37], ⟨binInt akOr (.tmp 33) (.tmp 37)⟩, (some 38), none⟩, ⟨[0], lkMove (.tmp 0), (some 39), none⟩, ⟨[39], ⟨ixStr (.tmp 39) (.const (.int .i64 4))⟩, (some 40), none⟩, ⟨[40], ⟨cvInt .u64 (.tmp 40)⟩, (some 41), none⟩, ⟨[41], ⟨binShl (.tmp 41) (.const (.int .u64 32))⟩, (some 42), none⟩, ⟨[38, 42], ⟨binInt akOr (.tmp 38) (.tmp 42)⟩, (some 43), none⟩, ⟨[0], lkMove (.tmp 0), (some 44), none⟩, ⟨[44], ⟨ixStr (.tmp 44) (.const (.int .i64 5))⟩, (some 45), none⟩, ⟨[45], ⟨cvInt .u64 (.tmp 45)⟩, (some 46), none⟩, ⟨[46], ⟨binShl (.tmp 46) (.const (.int .u64 40))⟩, (some 47), none⟩, ⟨[43, 47], ⟨binInt akOr (.tmp 43) (.tmp 47)⟩, (some 48), none⟩, ⟨[0], lkMove (.tmp 0), (some 49), none⟩, ⟨[49], ⟨ixStr (.tmp 49) (.const (.int .i64 6))⟩, (some 50), none⟩, ⟨[50], ⟨cvInt .u64 (.tmp 50)⟩, (some 51), none⟩, ⟨[51], ⟨binShl (.tmp 51) (.const (.int .u64 48))⟩, (some 52), none⟩, ⟨[48, 52], ⟨binInt akOr (.tmp 48) (.tmp 52)⟩, (some 53), none⟩, ⟨[0], lkMove (.tmp 0), (some 54), none⟩, ⟨[54], ⟨ixStr (.tmp 54) (.const (.int .i64 7))⟩, (some 55), none⟩, ⟨[55], ⟨cvInt .u64 (.tmp 55)⟩, (some 56), none⟩, ⟨[56], ⟨binShl (.tmp 56) (.const (.int .u64 56))⟩, (some 57), none⟩, ⟨[53, 57], ⟨binInt akOr (.tmp 53) (.tmp 57)⟩, (some 58), none⟩, ⟨[58], lkMove (.tmp 58), (some 2), none⟩]
abbrev qM3_7 : List Dk := [⟨[0], lkMove (.tmp 0), (some 78), none⟩, ⟨[78], ⟨lenStr (.tmp 78)⟩, (some 79), none⟩, ⟨[79], ⟨binInt akLss (.tmp 79) (.const (.int .i64 2))⟩, (some 80), none⟩, ⟨[80], lkMove (.tmp 80), (some 81), none⟩, ⟨[0, 81], lkMove (.tmp 0), (some 82), (some (81, false))⟩, ⟨[82, 81], ⟨ixStr (.tmp 82) (.const (.int .i64 1))⟩, (some 83), (some (81, false))⟩, ⟨[6, 81], ⟨fAddr (.tmp 6) 0⟩, (some 84), (some (81, false))⟩, ⟨[84, 81], ⟨ldA ⟨ld1⟩ (.tmp 84)⟩, (some 85), (some (81, false))⟩, ⟨[83, 85, 81], ⟨binInt akLss (.tmp 83) (.tmp 85)⟩, (some 86), (some (81, false))⟩, ⟨[81, 86], ⟨pickA (.tmp 81) (.const (.bool true)) (.tmp 86)⟩, (some 87), none⟩, ⟨[87], lkMove (.tmp 87), (some 88), none⟩, ⟨[6, 88], ⟨fAddr (.tmp 6) 1⟩, (some 89), (some (88, false))⟩, ⟨[89, 88], ⟨ldA ⟨ld1⟩ (.tmp 89)⟩, (some 90), (some (88, false))⟩, ⟨[0, 88], lkMove (.tmp 0), (some 91), (some (88, false))⟩, ⟨[91, 88], ⟨ixStr (.tmp 91) (.const (.int .i64 1))⟩, (some 92), (some (88, false))⟩, ⟨[90, 92, 88], ⟨binInt akLss (.tmp 90) (.tmp 92)⟩, (some 93), (some (88, false))⟩, ⟨[88, 93], ⟨pickA (.tmp 88) (.const (.bool true)) (.tmp 93)⟩, (some 94), none⟩]
abbrev qM3_8 : List Dk := [⟨[0], lkMove (.tmp 0), (some 99), none⟩, ⟨[99], ⟨lenStr (.tmp 99)⟩, (some 100), none⟩, ⟨[100], ⟨binInt akLss (.tmp 100) (.const (.int .i64 3))⟩, (some 101), none⟩, ⟨[101], lkMove (.tmp 101), (some 102), none⟩, ⟨[0, 102], lkMove (.tmp 0), (some 103), (some (102, false))⟩, ⟨[103, 102], ⟨ixStr (.tmp 103) (.const (.int .i64 1))⟩, (some 104), (some (102, false))⟩, ⟨[6, 102], ⟨fAddr (.tmp 6) 0⟩, (some 105), (some (102, false))⟩, ⟨[105, 102], ⟨ldA ⟨ld1⟩ (.tmp 105)⟩, (some 106), (some (102, false))⟩, ⟨[104, 106, 102], ⟨binInt akLss (.tmp 104) (.tmp 106)⟩, (some 107), (some (102, false))⟩, ⟨[102, 107], ⟨pickA (.tmp 102) (.const (.bool true)) (.tmp 107)⟩, (some 108), none⟩, ⟨[108], lkMove (.tmp 108), (some 109), none⟩, ⟨[6, 109], ⟨fAddr (.tmp 6) 1⟩, (some 110), (some (109, false))⟩, ⟨[110, 109], ⟨ldA ⟨ld1⟩ (.tmp 110)⟩, (some 111), (some (109, false))⟩, ⟨[0, 109], lkMove (.tmp 0), (some 112), (some (109, false))⟩, ⟨[112, 109], ⟨ixStr (.tmp 112) (.const (.int .i64 1))⟩, (some 113), (some (109, false))⟩, ⟨[111, 113, 109], ⟨binInt akLss (.tmp 111) (.tmp 113)⟩, (some 114), (some (109, false))⟩, ⟨[109, 114], ⟨pickA (.tmp 109) (.const (.bool true)) (.tmp 114)⟩, (some 115), none⟩, ⟨[115], lkMove (.tmp 115), (some 116), none⟩, ⟨[0, 116], lkMove (.tmp 0), (some 117), (some (116, false))⟩, ⟨[117, 116], ⟨ixStr (.tmp 117) (.const (.int .i64 2))⟩, (some 118), (some (116, false))⟩, ⟨[118, 116], ⟨binInt akLss (.tmp 118) (.const (.int .u8 128))⟩, (some 119), (some (116, false))⟩, ⟨[116, 119], ⟨pickA (.tmp 116) (.const (.bool true)) (.tmp 119)⟩, (some 120), none⟩, ⟨[120], lkMove (.tmp 120), (some 121), none⟩, ⟨[0, 121], lkMove (.tmp 0), (some 122), (some (121, false))⟩, ⟨[122, 121], ⟨ixStr (.tmp 122) (.const (.int .i64 2))⟩, (some 123), (some (121, false))⟩, ⟨[123, 121], ⟨binInt akLss (.const (.int .u8 191)) (.tmp 123)⟩, (some 124), (some (121, false))⟩, ⟨[121, 124], ⟨pickA (.tmp 121) (.const (.bool true)) (.tmp 124)⟩, (some 125), none⟩]
abbrev qM3_9 : List Dk := [⟨[0], lkMove (.tmp 0), (some 130), none⟩, ⟨[130], ⟨lenStr (.tmp 130)⟩, (some 131), none⟩, ⟨[131], ⟨binInt akLss (.tmp 131) (.const (.int .i64 4))⟩, (some 132), none⟩, ⟨[132], lkMove (.tmp 132), (some 133), none⟩, ⟨[0, 133], lkMove (.tmp 0), (some 134), (some (133, false))⟩, ⟨[134, 133], ⟨ixStr (.tmp 134) (.const (.int .i64 1))⟩, (some 135), (some (133, false))⟩, ⟨[6, 133], ⟨fAddr (.tmp 6) 0⟩, (some 136), (some (133, false))⟩, ⟨[136, 133], ⟨ldA ⟨ld1⟩ (.tmp 136)⟩, (some 137), (some (133, false))⟩, ⟨[135, 137, 133], ⟨binInt akLss (.tmp 135) (.tmp 137)⟩, (some 138), (some (133, false))⟩, ⟨[133, 138], ⟨pickA (.tmp 133) (.const (.bool true)) (.tmp 138)⟩, (some 139), none⟩, ⟨[139], lkMove (.tmp 139), (some 140), none⟩, ⟨[6, 140], ⟨fAddr (.tmp 6) 1⟩, (some 141), (some (140, false))⟩, ⟨[141, 140], ⟨ldA ⟨ld1⟩ (.tmp 141)⟩, (some 142), (some (140, false))⟩, ⟨[0, 140], lkMove (.tmp 0), (some 143), (some (140, false))⟩, ⟨[143, 140], ⟨ixStr (.tmp 143) (.const (.int .i64 1))⟩, (some 144), (some (140, false))⟩, ⟨[142, 144, 140], ⟨binInt akLss (.tmp 142) (.tmp 144)⟩, (some 145), (some (140, false))⟩, ⟨[140, 145], ⟨pickA (.tmp 140) (.const (.bool true)) (.tmp 145)⟩, (some 146), none⟩, ⟨[146], lkMove (.tmp 146), (some 147), none⟩, ⟨[0, 147], lkMove (.tmp 0), (some 148), (some (147, false))⟩, ⟨[148, 147], ⟨ixStr (.tmp 148) (.const (.int .i64 2))⟩, (some 149), (some (147, false))⟩, ⟨[149, 147], ⟨binInt akLss (.tmp 149) (.const (.int .u8 128))⟩, (some 150), (some (147, false))⟩, ⟨[147, 150], ⟨pickA (.tmp 147) (.const (.bool true)) (.tmp 150)⟩, (some 151), none⟩, ⟨[151], lkMove (.tmp 151), (some 152), none⟩, ⟨[0, 152], lkMove (.tmp 0), (some 153), (some (152, false))⟩, ⟨[153, 152], ⟨ixStr (.tmp 153) (.const (.int .i64 2))⟩, (some 154), (some (152, false))⟩, ⟨[154, 152], ⟨binInt akLss (.const (.int .u8 191)) (.tmp 154)⟩, (some 155), (some (152, false))⟩, ⟨[152, 155], ⟨pickA (.tmp 152) (.const (.bool true)) (.tmp 155)⟩, (some 156), none⟩, ⟨[156], lkMove (.tmp 156), (some 157), none⟩, ⟨[0, 157], lkMove (.tmp 0), (some 158), (some (157, false))⟩, ⟨[158, 157], ⟨ixStr (.tmp 158) (.const (.int .i64 3))⟩, (some 159), (some (157, false))⟩, ⟨[159, 157], ⟨binInt akLss (.tmp 159) (.const (.int .u8 128))⟩, (some 160), (some (157, false))⟩, ⟨[157, 160], ⟨pickA (.tmp 157) (.const (.bool true)) (.tmp 160)⟩, (some 161), none⟩, ⟨[161], lkMove (.tmp 161), (some 162), none⟩, ⟨[0, 162], lkMove (.tmp 0), (some 163), (some (162, false))⟩, ⟨[163, 162], ⟨ixStr (.tmp 163) (.const (.int .i64 3))⟩, (some 164), (some (162, false))⟩, ⟨[164, 162], ⟨binInt akLss (.const (.int .u8 191)) (.tmp 164)⟩, (some 165), (some (162, false))⟩, ⟨[162, 165], ⟨pickA (.tmp 162) (.const (.bool true)) (.tmp 165)⟩, (some 166), none⟩]
theorem shiftFact (x : UInt8) (k : Nat) (hk : k ≤ 56) : shlA .u64 (x.toNat : Int) (k : Int) = some (.int .u64 ((x.toNat * 2 ^ k : Nat) : Int)) := by
  refine shl_u64 (by omega) rfl ?_
  have h1 : x.toNat * 2 ^ k ≤ 255 * 2 ^ 56 := Nat.mul_le_mul (by have := x.toNat_lt; omega) (Nat.pow_le_pow_right (by omega) hk)
  omega
theorem shift_lt (x : UInt8) (k : Nat) (hk : k ≤ 56) : x.toNat * 2 ^ k < 18446744073709551616 := by
  have h1 : x.toNat * 2 ^ k ≤ 255 * 2 ^ 56 := Nat.mul_le_mul (by have := x.toNat_lt; omega) (Nat.pow_le_pow_right (by omega) hk)
  omega
theorem shift_bit (x : UInt8) (i : Nat) (h : x.toNat.testBit 7 = true) : (x.toNat * 2 ^ (8 * i)).testBit (8 * i + 7) = true := by
  rw [Nat.mul_comm, Nat.testBit_two_pow_mul]
  simp [h]
set_option maxHeartbeats 1000000 in
theorem word_ok {H : AH} {l : List UInt8} (hl : l.length < 17179869184) (h8 : 8 ≤ l.length) : DC Tryz.prog .normal 229 (.cons (sb l) .nil) H fun v' H2 => (∃ w : Nat, v' = .int .u64 (w : Int) ∧ HiW w l) ∧ H2 = H := by
  refine DC.of_wd (re := reTmp 2 reNil) tyOk Tryz.func229 (by kernel_rfl) rfl (by kernel_rfl) (by kernel_rfl) ?_
  rw [tl_nil, argsT_cons, argsT_nil]
  have hx0 : l[0]? = some (l[0]'(by omega)) := List.getElem?_eq_getElem _
  have hx1 : l[1]? = some (l[1]'(by omega)) := List.getElem?_eq_getElem _
  have hx2 : l[2]? = some (l[2]'(by omega)) := List.getElem?_eq_getElem _
  have hx3 : l[3]? = some (l[3]'(by omega)) := List.getElem?_eq_getElem _
  have hx4 : l[4]? = some (l[4]'(by omega)) := List.getElem?_eq_getElem _
  have hx5 : l[5]? = some (l[5]'(by omega)) := List.getElem?_eq_getElem _
  have hx6 : l[6]? = some (l[6]'(by omega)) := List.getElem?_eq_getElem _
  have hx7 : l[7]? = some (l[7]'(by omega)) := List.getElem?_eq_getElem _
  generalize l[0]'_ = x0 at hx0
  generalize l[1]'_ = x1 at hx1
  generalize l[2]'_ = x2 at hx2
  generalize l[3]'_ = x3 at hx3
  generalize l[4]'_ = x4 at hx4
  generalize l[5]'_ = x5 at hx5
  generalize l[6]'_ = x6 at hx6
  generalize l[7]'_ = x7 at hx7
  have b0 := byte_at hx0
  have b1 := byte_at hx1
  have b2 := byte_at hx2
  have b3 := byte_at hx3
  have b4 := byte_at hx4
  have b5 := byte_at hx5
  have b6 := byte_at hx6
  have b7 := byte_at hx7
  have c0 : mkInt .u64 (x0.toNat : Int) = some (.int .u64 (x0.toNat : Int)) := mkInt_u64n (by have := x0.toNat_lt; omega)
  have c1 : mkInt .u64 (x1.toNat : Int) = some (.int .u64 (x1.toNat : Int)) := mkInt_u64n (by have := x1.toNat_lt; omega)
  have c2 : mkInt .u64 (x2.toNat : Int) = some (.int .u64 (x2.toNat : Int)) := mkInt_u64n (by have := x2.toNat_lt; omega)
  have c3 : mkInt .u64 (x3.toNat : Int) = some (.int .u64 (x3.toNat : Int)) := mkInt_u64n (by have := x3.toNat_lt; omega)
  have c4 : mkInt .u64 (x4.toNat : Int) = some (.int .u64 (x4.toNat : Int)) := mkInt_u64n (by have := x4.toNat_lt; omega)
  have c5 : mkInt .u64 (x5.toNat : Int) = some (.int .u64 (x5.toNat : Int)) := mkInt_u64n (by have := x5.toNat_lt; omega)
  have c6 : mkInt .u64 (x6.toNat : Int) = some (.int .u64 (x6.toNat : Int)) := mkInt_u64n (by have := x6.toNat_lt; omega)
  have c7 : mkInt .u64 (x7.toNat : Int) = some (.int .u64 (x7.toNat : Int)) := mkInt_u64n (by have := x7.toNat_lt; omega)
  have s1 : shlA .u64 (x1.toNat : Int) 8 = _ := shiftFact x1 8 (by omega)
  have s2 : shlA .u64 (x2.toNat : Int) 16 = _ := shiftFact x2 16 (by omega)
  have s3 : shlA .u64 (x3.toNat : Int) 24 = _ := shiftFact x3 24 (by omega)
  have s4 : shlA .u64 (x4.toNat : Int) 32 = _ := shiftFact x4 32 (by omega)
  have s5 : shlA .u64 (x5.toNat : Int) 40 = _ := shiftFact x5 40 (by omega)
  have s6 : shlA .u64 (x6.toNat : Int) 48 = _ := shiftFact x6 48 (by omega)
  have s7 : shlA .u64 (x7.toNat : Int) 56 = _ := shiftFact x7 56 (by omega)
  have t1 := shift_bit x1 1
  have t2 := shift_bit x2 2
  have t3 := shift_bit x3 3
  have t4 := shift_bit x4 4
  have t5 := shift_bit x5 5
  have t6 := shift_bit x6 6
  have t7 := shift_bit x7 7
  have l1 := shift_lt x1 8 (by omega)
  have l2 := shift_lt x2 16 (by omega)
  have l3 := shift_lt x3 24 (by omega)
  have l4 := shift_lt x4 32 (by omega)
  have l5 := shift_lt x5 40 (by omega)
  have l6 := shift_lt x6 48 (by omega)
  have l7 := shift_lt x7 56 (by omega)
  have l0 := x0.toNat_lt
  simp only [Nat.reduceMul] at t1 t2 t3 t4 t5 t6 t7
  obtain ⟨y1, hy1⟩ : ∃ y, y = x1.toNat * 2 ^ 8 := ⟨_, rfl⟩
  rw [← hy1] at s1 t1 l1
  clear hy1
  obtain ⟨y2, hy2⟩ : ∃ y, y = x2.toNat * 2 ^ 16 := ⟨_, rfl⟩
  rw [← hy2] at s2 t2 l2
  clear hy2
  obtain ⟨y3, hy3⟩ : ∃ y, y = x3.toNat * 2 ^ 24 := ⟨_, rfl⟩
  rw [← hy3] at s3 t3 l3
  clear hy3
  obtain ⟨y4, hy4⟩ : ∃ y, y = x4.toNat * 2 ^ 32 := ⟨_, rfl⟩
  rw [← hy4] at s4 t4 l4
  clear hy4
  obtain ⟨y5, hy5⟩ : ∃ y, y = x5.toNat * 2 ^ 40 := ⟨_, rfl⟩
  rw [← hy5] at s5 t5 l5
  clear hy5
  obtain ⟨y6, hy6⟩ : ∃ y, y = x6.toNat * 2 ^ 48 := ⟨_, rfl⟩
  rw [← hy6] at s6 t6 l6
  clear hy6
  obtain ⟨y7, hy7⟩ : ∃ y, y = x7.toNat * 2 ^ 56 := ⟨_, rfl⟩
  rw [← hy7] at s7 t7 l7
  clear hy7
  have or_lt : ∀ a b : Nat, a < 18446744073709551616 → b < 18446744073709551616 → a ||| b < 18446744073709551616 := fun a b ha hb => Nat.or_lt_two_pow (n := 64) ha hb
  obtain ⟨w1, e1⟩ : ∃ w, w = x0.toNat ||| y1 := ⟨_, rfl⟩
  obtain ⟨w2, e2⟩ : ∃ w, w = w1 ||| y2 := ⟨_, rfl⟩
  obtain ⟨w3, e3⟩ : ∃ w, w = w2 ||| y3 := ⟨_, rfl⟩
  obtain ⟨w4, e4⟩ : ∃ w, w = w3 ||| y4 := ⟨_, rfl⟩
  obtain ⟨w5, e5⟩ : ∃ w, w = w4 ||| y5 := ⟨_, rfl⟩
  obtain ⟨w6, e6⟩ : ∃ w, w = w5 ||| y6 := ⟨_, rfl⟩
  obtain ⟨w7, e7⟩ : ∃ w, w = w6 ||| y7 := ⟨_, rfl⟩
  have m1 : w1 < 18446744073709551616 := e1 ▸ or_lt _ _ (by omega) l1
  have m2 : w2 < 18446744073709551616 := e2 ▸ or_lt _ _ m1 l2
  have m3 : w3 < 18446744073709551616 := e3 ▸ or_lt _ _ m2 l3
  have m4 : w4 < 18446744073709551616 := e4 ▸ or_lt _ _ m3 l4
  have m5 : w5 < 18446744073709551616 := e5 ▸ or_lt _ _ m4 l5
  have m6 : w6 < 18446744073709551616 := e6 ▸ or_lt _ _ m5 l6
  have m7 : w7 < 18446744073709551616 := e7 ▸ or_lt _ _ m6 l7
  have o1 : akOr.f .u64 (x0.toNat : Int) (y1 : Int) = some (.int .u64 (w1 : Int)) := akOr_u64 (by omega) l1 e1
  have o2 : akOr.f .u64 (w1 : Int) (y2 : Int) = some (.int .u64 (w2 : Int)) := akOr_u64 m1 l2 e2
  have o3 : akOr.f .u64 (w2 : Int) (y3 : Int) = some (.int .u64 (w3 : Int)) := akOr_u64 m2 l3 e3
  have o4 : akOr.f .u64 (w3 : Int) (y4 : Int) = some (.int .u64 (w4 : Int)) := akOr_u64 m3 l4 e4
  have o5 : akOr.f .u64 (w4 : Int) (y5 : Int) = some (.int .u64 (w5 : Int)) := akOr_u64 m4 l5 e5
  have o6 : akOr.f .u64 (w5 : Int) (y6 : Int) = some (.int .u64 (w6 : Int)) := akOr_u64 m5 l6 e6
  have o7 : akOr.f .u64 (w6 : Int) (y7 : Int) = some (.int .u64 (w7 : Int)) := akOr_u64 m6 l7 e7
  have hw : HiW w7 l := by
    refine ⟨m7, fun i x hi hx hb => ?_⟩
    have e : w7 = ((((((x0.toNat ||| y1) ||| y2) ||| y3) ||| y4) ||| y5) ||| y6) ||| y7 := by rw [e7, e6, e5, e4, e3, e2, e1]
    rw [e]
    simp only [Nat.testBit_or, Bool.or_eq_true]
    match i, hi with
    | 0, _ => rw [hx0] at hx; cases hx; simp [hb]
    | 1, _ => rw [hx1] at hx; cases hx; have := t1 hb; simp [this]
    | 2, _ => rw [hx2] at hx; cases hx; have := t2 hb; simp [this]
    | 3, _ => rw [hx3] at hx; cases hx; have := t3 hb; simp [this]
    | 4, _ => rw [hx4] at hx; cases hx; have := t4 hb; simp [this]
    | 5, _ => rw [hx5] at hx; cases hx; have := t5 hb; simp [this]
    | 6, _ => rw [hx6] at hx; cases hx; have := t6 hb; simp [this]
    | 7, _ => rw [hx7] at hx; cases hx; have := t7 hb; simp [this]
  clear e1 e2 e3 e4 e5 e6 e7 t1 t2 t3 t4 t5 t6 t7 m1 m2 m3 m4 m5 m6 m7 l1 l2 l3 l4 l5 l6 l7 or_lt hx0 hx1 hx2 hx3 hx4 hx5 hx6 hx7
  refine WD.seqR ?_
  refine leD 1 [⟨lkMove (.const (.int .u64 0)), (some 2), none⟩] ?_
  refine WDO.nilS (WD.seq (WD.cond (t := false) (by simp) (by simp) fun _ => WD.skip (.inl rfl) (WD.seq ?_)))
  have hr : ∃ l2, runDk qM3_6 (tl [(2, .int .u64 0), (0, sb l)]) H = some (tl l2) ∧ tget 2 l2 = some (.int .u64 (w7 : Int)) := ⟨_, by
    iterate 39 (first | (refine dkSkip ?_ ?_; focus (simp; done)) | refine dkStep (by first | rfl | (simp [-resL_cons, resL_cc]; exact rfl)) (by simp) (by simp (disch := omega) [b0, b1, b2, b3, b4, b5, b6, b7, c0, c1, c2, c3, c4, c5, c6, c7, s1, s2, s3, s4, s5, s6, s7, o1, o2, o3, o4, o5, o6, o7]; exact rfl) ?_)
    exact rfl, by simp⟩
  obtain ⟨l2, hr1, hr2⟩ := hr
  refine WD.drawLooks tyOk extOk (by kernel_rfl) (ls := qM3_6) (by kernel_rfl) hr1 ?_
  exact WD.ret (endR _ (by simp [hr2]; rfl) ⟨⟨w7, rfl, hw⟩, rfl⟩)
theorem extFree (g : Nat) (l : AV) (H : AH) (h : Nat.beq g 173 = false) (h2 : Nat.beq g 198 = false) (h3 : Nat.beq g 200 = false) (h4 : Nat.beq g 170 = false := by rfl) : E.ext g l H = none := by
  show extFn g l H = none
  unfold extFn
  rw [h, h2, h3, h4]
theorem opnd_g1 (T : Tr AV) : opnd (.global 1) T = some (.ptr 1 0) := rfl
theorem opnd_g2 (T : Tr AV) : opnd (.global 2) T = some (.ptr 2 0) := rfl
def S229 : Nat → AV → AH → AV → AH → Prop := fun _ a Hx v' H2 => H2 = Hx ∧ ∀ l : List UInt8, a = .cons (sb l) .nil → ∃ w : Nat, v' = .int .u64 (w : Int) ∧ HiW w l
theorem word_S {H : AH} {l : List UInt8} (hl : l.length < 17179869184) (h8 : 8 ≤ l.length) : DC Tryz.prog .normal 229 (.cons (sb l) .nil) H (S229 229 (.cons (sb l) .nil) H) :=
  (word_ok hl h8).mono fun v' H2 ⟨⟨w, h1, h2⟩, h3⟩ => ⟨h3, fun l' e => by
    injection e with e _
    have := sb_inj e
    subst this
    exact ⟨w, h1, h2⟩⟩
set_option maxHeartbeats 2000000 in
theorem utf8Prog_ok {H : AH} {l : List UInt8} (hl : l.length < 17179869184) (hG : GlobU H) : DC Tryz.prog .normal 195 (.cons (sb l) .nil) H fun v' H2 => v' = .bool (utf8L l) ∧ Keep noB H H2 := by
  refine DC.of_wd (re := reTmp 2 reNil) tyOk Tryz.func195 (by kernel_rfl) rfl (by kernel_rfl) (by kernel_rfl) ?_
  rw [tl_nil, argsT_cons, argsT_nil]
  refine WD.seqR ?_
  refine leD 1 [xZ false 2] ?_
  refine WDO.nilS (WD.seq ?_)
  refine WD.forWC (σ := List UInt8) (fun q => [(0, sb q)]) (fun q H' => utf8L l = utf8L q ∧ q.length ≤ l.length ∧ Keep noB H H') (fun q => q.length) l ⟨rfl, Nat.le_refl _, Keep.refl _ _⟩ (by simp) ?_
  rintro q H' ⟨hu, hle, hk⟩
  have hGk := hG.keep hk fun _ _ => id
  refine leD 3 [xM 0 7, xS 7 8, xC akGtr 8 0 9] ?_
  refine WDO.nil ⟨decide (0 < q.length), _, rfl, by simp, fun hc => ?_, fun hc => ?_⟩
  · have hc : q = [] := List.length_eq_zero_iff.1 (by have := of_decide_eq_false hc; omega)
    subst hc
    rw [utf8L_nil] at hu
    refine WD.seqR ?_
    refine leD 1 [xZ true 2] ?_
    exact WDO.nilS (WD.ret (endR _ (by simp; rfl) ⟨by rw [hu]; rfl, hk⟩))
  · have hc : 0 < q.length := of_decide_eq_true hc
    obtain ⟨c, r, rfl⟩ : ∃ c r, q = c :: r := by
      cases q with
      | nil => simp at hc
      | cons c r => exact ⟨c, r, rfl⟩
    have hb := byte_at (l := c :: r) (i := 0) rfl
    have hcl := c.toNat_lt
    have hlen : (c :: r).length = r.length + 1 := rfl
    refine WD.seqR ?_
    refine lkD 3 [xM 0 10, ⟨⟨ixStr (.tmp 10) (.const (.int .i64 0))⟩, (some 11), none⟩, xM 11 3] (by simp (disch := omega) [hb]; exact rfl) ?_
    refine WDO.nilS (WD.seq (WD.seqR ?_))
    by_cases h1 : c.toNat < 128
    · refine lkD 2 [xM 3 12, ⟨⟨binInt akLss (.tmp 12) (.const (.int .u8 128))⟩, (some 13), none⟩] (by simp (disch := omega) [decT]; exact rfl) ?_
      refine cdT ?_
      refine leD 3 [xM 0 14, ⟨⟨slStr (.tmp 14) (some (.const (.int .i64 1))) none⟩, (some 15), none⟩, xM 15 0] ?_
      have hur : utf8L (c :: r) = utf8L r := by rw [utf8L_step (letterN_ascii h1) (by omega)]; rfl
      refine WDO.nilS (WD.seq (WD.mono (Q := fun o => ∃ (q' : List UInt8) (l' : List (Nat × AV)), o = .nor (tl l') [] H' ∧ tget 0 l' = some (sb q') ∧ utf8L r = utf8L q' ∧ q'.length ≤ r.length) ?_ ?_))
      · refine WD.seqR ?_
        by_cases h2 : 8 < r.length
        · refine lkD 5 [xM 0 16, xS 16 17, xC akGtr 17 8 18, xM 18 19, yM 0 20 19 true] (by simp (disch := omega) [decT]; exact rfl) ?_
          refine WDO.callG (g := 229) (gd := some (19, true)) rfl rfl (by kernel_rfl) (by simp) (by kernel_rfl) (l := .cons (sb r) .nil) (by simp) (word_ok (l := r) (by omega) (by omega)) fun u H2 ⟨⟨w, hw1, hw2⟩, hH⟩ => ?_
          subst hw1
          subst hH
          obtain ⟨a, ha⟩ : ∃ a, a = w &&& 9259542123273814144 := ⟨_, rfl⟩
          have gA : akAnd.f .u64 (w : Int) 9259542123273814144 = some (.int .u64 (a : Int)) := akAnd_hm hw2.lt ha
          by_cases h3 : a = 0
          · subst h3
            have hlow := hw2.low fun i hi => and_hm ha.symm hi
            have hu2 : utf8L r = utf8L (r.drop 8) := utf8L_ascii 8 r (by omega) fun i x hi hx => hlow i x hi hx
            have hl2 : (r.drop 8).length = r.length - 8 := List.length_drop
            refine lkD 3 qM3_1 (by simp (disch := omega) [gA]; exact rfl) ?_
            refine cdT ?_
            refine leD 3 [xM 0 25, ⟨⟨slStr (.tmp 25) (some (.const (.int .i64 8))) none⟩, (some 26), none⟩, xM 26 0] ?_
            refine WDO.nilS ?_
            generalize hr2 : r.drop 8 = r2 at hu2 hl2 ⊢
            refine WD.mono (Q := fun o => ∃ (q' : List UInt8) (l' : List (Nat × AV)), o = .nor (tl l') [] H2 ∧ tget 0 l' = some (sb q') ∧ utf8L r2 = utf8L q' ∧ q'.length ≤ r2.length) ?_ fun o ⟨q', l', g0, g1, g2, g3⟩ => ⟨q', l', g0, g1, by rw [hu2, g2], by omega⟩
            refine WD.seq ?_
            have hm2 : r2.length < 17179869184 := by omega
            clear hu2 hl2 hr2 hlow hw2 gA ha h2 hur h1
            by_cases h4 : 16 < r2.length
            · skip
              obtain ⟨R, hR, hRc⟩ := specR_ex Tryz.prog S229
              refine WD.drawnK tyOk extOk (by kernel_rfl) (ls := qM3_4) (by kernel_rfl) hR fun K hK => ?_
              simp (disch := omega) [decT]
              have hl8 : (r2.drop 8).length = r2.length - 8 := List.length_drop
              obtain ⟨u1, H1, c1, rfl, p1⟩ := hRc 229 _ _ (word_S (H := H2) (l := r2) hm2 (by omega))
              obtain ⟨w1, rfl, hw1⟩ := p1 _ rfl
              refine diCall (by simp) (extFree _ _ _ rfl rfl rfl) c1 (Nat.le_refl _) ?_
              simp (disch := omega) []
              obtain ⟨u2, H2, c2, rfl, p2⟩ := hRc 229 _ _ (word_S (H := H1) (l := r2.drop 8) (by omega) (by omega))
              obtain ⟨w2, rfl, hw2⟩ := p2 _ rfl
              refine diCall (by simp) (extFree _ _ _ rfl rfl rfl) c2 (Nat.le_refl _) ?_
              obtain ⟨o1, ho1⟩ : ∃ o, o = w1 ||| w2 := ⟨_, rfl⟩
              obtain ⟨a, ha⟩ : ∃ a, a = o1 &&& 9259542123273814144 := ⟨_, rfl⟩
              have gO : akOr.f .u64 (w1 : Int) (w2 : Int) = some (.int .u64 (o1 : Int)) := akOr_u64 hw1.lt hw2.lt ho1
              have gA : akAnd.f .u64 (o1 : Int) 9259542123273814144 = some (.int .u64 (a : Int)) := akAnd_hm (by rw [ho1]; exact or_lt64 hw1.lt hw2.lt) ha
              by_cases h3 : a = 0
              · subst h3
                simp (disch := omega) [gO, gA]
                have hbits : ∀ i, i < 8 → w1.testBit (8 * i + 7) = false ∧ w2.testBit (8 * i + 7) = false := fun i hi => or_bits (by rw [← ho1]; exact and_hm ha.symm hi)
                have low1 := hw1.low fun i hi => (hbits i hi).1
                have low2 := low_at (hw2.low fun i hi => (hbits i hi).2)
                have hu3 : utf8L r2 = utf8L (r2.drop 16) := utf8L_ascii 16 r2 (by omega) fun i x hi hx => by
                  rcases Nat.lt_or_ge i 8 with h | h
                  · exact low1 i x h hx
                  · exact low2 i x h (by omega) hx
                clear hbits low1 low2 hw1 hw2 gO gA ho1 ha p1 p2 c1 c2
                refine ⟨by omega, hK _ _ ?_⟩
                clear hK hRc hR
                refine WD.cond (t := true) (by simp) (fun _ => ?_) (by simp)
                refine WD.seqR ?_
                refine leD 3 [xM 0 40, ⟨⟨slStr (.tmp 40) (some (.const (.int .i64 16))) none⟩, (some 41), none⟩, xM 41 0] ?_
                refine WDO.nilS ?_
                refine WD.block (WD.loopS (σ := List UInt8) (fun q => [(0, sb q)]) (fun q H3 => utf8L r2 = utf8L q ∧ q.length ≤ r2.length ∧ H3 = H2) (fun q => q.length) (r2.drop 16) ⟨hu3, by simp, rfl⟩ (by simp) ?_)
                rintro q H3 ⟨hq1, hq2, rfl⟩
                refine WD.seq (WD.seq ?_)
                by_cases h5 : 32 < q.length
                · have hl8 : (q.drop 8).length = q.length - 8 := List.length_drop
                  have hl16 : (q.drop 16).length = q.length - 16 := List.length_drop
                  have hl24 : (q.drop 24).length = q.length - 24 := List.length_drop
                  obtain ⟨R, hR, hRc⟩ := specR_ex Tryz.prog S229
                  refine WD.drawnK tyOk extOk (by kernel_rfl) (ls := qM3_5) (by kernel_rfl) hR fun K hK => ?_
                  simp (disch := omega) [decT]
                  obtain ⟨u1, H4, c1, e1, p1⟩ := hRc 229 _ _ (word_S (H := H3) (l := q) (by omega) (by omega))
                  obtain ⟨w1, rfl, hw1⟩ := p1 _ rfl
                  subst e1
                  refine diCall (by simp) (extFree _ _ _ rfl rfl rfl) c1 (Nat.le_refl _) ?_
                  simp (disch := omega) []
                  obtain ⟨u2, H5, c2, e2, p2⟩ := hRc 229 _ _ (word_S (H := H4) (l := q.drop 8) (by omega) (by omega))
                  obtain ⟨w2, rfl, hw2⟩ := p2 _ rfl
                  subst e2
                  refine diCall (by simp) (extFree _ _ _ rfl rfl rfl) c2 (Nat.le_refl _) ?_
                  obtain ⟨o1, ho1⟩ : ∃ o, o = w1 ||| w2 := ⟨_, rfl⟩
                  have gO1 : akOr.f .u64 (w1 : Int) (w2 : Int) = some (.int .u64 (o1 : Int)) := akOr_u64 hw1.lt hw2.lt ho1
                  have o1l : o1 < 18446744073709551616 := by rw [ho1]; exact or_lt64 hw1.lt hw2.lt
                  simp (disch := omega) [gO1]
                  obtain ⟨u3, H6, c3, e3, p3⟩ := hRc 229 _ _ (word_S (H := H5) (l := q.drop 16) (by omega) (by omega))
                  obtain ⟨w3, rfl, hw3⟩ := p3 _ rfl
                  subst e3
                  refine diCall (by simp) (extFree _ _ _ rfl rfl rfl) c3 (Nat.le_refl _) ?_
                  simp (disch := omega) []
                  obtain ⟨u4, H7, c4, e4, p4⟩ := hRc 229 _ _ (word_S (H := H6) (l := q.drop 24) (by omega) (by omega))
                  obtain ⟨w4, rfl, hw4⟩ := p4 _ rfl
                  subst e4
                  refine diCall (by simp) (extFree _ _ _ rfl rfl rfl) c4 (Nat.le_refl _) ?_
                  obtain ⟨o2, ho2⟩ : ∃ o, o = w3 ||| w4 := ⟨_, rfl⟩
                  have gO2 : akOr.f .u64 (w3 : Int) (w4 : Int) = some (.int .u64 (o2 : Int)) := akOr_u64 hw3.lt hw4.lt ho2
                  have o2l : o2 < 18446744073709551616 := by rw [ho2]; exact or_lt64 hw3.lt hw4.lt
                  obtain ⟨o3, ho3⟩ : ∃ o, o = o1 ||| o2 := ⟨_, rfl⟩
                  have gO3 : akOr.f .u64 (o1 : Int) (o2 : Int) = some (.int .u64 (o3 : Int)) := akOr_u64 o1l o2l ho3
                  have o3l : o3 < 18446744073709551616 := by rw [ho3]; exact or_lt64 o1l o2l
                  obtain ⟨a, ha⟩ : ∃ a, a = o3 &&& 9259542123273814144 := ⟨_, rfl⟩
                  have gA : akAnd.f .u64 (o3 : Int) 9259542123273814144 = some (.int .u64 (a : Int)) := akAnd_hm o3l ha
                  by_cases h6 : a = 0
                  · subst h6
                    simp (disch := omega) [gO2, gO3, gA]
                    have hb3 : ∀ i, i < 8 → o1.testBit (8 * i + 7) = false ∧ o2.testBit (8 * i + 7) = false := fun i hi => or_bits (by rw [← ho3]; exact and_hm ha.symm hi)
                    have hb1 : ∀ i, i < 8 → w1.testBit (8 * i + 7) = false ∧ w2.testBit (8 * i + 7) = false := fun i hi => or_bits (by rw [← ho1]; exact (hb3 i hi).1)
                    have hb2 : ∀ i, i < 8 → w3.testBit (8 * i + 7) = false ∧ w4.testBit (8 * i + 7) = false := fun i hi => or_bits (by rw [← ho2]; exact (hb3 i hi).2)
                    have low1 := hw1.low fun i hi => (hb1 i hi).1
                    have low2 := low_at (hw2.low fun i hi => (hb1 i hi).2)
                    have low3 := low_at (hw3.low fun i hi => (hb2 i hi).1)
                    have low4 := low_at (hw4.low fun i hi => (hb2 i hi).2)
                    have hu4 : utf8L q = utf8L (q.drop 32) := utf8L_ascii 32 q (by omega) fun i x hi hx => by
                      rcases Nat.lt_or_ge i 8 with h | h
                      · exact low1 i x h hx
                      · rcases Nat.lt_or_ge i 16 with h' | h'
                        · exact low2 i x h (by omega) hx
                        · rcases Nat.lt_or_ge i 24 with h'' | h''
                          · exact low3 i x h' (by omega) hx
                          · exact low4 i x h'' (by omega) hx
                    refine ⟨⟨by omega, gO1⟩, hK _ _ ?_⟩
                    refine WD.cond (t := true) (by simp) (fun _ => WD.skip (.inl rfl) ?_) (by simp)
                    refine WD.block (WD.region ?_)
                    refine leD 3 [xM 0 63, ⟨⟨slStr (.tmp 63) (some (.const (.int .i64 32))) none⟩, (some 64), none⟩, xM 64 0] ?_
                    exact WDO.nil ⟨rfl, q.drop 32, _, rfl, by simp, ⟨by rw [hq1, hu4], by simp; omega, rfl⟩, by simp; omega⟩
                  · simp (disch := omega) [gO2, gO3, gA, h6]
                    refine ⟨⟨by omega, gO1⟩, hK _ _ ?_⟩
                    refine WD.cond (t := false) (by simp) (by simp) fun _ => WD.exit ?_
                    exact ⟨q, _, rfl, by simp, hq1, hq2⟩
                · skip
                  obtain ⟨R, hR, hRc⟩ := specR_ex Tryz.prog S229
                  refine WD.drawnK tyOk extOk (by kernel_rfl) (ls := qM3_5) (by kernel_rfl) hR fun K hK => ?_
                  simp (disch := omega) [decF]
                  refine hK _ _ ?_
                  refine WD.cond (t := false) (by simp) (by simp) fun _ => WD.exit ?_
                  exact ⟨q, _, rfl, by simp, hq1, hq2⟩
              · simp (disch := omega) [gO, gA, h3]
                refine ⟨by omega, hK _ _ ?_⟩
                refine WD.cond (t := false) (by simp) (by simp) fun _ => WD.skip (.inl rfl) ?_
                exact ⟨r2, _, rfl, by simp, rfl, Nat.le_refl _⟩
            · skip
              obtain ⟨R, hR, hRc⟩ := specR_ex Tryz.prog S229
              refine WD.drawnK tyOk extOk (by kernel_rfl) (ls := qM3_4) (by kernel_rfl) hR fun K hK => ?_
              simp (disch := omega) [decF]
              refine hK _ _ ?_
              refine WD.cond (t := false) (by simp) (by simp) fun _ => WD.skip (.inl rfl) ?_
              exact ⟨r2, _, rfl, by simp, rfl, Nat.le_refl _⟩
          · refine lkD 3 qM3_1 (by simp (disch := omega) [gA, h3]; exact rfl) ?_
            refine cdF ?_
            exact ⟨r, _, rfl, by simp, rfl, Nat.le_refl _⟩
        · refine lkD 5 [xM 0 16, xS 16 17, xC akGtr 17 8 18, xM 18 19, yM 0 20 19 true] (by simp (disch := omega) [decF]; exact rfl) ?_
          refine WDO.skipG (g := some (19, true)) (by kernel_rfl) (by simp) (by kernel_rfl) ?_
          refine leD 3 qM3_1 ?_
          refine cdF ?_
          exact ⟨r, _, rfl, by simp, rfl, Nat.le_refl _⟩
      · rintro o ⟨q', l', rfl, g1, g2, g3⟩
        exact WD.exit ⟨rfl, rfl, q', l', rfl, by simp [g1], ⟨by rw [hu, hur, g2], by omega, hk⟩, by omega⟩
    · refine lkD 2 [xM 3 12, ⟨⟨binInt akLss (.tmp 12) (.const (.int .u8 128))⟩, (some 13), none⟩] (by simp (disch := omega) [decF]; exact rfl) ?_
      refine cdF ?_
      refine WD.seqR ?_
      obtain ⟨hn2, ⟨fo, f1, f2⟩, ⟨ao, a1, a2⟩⟩ := hGk
      have hf := f2 c.toNat (by omega)
      refine lkD 4 [xM 3 65, ⟨⟨ixArr 256 1 (.global 1) (.tmp 65)⟩, (some 66), none⟩, xL 66 67, xM 67 4] (by simp (disch := omega) [opnd_g1, f1, hf]; exact rfl) ?_
      refine WDO.nilS (WD.seqR ?_)
      have kb : ∀ (u : AObj), Keep noB H (H'.new u) := fun u => hk.trans (Keep.new _ _ _)
      have fin : (lead c.toNat).1 = 0 → utf8L l = false := fun h0 => by
        rw [hu, utf8L_bad (by simp)]
        unfold letterN
        dsimp only
        rw [if_neg h1, if_pos (.inl h0)]
      rcases first_cases (c := c.toNat) (by omega) hcl with ⟨n, i, k1, k2, k3, k4, k5⟩ | ⟨k1, k2, k3⟩
      · obtain ⟨ha1, ha2⟩ := a2 i k3
        have hcells : rdCells ao 2 (2 * i) = some (.cons (.int .u8 (accLo i : Int)) (.cons (.int .u8 (accHi i : Int)) .nil)) := by
          refine rdCells_of [.int .u8 (accLo i : Int), .int .u8 (accHi i : Int)] (2 * i) fun j v hj => ?_
          match j, hj with
          | 0, hj => simp at hj; subst hj; exact ha1
          | 1, hj => simp at hj; subst hj; exact ha2
          | j + 2, hj => simp at hj
        have gn : mkInt .i64 (n : Int) = some (.int .i64 (n : Int)) := mkInt_i64 (by omega) (by omega)
        rw [Nat.mul_comm] at hcells
        refine lkD 4 qM3_2 (by simp (disch := omega) [k1, gn]; exact rfl) ?_
        refine WDO.nilS (WD.seqR ?_)
        refine lkD 4 qM3_3 (by simp (disch := omega) [opnd_g2, k2, a1, hcells]; exact rfl) ?_
        refine WDO.fresh1 tyOk (k := ⟨frAlloc (.cs 253 2 2 false (.cons (.int .u8 0) (.cons (.int .u8 0) .nil)) .e)⟩) (by kernel_rfl) rfl (by kernel_rfl) (v := .ptr H'.next 0) (x := .cs 253 2 2 false (.cons (.int .u8 0) (.cons (.int .u8 0) .nil)) .e) ?_ ?_
        · simp
        have b1 := Bx.new (enc := encA) (e := 253) (es := 2) (z := .cons (.int .u8 0) (.cons (.int .u8 0) .nil)) (a := (0, 0)) encA_len rfl H' (n := 2) rfl
        obtain ⟨H2, s1, s2, s3, s4⟩ := b1.store encA_len (accLo i, accHi i) (cells_encA _)
        have kk : Keep noB H H2 := by
          refine ((hk.trans (Keep.new _ _ _)).trans' s4 fun b hb e => ?_)
          have := hk.1
          omega
        refine WDO.heavy1 tyOk extOk (k := ⟨hvStore ⟨stN 2⟩ (.tmp 6) (.tmp 74)⟩) (by kernel_rfl) rfl (by kernel_rfl) (by simp only [encA, avl_cons, avl_nil] at s1; simp [s1]; exact ⟨rfl, rfl⟩) ?_
        refine WDO.nilS (WD.seqR ?_)
        refine leD 1 [xM 5 75] ?_
        refine WDO.nilS (WD.block ?_)
        obtain ⟨o, g0, g1, _⟩ := s3.get encA_len
        have gl : rdCell o 0 = some (.int .u8 (accLo i : Int)) := g1 0 _ rfl
        have gh : rdCell o 1 = some (.int .u8 (accHi i : Int)) := g1 1 _ rfl
        have bad : letterN (c :: r) = 0 → utf8L l = false := fun h => by rw [hu, utf8L_bad (by simp) h]
        generalize H'.next = N at g0 ⊢
        clear b1 s1 s2 s3 s4 hcells ha1 ha2 fin kb g1
        have kn := k5
        have kq := kk
        have hcc := hc
        refine WD.seqR ?_
        rcases kn with rfl | rfl | rfl
        · have kn : (2 : Nat) = 2 ∨ (2 : Nat) = 3 ∨ (2 : Nat) = 4 := .inl rfl
          refine leD 2 [xC akEql 75 2 77, xM 77 76] ?_
          refine WDO.nilS (WD.cond (t := true) (by simp) (fun _ => WD.seq (WD.seq ?_)) (by simp))
          refine WD.keep (l := [(0, sb (c :: r)), (6, .ptr N 0)]) ?_ (by simp)
          by_cases j0 : r.length + 1 < 2
          · skip
            refine WD.drawLooks tyOk extOk (by kernel_rfl) (ls := qM3_7) (by kernel_rfl) (by simp (disch := omega) [decT]; exact rfl) ?_
            refine WD.cond (t := true) (by simp) (fun _ => WD.seqR ?_) (by simp)
            refine leD 1 [xZ false 2] ?_
            exact WDO.nilS (WD.ret (endR _ (by simp; rfl) ⟨by rw [bad (ln_short h1 k4 kn j0)]; rfl, kq⟩))
          · have hx1 : (c :: r)[1]? = some (r[0]'(by omega)) := by rw [List.getElem?_cons_succ]; exact List.getElem?_eq_getElem _
            have hr0 : r[0]? = some (r[0]'(by omega)) := List.getElem?_eq_getElem _
            generalize r[0]'_ = d0 at hx1 hr0
            have hb1 := byte_at hx1
            by_cases j : d0.toNat < accLo i
            · skip
              refine WD.drawLooks tyOk extOk (by kernel_rfl) (ls := qM3_7) (by kernel_rfl) (by simp (disch := omega) [decT, decF, g0, gl, hb1]; exact rfl) ?_
              refine WD.cond (t := true) (by simp) (fun _ => WD.seqR ?_) (by simp)
              refine leD 1 [xZ false 2] ?_
              exact WDO.nilS (WD.ret (endR _ (by simp; rfl) ⟨by rw [bad (ln_b0 h1 k4 kn (by omega) hr0 (.inl j))]; rfl, kq⟩))
            have j1 := j
            clear j
            by_cases j : accHi i < d0.toNat
            · skip
              refine WD.drawLooks tyOk extOk (by kernel_rfl) (ls := qM3_7) (by kernel_rfl) (by simp (disch := omega) [decT, decF, g0, gl, gh, hb1]; exact rfl) ?_
              refine WD.cond (t := true) (by simp) (fun _ => WD.seqR ?_) (by simp)
              refine leD 1 [xZ false 2] ?_
              exact WDO.nilS (WD.ret (endR _ (by simp; rfl) ⟨by rw [bad (ln_b0 h1 k4 kn (by omega) hr0 (.inr j))]; rfl, kq⟩))
            have j2 := j
            clear j
            refine WD.drawLooks tyOk extOk (by kernel_rfl) (ls := qM3_7) (by kernel_rfl) (by simp (disch := omega) [decF, g0, gl, gh, hb1]; exact rfl) ?_
            refine WD.cond (t := false) (by simp) (by simp) fun _ => WD.skip (.inl rfl) ?_
            refine WD.region ?_
            refine leD 3 [xM 0 95, ⟨⟨slStr (.tmp 95) (some (.const (.int .i64 2))) none⟩, (some 96), none⟩, xM 96 0] ?_
            have hln : letterN (c :: r) = 2 := ln_ok h1 k4 kn (by omega) (fun d hd => by rw [hr0] at hd; cases hd; omega) (fun h => by omega) (fun h => by omega)
            exact WDO.nil ⟨rfl, (c :: r).drop 2, _, rfl, by simp, ⟨by rw [hu, utf8L_step hln (by omega)], by simp; omega, kq⟩, by simp; omega⟩
        · have kn : (3 : Nat) = 2 ∨ (3 : Nat) = 3 ∨ (3 : Nat) = 4 := .inr (.inl rfl)
          refine leD 2 [xC akEql 75 2 77, xM 77 76] ?_
          refine WDO.nilS (WD.cond (t := false) (by simp) (by simp) fun _ => WD.seqR ?_)
          refine leD 2 [xC akEql 75 3 98, xM 98 97] ?_
          refine WDO.nilS (WD.cond (t := true) (by simp) (fun _ => WD.seq (WD.seq ?_)) (by simp))
          refine WD.keep (l := [(0, sb (c :: r)), (6, .ptr N 0)]) ?_ (by simp)
          by_cases j0 : r.length + 1 < 3
          · skip
            have hr : ∃ l2, runDk qM3_8 (tl [(0, sb (c :: r)), (6, .ptr N 0)]) H2 = some (tl l2) ∧ tget 125 l2 = some (.bool true) ∧ tget 0 l2 = some (sb (c :: r)) := ⟨_, by
              iterate 27 (first | (refine dkSkip ?_ ?_; focus (simp; done)) | refine dkStep (by first | rfl | (simp [-resL_cons, resL_cc]; exact rfl)) (by simp) (by simp (disch := omega) [decT]; exact rfl) ?_)
              exact rfl, by simp, by simp⟩
            obtain ⟨l2, ht1, ht2, ht3⟩ := hr
            refine WD.drawLooks tyOk extOk (by kernel_rfl) (ls := qM3_8) (by kernel_rfl) ht1 ?_
            refine WD.cond (t := true) (by simp [ht2]) (fun _ => WD.seqR ?_) (by simp)
            refine leD 1 [xZ false 2] ?_
            exact WDO.nilS (WD.ret (endR _ (by simp; rfl) ⟨by rw [bad (ln_short h1 k4 kn j0)]; rfl, kq⟩))
          · have hx1 : (c :: r)[1]? = some (r[0]'(by omega)) := by rw [List.getElem?_cons_succ]; exact List.getElem?_eq_getElem _
            have hr0 : r[0]? = some (r[0]'(by omega)) := List.getElem?_eq_getElem _
            generalize r[0]'_ = d0 at hx1 hr0
            have hb1 := byte_at hx1
            have hx2 : (c :: r)[2]? = some (r[1]'(by omega)) := by rw [List.getElem?_cons_succ]; exact List.getElem?_eq_getElem _
            have hr1 : r[1]? = some (r[1]'(by omega)) := List.getElem?_eq_getElem _
            generalize r[1]'_ = d1 at hx2 hr1
            have hb2 := byte_at hx2
            by_cases j : d0.toNat < accLo i
            · skip
              have hr : ∃ l2, runDk qM3_8 (tl [(0, sb (c :: r)), (6, .ptr N 0)]) H2 = some (tl l2) ∧ tget 125 l2 = some (.bool true) ∧ tget 0 l2 = some (sb (c :: r)) := ⟨_, by
                iterate 27 (first | (refine dkSkip ?_ ?_; focus (simp; done)) | refine dkStep (by first | rfl | (simp [-resL_cons, resL_cc]; exact rfl)) (by simp) (by simp (disch := omega) [decT, decF, g0, gl, hb1]; exact rfl) ?_)
                exact rfl, by simp, by simp⟩
              obtain ⟨l2, ht1, ht2, ht3⟩ := hr
              refine WD.drawLooks tyOk extOk (by kernel_rfl) (ls := qM3_8) (by kernel_rfl) ht1 ?_
              refine WD.cond (t := true) (by simp [ht2]) (fun _ => WD.seqR ?_) (by simp)
              refine leD 1 [xZ false 2] ?_
              exact WDO.nilS (WD.ret (endR _ (by simp; rfl) ⟨by rw [bad (ln_b0 h1 k4 kn (by omega) hr0 (.inl j))]; rfl, kq⟩))
            have j1 := j
            clear j
            by_cases j : accHi i < d0.toNat
            · skip
              have hr : ∃ l2, runDk qM3_8 (tl [(0, sb (c :: r)), (6, .ptr N 0)]) H2 = some (tl l2) ∧ tget 125 l2 = some (.bool true) ∧ tget 0 l2 = some (sb (c :: r)) := ⟨_, by
                iterate 27 (first | (refine dkSkip ?_ ?_; focus (simp; done)) | refine dkStep (by first | rfl | (simp [-resL_cons, resL_cc]; exact rfl)) (by simp) (by simp (disch := omega) [decT, decF, g0, gl, gh, hb1]; exact rfl) ?_)
                exact rfl, by simp, by simp⟩
              obtain ⟨l2, ht1, ht2, ht3⟩ := hr
              refine WD.drawLooks tyOk extOk (by kernel_rfl) (ls := qM3_8) (by kernel_rfl) ht1 ?_
              refine WD.cond (t := true) (by simp [ht2]) (fun _ => WD.seqR ?_) (by simp)
              refine leD 1 [xZ false 2] ?_
              exact WDO.nilS (WD.ret (endR _ (by simp; rfl) ⟨by rw [bad (ln_b0 h1 k4 kn (by omega) hr0 (.inr j))]; rfl, kq⟩))
            have j2 := j
            clear j
            by_cases j : d1.toNat < 128
            · skip
              have hr : ∃ l2, runDk qM3_8 (tl [(0, sb (c :: r)), (6, .ptr N 0)]) H2 = some (tl l2) ∧ tget 125 l2 = some (.bool true) ∧ tget 0 l2 = some (sb (c :: r)) := ⟨_, by
                iterate 27 (first | (refine dkSkip ?_ ?_; focus (simp; done)) | refine dkStep (by first | rfl | (simp [-resL_cons, resL_cc]; exact rfl)) (by simp) (by simp (disch := omega) [decT, decF, g0, gl, gh, hb1, hb2]; exact rfl) ?_)
                exact rfl, by simp, by simp⟩
              obtain ⟨l2, ht1, ht2, ht3⟩ := hr
              refine WD.drawLooks tyOk extOk (by kernel_rfl) (ls := qM3_8) (by kernel_rfl) ht1 ?_
              refine WD.cond (t := true) (by simp [ht2]) (fun _ => WD.seqR ?_) (by simp)
              refine leD 1 [xZ false 2] ?_
              exact WDO.nilS (WD.ret (endR _ (by simp; rfl) ⟨by rw [bad (ln_b1 h1 k4 kn (by omega) (by omega) hr1 (.inl j))]; rfl, kq⟩))
            have j3 := j
            clear j
            by_cases j : 191 < d1.toNat
            · skip
              have hr : ∃ l2, runDk qM3_8 (tl [(0, sb (c :: r)), (6, .ptr N 0)]) H2 = some (tl l2) ∧ tget 125 l2 = some (.bool true) ∧ tget 0 l2 = some (sb (c :: r)) := ⟨_, by
                iterate 27 (first | (refine dkSkip ?_ ?_; focus (simp; done)) | refine dkStep (by first | rfl | (simp [-resL_cons, resL_cc]; exact rfl)) (by simp) (by simp (disch := omega) [decT, decF, g0, gl, gh, hb1, hb2]; exact rfl) ?_)
                exact rfl, by simp, by simp⟩
              obtain ⟨l2, ht1, ht2, ht3⟩ := hr
              refine WD.drawLooks tyOk extOk (by kernel_rfl) (ls := qM3_8) (by kernel_rfl) ht1 ?_
              refine WD.cond (t := true) (by simp [ht2]) (fun _ => WD.seqR ?_) (by simp)
              refine leD 1 [xZ false 2] ?_
              exact WDO.nilS (WD.ret (endR _ (by simp; rfl) ⟨by rw [bad (ln_b1 h1 k4 kn (by omega) (by omega) hr1 (.inr j))]; rfl, kq⟩))
            have j4 := j
            clear j
            have hr : ∃ l2, runDk qM3_8 (tl [(0, sb (c :: r)), (6, .ptr N 0)]) H2 = some (tl l2) ∧ tget 125 l2 = some (.bool false) ∧ tget 0 l2 = some (sb (c :: r)) := ⟨_, by
              iterate 27 (first | (refine dkSkip ?_ ?_; focus (simp; done)) | refine dkStep (by first | rfl | (simp [-resL_cons, resL_cc]; exact rfl)) (by simp) (by simp (disch := omega) [decF, g0, gl, gh, hb1, hb2]; exact rfl) ?_)
              exact rfl, by simp, by simp⟩
            obtain ⟨l2, ht1, ht2, ht3⟩ := hr
            refine WD.drawLooks tyOk extOk (by kernel_rfl) (ls := qM3_8) (by kernel_rfl) ht1 ?_
            refine WD.cond (t := false) (by simp [ht2]) (by simp) fun _ => WD.skip (.inl rfl) ?_
            refine WD.region ?_
            refine lkD 3 [xM 0 126, ⟨⟨slStr (.tmp 126) (some (.const (.int .i64 3))) none⟩, (some 127), none⟩, xM 127 0] (by simp (disch := omega) [ht3]; exact rfl) ?_
            have hln : letterN (c :: r) = 3 := ln_ok h1 k4 kn (by omega) (fun d hd => by rw [hr0] at hd; cases hd; omega) (fun _ d hd => by rw [hr1] at hd; cases hd; omega) (fun h => by omega)
            exact WDO.nil ⟨rfl, (c :: r).drop 3, _, rfl, by simp, ⟨by rw [hu, utf8L_step hln (by omega)], by simp; omega, kq⟩, by simp; omega⟩
        · have kn : (4 : Nat) = 2 ∨ (4 : Nat) = 3 ∨ (4 : Nat) = 4 := .inr (.inr rfl)
          refine leD 2 [xC akEql 75 2 77, xM 77 76] ?_
          refine WDO.nilS (WD.cond (t := false) (by simp) (by simp) fun _ => WD.seqR ?_)
          refine leD 2 [xC akEql 75 3 98, xM 98 97] ?_
          refine WDO.nilS (WD.cond (t := false) (by simp) (by simp) fun _ => WD.seqR ?_)
          refine leD 2 [xC akEql 75 4 129, xM 129 128] ?_
          refine WDO.nilS (WD.cond (t := true) (by simp) (fun _ => WD.seq (WD.seq ?_)) (by simp))
          refine WD.keep (l := [(0, sb (c :: r)), (6, .ptr N 0)]) ?_ (by simp)
          by_cases j0 : r.length + 1 < 4
          · skip
            have hr : ∃ l2, runDk qM3_9 (tl [(0, sb (c :: r)), (6, .ptr N 0)]) H2 = some (tl l2) ∧ tget 166 l2 = some (.bool true) ∧ tget 0 l2 = some (sb (c :: r)) := ⟨_, by
              iterate 37 (first | (refine dkSkip ?_ ?_; focus (simp; done)) | refine dkStep (by first | rfl | (simp [-resL_cons, resL_cc]; exact rfl)) (by simp) (by simp (disch := omega) [decT]; exact rfl) ?_)
              exact rfl, by simp, by simp⟩
            obtain ⟨l2, ht1, ht2, ht3⟩ := hr
            refine WD.drawLooks tyOk extOk (by kernel_rfl) (ls := qM3_9) (by kernel_rfl) ht1 ?_
            refine WD.cond (t := true) (by simp [ht2]) (fun _ => WD.seqR ?_) (by simp)
            refine leD 1 [xZ false 2] ?_
            exact WDO.nilS (WD.ret (endR _ (by simp; rfl) ⟨by rw [bad (ln_short h1 k4 kn j0)]; rfl, kq⟩))
          · have hx1 : (c :: r)[1]? = some (r[0]'(by omega)) := by rw [List.getElem?_cons_succ]; exact List.getElem?_eq_getElem _
            have hr0 : r[0]? = some (r[0]'(by omega)) := List.getElem?_eq_getElem _
            generalize r[0]'_ = d0 at hx1 hr0
            have hb1 := byte_at hx1
            have hx2 : (c :: r)[2]? = some (r[1]'(by omega)) := by rw [List.getElem?_cons_succ]; exact List.getElem?_eq_getElem _
            have hr1 : r[1]? = some (r[1]'(by omega)) := List.getElem?_eq_getElem _
            generalize r[1]'_ = d1 at hx2 hr1
            have hb2 := byte_at hx2
            have hx3 : (c :: r)[3]? = some (r[2]'(by omega)) := by rw [List.getElem?_cons_succ]; exact List.getElem?_eq_getElem _
            have hr2 : r[2]? = some (r[2]'(by omega)) := List.getElem?_eq_getElem _
            generalize r[2]'_ = d2 at hx3 hr2
            have hb3 := byte_at hx3
            by_cases j : d0.toNat < accLo i
            · skip
              have hr : ∃ l2, runDk qM3_9 (tl [(0, sb (c :: r)), (6, .ptr N 0)]) H2 = some (tl l2) ∧ tget 166 l2 = some (.bool true) ∧ tget 0 l2 = some (sb (c :: r)) := ⟨_, by
                iterate 37 (first | (refine dkSkip ?_ ?_; focus (simp; done)) | refine dkStep (by first | rfl | (simp [-resL_cons, resL_cc]; exact rfl)) (by simp) (by simp (disch := omega) [decT, decF, g0, gl, hb1]; exact rfl) ?_)
                exact rfl, by simp, by simp⟩
              obtain ⟨l2, ht1, ht2, ht3⟩ := hr
              refine WD.drawLooks tyOk extOk (by kernel_rfl) (ls := qM3_9) (by kernel_rfl) ht1 ?_
              refine WD.cond (t := true) (by simp [ht2]) (fun _ => WD.seqR ?_) (by simp)
              refine leD 1 [xZ false 2] ?_
              exact WDO.nilS (WD.ret (endR _ (by simp; rfl) ⟨by rw [bad (ln_b0 h1 k4 kn (by omega) hr0 (.inl j))]; rfl, kq⟩))
            have j1 := j
            clear j
            by_cases j : accHi i < d0.toNat
            · skip
              have hr : ∃ l2, runDk qM3_9 (tl [(0, sb (c :: r)), (6, .ptr N 0)]) H2 = some (tl l2) ∧ tget 166 l2 = some (.bool true) ∧ tget 0 l2 = some (sb (c :: r)) := ⟨_, by
                iterate 37 (first | (refine dkSkip ?_ ?_; focus (simp; done)) | refine dkStep (by first | rfl | (simp [-resL_cons, resL_cc]; exact rfl)) (by simp) (by simp (disch := omega) [decT, decF, g0, gl, gh, hb1]; exact rfl) ?_)
                exact rfl, by simp, by simp⟩
              obtain ⟨l2, ht1, ht2, ht3⟩ := hr
              refine WD.drawLooks tyOk extOk (by kernel_rfl) (ls := qM3_9) (by kernel_rfl) ht1 ?_
              refine WD.cond (t := true) (by simp [ht2]) (fun _ => WD.seqR ?_) (by simp)
              refine leD 1 [xZ false 2] ?_
              exact WDO.nilS (WD.ret (endR _ (by simp; rfl) ⟨by rw [bad (ln_b0 h1 k4 kn (by omega) hr0 (.inr j))]; rfl, kq⟩))
            have j2 := j
            clear j
            by_cases j : d1.toNat < 128
            · skip
              have hr : ∃ l2, runDk qM3_9 (tl [(0, sb (c :: r)), (6, .ptr N 0)]) H2 = some (tl l2) ∧ tget 166 l2 = some (.bool true) ∧ tget 0 l2 = some (sb (c :: r)) := ⟨_, by
                iterate 37 (first | (refine dkSkip ?_ ?_; focus (simp; done)) | refine dkStep (by first | rfl | (simp [-resL_cons, resL_cc]; exact rfl)) (by simp) (by simp (disch := omega) [decT, decF, g0, gl, gh, hb1, hb2]; exact rfl) ?_)
                exact rfl, by simp, by simp⟩
              obtain ⟨l2, ht1, ht2, ht3⟩ := hr
              refine WD.drawLooks tyOk extOk (by kernel_rfl) (ls := qM3_9) (by kernel_rfl) ht1 ?_
              refine WD.cond (t := true) (by simp [ht2]) (fun _ => WD.seqR ?_) (by simp)
              refine leD 1 [xZ false 2] ?_
              exact WDO.nilS (WD.ret (endR _ (by simp; rfl) ⟨by rw [bad (ln_b1 h1 k4 kn (by omega) (by omega) hr1 (.inl j))]; rfl, kq⟩))
            have j3 := j
            clear j
            by_cases j : 191 < d1.toNat
            · skip
              have hr : ∃ l2, runDk qM3_9 (tl [(0, sb (c :: r)), (6, .ptr N 0)]) H2 = some (tl l2) ∧ tget 166 l2 = some (.bool true) ∧ tget 0 l2 = some (sb (c :: r)) := ⟨_, by
                iterate 37 (first | (refine dkSkip ?_ ?_; focus (simp; done)) | refine dkStep (by first | rfl | (simp [-resL_cons, resL_cc]; exact rfl)) (by simp) (by simp (disch := omega) [decT, decF, g0, gl, gh, hb1, hb2]; exact rfl) ?_)
                exact rfl, by simp, by simp⟩
              obtain ⟨l2, ht1, ht2, ht3⟩ := hr
              refine WD.drawLooks tyOk extOk (by kernel_rfl) (ls := qM3_9) (by kernel_rfl) ht1 ?_
              refine WD.cond (t := true) (by simp [ht2]) (fun _ => WD.seqR ?_) (by simp)
              refine leD 1 [xZ false 2] ?_
              exact WDO.nilS (WD.ret (endR _ (by simp; rfl) ⟨by rw [bad (ln_b1 h1 k4 kn (by omega) (by omega) hr1 (.inr j))]; rfl, kq⟩))
            have j4 := j
            clear j
            by_cases j : d2.toNat < 128
            · skip
              have hr : ∃ l2, runDk qM3_9 (tl [(0, sb (c :: r)), (6, .ptr N 0)]) H2 = some (tl l2) ∧ tget 166 l2 = some (.bool true) ∧ tget 0 l2 = some (sb (c :: r)) := ⟨_, by
                iterate 37 (first | (refine dkSkip ?_ ?_; focus (simp; done)) | refine dkStep (by first | rfl | (simp [-resL_cons, resL_cc]; exact rfl)) (by simp) (by simp (disch := omega) [decT, decF, g0, gl, gh, hb1, hb2, hb3]; exact rfl) ?_)
                exact rfl, by simp, by simp⟩
              obtain ⟨l2, ht1, ht2, ht3⟩ := hr
              refine WD.drawLooks tyOk extOk (by kernel_rfl) (ls := qM3_9) (by kernel_rfl) ht1 ?_
              refine WD.cond (t := true) (by simp [ht2]) (fun _ => WD.seqR ?_) (by simp)
              refine leD 1 [xZ false 2] ?_
              exact WDO.nilS (WD.ret (endR _ (by simp; rfl) ⟨by rw [bad (ln_b2 h1 k4 kn (by omega) (by omega) hr2 (.inl j))]; rfl, kq⟩))
            have j5 := j
            clear j
            by_cases j : 191 < d2.toNat
            · skip
              have hr : ∃ l2, runDk qM3_9 (tl [(0, sb (c :: r)), (6, .ptr N 0)]) H2 = some (tl l2) ∧ tget 166 l2 = some (.bool true) ∧ tget 0 l2 = some (sb (c :: r)) := ⟨_, by
                iterate 37 (first | (refine dkSkip ?_ ?_; focus (simp; done)) | refine dkStep (by first | rfl | (simp [-resL_cons, resL_cc]; exact rfl)) (by simp) (by simp (disch := omega) [decT, decF, g0, gl, gh, hb1, hb2, hb3]; exact rfl) ?_)
                exact rfl, by simp, by simp⟩
              obtain ⟨l2, ht1, ht2, ht3⟩ := hr
              refine WD.drawLooks tyOk extOk (by kernel_rfl) (ls := qM3_9) (by kernel_rfl) ht1 ?_
              refine WD.cond (t := true) (by simp [ht2]) (fun _ => WD.seqR ?_) (by simp)
              refine leD 1 [xZ false 2] ?_
              exact WDO.nilS (WD.ret (endR _ (by simp; rfl) ⟨by rw [bad (ln_b2 h1 k4 kn (by omega) (by omega) hr2 (.inr j))]; rfl, kq⟩))
            have j6 := j
            clear j
            have hr : ∃ l2, runDk qM3_9 (tl [(0, sb (c :: r)), (6, .ptr N 0)]) H2 = some (tl l2) ∧ tget 166 l2 = some (.bool false) ∧ tget 0 l2 = some (sb (c :: r)) := ⟨_, by
              iterate 37 (first | (refine dkSkip ?_ ?_; focus (simp; done)) | refine dkStep (by first | rfl | (simp [-resL_cons, resL_cc]; exact rfl)) (by simp) (by simp (disch := omega) [decF, g0, gl, gh, hb1, hb2, hb3]; exact rfl) ?_)
              exact rfl, by simp, by simp⟩
            obtain ⟨l2, ht1, ht2, ht3⟩ := hr
            refine WD.drawLooks tyOk extOk (by kernel_rfl) (ls := qM3_9) (by kernel_rfl) ht1 ?_
            refine WD.cond (t := false) (by simp [ht2]) (by simp) fun _ => WD.skip (.inl rfl) ?_
            refine WD.region ?_
            refine lkD 3 [xM 0 167, ⟨⟨slStr (.tmp 167) (some (.const (.int .i64 4))) none⟩, (some 168), none⟩, xM 168 0] (by simp (disch := omega) [ht3]; exact rfl) ?_
            have hln : letterN (c :: r) = 4 := ln_ok h1 k4 kn (by omega) (fun d hd => by rw [hr0] at hd; cases hd; omega) (fun _ d hd => by rw [hr1] at hd; cases hd; omega) (fun _ d hd => by rw [hr2] at hd; cases hd; omega)
            exact WDO.nil ⟨rfl, (c :: r).drop 4, _, rfl, by simp, ⟨by rw [hu, utf8L_step hln (by omega)], by simp; omega, kq⟩, by simp; omega⟩
      · refine lkD 4 qM3_2 (by simp (disch := omega) [k1]; exact rfl) ?_
        refine WDO.nilS (WD.seqR ?_)
        obtain ⟨ha1, ha2⟩ := a2 15 (by omega)
        have hcells : rdCells ao 2 30 = some (.cons (.int .u8 (accLo 15 : Int)) (.cons (.int .u8 (accHi 15 : Int)) .nil)) := by
          refine rdCells_of [.int .u8 (accLo 15 : Int), .int .u8 (accHi 15 : Int)] 30 fun j v hj => ?_
          match j, hj with
          | 0, hj => simp at hj; subst hj; exact ha1
          | 1, hj => simp at hj; subst hj; exact ha2
          | j + 2, hj => simp at hj
        have n15 : natOf (.int .u8 15) = some 15 := rfl
        refine lkD 4 qM3_3 (by simp (disch := omega) [opnd_g2, k2, n15, a1, hcells]; exact rfl) ?_
        refine WDO.fresh1 tyOk (k := ⟨frAlloc (.cs 253 2 2 false (.cons (.int .u8 0) (.cons (.int .u8 0) .nil)) .e)⟩) (by kernel_rfl) rfl (by kernel_rfl) (v := .ptr H'.next 0) (x := .cs 253 2 2 false (.cons (.int .u8 0) (.cons (.int .u8 0) .nil)) .e) ?_ ?_
        · simp
        have b1 := Bx.new (enc := encA) (e := 253) (es := 2) (z := .cons (.int .u8 0) (.cons (.int .u8 0) .nil)) (a := (0, 0)) encA_len rfl H' (n := 2) rfl
        obtain ⟨H2, s1, s2, s3, s4⟩ := b1.store encA_len (accLo 15, accHi 15) (cells_encA _)
        have kk : Keep noB H H2 := by
          refine ((hk.trans (Keep.new _ _ _)).trans' s4 fun b hb e => ?_)
          have := hk.1
          omega
        refine WDO.heavy1 tyOk extOk (k := ⟨hvStore ⟨stN 2⟩ (.tmp 6) (.tmp 74)⟩) (by kernel_rfl) rfl (by kernel_rfl) (by simp only [encA, avl_cons, avl_nil] at s1; simp [s1]; exact ⟨rfl, rfl⟩) ?_
        refine WDO.nilS (WD.seqR ?_)
        refine leD 1 [xM 5 75] ?_
        refine WDO.nilS (WD.block ?_)
        refine WD.seqR ?_
        refine leD 2 [xC akEql 75 2 77, xM 77 76] ?_
        refine WDO.nilS (WD.cond (t := false) (by simp) (by simp) fun _ => WD.seqR ?_)
        refine leD 2 [xC akEql 75 3 98, xM 98 97] ?_
        refine WDO.nilS (WD.cond (t := false) (by simp) (by simp) fun _ => WD.seqR ?_)
        refine leD 2 [xC akEql 75 4 129, xM 129 128] ?_
        refine WDO.nilS (WD.cond (t := false) (by simp) (by simp) fun _ => WD.seqR ?_)
        refine leD 1 [xZ false 2] ?_
        exact WDO.nilS (WD.ret (endR _ (by simp; rfl) ⟨by rw [fin k3]; rfl, kk⟩))
end
end Go.Proofs.YtfgipbjaapkdlaaGreatDoor
