/- A part of the proof of this seat's statement. Conditions: in each theorem. -/
import Derived.Test.YtfgipbjaapkdlaaGreatDoorS3
import Derived.Test.YtfgipbjaapkdlaaGreatDoorA2
import Derived.KernelRfl
namespace Go.Proofs.YtfgipbjaapkdlaaGreatDoor
open Go.RowKit Go.Xq
def zz (a n b : Nat) : Nat := a * 16 ^ n + b
noncomputable def envOf (ms : List Memo) : Env := Env.of Tryz.prog 10 10 (withMemo ms sumFn) extFn mulFn
theorem follows : Tryz.prog.follows .mixedOrders = true := by kernel_rfl
theorem envOk {ms : List Memo} (h : ∀ k ∈ ms, MemoOk Tryz.prog k) (d : Nat) : RecOk Tryz.prog (recA (envOf ms) d) :=
  recA_ok (E := envOf ms) (tyOk_of _ _ _ _ _) (fun g args H v h => extOk g args H v h) follows (fnsOk_of _ _ _ _ _) (fun f args H v H2 h2 => withMemo_ok (E := E) h sumOk f args H v H2 h2) d
noncomputable def ms0 : List Memo := []
theorem ms0_ok : ∀ k ∈ ms0, MemoOk Tryz.prog k := fun k h => by cases h
theorem consOk {m : Memo} {ms : List Memo} (h : MemoOk Tryz.prog m) (hs : ∀ k ∈ ms, MemoOk Tryz.prog k) : ∀ k ∈ m :: ms, MemoOk Tryz.prog k := fun k hk => by
  rcases List.mem_cons.1 hk with rfl | hk
  · exact h
  · exact hs k hk
set_option maxRecDepth 100000 in
noncomputable def memo1 : Memo := ⟨21,
  (.cons (.ptr 5 0) (.cons (.str 1 112) (.cons (.sl 7 0 1 (some 1)) .nil))),
  8,
  [(3, (.mp [] 0)),
   (4, (.cs 105 5 5 false (.cons (.int .i64 (.ofNat 0)) (.cons (.int .i64 (.ofNat 0)) (.cons (.int .i64 (.ofNat 0)) (.cons .mnil (.cons (.int .i64 (.ofNat 0)) .nil))))) (.n (some (.int .i64 (.ofNat 1))) (.n (some (.int .i64 (.ofNat 512))) .e .e .e .e) (.n (some (.int .i64 (.ofNat 400))) .e .e .e .e) (.n (some (.mp 3)) .e .e .e .e) (.n (some (.int .i64 (.ofNat 0))) .e .e .e .e)))),
   (5, (.cs 102 3 3 false (.cons .inil (.cons (.int .i64 (.ofNat 0)) (.cons (.int .i64 (.ofNat 0)) .nil))) (.n (some (.ifc 55 (.ptr 4 0))) (.n (some (.int .i64 (.ofNat 0))) .e .e .e .e) (.n (some (.int .i64 (.ofNat 0))) .e .e .e .e) .e .e))),
   (6, (.cs 9 1 1 false (.cons (.str 0 0) .nil) (.n (some (.str 4 1818845549)) .e .e .e .e))),
   (7, (.cs 24 3 3 false (.cons (.str 0 0) (.cons .snil (.cons (.bool false) .nil))) (.n (some (.str 4 1818845549)) (.n (some (.sl 6 0 1 (some 1))) .e .e .e .e) (.n (some (.bool true)) .e .e .e .e) .e .e)))],
  (.tup (.cons (.ptr 11 0) (.cons (.int .i64 (.ofNat 0)) .nil))),
  1395,
  [(3, (.mp [⟨(.int .i64 (.ofNat 2)), (.sl 1392 0 512 (some 512)), 0⟩, ⟨(.int .i64 (.ofNat 3)), (.sl 1081 0 512 (some 512)), 1⟩] 2)),
   (4, (.cs 105 5 5 false (.cons (.int .i64 (.ofNat 0)) (.cons (.int .i64 (.ofNat 0)) (.cons (.int .i64 (.ofNat 0)) (.cons .mnil (.cons (.int .i64 (.ofNat 0)) .nil))))) (.n (some (.int .i64 (.ofNat 1))) (.n (some (.int .i64 (.ofNat 512))) .e .e .e .e) (.n (some (.int .i64 (.ofNat 400))) .e .e .e .e) (.n (some (.mp 3)) .e .e .e .e) (.n (some (.int .i64 (.ofNat 12))) .e .e .e .e)))),
   (5, (.cs 102 3 3 false (.cons .inil (.cons (.int .i64 (.ofNat 0)) (.cons (.int .i64 (.ofNat 0)) .nil))) (.n (some (.ifc 55 (.ptr 4 0))) (.n (some (.int .i64 (.ofNat 2))) .e .e .e .e) (.n (some (.int .i64 (.ofNat 3))) .e .e .e .e) .e .e))),
   (6, (.cs 9 1 1 false (.cons (.str 0 0) .nil) (.n (some (.str 4 1818845549)) .e .e .e .e))),
   (7, (.cs 24 3 3 false (.cons (.str 0 0) (.cons .snil (.cons (.bool false) .nil))) (.n (some (.str 4 1818845549)) (.n (some (.sl 6 0 1 (some 1))) .e .e .e .e) (.n (some (.bool true)) .e .e .e .e) .e .e))),
   (11, (.cs 109 2 2 false (.cons .pnil (.cons (.str 0 0) .nil)) (.n (some (.ptr 5 0)) (.n (some (.str 1 112)) .e .e .e .e) .e .e .e))),
   (1081, (.bys 5 512 false (zz 0x9ab2624d000001006c69616d16171201006c69616d1617130070010001 966 0xe30101000102))),
   (1392, (.bys 5 512 false (zz 0x6f122235 1016 (zz 0x702f74030004010000000300000073657865646e692d74090004 948 (zz 0x6c69616d2f702f69080004 910 0xee01da01c70103000102)))))]⟩
set_option maxRecDepth 100000 in
theorem memo1_ok : MemoOk Tryz.prog memo1 := ⟨recA (envOf ms0) 60, envOk ms0_ok 60, by kernel_rfl⟩
noncomputable def ms1 : List Memo := memo1 :: ms0
theorem ms1_ok : ∀ k ∈ ms1, MemoOk Tryz.prog k := consOk memo1_ok ms0_ok
set_option maxRecDepth 100000 in
noncomputable def memo2 : Memo := ⟨30,
  (.cons (.ptr 5 0) (.cons (.str 8 0x6c69616d2f702f69) (.cons (.sl 1879 0 7 none) (.cons .snil .nil)))),
  2491,
  [(3, (.mp [⟨(.int .i64 (.ofNat 2)), (.sl 1392 0 512 (some 512)), 0⟩, ⟨(.int .i64 (.ofNat 3)), (.sl 1081 0 512 (some 512)), 1⟩] 2)),
   (4, (.cs 105 5 5 false (.cons (.int .i64 (.ofNat 0)) (.cons (.int .i64 (.ofNat 0)) (.cons (.int .i64 (.ofNat 0)) (.cons .mnil (.cons (.int .i64 (.ofNat 0)) .nil))))) (.n (some (.int .i64 (.ofNat 1))) (.n (some (.int .i64 (.ofNat 512))) .e .e .e .e) (.n (some (.int .i64 (.ofNat 400))) .e .e .e .e) (.n (some (.mp 3)) .e .e .e .e) (.n (some (.int .i64 (.ofNat 22))) .e .e .e .e)))),
   (5, (.cs 102 3 3 false (.cons .inil (.cons (.int .i64 (.ofNat 0)) (.cons (.int .i64 (.ofNat 0)) .nil))) (.n (some (.ifc 55 (.ptr 4 0))) (.n (some (.int .i64 (.ofNat 2))) .e .e .e .e) (.n (some (.int .i64 (.ofNat 3))) .e .e .e .e) .e .e))),
   (6, (.cs 9 1 1 false (.cons (.str 0 0) .nil) (.n (some (.str 4 1818845549)) .e .e .e .e))),
   (7, (.cs 24 3 3 false (.cons (.str 0 0) (.cons .snil (.cons (.bool false) .nil))) (.n (some (.str 4 1818845549)) (.n (some (.sl 6 0 1 (some 1))) .e .e .e .e) (.n (some (.bool true)) .e .e .e .e) .e .e))),
   (11, (.cs 109 2 2 false (.cons .pnil (.cons (.str 0 0) .nil)) (.n (some (.ptr 5 0)) (.n (some (.str 1 112)) .e .e .e .e) .e .e .e))),
   (1081, (.bys 5 512 false (zz 0x9ab2624d000001006c69616d16171201006c69616d1617130070010001 966 0xe30101000102))),
   (1392, (.bys 5 512 false (zz 0x6f122235 1016 (zz 0x702f74030004010000000300000073657865646e692d74090004 948 (zz 0x6c69616d2f702f69080004 910 0xee01da01c70103000102))))),
   (1584, (.bys 5 3 true 98579)),
   (1613, (.bys 5 11 true 0x100781601006c69616d16)),
   (1805, (.cs 33 1 1 false (.cons .snil .nil) (.n (some (.sl 1879 0 7 none)) .e .e .e .e))),
   (1879, (.bys 5 7 true 0x1811301007816)),
   (2490, (.cs 24 3 3 false (.cons (.str 0 0) (.cons .snil (.cons (.bool false) .nil))) (.n (some (.str 4 1818845549)) (.n (some (.sl 1567 0 1 none)) .e .e .e .e) (.n (some (.bool true)) .e .e .e .e) .e .e)))],
  (.tup (.cons (.bool false) (.cons (.int .i64 (.ofNat 0)) .nil))),
  3053,
  [(3, (.mp [⟨(.int .i64 (.ofNat 2)), (.sl 3050 0 512 (some 512)), 0⟩, ⟨(.int .i64 (.ofNat 3)), (.sl 1081 0 512 (some 512)), 1⟩, ⟨(.int .i64 (.ofNat 4)), (.sl 2740 0 512 (some 512)), 2⟩] 3)),
   (4, (.cs 105 5 5 false (.cons (.int .i64 (.ofNat 0)) (.cons (.int .i64 (.ofNat 0)) (.cons (.int .i64 (.ofNat 0)) (.cons .mnil (.cons (.int .i64 (.ofNat 0)) .nil))))) (.n (some (.int .i64 (.ofNat 1))) (.n (some (.int .i64 (.ofNat 512))) .e .e .e .e) (.n (some (.int .i64 (.ofNat 400))) .e .e .e .e) (.n (some (.mp 3)) .e .e .e .e) (.n (some (.int .i64 (.ofNat 26))) .e .e .e .e)))),
   (5, (.cs 102 3 3 false (.cons .inil (.cons (.int .i64 (.ofNat 0)) (.cons (.int .i64 (.ofNat 0)) .nil))) (.n (some (.ifc 55 (.ptr 4 0))) (.n (some (.int .i64 (.ofNat 2))) .e .e .e .e) (.n (some (.int .i64 (.ofNat 3))) .e .e .e .e) .e .e))),
   (6, (.cs 9 1 1 false (.cons (.str 0 0) .nil) (.n (some (.str 4 1818845549)) .e .e .e .e))),
   (7, (.cs 24 3 3 false (.cons (.str 0 0) (.cons .snil (.cons (.bool false) .nil))) (.n (some (.str 4 1818845549)) (.n (some (.sl 6 0 1 (some 1))) .e .e .e .e) (.n (some (.bool true)) .e .e .e .e) .e .e))),
   (11, (.cs 109 2 2 false (.cons .pnil (.cons (.str 0 0) .nil)) (.n (some (.ptr 5 0)) (.n (some (.str 1 112)) .e .e .e .e) .e .e .e))),
   (1081, (.bys 5 512 false (zz 0x9ab2624d000001006c69616d16171201006c69616d1617130070010001 966 0xe30101000102))),
   (1584, (.bys 5 3 true 98579)),
   (1613, (.bys 5 11 true 0x100781601006c69616d16)),
   (1805, (.cs 33 1 1 false (.cons .snil .nil) (.n (some (.sl 1879 0 7 none)) .e .e .e .e))),
   (2490, (.cs 24 3 3 false (.cons (.str 0 0) (.cons .snil (.cons (.bool false) .nil))) (.n (some (.str 4 1818845549)) (.n (some (.sl 1567 0 1 none)) .e .e .e .e) (.n (some (.bool true)) .e .e .e .e) .e .e))),
   (2740, (.bys 5 512 false (zz 0x2a796f9a000001811301007816070001 992 0xf00101000102))),
   (3050, (.bys 5 512 false (zz 0xb4811c97 1016 (zz 0x702f74030004010000000300000073657865646e692d7409000401000000040000006c69616d2f702f69080004 910 0xee01da01c70103000102))))]⟩
set_option maxRecDepth 100000 in
theorem memo2_ok : MemoOk Tryz.prog memo2 := ⟨recA (envOf ms1) 60, envOk ms1_ok 60, by kernel_rfl⟩
noncomputable def ms2 : List Memo := memo2 :: ms1
theorem ms2_ok : ∀ k ∈ ms2, MemoOk Tryz.prog k := consOk memo2_ok ms1_ok
set_option maxRecDepth 100000 in
noncomputable def memo3 : Memo := ⟨30,
  (.cons (.ptr 5 0) (.cons (.str 3 7352180) (.cons (.sl 1584 0 3 none) (.cons (.sl 1613 0 11 none) .nil)))),
  3053,
  [(3, (.mp [⟨(.int .i64 (.ofNat 2)), (.sl 3050 0 512 (some 512)), 0⟩, ⟨(.int .i64 (.ofNat 3)), (.sl 1081 0 512 (some 512)), 1⟩, ⟨(.int .i64 (.ofNat 4)), (.sl 2740 0 512 (some 512)), 2⟩] 3)),
   (4, (.cs 105 5 5 false (.cons (.int .i64 (.ofNat 0)) (.cons (.int .i64 (.ofNat 0)) (.cons (.int .i64 (.ofNat 0)) (.cons .mnil (.cons (.int .i64 (.ofNat 0)) .nil))))) (.n (some (.int .i64 (.ofNat 1))) (.n (some (.int .i64 (.ofNat 512))) .e .e .e .e) (.n (some (.int .i64 (.ofNat 400))) .e .e .e .e) (.n (some (.mp 3)) .e .e .e .e) (.n (some (.int .i64 (.ofNat 26))) .e .e .e .e)))),
   (5, (.cs 102 3 3 false (.cons .inil (.cons (.int .i64 (.ofNat 0)) (.cons (.int .i64 (.ofNat 0)) .nil))) (.n (some (.ifc 55 (.ptr 4 0))) (.n (some (.int .i64 (.ofNat 2))) .e .e .e .e) (.n (some (.int .i64 (.ofNat 3))) .e .e .e .e) .e .e))),
   (6, (.cs 9 1 1 false (.cons (.str 0 0) .nil) (.n (some (.str 4 1818845549)) .e .e .e .e))),
   (7, (.cs 24 3 3 false (.cons (.str 0 0) (.cons .snil (.cons (.bool false) .nil))) (.n (some (.str 4 1818845549)) (.n (some (.sl 6 0 1 (some 1))) .e .e .e .e) (.n (some (.bool true)) .e .e .e .e) .e .e))),
   (11, (.cs 109 2 2 false (.cons .pnil (.cons (.str 0 0) .nil)) (.n (some (.ptr 5 0)) (.n (some (.str 1 112)) .e .e .e .e) .e .e .e))),
   (1081, (.bys 5 512 false (zz 0x9ab2624d000001006c69616d16171201006c69616d1617130070010001 966 0xe30101000102))),
   (1584, (.bys 5 3 true 98579)),
   (1613, (.bys 5 11 true 0x100781601006c69616d16)),
   (2740, (.bys 5 512 false (zz 0x2a796f9a000001811301007816070001 992 0xf00101000102))),
   (3050, (.bys 5 512 false (zz 0xb4811c97 1016 (zz 0x702f74030004010000000300000073657865646e692d7409000401000000040000006c69616d2f702f69080004 910 0xee01da01c70103000102))))],
  (.tup (.cons (.bool false) (.cons (.int .i64 (.ofNat 0)) .nil))),
  3619,
  [(3, (.mp [⟨(.int .i64 (.ofNat 2)), (.sl 3616 0 512 (some 512)), 0⟩, ⟨(.int .i64 (.ofNat 3)), (.sl 1081 0 512 (some 512)), 1⟩, ⟨(.int .i64 (.ofNat 4)), (.sl 2740 0 512 (some 512)), 2⟩, ⟨(.int .i64 (.ofNat 5)), (.sl 3306 0 512 (some 512)), 3⟩] 4)),
   (4, (.cs 105 5 5 false (.cons (.int .i64 (.ofNat 0)) (.cons (.int .i64 (.ofNat 0)) (.cons (.int .i64 (.ofNat 0)) (.cons .mnil (.cons (.int .i64 (.ofNat 0)) .nil))))) (.n (some (.int .i64 (.ofNat 1))) (.n (some (.int .i64 (.ofNat 512))) .e .e .e .e) (.n (some (.int .i64 (.ofNat 400))) .e .e .e .e) (.n (some (.mp 3)) .e .e .e .e) (.n (some (.int .i64 (.ofNat 30))) .e .e .e .e)))),
   (5, (.cs 102 3 3 false (.cons .inil (.cons (.int .i64 (.ofNat 0)) (.cons (.int .i64 (.ofNat 0)) .nil))) (.n (some (.ifc 55 (.ptr 4 0))) (.n (some (.int .i64 (.ofNat 2))) .e .e .e .e) (.n (some (.int .i64 (.ofNat 3))) .e .e .e .e) .e .e))),
   (6, (.cs 9 1 1 false (.cons (.str 0 0) .nil) (.n (some (.str 4 1818845549)) .e .e .e .e))),
   (7, (.cs 24 3 3 false (.cons (.str 0 0) (.cons .snil (.cons (.bool false) .nil))) (.n (some (.str 4 1818845549)) (.n (some (.sl 6 0 1 (some 1))) .e .e .e .e) (.n (some (.bool true)) .e .e .e .e) .e .e))),
   (11, (.cs 109 2 2 false (.cons .pnil (.cons (.str 0 0) .nil)) (.n (some (.ptr 5 0)) (.n (some (.str 1 112)) .e .e .e .e) .e .e .e))),
   (1081, (.bys 5 512 false (zz 0x9ab2624d000001006c69616d16171201006c69616d1617130070010001 966 0xe30101000102))),
   (2740, (.bys 5 512 false (zz 0x2a796f9a000001811301007816070001 992 0xf00101000102))),
   (3306, (.bys 5 512 false (zz 0xd1a88a3e0100781601006c69616d160b00018113030001 978 0xe90101000102))),
   (3616, (.bys 5 512 false (zz 0xabd323bd0100000005000000702f74030004010000000300000073657865646e692d7409000401000000040000006c69616d2f702f69080004 910 0xee01da01c70103000102)))]⟩
set_option maxRecDepth 100000 in
theorem memo3_ok : MemoOk Tryz.prog memo3 := ⟨recA (envOf ms2) 60, envOk ms2_ok 60, by kernel_rfl⟩
noncomputable def ms3 : List Memo := memo3 :: ms2
theorem ms3_ok : ∀ k ∈ ms3, MemoOk Tryz.prog k := consOk memo3_ok ms2_ok
end Go.Proofs.YtfgipbjaapkdlaaGreatDoor
namespace Go.Proofs.YtfgipbjaapkdlaaGreatDoor
open Go.RowKit Go.Xq
set_option maxRecDepth 100000 in
noncomputable def memo4 : Memo := ⟨22,
  (.cons (.ptr 11 0) (.cons (.agg (.cons (.int .i64 (.ofNat 3)) (.cons (.int .i64 (.ofNat 1)) (.cons (.str 0 0) (.cons .snil (.cons (.sl 1396 0 1 (some 1)) .nil)))))) .nil)),
  1397,
  [(3, (.mp [⟨(.int .i64 (.ofNat 2)), (.sl 1392 0 512 (some 512)), 0⟩, ⟨(.int .i64 (.ofNat 3)), (.sl 1081 0 512 (some 512)), 1⟩] 2)),
   (4, (.cs 105 5 5 false (.cons (.int .i64 (.ofNat 0)) (.cons (.int .i64 (.ofNat 0)) (.cons (.int .i64 (.ofNat 0)) (.cons .mnil (.cons (.int .i64 (.ofNat 0)) .nil))))) (.n (some (.int .i64 (.ofNat 1))) (.n (some (.int .i64 (.ofNat 512))) .e .e .e .e) (.n (some (.int .i64 (.ofNat 400))) .e .e .e .e) (.n (some (.mp 3)) .e .e .e .e) (.n (some (.int .i64 (.ofNat 12))) .e .e .e .e)))),
   (5, (.cs 102 3 3 false (.cons .inil (.cons (.int .i64 (.ofNat 0)) (.cons (.int .i64 (.ofNat 0)) .nil))) (.n (some (.ifc 55 (.ptr 4 0))) (.n (some (.int .i64 (.ofNat 2))) .e .e .e .e) (.n (some (.int .i64 (.ofNat 3))) .e .e .e .e) .e .e))),
   (6, (.cs 9 1 1 false (.cons (.str 0 0) .nil) (.n (some (.str 4 1818845549)) .e .e .e .e))),
   (7, (.cs 24 3 3 false (.cons (.str 0 0) (.cons .snil (.cons (.bool false) .nil))) (.n (some (.str 4 1818845549)) (.n (some (.sl 6 0 1 (some 1))) .e .e .e .e) (.n (some (.bool true)) .e .e .e .e) .e .e))),
   (11, (.cs 109 2 2 false (.cons .pnil (.cons (.str 0 0) .nil)) (.n (some (.ptr 5 0)) (.n (some (.str 1 112)) .e .e .e .e) .e .e .e))),
   (1081, (.bys 5 512 false (zz 0x9ab2624d000001006c69616d16171201006c69616d1617130070010001 966 0xe30101000102))),
   (1392, (.bys 5 512 false (zz 0x6f122235 1016 (zz 0x702f74030004010000000300000073657865646e692d74090004 948 (zz 0x6c69616d2f702f69080004 910 0xee01da01c70103000102))))),
   (1396, (.cs 76 5 5 false (.cons (.str 0 0) (.cons (.int .i64 (.ofNat 0)) (.cons (.int .i64 (.ofNat 0)) (.cons (.str 0 0) (.cons .snil .nil))))) (.n (some (.str 4 1818845549)) (.n (some (.int .i64 (.ofNat 6))) .e .e .e .e) (.n (some (.int .i64 (.ofNat 0))) .e .e .e .e) (.n (some (.str 1 120)) .e .e .e .e) (.n (some .snil) .e .e .e .e))))],
  (.tup (.cons (.bool false) (.cons (.int .i64 (.ofNat 0)) .nil))),
  3619,
  [(3, (.mp [⟨(.int .i64 (.ofNat 2)), (.sl 3616 0 512 (some 512)), 0⟩, ⟨(.int .i64 (.ofNat 3)), (.sl 1081 0 512 (some 512)), 1⟩, ⟨(.int .i64 (.ofNat 4)), (.sl 2740 0 512 (some 512)), 2⟩, ⟨(.int .i64 (.ofNat 5)), (.sl 3306 0 512 (some 512)), 3⟩] 4)),
   (4, (.cs 105 5 5 false (.cons (.int .i64 (.ofNat 0)) (.cons (.int .i64 (.ofNat 0)) (.cons (.int .i64 (.ofNat 0)) (.cons .mnil (.cons (.int .i64 (.ofNat 0)) .nil))))) (.n (some (.int .i64 (.ofNat 1))) (.n (some (.int .i64 (.ofNat 512))) .e .e .e .e) (.n (some (.int .i64 (.ofNat 400))) .e .e .e .e) (.n (some (.mp 3)) .e .e .e .e) (.n (some (.int .i64 (.ofNat 30))) .e .e .e .e)))),
   (5, (.cs 102 3 3 false (.cons .inil (.cons (.int .i64 (.ofNat 0)) (.cons (.int .i64 (.ofNat 0)) .nil))) (.n (some (.ifc 55 (.ptr 4 0))) (.n (some (.int .i64 (.ofNat 2))) .e .e .e .e) (.n (some (.int .i64 (.ofNat 3))) .e .e .e .e) .e .e))),
   (6, (.cs 9 1 1 false (.cons (.str 0 0) .nil) (.n (some (.str 4 1818845549)) .e .e .e .e))),
   (7, (.cs 24 3 3 false (.cons (.str 0 0) (.cons .snil (.cons (.bool false) .nil))) (.n (some (.str 4 1818845549)) (.n (some (.sl 6 0 1 (some 1))) .e .e .e .e) (.n (some (.bool true)) .e .e .e .e) .e .e))),
   (11, (.cs 109 2 2 false (.cons .pnil (.cons (.str 0 0) .nil)) (.n (some (.ptr 5 0)) (.n (some (.str 1 112)) .e .e .e .e) .e .e .e))),
   (1081, (.bys 5 512 false (zz 0x9ab2624d000001006c69616d16171201006c69616d1617130070010001 966 0xe30101000102))),
   (2740, (.bys 5 512 false (zz 0x2a796f9a000001811301007816070001 992 0xf00101000102))),
   (3306, (.bys 5 512 false (zz 0xd1a88a3e0100781601006c69616d160b00018113030001 978 0xe90101000102))),
   (3616, (.bys 5 512 false (zz 0xabd323bd0100000005000000702f74030004010000000300000073657865646e692d7409000401000000040000006c69616d2f702f69080004 910 0xee01da01c70103000102)))]⟩
set_option maxRecDepth 100000 in
theorem memo4_ok : MemoOk Tryz.prog memo4 := ⟨recA (envOf ms3) 60, envOk ms3_ok 60, by kernel_rfl⟩
noncomputable def ms4 : List Memo := memo4 :: ms3
theorem ms4_ok : ∀ k ∈ ms4, MemoOk Tryz.prog k := consOk memo4_ok ms3_ok
set_option maxRecDepth 100000 in
noncomputable def memo5 : Memo := ⟨22,
  (.cons (.ptr 11 0) (.cons (.agg (.cons (.int .i64 (.ofNat 3)) (.cons (.int .i64 (.ofNat 2)) (.cons (.str 0 0) (.cons .snil (.cons (.sl 3620 0 1 (some 1)) .nil)))))) .nil)),
  3621,
  [(3, (.mp [⟨(.int .i64 (.ofNat 2)), (.sl 3616 0 512 (some 512)), 0⟩, ⟨(.int .i64 (.ofNat 3)), (.sl 1081 0 512 (some 512)), 1⟩, ⟨(.int .i64 (.ofNat 4)), (.sl 2740 0 512 (some 512)), 2⟩, ⟨(.int .i64 (.ofNat 5)), (.sl 3306 0 512 (some 512)), 3⟩] 4)),
   (4, (.cs 105 5 5 false (.cons (.int .i64 (.ofNat 0)) (.cons (.int .i64 (.ofNat 0)) (.cons (.int .i64 (.ofNat 0)) (.cons .mnil (.cons (.int .i64 (.ofNat 0)) .nil))))) (.n (some (.int .i64 (.ofNat 1))) (.n (some (.int .i64 (.ofNat 512))) .e .e .e .e) (.n (some (.int .i64 (.ofNat 400))) .e .e .e .e) (.n (some (.mp 3)) .e .e .e .e) (.n (some (.int .i64 (.ofNat 30))) .e .e .e .e)))),
   (5, (.cs 102 3 3 false (.cons .inil (.cons (.int .i64 (.ofNat 0)) (.cons (.int .i64 (.ofNat 0)) .nil))) (.n (some (.ifc 55 (.ptr 4 0))) (.n (some (.int .i64 (.ofNat 2))) .e .e .e .e) (.n (some (.int .i64 (.ofNat 3))) .e .e .e .e) .e .e))),
   (6, (.cs 9 1 1 false (.cons (.str 0 0) .nil) (.n (some (.str 4 1818845549)) .e .e .e .e))),
   (7, (.cs 24 3 3 false (.cons (.str 0 0) (.cons .snil (.cons (.bool false) .nil))) (.n (some (.str 4 1818845549)) (.n (some (.sl 6 0 1 (some 1))) .e .e .e .e) (.n (some (.bool true)) .e .e .e .e) .e .e))),
   (11, (.cs 109 2 2 false (.cons .pnil (.cons (.str 0 0) .nil)) (.n (some (.ptr 5 0)) (.n (some (.str 1 112)) .e .e .e .e) .e .e .e))),
   (1081, (.bys 5 512 false (zz 0x9ab2624d000001006c69616d16171201006c69616d1617130070010001 966 0xe30101000102))),
   (2740, (.bys 5 512 false (zz 0x2a796f9a000001811301007816070001 992 0xf00101000102))),
   (3306, (.bys 5 512 false (zz 0xd1a88a3e0100781601006c69616d160b00018113030001 978 0xe90101000102))),
   (3616, (.bys 5 512 false (zz 0xabd323bd0100000005000000702f74030004010000000300000073657865646e692d7409000401000000040000006c69616d2f702f69080004 910 0xee01da01c70103000102))),
   (3620, (.cs 76 5 5 false (.cons (.str 0 0) (.cons (.int .i64 (.ofNat 0)) (.cons (.int .i64 (.ofNat 0)) (.cons (.str 0 0) (.cons .snil .nil))))) (.n (some (.str 4 1818845549)) (.n (some (.int .i64 (.ofNat 6))) .e .e .e .e) (.n (some (.int .i64 (.ofNat 0))) .e .e .e .e) (.n (some (.str 1 120)) .e .e .e .e) (.n (some .snil) .e .e .e .e))))],
  (.tup (.cons (.bool false) (.cons (.int .i64 (.ofNat 190)) .nil))),
  4601,
  [(3, (.mp [⟨(.int .i64 (.ofNat 2)), (.sl 3616 0 512 (some 512)), 0⟩, ⟨(.int .i64 (.ofNat 3)), (.sl 1081 0 512 (some 512)), 1⟩, ⟨(.int .i64 (.ofNat 4)), (.sl 2740 0 512 (some 512)), 2⟩, ⟨(.int .i64 (.ofNat 5)), (.sl 3306 0 512 (some 512)), 3⟩] 4)),
   (4, (.cs 105 5 5 false (.cons (.int .i64 (.ofNat 0)) (.cons (.int .i64 (.ofNat 0)) (.cons (.int .i64 (.ofNat 0)) (.cons .mnil (.cons (.int .i64 (.ofNat 0)) .nil))))) (.n (some (.int .i64 (.ofNat 1))) (.n (some (.int .i64 (.ofNat 512))) .e .e .e .e) (.n (some (.int .i64 (.ofNat 400))) .e .e .e .e) (.n (some (.mp 3)) .e .e .e .e) (.n (some (.int .i64 (.ofNat 42))) .e .e .e .e)))),
   (5, (.cs 102 3 3 false (.cons .inil (.cons (.int .i64 (.ofNat 0)) (.cons (.int .i64 (.ofNat 0)) .nil))) (.n (some (.ifc 55 (.ptr 4 0))) (.n (some (.int .i64 (.ofNat 2))) .e .e .e .e) (.n (some (.int .i64 (.ofNat 3))) .e .e .e .e) .e .e))),
   (6, (.cs 9 1 1 false (.cons (.str 0 0) .nil) (.n (some (.str 4 1818845549)) .e .e .e .e))),
   (7, (.cs 24 3 3 false (.cons (.str 0 0) (.cons .snil (.cons (.bool false) .nil))) (.n (some (.str 4 1818845549)) (.n (some (.sl 6 0 1 (some 1))) .e .e .e .e) (.n (some (.bool true)) .e .e .e .e) .e .e))),
   (11, (.cs 109 2 2 false (.cons .pnil (.cons (.str 0 0) .nil)) (.n (some (.ptr 5 0)) (.n (some (.str 1 112)) .e .e .e .e) .e .e .e))),
   (1081, (.bys 5 512 false (zz 0x9ab2624d000001006c69616d16171201006c69616d1617130070010001 966 0xe30101000102))),
   (2740, (.bys 5 512 false (zz 0x2a796f9a000001811301007816070001 992 0xf00101000102))),
   (3306, (.bys 5 512 false (zz 0xd1a88a3e0100781601006c69616d160b00018113030001 978 0xe90101000102))),
   (3616, (.bys 5 512 false (zz 0xabd323bd0100000005000000702f74030004010000000300000073657865646e692d7409000401000000040000006c69616d2f702f69080004 910 0xee01da01c70103000102)))]⟩
set_option maxRecDepth 100000 in
theorem memo5_ok : MemoOk Tryz.prog memo5 := ⟨recA (envOf ms4) 60, envOk ms4_ok 60, by kernel_rfl⟩
noncomputable def ms5 : List Memo := memo5 :: ms4
theorem ms5_ok : ∀ k ∈ ms5, MemoOk Tryz.prog k := consOk memo5_ok ms4_ok
set_option maxRecDepth 100000 in
noncomputable def memo6 : Memo := ⟨26,
  (.cons (.ptr 11 0) .nil),
  5263,
  [(3, (.mp [⟨(.int .i64 (.ofNat 2)), (.sl 3616 0 512 (some 512)), 0⟩, ⟨(.int .i64 (.ofNat 3)), (.sl 1081 0 512 (some 512)), 1⟩, ⟨(.int .i64 (.ofNat 4)), (.sl 2740 0 512 (some 512)), 2⟩, ⟨(.int .i64 (.ofNat 5)), (.sl 3306 0 512 (some 512)), 3⟩] 4)),
   (4, (.cs 105 5 5 false (.cons (.int .i64 (.ofNat 0)) (.cons (.int .i64 (.ofNat 0)) (.cons (.int .i64 (.ofNat 0)) (.cons .mnil (.cons (.int .i64 (.ofNat 0)) .nil))))) (.n (some (.int .i64 (.ofNat 1))) (.n (some (.int .i64 (.ofNat 512))) .e .e .e .e) (.n (some (.int .i64 (.ofNat 400))) .e .e .e .e) (.n (some (.mp 3)) .e .e .e .e) (.n (some (.int .i64 (.ofNat 49))) .e .e .e .e)))),
   (5, (.cs 102 3 3 false (.cons .inil (.cons (.int .i64 (.ofNat 0)) (.cons (.int .i64 (.ofNat 0)) .nil))) (.n (some (.ifc 55 (.ptr 4 0))) (.n (some (.int .i64 (.ofNat 2))) .e .e .e .e) (.n (some (.int .i64 (.ofNat 3))) .e .e .e .e) .e .e))),
   (6, (.cs 9 1 1 false (.cons (.str 0 0) .nil) (.n (some (.str 4 1818845549)) .e .e .e .e))),
   (7, (.cs 24 3 3 false (.cons (.str 0 0) (.cons .snil (.cons (.bool false) .nil))) (.n (some (.str 4 1818845549)) (.n (some (.sl 6 0 1 (some 1))) .e .e .e .e) (.n (some (.bool true)) .e .e .e .e) .e .e))),
   (11, (.cs 109 2 2 false (.cons .pnil (.cons (.str 0 0) .nil)) (.n (some (.ptr 5 0)) (.n (some (.str 1 112)) .e .e .e .e) .e .e .e))),
   (1081, (.bys 5 512 false (zz 0x9ab2624d000001006c69616d16171201006c69616d1617130070010001 966 0xe30101000102))),
   (2740, (.bys 5 512 false (zz 0x2a796f9a000001811301007816070001 992 0xf00101000102))),
   (3306, (.bys 5 512 false (zz 0xd1a88a3e0100781601006c69616d160b00018113030001 978 0xe90101000102))),
   (3616, (.bys 5 512 false (zz 0xabd323bd0100000005000000702f74030004010000000300000073657865646e692d7409000401000000040000006c69616d2f702f69080004 910 0xee01da01c70103000102))),
   (5219, (.cs 76 5 5 true (.cons (.str 0 0) (.cons (.int .i64 (.ofNat 0)) (.cons (.int .i64 (.ofNat 0)) (.cons (.str 0 0) (.cons .snil .nil))))) (.n (some (.str 4 1818845549)) (.n (some (.int .i64 (.ofNat 6))) .e .e .e .e) (.n (some (.int .i64 (.ofNat 0))) .e .e .e .e) (.n (some (.str 1 120)) .e .e .e .e) (.n (some .snil) .e .e .e .e)))),
   (5262, (.cs 30 5 5 false (.cons (.int .i64 (.ofNat 0)) (.cons (.int .i64 (.ofNat 0)) (.cons (.str 0 0) (.cons .snil (.cons .snil .nil))))) (.n (some (.int .i64 (.ofNat 3))) (.n (some (.int .i64 (.ofNat 1))) .e .e .e .e) (.n (some (.str 0 0)) .e .e .e .e) (.n (some .snil) .e .e .e .e) (.n (some (.sl 5219 0 1 none)) .e .e .e .e))))],
  (.tup (.cons (.str 0 0) (.cons (.int .i64 (.ofNat 0)) .nil))),
  6011,
  [(3, (.mp [⟨(.int .i64 (.ofNat 2)), (.sl 3616 0 512 (some 512)), 0⟩, ⟨(.int .i64 (.ofNat 3)), (.sl 1081 0 512 (some 512)), 1⟩, ⟨(.int .i64 (.ofNat 4)), (.sl 2740 0 512 (some 512)), 2⟩, ⟨(.int .i64 (.ofNat 5)), (.sl 3306 0 512 (some 512)), 3⟩] 4)),
   (4, (.cs 105 5 5 false (.cons (.int .i64 (.ofNat 0)) (.cons (.int .i64 (.ofNat 0)) (.cons (.int .i64 (.ofNat 0)) (.cons .mnil (.cons (.int .i64 (.ofNat 0)) .nil))))) (.n (some (.int .i64 (.ofNat 1))) (.n (some (.int .i64 (.ofNat 512))) .e .e .e .e) (.n (some (.int .i64 (.ofNat 400))) .e .e .e .e) (.n (some (.mp 3)) .e .e .e .e) (.n (some (.int .i64 (.ofNat 56))) .e .e .e .e)))),
   (5, (.cs 102 3 3 false (.cons .inil (.cons (.int .i64 (.ofNat 0)) (.cons (.int .i64 (.ofNat 0)) .nil))) (.n (some (.ifc 55 (.ptr 4 0))) (.n (some (.int .i64 (.ofNat 2))) .e .e .e .e) (.n (some (.int .i64 (.ofNat 3))) .e .e .e .e) .e .e))),
   (6, (.cs 9 1 1 false (.cons (.str 0 0) .nil) (.n (some (.str 4 1818845549)) .e .e .e .e))),
   (7, (.cs 24 3 3 false (.cons (.str 0 0) (.cons .snil (.cons (.bool false) .nil))) (.n (some (.str 4 1818845549)) (.n (some (.sl 6 0 1 (some 1))) .e .e .e .e) (.n (some (.bool true)) .e .e .e .e) .e .e))),
   (11, (.cs 109 2 2 false (.cons .pnil (.cons (.str 0 0) .nil)) (.n (some (.ptr 5 0)) (.n (some (.str 1 112)) .e .e .e .e) .e .e .e))),
   (1081, (.bys 5 512 false (zz 0x9ab2624d000001006c69616d16171201006c69616d1617130070010001 966 0xe30101000102))),
   (2740, (.bys 5 512 false (zz 0x2a796f9a000001811301007816070001 992 0xf00101000102))),
   (3306, (.bys 5 512 false (zz 0xd1a88a3e0100781601006c69616d160b00018113030001 978 0xe90101000102))),
   (3616, (.bys 5 512 false (zz 0xabd323bd0100000005000000702f74030004010000000300000073657865646e692d7409000401000000040000006c69616d2f702f69080004 910 0xee01da01c70103000102))),
   (5219, (.cs 76 5 5 true (.cons (.str 0 0) (.cons (.int .i64 (.ofNat 0)) (.cons (.int .i64 (.ofNat 0)) (.cons (.str 0 0) (.cons .snil .nil))))) (.n (some (.str 4 1818845549)) (.n (some (.int .i64 (.ofNat 6))) .e .e .e .e) (.n (some (.int .i64 (.ofNat 0))) .e .e .e .e) (.n (some (.str 1 120)) .e .e .e .e) (.n (some .snil) .e .e .e .e)))),
   (5262, (.cs 30 5 5 false (.cons (.int .i64 (.ofNat 0)) (.cons (.int .i64 (.ofNat 0)) (.cons (.str 0 0) (.cons .snil (.cons .snil .nil))))) (.n (some (.int .i64 (.ofNat 3))) (.n (some (.int .i64 (.ofNat 1))) .e .e .e .e) (.n (some (.str 0 0)) .e .e .e .e) (.n (some .snil) .e .e .e .e) (.n (some (.sl 5219 0 1 none)) .e .e .e .e))))]⟩
set_option maxRecDepth 100000 in
theorem memo6_ok : MemoOk Tryz.prog memo6 := ⟨recA (envOf ms5) 60, envOk ms5_ok 60, by kernel_rfl⟩
noncomputable def ms6 : List Memo := memo6 :: ms5
theorem ms6_ok : ∀ k ∈ ms6, MemoOk Tryz.prog k := consOk memo6_ok ms5_ok
end Go.Proofs.YtfgipbjaapkdlaaGreatDoor
namespace Go.Proofs.YtfgipbjaapkdlaaGreatDoor
open Go.RowKit Go.Xq
set_option maxRecDepth 100000 in
noncomputable def memo7 : Memo := ⟨30,
  (.cons (.ptr 5 0) (.cons (.str 8 0x6c69616d2f702f69) (.cons (.sl 7020 0 1 (some 1)) (.cons .snil .nil)))),
  7021,
  [(3, (.mp [⟨(.int .i64 (.ofNat 2)), (.sl 3616 0 512 (some 512)), 0⟩, ⟨(.int .i64 (.ofNat 3)), (.sl 1081 0 512 (some 512)), 1⟩, ⟨(.int .i64 (.ofNat 4)), (.sl 2740 0 512 (some 512)), 2⟩, ⟨(.int .i64 (.ofNat 5)), (.sl 3306 0 512 (some 512)), 3⟩] 4)),
   (4, (.cs 105 5 5 false (.cons (.int .i64 (.ofNat 0)) (.cons (.int .i64 (.ofNat 0)) (.cons (.int .i64 (.ofNat 0)) (.cons .mnil (.cons (.int .i64 (.ofNat 0)) .nil))))) (.n (some (.int .i64 (.ofNat 1))) (.n (some (.int .i64 (.ofNat 512))) .e .e .e .e) (.n (some (.int .i64 (.ofNat 400))) .e .e .e .e) (.n (some (.mp 3)) .e .e .e .e) (.n (some (.int .i64 (.ofNat 66))) .e .e .e .e)))),
   (5, (.cs 102 3 3 false (.cons .inil (.cons (.int .i64 (.ofNat 0)) (.cons (.int .i64 (.ofNat 0)) .nil))) (.n (some (.ifc 55 (.ptr 4 0))) (.n (some (.int .i64 (.ofNat 2))) .e .e .e .e) (.n (some (.int .i64 (.ofNat 3))) .e .e .e .e) .e .e))),
   (11, (.cs 109 2 2 false (.cons .pnil (.cons (.str 0 0) .nil)) (.n (some (.ptr 5 0)) (.n (some (.str 1 112)) .e .e .e .e) .e .e .e))),
   (1081, (.bys 5 512 false (zz 0x9ab2624d000001006c69616d16171201006c69616d1617130070010001 966 0xe30101000102))),
   (2740, (.bys 5 512 false (zz 0x2a796f9a000001811301007816070001 992 0xf00101000102))),
   (3306, (.bys 5 512 false (zz 0xd1a88a3e0100781601006c69616d160b00018113030001 978 0xe90101000102))),
   (3616, (.bys 5 512 false (zz 0xabd323bd0100000005000000702f74030004010000000300000073657865646e692d7409000401000000040000006c69616d2f702f69080004 910 0xee01da01c70103000102))),
   (6085, (.bys 5 7 true 0x2811301006116)),
   (6086, (.cs 3 1 1 false (.cons (.int .i64 (.ofNat 0)) .nil) (.n (some (.int .i64 (.ofNat 1))) .e .e .e .e))),
   (6093, (.dfr true)),
   (7020, (.bys 5 1 false 16))],
  (.tup (.cons (.bool false) (.cons (.int .i64 (.ofNat 0)) .nil))),
  7715,
  [(3, (.mp [⟨(.int .i64 (.ofNat 2)), (.sl 7712 0 512 (some 512)), 0⟩, ⟨(.int .i64 (.ofNat 3)), (.sl 1081 0 512 (some 512)), 1⟩, ⟨(.int .i64 (.ofNat 4)), (.sl 7402 0 512 (some 512)), 2⟩, ⟨(.int .i64 (.ofNat 5)), (.sl 3306 0 512 (some 512)), 3⟩] 4)),
   (4, (.cs 105 5 5 false (.cons (.int .i64 (.ofNat 0)) (.cons (.int .i64 (.ofNat 0)) (.cons (.int .i64 (.ofNat 0)) (.cons .mnil (.cons (.int .i64 (.ofNat 0)) .nil))))) (.n (some (.int .i64 (.ofNat 1))) (.n (some (.int .i64 (.ofNat 512))) .e .e .e .e) (.n (some (.int .i64 (.ofNat 400))) .e .e .e .e) (.n (some (.mp 3)) .e .e .e .e) (.n (some (.int .i64 (.ofNat 73))) .e .e .e .e)))),
   (5, (.cs 102 3 3 false (.cons .inil (.cons (.int .i64 (.ofNat 0)) (.cons (.int .i64 (.ofNat 0)) .nil))) (.n (some (.ifc 55 (.ptr 4 0))) (.n (some (.int .i64 (.ofNat 2))) .e .e .e .e) (.n (some (.int .i64 (.ofNat 3))) .e .e .e .e) .e .e))),
   (11, (.cs 109 2 2 false (.cons .pnil (.cons (.str 0 0) .nil)) (.n (some (.ptr 5 0)) (.n (some (.str 1 112)) .e .e .e .e) .e .e .e))),
   (1081, (.bys 5 512 false (zz 0x9ab2624d000001006c69616d16171201006c69616d1617130070010001 966 0xe30101000102))),
   (3306, (.bys 5 512 false (zz 0xd1a88a3e0100781601006c69616d160b00018113030001 978 0xe90101000102))),
   (6085, (.bys 5 7 true 0x2811301006116)),
   (6086, (.cs 3 1 1 false (.cons (.int .i64 (.ofNat 0)) .nil) (.n (some (.int .i64 (.ofNat 1))) .e .e .e .e))),
   (6093, (.dfr true)),
   (7402, (.bys 5 512 false (zz 0x7537376000001811301007816070001000010010001 980 0xf001ea0102000102))),
   (7712, (.bys 5 512 false (zz 0xce6968df0100000005000000702f74030004010000000300000073657865646e692d7409000402000000040000006c69616d2f702f69080004 910 0xee01da01c70103000102)))]⟩
set_option maxRecDepth 100000 in
theorem memo7_ok : MemoOk Tryz.prog memo7 := ⟨recA (envOf ms6) 60, envOk ms6_ok 60, by kernel_rfl⟩
noncomputable def ms7 : List Memo := memo7 :: ms6
theorem ms7_ok : ∀ k ∈ ms7, MemoOk Tryz.prog k := consOk memo7_ok ms6_ok
set_option maxRecDepth 100000 in
noncomputable def memo8 : Memo := ⟨26,
  (.cons (.ptr 11 0) .nil),
  7715,
  [(3, (.mp [⟨(.int .i64 (.ofNat 2)), (.sl 7712 0 512 (some 512)), 0⟩, ⟨(.int .i64 (.ofNat 3)), (.sl 1081 0 512 (some 512)), 1⟩, ⟨(.int .i64 (.ofNat 4)), (.sl 7402 0 512 (some 512)), 2⟩, ⟨(.int .i64 (.ofNat 5)), (.sl 3306 0 512 (some 512)), 3⟩] 4)),
   (4, (.cs 105 5 5 false (.cons (.int .i64 (.ofNat 0)) (.cons (.int .i64 (.ofNat 0)) (.cons (.int .i64 (.ofNat 0)) (.cons .mnil (.cons (.int .i64 (.ofNat 0)) .nil))))) (.n (some (.int .i64 (.ofNat 1))) (.n (some (.int .i64 (.ofNat 512))) .e .e .e .e) (.n (some (.int .i64 (.ofNat 400))) .e .e .e .e) (.n (some (.mp 3)) .e .e .e .e) (.n (some (.int .i64 (.ofNat 73))) .e .e .e .e)))),
   (5, (.cs 102 3 3 false (.cons .inil (.cons (.int .i64 (.ofNat 0)) (.cons (.int .i64 (.ofNat 0)) .nil))) (.n (some (.ifc 55 (.ptr 4 0))) (.n (some (.int .i64 (.ofNat 2))) .e .e .e .e) (.n (some (.int .i64 (.ofNat 3))) .e .e .e .e) .e .e))),
   (11, (.cs 109 2 2 false (.cons .pnil (.cons (.str 0 0) .nil)) (.n (some (.ptr 5 0)) (.n (some (.str 1 112)) .e .e .e .e) .e .e .e))),
   (1081, (.bys 5 512 false (zz 0x9ab2624d000001006c69616d16171201006c69616d1617130070010001 966 0xe30101000102))),
   (3306, (.bys 5 512 false (zz 0xd1a88a3e0100781601006c69616d160b00018113030001 978 0xe90101000102))),
   (6085, (.bys 5 7 true 0x2811301006116)),
   (6086, (.cs 3 1 1 false (.cons (.int .i64 (.ofNat 0)) .nil) (.n (some (.int .i64 (.ofNat 1))) .e .e .e .e))),
   (6093, (.dfr true)),
   (7402, (.bys 5 512 false (zz 0x7537376000001811301007816070001000010010001 980 0xf001ea0102000102))),
   (7712, (.bys 5 512 false (zz 0xce6968df0100000005000000702f74030004010000000300000073657865646e692d7409000402000000040000006c69616d2f702f69080004 910 0xee01da01c70103000102)))],
  (.tup (.cons (.str 4 1818845549) (.cons (.int .i64 (.ofNat 193)) .nil))),
  8483,
  [(3, (.mp [⟨(.int .i64 (.ofNat 2)), (.sl 7712 0 512 (some 512)), 0⟩, ⟨(.int .i64 (.ofNat 3)), (.sl 1081 0 512 (some 512)), 1⟩, ⟨(.int .i64 (.ofNat 4)), (.sl 7402 0 512 (some 512)), 2⟩, ⟨(.int .i64 (.ofNat 5)), (.sl 3306 0 512 (some 512)), 3⟩] 4)),
   (4, (.cs 105 5 5 false (.cons (.int .i64 (.ofNat 0)) (.cons (.int .i64 (.ofNat 0)) (.cons (.int .i64 (.ofNat 0)) (.cons .mnil (.cons (.int .i64 (.ofNat 0)) .nil))))) (.n (some (.int .i64 (.ofNat 1))) (.n (some (.int .i64 (.ofNat 512))) .e .e .e .e) (.n (some (.int .i64 (.ofNat 400))) .e .e .e .e) (.n (some (.mp 3)) .e .e .e .e) (.n (some (.int .i64 (.ofNat 80))) .e .e .e .e)))),
   (5, (.cs 102 3 3 false (.cons .inil (.cons (.int .i64 (.ofNat 0)) (.cons (.int .i64 (.ofNat 0)) .nil))) (.n (some (.ifc 55 (.ptr 4 0))) (.n (some (.int .i64 (.ofNat 2))) .e .e .e .e) (.n (some (.int .i64 (.ofNat 3))) .e .e .e .e) .e .e))),
   (1081, (.bys 5 512 false (zz 0x9ab2624d000001006c69616d16171201006c69616d1617130070010001 966 0xe30101000102))),
   (3306, (.bys 5 512 false (zz 0xd1a88a3e0100781601006c69616d160b00018113030001 978 0xe90101000102))),
   (6085, (.bys 5 7 true 0x2811301006116)),
   (6086, (.cs 3 1 1 false (.cons (.int .i64 (.ofNat 0)) .nil) (.n (some (.int .i64 (.ofNat 1))) .e .e .e .e))),
   (6093, (.dfr true)),
   (7402, (.bys 5 512 false (zz 0x7537376000001811301007816070001000010010001 980 0xf001ea0102000102))),
   (7712, (.bys 5 512 false (zz 0xce6968df0100000005000000702f74030004010000000300000073657865646e692d7409000402000000040000006c69616d2f702f69080004 910 0xee01da01c70103000102)))]⟩
set_option maxRecDepth 100000 in
theorem memo8_ok : MemoOk Tryz.prog memo8 := ⟨recA (envOf ms7) 60, envOk ms7_ok 60, by kernel_rfl⟩
noncomputable def ms8 : List Memo := memo8 :: ms7
theorem ms8_ok : ∀ k ∈ ms8, MemoOk Tryz.prog k := consOk memo8_ok ms7_ok
set_option maxRecDepth 100000 in
noncomputable def memo9 : Memo := ⟨79,
  (.cons (.ptr 5 0) (.cons (.str 8 0x6c69616d2f702f69) .nil)),
  8835,
  [(3, (.mp [⟨(.int .i64 (.ofNat 2)), (.sl 7712 0 512 (some 512)), 0⟩, ⟨(.int .i64 (.ofNat 3)), (.sl 1081 0 512 (some 512)), 1⟩, ⟨(.int .i64 (.ofNat 4)), (.sl 7402 0 512 (some 512)), 2⟩, ⟨(.int .i64 (.ofNat 5)), (.sl 3306 0 512 (some 512)), 3⟩] 4)),
   (4, (.cs 105 5 5 false (.cons (.int .i64 (.ofNat 0)) (.cons (.int .i64 (.ofNat 0)) (.cons (.int .i64 (.ofNat 0)) (.cons .mnil (.cons (.int .i64 (.ofNat 0)) .nil))))) (.n (some (.int .i64 (.ofNat 1))) (.n (some (.int .i64 (.ofNat 512))) .e .e .e .e) (.n (some (.int .i64 (.ofNat 400))) .e .e .e .e) (.n (some (.mp 3)) .e .e .e .e) (.n (some (.int .i64 (.ofNat 84))) .e .e .e .e)))),
   (5, (.cs 102 3 3 false (.cons .inil (.cons (.int .i64 (.ofNat 0)) (.cons (.int .i64 (.ofNat 0)) .nil))) (.n (some (.ifc 55 (.ptr 4 0))) (.n (some (.int .i64 (.ofNat 2))) .e .e .e .e) (.n (some (.int .i64 (.ofNat 3))) .e .e .e .e) .e .e))),
   (1081, (.bys 5 512 false (zz 0x9ab2624d000001006c69616d16171201006c69616d1617130070010001 966 0xe30101000102))),
   (3306, (.bys 5 512 false (zz 0xd1a88a3e0100781601006c69616d160b00018113030001 978 0xe90101000102))),
   (6085, (.bys 5 7 true 0x2811301006116)),
   (6086, (.cs 3 1 1 false (.cons (.int .i64 (.ofNat 0)) .nil) (.n (some (.int .i64 (.ofNat 1))) .e .e .e .e))),
   (6093, (.dfr true)),
   (7402, (.bys 5 512 false (zz 0x7537376000001811301007816070001000010010001 980 0xf001ea0102000102))),
   (7712, (.bys 5 512 false (zz 0xce6968df0100000005000000702f74030004010000000300000073657865646e692d7409000402000000040000006c69616d2f702f69080004 910 0xee01da01c70103000102))),
   (8483, (.cs 109 2 2 false (.cons .pnil (.cons (.str 0 0) .nil)) (.n (some (.ptr 5 0)) (.n (some (.str 1 112)) .e .e .e .e) .e .e .e)))],
  (.int .i64 (.ofNat 0)),
  9487,
  [(3, (.mp [⟨(.int .i64 (.ofNat 2)), (.sl 9338 0 512 (some 512)), 0⟩, ⟨(.int .i64 (.ofNat 3)), (.sl 1081 0 512 (some 512)), 1⟩, ⟨(.int .i64 (.ofNat 5)), (.sl 3306 0 512 (some 512)), 3⟩] 4)),
   (4, (.cs 105 5 5 false (.cons (.int .i64 (.ofNat 0)) (.cons (.int .i64 (.ofNat 0)) (.cons (.int .i64 (.ofNat 0)) (.cons .mnil (.cons (.int .i64 (.ofNat 0)) .nil))))) (.n (some (.int .i64 (.ofNat 1))) (.n (some (.int .i64 (.ofNat 512))) .e .e .e .e) (.n (some (.int .i64 (.ofNat 400))) .e .e .e .e) (.n (some (.mp 3)) .e .e .e .e) (.n (some (.int .i64 (.ofNat 91))) .e .e .e .e)))),
   (5, (.cs 102 3 3 false (.cons .inil (.cons (.int .i64 (.ofNat 0)) (.cons (.int .i64 (.ofNat 0)) .nil))) (.n (some (.ifc 55 (.ptr 4 0))) (.n (some (.int .i64 (.ofNat 2))) .e .e .e .e) (.n (some (.int .i64 (.ofNat 2))) .e .e .e .e) .e .e))),
   (1081, (.bys 5 512 false (zz 0x9ab2624d000001006c69616d16171201006c69616d1617130070010001 966 0xe30101000102))),
   (3306, (.bys 5 512 false (zz 0xd1a88a3e0100781601006c69616d160b00018113030001 978 0xe90101000102))),
   (6085, (.bys 5 7 true 0x2811301006116)),
   (6086, (.cs 3 1 1 false (.cons (.int .i64 (.ofNat 0)) .nil) (.n (some (.int .i64 (.ofNat 1))) .e .e .e .e))),
   (6093, (.dfr true)),
   (8483, (.cs 109 2 2 false (.cons .pnil (.cons (.str 0 0) .nil)) (.n (some (.ptr 5 0)) (.n (some (.str 1 112)) .e .e .e .e) .e .e .e))),
   (9338, (.bys 5 512 false (zz 0x9a4d6c3d0100000005000000702f74030004010000000300000073657865646e692d74090004 948 0xee01da0102000102)))]⟩
set_option maxRecDepth 100000 in
theorem memo9_ok : MemoOk Tryz.prog memo9 := ⟨recA (envOf ms8) 60, envOk ms8_ok 60, by kernel_rfl⟩
noncomputable def ms9 : List Memo := memo9 :: ms8
theorem ms9_ok : ∀ k ∈ ms9, MemoOk Tryz.prog k := consOk memo9_ok ms8_ok
end Go.Proofs.YtfgipbjaapkdlaaGreatDoor
namespace Go.Proofs.YtfgipbjaapkdlaaGreatDoor
open Go.RowKit Go.Xq
set_option maxRecDepth 100000 in
noncomputable def memo10 : Memo := ⟨31,
  (.cons (.ptr 5 0) (.cons (.str 1 112) .nil)),
  8483,
  [(3, (.mp [⟨(.int .i64 (.ofNat 2)), (.sl 7712 0 512 (some 512)), 0⟩, ⟨(.int .i64 (.ofNat 3)), (.sl 1081 0 512 (some 512)), 1⟩, ⟨(.int .i64 (.ofNat 4)), (.sl 7402 0 512 (some 512)), 2⟩, ⟨(.int .i64 (.ofNat 5)), (.sl 3306 0 512 (some 512)), 3⟩] 4)),
   (4, (.cs 105 5 5 false (.cons (.int .i64 (.ofNat 0)) (.cons (.int .i64 (.ofNat 0)) (.cons (.int .i64 (.ofNat 0)) (.cons .mnil (.cons (.int .i64 (.ofNat 0)) .nil))))) (.n (some (.int .i64 (.ofNat 1))) (.n (some (.int .i64 (.ofNat 512))) .e .e .e .e) (.n (some (.int .i64 (.ofNat 400))) .e .e .e .e) (.n (some (.mp 3)) .e .e .e .e) (.n (some (.int .i64 (.ofNat 80))) .e .e .e .e)))),
   (5, (.cs 102 3 3 false (.cons .inil (.cons (.int .i64 (.ofNat 0)) (.cons (.int .i64 (.ofNat 0)) .nil))) (.n (some (.ifc 55 (.ptr 4 0))) (.n (some (.int .i64 (.ofNat 2))) .e .e .e .e) (.n (some (.int .i64 (.ofNat 3))) .e .e .e .e) .e .e))),
   (1081, (.bys 5 512 false (zz 0x9ab2624d000001006c69616d16171201006c69616d1617130070010001 966 0xe30101000102))),
   (3306, (.bys 5 512 false (zz 0xd1a88a3e0100781601006c69616d160b00018113030001 978 0xe90101000102))),
   (6085, (.bys 5 7 true 0x2811301006116)),
   (6086, (.cs 3 1 1 false (.cons (.int .i64 (.ofNat 0)) .nil) (.n (some (.int .i64 (.ofNat 1))) .e .e .e .e))),
   (6093, (.dfr true)),
   (7402, (.bys 5 512 false (zz 0x7537376000001811301007816070001000010010001 980 0xf001ea0102000102))),
   (7712, (.bys 5 512 false (zz 0xce6968df0100000005000000702f74030004010000000300000073657865646e692d7409000402000000040000006c69616d2f702f69080004 910 0xee01da01c70103000102)))],
  (.int .i64 (.ofNat 0)),
  10398,
  [(3, (.mp [⟨(.int .i64 (.ofNat 2)), (.sl 10395 0 512 (some 512)), 0⟩] 4)),
   (4, (.cs 105 5 5 false (.cons (.int .i64 (.ofNat 0)) (.cons (.int .i64 (.ofNat 0)) (.cons (.int .i64 (.ofNat 0)) (.cons .mnil (.cons (.int .i64 (.ofNat 0)) .nil))))) (.n (some (.int .i64 (.ofNat 1))) (.n (some (.int .i64 (.ofNat 512))) .e .e .e .e) (.n (some (.int .i64 (.ofNat 400))) .e .e .e .e) (.n (some (.mp 3)) .e .e .e .e) (.n (some (.int .i64 (.ofNat 107))) .e .e .e .e)))),
   (5, (.cs 102 3 3 false (.cons .inil (.cons (.int .i64 (.ofNat 0)) (.cons (.int .i64 (.ofNat 0)) .nil))) (.n (some (.ifc 55 (.ptr 4 0))) (.n (some (.int .i64 (.ofNat 2))) .e .e .e .e) (.n (some (.int .i64 (.ofNat 1))) .e .e .e .e) .e .e))),
   (6085, (.bys 5 7 true 0x2811301006116)),
   (6086, (.cs 3 1 1 false (.cons (.int .i64 (.ofNat 0)) .nil) (.n (some (.int .i64 (.ofNat 1))) .e .e .e .e))),
   (6093, (.dfr true)),
   (10395, (.bys 5 512 false (zz 0xa3d5b3d4 1016 (zz 0x73657865646e692d74090004 976 0xe80101000102))))]⟩
set_option maxRecDepth 100000 in
theorem memo10_ok : MemoOk Tryz.prog memo10 := ⟨recA (envOf ms9) 60, envOk ms9_ok 60, by kernel_rfl⟩
noncomputable def ms10 : List Memo := memo10 :: ms9
theorem ms10_ok : ∀ k ∈ ms10, MemoOk Tryz.prog k := consOk memo10_ok ms9_ok
set_option maxRecDepth 100000 in
theorem ran : isG gl ((recA (envOf ms10) 60).call 5 .nil (H0of nx gl)) = true := by kernel_rfl
theorem walk {ads : List (Nat × Nat)} {w : World} (hrel : Rel (m0of ads) (H0of nx gl) w) (hl : GlobsAt (m0of ads) gl w) : Calls Tryz.prog 5 #[] w fun e w' => e = .returned (.bool true) ∧ KeptAll w w' :=
  calls_of_glob (envOk ms10_ok 60) ran hrel hl
end Go.Proofs.YtfgipbjaapkdlaaGreatDoor
