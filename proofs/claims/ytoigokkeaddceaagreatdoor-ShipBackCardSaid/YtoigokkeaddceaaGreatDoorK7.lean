/- A part of the proof of this seat's statement: what is particular to its program. Its conditions stand in each theorem. -/
import Derived.Test.YtoigokkeaddceaaGreatDoorK6
namespace Go.Proofs.YtoigokkeaddceaaGreatDoor
open Go.Xq
noncomputable section
def OwnC (e : Nat) (H : AH) (lo : Nat) (v : AV) (l : List UInt8) : Prop :=
  OwnB e H lo v l ∨ ∃ b, v = .sl b 0 l.length (some l.length) ∧ l ≠ [] ∧ lo ≤ b ∧ b < H.next ∧ H.get b = some (bb e false l)
end
end Go.Proofs.YtoigokkeaddceaaGreatDoor
namespace Go.Proofs.YtoigokkeaddceaaGreatDoor
open Go.Xq
noncomputable section
def pageL (p : Int × List UInt8) : List UInt8 := fixedL (u64 p.1) 4 ++ p.2
def partD (d : Dl) (i : Nat) : List UInt8 := headD d ++ (d.pages.take i).flatMap pageL
theorem partD_zero (d : Dl) : partD d 0 = headD d := by simp [partD]
theorem partD_all (d : Dl) : partD d d.pages.length = bodyD d := by unfold partD bodyD; rw [List.take_length]; rfl
theorem partD_succ {d : Dl} {i : Nat} {p : Int × List UInt8} (hp : d.pages[i]? = some p) : partD d (i + 1) = partD d i ++ fixedL (u64 p.1) 4 ++ p.2 := by
  unfold partD
  rw [List.take_add_one, hp]
  simp [pageL]
theorem partD_le (d : Dl) (i : Nat) : (partD d i).length ≤ (bodyD d).length := by
  have e : bodyD d = partD d i ++ (d.pages.drop i).flatMap pageL := by
    unfold partD bodyD
    rw [List.append_assoc, ← List.flatMap_append, List.take_append_drop]
    rfl
  rw [e, List.length_append]
  omega
theorem headD_le (d : Dl) : (headD d).length ≤ (bodyD d).length := by rw [← partD_zero]; exact partD_le d 0
theorem headD_len (d : Dl) : (headD d).length = 32 + d.meta_.length := by simp [headD, fixedL_len]; omega
theorem mkInt_u8c (n : Int) : mkInt .u8 n = some (.int .u8 ((byteI n).toNat : Int)) := by rw [mkInt_u8, byteI_int]
theorem storeMx {H : AH} (m : Mt) : ∃ H2, stN 8 (H.new (.cs 69 8 8 false zMt .e)) (mA m) (.ptr H.next 0) = some H2 ∧ H2.next = H.next + 1 ∧ Keep noB H H2 := by
  obtain ⟨H2, s1, s2, s3, s4⟩ := storeM m (newM H)
  exact ⟨H2, s1, by rw [s2]; simp, (Keep.new noB H _).trans' s4 fun b hb e => absurd e (by omega)⟩
end
end Go.Proofs.YtoigokkeaddceaaGreatDoor
namespace Go.Proofs.YtoigokkeaddceaaGreatDoor
open Go.Xq
noncomputable section
@[simp] theorem hvSame_f (x : Operand) (R : Rec) (T : Tr AV) (H : AH) : hvSame x R T H = ob (opnd x T) fun v => onSl v none fun b off n c => bt (Nat.blt 0 n) (ob (H.get b) fun o => bt (isBy o) (some (.sl b off n c, H)) none) none := rfl
@[simp] theorem isBy_bb (e : Nat) (o : Bool) (l : List UInt8) : isBy (bb e o l) = true := rfl
theorem ownB_wide {H : AH} {e lo lo2 : Nat} {v : AV} {l : List UInt8} (h : OwnB e H lo v l) (hl : lo2 ≤ lo) : OwnB e H lo2 v l := by
  rcases h with h | ⟨b, h1, h2, h3, h4⟩
  · exact .inl h
  · exact .inr ⟨b, h1, h2, by omega, h4⟩
set_option maxRecDepth 20000 in
set_option maxHeartbeats 4000000 in
theorem encodeShip_ok {H : AH} {d : Dl} {pv mv : AV} {cs : List (Int × AV)} (h : DlAt H d pv mv cs) (hl : d.meta_.length < 4611686018427387904) (hp : d.pages.length < 4611686018427387904) (hb : okD d → (bodyD d).length < 8589934592) :
    DC Tryz.prog .normal 10 (.cons (dlA d pv mv) .nil) H fun v' H2 => (okD d → ∃ v, v' = .tup (.cons v (.cons (.int .i64 0) .nil)) ∧ OwnB 5 H2 H.next v (encD d)) ∧ (¬ okD d → v' = .tup (.cons .snil (.cons (.int .i64 230) .nil))) ∧ Keep noB H H2 := by
  refine DC.of_wd (re := reTmp 2 (reTmp 3 reNil)) tyOk Tryz.func10 (by kernel_rfl) rfl (by kernel_rfl) (by kernel_rfl) ?_
  rw [tl_nil, argsT_cons, argsT_nil]
  refine WD.seqR ?_
  obtain ⟨o1, e1, hD, hk1⟩ := Bx.box (enc := encDv) (e := 25) (z := zDv) encDv_len (H := H) (a := d.dv pv mv h.c1 h.c2) (x := .tmp 0) (T := tl [(0, dlA d pv mv)]) (by simp; rfl)
  refine WDO.fresh1 tyOk (k := ⟨frBox ⟨mkCs 25 6 (.cons (.int .i64 0) (.cons (.int .i64 0) (.cons (.int .i64 0) (.cons (.int .i64 0) (.cons .snil (.cons .snil .nil))))))⟩ (.tmp 0)⟩) (by kernel_rfl) rfl (by kernel_rfl) e1 ?_
  have hlt : H.next < (H.new o1).next := by simp
  have hNk : H.next ≤ H.next := Nat.le_refl _
  generalize H.new o1 = H1 at hD hk1 hlt ⊢
  generalize hNN : H.next = N at hD hlt hNk ⊢
  obtain ⟨oD, gD, d0, d1, d2, d3, d4, d5, dc⟩ := hD.dv
  simp only [Dl.dv] at d0 d1 d2 d3 d4 d5
  refine WDO.looks1 tyOk extOk 2 (ls := [⟨lkMove (.const (.slice none 0 0)), (some 2), none⟩, ⟨lkMove (.const (.int .i64 0)), (some 3), none⟩]) (by kernel_rfl) (by simp (disch := omega) []; exact rfl) ?_
  refine WDO.nilS (WD.seq (WD.seqR ?_))
  refine WDO.looks1 tyOk extOk 1 (ls := [⟨⟨ldA ⟨ldN 6⟩ (.tmp 1)⟩, (some 10), none⟩]) (by kernel_rfl) (by simp (disch := omega) [gD, dc]; exact rfl) ?_
  refine WDO.callF (g := 36) rfl rfl rfl (by kernel_rfl) (l := .cons (dlA d pv mv) .nil) (by simp [dlA, encDv, Dl.dv]) (mayBe_ok (h.keep hk1) hl hp) fun u H2 ⟨hu1, hu2, k2⟩ => ?_
  have kk2 := hk1.trans k2
  have gD2 := k2.get hlt id gD
  have hn2 := k2.1
  by_cases hok : okD d
  · have hb := hb hok
    have hu := hu1 hok
    subst hu
    generalize fldsM d.meta_ = m
    refine WDO.looks1 tyOk extOk 3 (ls := [⟨lkMove (.tmp 11), (some 9), none⟩, ⟨⟨exA (.tmp 9) 0⟩, (some 12), none⟩, ⟨⟨exA (.tmp 9) 1⟩, (some 13), none⟩]) (by kernel_rfl) (by simp (disch := omega) []; exact rfl) ?_
    refine WDO.fresh1 tyOk (k := ⟨frAlloc (.cs 69 8 8 false (.cons (.int .i64 0) (.cons (.int .i64 0) (.cons (.int .i64 0) (.cons (.int .i64 0) (.cons (.int .i64 0) (.cons (.int .i64 0) (.cons (.int .i64 0) (.cons (.int .i64 0) .nil)))))))) .e)⟩) (by kernel_rfl) rfl (by kernel_rfl) (v := .ptr H2.next 0) (x := .cs 69 8 8 false zMt .e) ?_ ?_
    · exact rfl
    obtain ⟨H3, s1, s2, s3⟩ := storeMx (H := H2) m
    refine WDO.heavy1 tyOk extOk (k := ⟨hvStore ⟨stN 8⟩ (.tmp 4) (.tmp 12)⟩) (by kernel_rfl) rfl (by kernel_rfl) (by simp; exact st_ob s1) ?_
    have kk3 := kk2.trans s3
    have gD3 := s3.get (by omega) id gD2
    have hn3 := s3.1
    clear s1 s2 s3 gD2 k2 hu1 hu2
    refine WDO.looks1 tyOk extOk 1 (ls := [⟨lkMove (.tmp 13), (some 5), none⟩]) (by kernel_rfl) (by simp (disch := omega) []; exact rfl) ?_
    refine WDO.nilS (WD.seqR ?_)
    refine WDO.looks1 tyOk extOk 2 (ls := [⟨lkMove (.tmp 5), (some 14), none⟩, ⟨lkUn ukNot (.tmp 14), (some 15), none⟩]) (by kernel_rfl) (by simp (disch := omega) []; exact rfl) ?_
    refine WDO.nilS (WD.cond (t := false) (by simp) (by simp) fun _ => WD.skip (.inl rfl) (WD.seqR ?_))
    have hby := mkInt_u8c d.engine
    have hhd : headD d = [69, 83, 80, 68, byteI d.engine, 0, 0, 0] ++ fixedL (u64 d.page) 4 ++ fixedL (u64 d.frm) 8 ++ fixedL (u64 d.to) 8 ++ fixedL d.pages.length 4 ++ d.meta_ := rfl
    have e2 : d.engine % 256 = ((byteI d.engine).toNat : Int) := (byteI_int d.engine).symm
    generalize byteI d.engine = y at hby hhd e2
    refine WDO.fresh1 tyOk (k := ⟨frSlice 4 (zerosA (.cons (.int .u8 0) .nil) 4) ⟨fill1 (.const (.int .u8 69)) 0 1 ⟨fill1 (.const (.int .u8 83)) 1 1 ⟨fill1 (.const (.int .u8 80)) 2 1 ⟨fill1 (.const (.int .u8 68)) 3 1 flEnd⟩⟩⟩⟩ ⟨mkBy 5⟩⟩) (by kernel_rfl) rfl (by kernel_rfl) (v := .sl H3.next 0 4 (some 4)) (x := bb 5 false [69, 83, 80, 68]) ?_ ?_
    · dsimp only
      have := leA_bytes [69, 83, 80, 68]
      simp only [List.map_cons, List.map_nil, avl_cons, avl_nil] at this
      simp at this
      simp [mkBy, this, bb]
    have ka : Keep noB H3 (H3.new (bb 5 false [69, 83, 80, 68])) := Keep.new _ _ _
    have ga : (H3.new (bb 5 false [69, 83, 80, 68])).get H3.next = some (bb 5 false [69, 83, 80, 68]) := get_new_same _ _
    have na : (H3.new (bb 5 false [69, 83, 80, 68])).next = H3.next + 1 := by simp
    generalize H3.new (bb 5 false [69, 83, 80, 68]) = Ha at ka ga na ⊢
    refine WDO.heavy1 tyOk extOk (k := ⟨hvSame (.tmp 16)⟩) (by kernel_rfl) rfl (by kernel_rfl) (by simp [ga]; exact ⟨rfl, rfl⟩) ?_
    have gDa := ka.get (by omega) id gD3
    refine WDO.looks1 tyOk extOk 3 (ls := [⟨⟨fAddr (.tmp 1) 0⟩, (some 18), none⟩, ⟨⟨ldA ⟨ld1⟩ (.tmp 18)⟩, (some 19), none⟩, ⟨⟨cvInt .u8 (.tmp 19)⟩, (some 20), none⟩]) (by kernel_rfl) (by simp (disch := omega) [gDa, d0]; exact rfl) ?_
    refine WDO.fresh1 tyOk (k := ⟨frSlice 4 (zerosA (.cons (.int .u8 0) .nil) 4) ⟨fill1 (.tmp 20) 0 1 ⟨fill1 (.const (.int .u8 0)) 1 1 ⟨fill1 (.const (.int .u8 0)) 2 1 ⟨fill1 (.const (.int .u8 0)) 3 1 flEnd⟩⟩⟩⟩ ⟨mkBy 5⟩⟩) (by kernel_rfl) rfl (by kernel_rfl) (v := .sl Ha.next 0 4 (some 4)) (x := bb 5 false [y, 0, 0, 0]) ?_ ?_
    · dsimp only
      have := leA_bytes [y, 0, 0, 0]
      simp only [List.map_cons, List.map_nil, avl_cons, avl_nil] at this
      simp at this
      simp [mkBy, this, bb, e2]
    have kb : Keep noB Ha (Ha.new (bb 5 false [y, 0, 0, 0])) := Keep.new _ _ _
    have gb : (Ha.new (bb 5 false [y, 0, 0, 0])).get Ha.next = some (bb 5 false [y, 0, 0, 0]) := get_new_same _ _
    have nb : (Ha.new (bb 5 false [y, 0, 0, 0])).next = Ha.next + 1 := by simp
    generalize Ha.new (bb 5 false [y, 0, 0, 0]) = Hb at kb gb nb ⊢
    have gDb := kb.get (by omega) id gDa
    obtain ⟨av, aH, aa, ao, ak, asr⟩ := appB_first (e := 5) (lo := N + 1) (k := [69, 83, 80, 68]) (l := [y, 0, 0, 0]) (x := .sl Ha.next 0 4 (some 4)) (n := 4) (b := H3.next) (H := Hb) (.bb' rfl (by omega) (kb.get (by omega) id ga)) rfl (.bb' rfl (by omega) gb) (by simp) (by omega) (by simp)
    refine WDO.heavy1 tyOk extOk (k := ⟨hvAppend ⟨grownBy 5⟩ 1 (.tmp 17) (.tmp 21)⟩) (by kernel_rfl) rfl (by kernel_rfl) (by simp; exact aa) ?_
    have an := ak.1
    have ag := ak.get (by omega) id gDb
    have akk : Keep noB H aH := ((kk3.trans ka).trans kb).trans ak
    clear aa ak asr
    refine WDO.looks1 tyOk extOk 1 (ls := [⟨lkMove (.tmp 22), (some 6), none⟩]) (by kernel_rfl) (by simp (disch := omega) []; exact rfl) ?_
    refine WDO.nilS (WD.seqR ?_)
    have bcv := mkInt_cv d.page
    have blt := u64_lt d.page
    refine WDO.looks1 tyOk extOk 4 (ls := [⟨lkMove (.tmp 6), (some 23), none⟩, ⟨⟨fAddr (.tmp 1) 1⟩, (some 24), none⟩, ⟨⟨ldA ⟨ld1⟩ (.tmp 24)⟩, (some 25), none⟩, ⟨⟨cvInt .u64 (.tmp 25)⟩, (some 26), none⟩]) (by kernel_rfl) (by simp (disch := omega) [ag, d1, bcv]; exact rfl) ?_
    refine WDO.callF (g := 37) rfl rfl rfl (by kernel_rfl) (l := .cons (.int .u64 ((u64 d.page : Nat) : Int)) (.cons (.int .i64 4) .nil)) (by simp) (fixedInk_ok (w := 4) blt (by omega) (by omega)) fun fu bK ⟨hfu, bn1, bg1, bk1⟩ => ?_
    subst hfu
    have bp := ao.keep bk1 fun _ _ => id
    obtain ⟨bv, bH, ba, bo, bk, bs⟩ := bp.app (l := fixedL (u64 d.page) 4) (by omega) (.bb' (by rw [fixedL_len]) (by omega) bg1) (by simp [fixedL_len])
    refine WDO.heavy1 tyOk extOk (k := ⟨hvAppend ⟨grownBy 5⟩ 1 (.tmp 23) (.tmp 27)⟩) (by kernel_rfl) rfl (by kernel_rfl) (by simp; exact ba) ?_
    have bn := bk.1
    have bg := bk.get (by omega) (fun e => by have := (ao.low e).1; omega) (bk1.get (by omega) id ag)
    have bkk : Keep noB H bH := (akk.trans bk1).trans' bk fun b hb e => by have := (ao.low e).1; omega
    clear ba bk bk1 bp bg1 bcv bs
    refine WDO.looks1 tyOk extOk 1 (ls := [⟨lkMove (.tmp 28), (some 6), none⟩]) (by kernel_rfl) (by simp (disch := omega) []; exact rfl) ?_
    refine WDO.nilS (WD.seqR ?_)
    have ccv := mkInt_cv d.frm
    have clt := u64_lt d.frm
    refine WDO.looks1 tyOk extOk 4 (ls := [⟨lkMove (.tmp 6), (some 29), none⟩, ⟨⟨fAddr (.tmp 1) 2⟩, (some 30), none⟩, ⟨⟨ldA ⟨ld1⟩ (.tmp 30)⟩, (some 31), none⟩, ⟨⟨cvInt .u64 (.tmp 31)⟩, (some 32), none⟩]) (by kernel_rfl) (by simp (disch := omega) [bg, d2, ccv]; exact rfl) ?_
    refine WDO.callF (g := 37) rfl rfl rfl (by kernel_rfl) (l := .cons (.int .u64 ((u64 d.frm : Nat) : Int)) (.cons (.int .i64 8) .nil)) (by simp) (fixedInk_ok (w := 8) clt (by omega) (by omega)) fun fu cK ⟨hfu, cn1, cg1, ck1⟩ => ?_
    subst hfu
    have cp := bo.keep ck1 fun _ _ => id
    obtain ⟨cv, cH, ca, co, ck, cs⟩ := cp.app (l := fixedL (u64 d.frm) 8) (by omega) (.bb' (by rw [fixedL_len]) (by omega) cg1) (by simp [fixedL_len])
    refine WDO.heavy1 tyOk extOk (k := ⟨hvAppend ⟨grownBy 5⟩ 1 (.tmp 29) (.tmp 33)⟩) (by kernel_rfl) rfl (by kernel_rfl) (by simp; exact ca) ?_
    have cn := ck.1
    have cg := ck.get (by omega) (fun e => by have := (bo.low e).1; omega) (ck1.get (by omega) id bg)
    have ckk : Keep noB H cH := (bkk.trans ck1).trans' ck fun b hb e => by have := (bo.low e).1; omega
    clear ca ck ck1 cp cg1 ccv cs
    refine WDO.looks1 tyOk extOk 1 (ls := [⟨lkMove (.tmp 34), (some 6), none⟩]) (by kernel_rfl) (by simp (disch := omega) []; exact rfl) ?_
    refine WDO.nilS (WD.seqR ?_)
    have ecv := mkInt_cv d.to
    have elt := u64_lt d.to
    refine WDO.looks1 tyOk extOk 4 (ls := [⟨lkMove (.tmp 6), (some 35), none⟩, ⟨⟨fAddr (.tmp 1) 3⟩, (some 36), none⟩, ⟨⟨ldA ⟨ld1⟩ (.tmp 36)⟩, (some 37), none⟩, ⟨⟨cvInt .u64 (.tmp 37)⟩, (some 38), none⟩]) (by kernel_rfl) (by simp (disch := omega) [cg, d3, ecv]; exact rfl) ?_
    refine WDO.callF (g := 37) rfl rfl rfl (by kernel_rfl) (l := .cons (.int .u64 ((u64 d.to : Nat) : Int)) (.cons (.int .i64 8) .nil)) (by simp) (fixedInk_ok (w := 8) elt (by omega) (by omega)) fun fu eK ⟨hfu, en1, eg1, ek1⟩ => ?_
    subst hfu
    have ep := co.keep ek1 fun _ _ => id
    obtain ⟨ev, eH, ea, eo, ek, es⟩ := ep.app (l := fixedL (u64 d.to) 8) (by omega) (.bb' (by rw [fixedL_len]) (by omega) eg1) (by simp [fixedL_len])
    refine WDO.heavy1 tyOk extOk (k := ⟨hvAppend ⟨grownBy 5⟩ 1 (.tmp 35) (.tmp 39)⟩) (by kernel_rfl) rfl (by kernel_rfl) (by simp; exact ea) ?_
    have en := ek.1
    have eg := ek.get (by omega) (fun e => by have := (co.low e).1; omega) (ek1.get (by omega) id cg)
    have ekk : Keep noB H eH := (ckk.trans ek1).trans' ek fun b hb e => by have := (co.low e).1; omega
    clear ea ek ek1 ep eg1 ecv es
    refine WDO.looks1 tyOk extOk 1 (ls := [⟨lkMove (.tmp 40), (some 6), none⟩]) (by kernel_rfl) (by simp (disch := omega) []; exact rfl) ?_
    have hln := SaysP.ln (h.keep ekk).pages
    refine WDO.nilS (WD.seqR ?_)
    have fcv := mkInt_cv (d.pages.length : Int)
    have flt := u64_lt (d.pages.length : Int)
    refine WDO.looks1 tyOk extOk 5 (ls := [⟨lkMove (.tmp 6), (some 41), none⟩, ⟨⟨fAddr (.tmp 1) 4⟩, (some 42), none⟩, ⟨⟨ldA ⟨ld1⟩ (.tmp 42)⟩, (some 43), none⟩, ⟨⟨lenSl (.tmp 43)⟩, (some 44), none⟩, ⟨⟨cvInt .u64 (.tmp 44)⟩, (some 45), none⟩]) (by kernel_rfl) (by simp (disch := omega) [eg, d4, hln, fcv]; exact rfl) ?_
    refine WDO.callF (g := 37) rfl rfl rfl (by kernel_rfl) (l := .cons (.int .u64 ((u64 (d.pages.length : Int) : Nat) : Int)) (.cons (.int .i64 4) .nil)) (by simp) (fixedInk_ok (w := 4) flt (by omega) (by omega)) fun fu fK ⟨hfu, fn1, fg1, fk1⟩ => ?_
    subst hfu
    have fp := eo.keep fk1 fun _ _ => id
    obtain ⟨fv, fH, fa, fo, fk, fs⟩ := fp.app (l := fixedL (u64 (d.pages.length : Int)) 4) (by omega) (.bb' (by rw [fixedL_len]) (by omega) fg1) (by simp [fixedL_len])
    refine WDO.heavy1 tyOk extOk (k := ⟨hvAppend ⟨grownBy 5⟩ 1 (.tmp 41) (.tmp 46)⟩) (by kernel_rfl) rfl (by kernel_rfl) (by simp; exact fa) ?_
    have fn := fk.1
    have fg := fk.get (by omega) (fun e => by have := (eo.low e).1; omega) (fk1.get (by omega) id eg)
    have fkk : Keep noB H fH := (ekk.trans fk1).trans' fk fun b hb e => by have := (eo.low e).1; omega
    clear fa fk fk1 fp fg1 fcv fs
    refine WDO.looks1 tyOk extOk 1 (ls := [⟨lkMove (.tmp 47), (some 6), none⟩]) (by kernel_rfl) (by simp (disch := omega) []; exact rfl) ?_
    have hu4 : u64 (d.pages.length : Int) = d.pages.length := u64_nat (by omega)
    rw [hu4] at fo
    have hml := headD_len d
    have hle := headD_le d
    refine WDO.nilS (WD.seqR ?_)
    refine WDO.looks1 tyOk extOk 3 (ls := [⟨lkMove (.tmp 6), (some 48), none⟩, ⟨⟨fAddr (.tmp 1) 5⟩, (some 49), none⟩, ⟨⟨ldA ⟨ld1⟩ (.tmp 49)⟩, (some 50), none⟩]) (by kernel_rfl) (by simp (disch := omega) [fg, d5]; exact rfl) ?_
    obtain ⟨gv, gH, ga', go, gk, gs⟩ := fo.app (l := d.meta_) (by omega) (h.keep fkk).meta_ (by simp [fixedL_len]; omega)
    refine WDO.heavy1 tyOk extOk (k := ⟨hvAppend ⟨grownBy 5⟩ 1 (.tmp 48) (.tmp 50)⟩) (by kernel_rfl) rfl (by kernel_rfl) (by simp; exact ga') ?_
    have gn := gk.1
    have gg := gk.get (by omega) (fun e => by have := (fo.low e).1; omega) fg
    have gkk : Keep noB H gH := fkk.trans' gk fun b hb e => by have := (fo.low e).1; omega
    refine WDO.looks1 tyOk extOk 1 (ls := [⟨lkMove (.tmp 51), (some 6), none⟩]) (by kernel_rfl) (by simp (disch := omega) []; exact rfl) ?_
    have go' : OwnB 5 gH (N + 1) gv (partD d 0) := by rw [partD_zero, hhd]; exact go
    refine WDO.nilS (WD.seq (WD.seqR ?_))
    have hlg := SaysP.ln (h.keep gkk).pages
    refine WDO.looks1 tyOk extOk 4 (ls := [⟨⟨fAddr (.tmp 1) 4⟩, (some 52), none⟩, ⟨⟨ldA ⟨ld1⟩ (.tmp 52)⟩, (some 53), none⟩, ⟨⟨lenSl (.tmp 53)⟩, (some 54), none⟩, ⟨lkMove (.const (.int .i64 0)), (some 55), none⟩]) (by kernel_rfl) (by simp (disch := omega) [gg, d4, hlg]; exact rfl) ?_
    refine WDO.nilS (WD.forR (σ := Nat × AV) (fun s => [(2, .snil), (3, .int .i64 0), (6, s.2), (53, pv), (54, .int .i64 (d.pages.length : Int)), (55, .int .i64 (s.1 : Int))])
      (fun s H' => s.1 ≤ d.pages.length ∧ OwnB 5 H' (N + 1) s.2 (partD d s.1) ∧ gH.next ≤ H'.next ∧ Keep noB H H') (fun s => d.pages.length - s.1) (0, gv) ⟨by simp, go', Nat.le_refl _, gkk⟩ (by simp) ?_)
    rintro ⟨i, cur⟩ H' ⟨hi, ho, hnx, kk'⟩
    dsimp only at hi ho
    have hle' := partD_le d i
    refine WDO.looks1 tyOk extOk 1 (ls := [⟨⟨binInt akLss (.tmp 55) (.tmp 54)⟩, (some 56), none⟩]) (by kernel_rfl) (by simp (disch := omega) []; exact rfl) ?_
    refine WDO.nil ⟨decide ((i : Int) < (d.pages.length : Int)), _, rfl, by simp, fun hc => ?_, fun hc => ?_⟩
    · have hc : i = d.pages.length := by have := of_decide_eq_false hc; omega
      subst hc
      rw [partD_all] at ho
      refine WD.seqR ?_
      refine WDO.looks1 tyOk extOk 2 (ls := [⟨lkMove (.tmp 6), (some 70), none⟩, ⟨lkMove (.tmp 6), (some 71), none⟩]) (by kernel_rfl) (by simp (disch := omega) []; exact rfl) ?_
      have hcell := ho.cell
      refine WDO.slice1 (enc := enc1) (a := cur) tyOk enc1_len (by kernel_rfl : freshK E _ = some ⟨frSlice 1 (zerosA (.cons .snil .nil) 1) ⟨fill1 (.tmp 71) 0 1 flEnd⟩ ⟨mkCs 23 1 (.cons .snil .nil)⟩⟩) rfl (by kernel_rfl) (by simp; rfl) (by first | rfl | (rw [cellsA_cell (by assumption)]; rfl) | (simp [enc1, chA]; done)) (by rfl) (by rfl) fun o1 b1 => ?_
      have kz : Keep noB H' (H'.new o1) := Keep.new _ _ _
      have rz := b1.cell (k := 0) (j := 0) (v := cur) rfl rfl
      have hoz := ho.keep kz fun _ _ => id
      refine WDO.callF (g := 38) rfl rfl rfl (by kernel_rfl) (l := .cons (.sl H'.next 0 1 (some 1)) .nil) (by simp) (inkSum_ok (cap := some 1) (get_new_same H' o1) rz hoz.rd (by omega)) fun u Hs ⟨hu, hHs⟩ => ?_
      subst hu
      subst hHs
      have hsl := sumL_lt (bodyD d)
      have cv : mkInt .u64 ((sumL (bodyD d) : Nat) : Int) = some (.int .u64 ((sumL (bodyD d) : Nat) : Int)) := mkInt_u64n (by omega)
      have nz : (H'.new o1).next = H'.next + 1 := by simp
      generalize H'.new o1 = Hz at kz hoz nz ⊢
      refine WDO.looks1 tyOk extOk 1 (ls := [⟨⟨cvInt .u64 (.tmp 73)⟩, (some 74), none⟩]) (by kernel_rfl) (by simp (disch := omega) [cv]; exact rfl) ?_
      refine WDO.callF (g := 37) rfl rfl rfl (by kernel_rfl) (l := .cons (.int .u64 ((sumL (bodyD d) : Nat) : Int)) (.cons (.int .i64 4) .nil)) (by simp) (fixedInk_ok (w := 4) (n := sumL (bodyD d)) (by omega) (by omega) (by omega)) fun fu zK ⟨hfu, zn1, zg1, zk1⟩ => ?_
      subst hfu
      have zp := hoz.keep zk1 fun _ _ => id
      obtain ⟨zv, zH, za, zo, zk, zs⟩ := zp.app (l := fixedL (sumL (bodyD d)) 4) (by omega) (.bb' (by rw [fixedL_len]) (by omega) zg1) (by rw [fixedL_len]; omega)
      refine WDO.heavy1 tyOk extOk (k := ⟨hvAppend ⟨grownBy 5⟩ 1 (.tmp 70) (.tmp 75)⟩) (by kernel_rfl) rfl (by kernel_rfl) (by simp; exact za) ?_
      refine WDO.looks1 tyOk extOk 2 (ls := [⟨lkMove (.tmp 76), (some 2), none⟩, ⟨lkMove (.const (.int .i64 0)), (some 3), none⟩]) (by kernel_rfl) (by simp (disch := omega) []; exact rfl) ?_
      refine WDO.nilS (WD.ret (endR _ (by simp; rfl) ⟨fun _ => ⟨zv, rfl, ownB_wide zo (by omega)⟩, fun h => absurd hok h, ((kk'.trans kz).trans zk1).trans' zk fun b hb e => by have := (ho.low e).1; omega⟩))
    · have hc : i < d.pages.length := by have := of_decide_eq_true hc; omega
      have hp1 : d.pages[i]? = some (d.pages[i]) := List.getElem?_eq_getElem hc
      generalize d.pages[i] = pg at hp1
      have hps := partD_succ hp1
      have hle2 := partD_le d (i + 1)
      rw [hps] at hle2
      simp only [List.length_append, fixedL_len] at hle2
      obtain ⟨b, off, cap, o, u, q1, q2, q3, q4, q5, q6, q7, q8, q9⟩ := h.pages.get hp1
      have q2' := kk'.get q8 id q2
      refine WD.seqR ?_
      refine WDO.looks1 tyOk extOk 2 (ls := [⟨⟨ixSl 2 (.tmp 53) (.tmp 55)⟩, (some 57), none⟩, ⟨⟨ldA ⟨ldN 2⟩ (.tmp 57)⟩, (some 58), none⟩]) (by kernel_rfl) (by simp (disch := omega) [q1, q2', q5, hc]; exact rfl) ?_
      refine WDO.fresh1 tyOk (k := ⟨frAlloc (.cs 67 2 2 false (.cons (.int .i64 0) (.cons .snil .nil)) .e)⟩) (by kernel_rfl) rfl (by kernel_rfl) (v := .ptr H'.next 0) (x := .cs 67 2 2 false zPv .e) ?_ ?_
      · exact rfl
      have kn' : Keep noB H' (H'.new (.cs 67 2 2 false zPv .e)) := Keep.new _ _ _
      obtain ⟨Hp, p1, p2, p3, p4⟩ := (newP H').store encPv_len ⟨pg.1, u, q9⟩ (cells_pv _)
      refine WDO.heavy1 tyOk extOk (k := ⟨hvStore ⟨stN 2⟩ (.tmp 8) (.tmp 58)⟩) (by kernel_rfl) rfl (by kernel_rfl) (by simp; exact stN_ob p1) ?_
      obtain ⟨op, gp, r0, r1, _⟩ := p3.pv
      dsimp only at r0 r1
      have kp : Keep noB H' Hp := kn'.trans' p4 fun b hb e => absurd e (by omega)
      have kkp := kk'.trans kp
      have hop := ho.keep kp fun _ _ => id
      have hnp := kp.1
      have hb8 : H'.next < Hp.next := by rw [p2]; simp
      have hb8' : N + 1 ≤ H'.next := by omega
      have hlow8 : ∀ b, blk cur = some b → b < H'.next := fun b e => (ho.low e).2
      generalize H'.next = N8 at gp hb8 hb8' hlow8 ⊢
      refine WDO.nilS (WD.seqR ?_)
      have cv := mkInt_cv pg.1
      have clt := u64_lt pg.1
      refine WDO.looks1 tyOk extOk 4 (ls := [⟨lkMove (.tmp 6), (some 59), none⟩, ⟨⟨fAddr (.tmp 8) 0⟩, (some 60), none⟩, ⟨⟨ldA ⟨ld1⟩ (.tmp 60)⟩, (some 61), none⟩, ⟨⟨cvInt .u64 (.tmp 61)⟩, (some 62), none⟩]) (by kernel_rfl) (by simp (disch := omega) [gp, r0, cv]; exact rfl) ?_
      refine WDO.callF (g := 37) rfl rfl rfl (by kernel_rfl) (l := .cons (.int .u64 ((u64 pg.1 : Nat) : Int)) (.cons (.int .i64 4) .nil)) (by simp) (fixedInk_ok (w := 4) clt (by omega) (by omega)) fun fu zK ⟨hfu, zn1, zg1, zk1⟩ => ?_
      subst hfu
      have zp := hop.keep zk1 fun _ _ => id
      obtain ⟨zv, zH, za, zo, zk, zs⟩ := zp.app (l := fixedL (u64 pg.1) 4) (by omega) (.bb' (by rw [fixedL_len]) (by omega) zg1) (by rw [fixedL_len]; omega)
      refine WDO.heavy1 tyOk extOk (k := ⟨hvAppend ⟨grownBy 5⟩ 1 (.tmp 59) (.tmp 63)⟩) (by kernel_rfl) rfl (by kernel_rfl) (by simp; exact za) ?_
      have zkk : Keep noB H zH := (kkp.trans zk1).trans' zk fun b hb e => by have := (ho.low e).1; omega
      have gpz := zk.get (b := N8) (by omega) (fun e => by have := hlow8 _ e; omega) (zk1.get hb8 id gp)
      have zn := zk.1
      refine WDO.looks1 tyOk extOk 1 (ls := [⟨lkMove (.tmp 64), (some 6), none⟩]) (by kernel_rfl) (by simp (disch := omega) []; exact rfl) ?_
      refine WDO.nilS (WD.region ?_)
      refine WDO.looks1 tyOk extOk 3 (ls := [⟨lkMove (.tmp 6), (some 65), none⟩, ⟨⟨fAddr (.tmp 8) 1⟩, (some 66), none⟩, ⟨⟨ldA ⟨ld1⟩ (.tmp 66)⟩, (some 67), none⟩]) (by kernel_rfl) (by simp (disch := omega) [gpz, r1]; exact rfl) ?_
      have hu6 := q6.keep zkk fun _ _ => id
      obtain ⟨yv, yH, ya, yo, yk, ys⟩ := zo.app (l := pg.2) (by omega) hu6 (by simp [fixedL_len]; omega)
      refine WDO.heavy1 tyOk extOk (k := ⟨hvAppend ⟨grownBy 5⟩ 1 (.tmp 65) (.tmp 67)⟩) (by kernel_rfl) rfl (by kernel_rfl) (by simp; exact ya) ?_
      have ykk : Keep noB H yH := zkk.trans' yk fun b hb e => by have := (zo.low e).1; omega
      have yn := yk.1
      refine WDO.looks1 tyOk extOk 1 (ls := [⟨lkMove (.tmp 68), (some 6), none⟩]) (by kernel_rfl) (by simp (disch := omega) []; exact rfl) ?_
      refine WDO.nil ?_
      refine WDO.looks1 tyOk extOk 2 (ls := [⟨⟨binInt akAdd (.tmp 55) (.const (.int .i64 1))⟩, (some 69), none⟩, ⟨lkMove (.tmp 69), (some 55), none⟩]) (by kernel_rfl) (by simp (disch := omega) []; exact rfl) ?_
      rw [← hps] at yo
      exact WDO.nil ⟨rfl, (i + 1, yv), _, rfl, by simp [q1], ⟨by simp only; omega, yo, by omega, ykk⟩, by simp only; omega⟩
  · have hu := hu2 hok
    obtain ⟨m, hu⟩ := hu
    subst hu
    refine WDO.looks1 tyOk extOk 3 (ls := [⟨lkMove (.tmp 11), (some 9), none⟩, ⟨⟨exA (.tmp 9) 0⟩, (some 12), none⟩, ⟨⟨exA (.tmp 9) 1⟩, (some 13), none⟩]) (by kernel_rfl) (by simp (disch := omega) []; exact rfl) ?_
    refine WDO.fresh1 tyOk (k := ⟨frAlloc (.cs 69 8 8 false (.cons (.int .i64 0) (.cons (.int .i64 0) (.cons (.int .i64 0) (.cons (.int .i64 0) (.cons (.int .i64 0) (.cons (.int .i64 0) (.cons (.int .i64 0) (.cons (.int .i64 0) .nil)))))))) .e)⟩) (by kernel_rfl) rfl (by kernel_rfl) (v := .ptr H2.next 0) (x := .cs 69 8 8 false zMt .e) ?_ ?_
    · exact rfl
    obtain ⟨H3, s1, s2, s3⟩ := storeMx (H := H2) m
    refine WDO.heavy1 tyOk extOk (k := ⟨hvStore ⟨stN 8⟩ (.tmp 4) (.tmp 12)⟩) (by kernel_rfl) rfl (by kernel_rfl) (by simp; exact st_ob s1) ?_
    refine WDO.looks1 tyOk extOk 1 (ls := [⟨lkMove (.tmp 13), (some 5), none⟩]) (by kernel_rfl) (by simp (disch := omega) []; exact rfl) ?_
    refine WDO.nilS (WD.seqR ?_)
    refine WDO.looks1 tyOk extOk 2 (ls := [⟨lkMove (.tmp 5), (some 14), none⟩, ⟨lkUn ukNot (.tmp 14), (some 15), none⟩]) (by kernel_rfl) (by simp (disch := omega) []; exact rfl) ?_
    refine WDO.nilS (WD.cond (t := true) (by simp) (fun _ => WD.seqR ?_) (by simp))
    refine WDO.looks1 tyOk extOk 2 (ls := [⟨lkMove (.const (.slice none 0 0)), (some 2), none⟩, ⟨lkMove (.const (.int .i64 230)), (some 3), none⟩]) (by kernel_rfl) (by simp (disch := omega) []; exact rfl) ?_
    exact WDO.nilS (WD.ret (endR _ (by simp; rfl) ⟨fun h => absurd h hok, fun _ => rfl, kk2.trans s3⟩))
end
end Go.Proofs.YtoigokkeaddceaaGreatDoor
