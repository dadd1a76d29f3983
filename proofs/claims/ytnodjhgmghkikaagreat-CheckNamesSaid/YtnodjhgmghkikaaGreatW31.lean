/- A part of the proof of this seat's statement. Conditions: in each theorem. -/
import Derived.Test.YtnodjhgmghkikaaGreatW30
namespace Go.Proofs.YtnodjhgmghkikaaGreat
open Go.Xq Go.Conc Go.Conc.Lib
structure Opn (sp : Gp) (img off len cap p N : Nat) (ci : Array Value) (ei : TypeId) (bo bi bp : Nat) (v0 : World) : Prop where
  wg : sp.Wg < v0.heap.size
  out : sp.out < v0.heap.size
  ne : sp.Wg ≠ sp.out
  hi : v0.heap[bi]? = some (xiO img off len cap)
  hp : v0.heap[bp]? = some (xpO p)
  ho : v0.heap[bo]? = some (xoO sp.out N)
  hg : v0.heap[img]? = some (.cells ci ei (0, ci.size + 2))
  dis : ∀ k, k = bo ∨ k = bi ∨ k = bp ∨ k = img → k ≠ sp.Wg ∧ k ≠ sp.out
  Y : sp.Y bo ∧ sp.Y bi ∧ sp.Y bp ∧ sp.Y img
abbrev XB (bo bi bp img : Nat) (fri : Prop) : Nat → Prop := fun k => k = bo ∨ k = bi ∨ k = bp ∨ (k = img ∧ fri)
abbrev YB (bo bi bp img : Nat) : Nat → Prop := fun k => k = bo ∨ k = bi ∨ k = bp ∨ k = img
def Child (img off len cap p N : Nat) (ci : Array Value) (ei : TypeId) (fri : Prop) (S : Nat → World → List Value → Prop) : Prop :=
  ∀ (Wg out bo bi bp : Nat) (h0 : Array Obj) (v0 : World), Opn (spG Wg out N h0 (XB bo bi bp img fri) (YB bo bi bp img) S) img off len cap p N ci ei bo bi bp v0 →
    ∀ j, j < min 8 N → ∀ w1 c, MS (spG Wg out N h0 (XB bo bi bp img fri) (YB bo bi bp img) S) v0 2 j w1 → v0.heap.size ≤ c → w1.heap[c]? = some (xcO j) →
      @Gx Tryz.prog (workerD Tryz.prog (spG Wg out N h0 (XB bo bi bp img fri) (YB bo bi bp img) S)) (WEnd Tryz.prog (spG Wg out N h0 (XB bo bi bp img fri) (YB bo bi bp img) S)) (born Tryz.prog { target := .fn (.func 69) (capV (spG Wg out N h0 (XB bo bi bp img fri) (YB bo bi bp img) S) c bo bi bp), args := #[] }).frame [] (childW (spG Wg out N h0 (XB bo bi bp img fri) (YB bo bi bp img) S) j c w1)
structure Sheets (S : Nat → World → List Value → Prop) (w : World) (N : Nat) (v : Value) (w' : World) : Prop where
  lies : Lies w w'
  got : ∃ (out n0 : Nat) (cc : Array Value) (us : Nat → World), v = .slice (some ⟨out, 0, none⟩) N N ∧ w.heap.size ≤ out ∧ out < n0 ∧ cc.size = N * 7 ∧ w'.heap[out]? = some (.cells cc 112 (0, 0)) ∧ ∀ n, n < N →
    S n (us n) ((List.range 7).map fun i => cc.getD (n * 7 + i) undef) ∧ (us n).heap.size ≤ w'.heap.size ∧
    ∀ (k : Nat) (o : Obj), (us n).heap[k]? = some o → ¬ Dead o → (w'.heap[k]? = some o ∧ n0 ≤ k ∧ ∀ m, m < N → m ≠ n → ∀ o', (us m).heap[k]? = some o' → Dead o') ∨ Shr o
section
variable {Wg out N bo bi bp img off len cap p : Nat} {ci : Array Value} {ei : TypeId} {fri : Prop} {S : Nat → World → List Value → Prop} {w0 w : World}
theorem fin_gx {sp : Gp} {fr : Frame} {cs cs0 : List Frame} {v : World} (hsp : sp = spG Wg out N w0.heap (XB bo bi bp img fri) (YB bo bi bp img) S) (hL : Lies w w0) (hbo : w0.heap[bo]? = some (.cells #[.slice (some ⟨out, 0, none⟩) N N] 84 (0, 0))) (hne : bo ≠ out) (hWg : w.heap.size ≤ Wg) (hout : w.heap.size ≤ out) (hout2 : out < w0.heap.size) (hX : ∀ k, k = bo ∨ k = bi ∨ k = bp → w.heap.size ≤ k) (hN : N ≠ 0)
    (hf : Fin sp (openW sp w0) bo cs0 fr cs v) : @Gx Tryz.prog (outerD Tryz.prog) (XQ Tryz.prog .normal 47 cs0 fun v' w' => Sheets S w N v' w') fr cs v := by
  letI : Dealing := outerD Tryz.prog
  subst hsp
  obtain ⟨rfl, ⟨a, rfl, hsz, hdf, e5⟩, w1, w2, hMS, hJ, hi2⟩ := hf
  have hcs : CsOk b47.kind cs := .inl rfl
  have hsw : w0.heap.size ≤ w1.heap.size := by have := hMS.size; rwa [openW_size] at this
  -- what lay there lies there
  have lies : Lies w w2 := by
    refine ⟨hJ.os.trans (hMS.os.trans hL.os), hJ.output.trans (hMS.output.trans hL.output), Nat.le_trans hL.size (Nat.le_trans hsw hJ.size), fun k hk => ?_⟩
    have hk0 : k < w0.heap.size := Nat.lt_of_lt_of_le hk hL.size
    have e0 : w0.heap[k]? = w.heap[k]? := hL.all k hk
    by_cases hx : k = img ∧ fri
    · rw [hJ.thaw k (.inr (.inr (.inr hx)))]
      exact e0
    · have hx' : ¬ (spG Wg out N w0.heap (XB bo bi bp img fri) (YB bo bi bp img) S).X k := by
        rintro (e | e | e | e)
        · have := hX k (.inl e); omega
        · have := hX k (.inr (.inl e)); omega
        · have := hX k (.inr (.inr e)); omega
        · exact hx e
      have h1 : k ≠ Wg := by omega
      have h2 : k ≠ out := by omega
      have e1 : w1.heap[k]? = w0.heap[k]? := by
        rw [hMS.keep k (by rw [openW_size]; exact hk0) h1]
        exact openW_same h1 h2 hx'
      cases ho : w0.heap[k]? with
      | none => exact absurd ho (by rw [Array.getElem?_eq_getElem hk0]; simp)
      | some o =>
        rw [← e0, ho]
        rw [ho] at e1
        by_cases hd : Dead o
        · exact hJ.dead k o hk0 h2 h1 hx' e1 hd
        · by_cases hs : Shr o
          · exact hJ.shr k o hx' e1 hs
          · exact hJ.own k o e1 hd hs
  obtain ⟨cc, us, g1, g2, g3⟩ := hJ.got
  have hbo2 : w2.heap[bo]? = some (.cells #[.slice (some ⟨out, 0, none⟩) N N] 84 (0, 0)) := by rw [hJ.thaw bo (.inl rfl)]; exact hbo
  let m2 : Ren := fun b => if b = 4 then some ⟨bo, 0, 1, 1⟩ else if b = 3 then some ⟨out, 0, N * 7, 7⟩ else none
  have hm2 : ∀ b i, m2 b = some i → (b = 4 ∧ i = ⟨bo, 0, 1, 1⟩) ∨ (b = 3 ∧ i = ⟨out, 0, N * 7, 7⟩) := fun b i hb => by
    have hb : (if b = 4 then some (⟨bo, 0, 1, 1⟩ : BI) else if b = 3 then some ⟨out, 0, N * 7, 7⟩ else none) = some i := hb
    split at hb
    · rename_i e; cases hb; exact .inl ⟨e, rfl⟩
    · split at hb
      · rename_i e; cases hb; exact .inr ⟨e, rfl⟩
      · cases hb
  have lt : ∀ {k : Nat} {o : Obj} {u : World}, u.heap[k]? = some o → k < u.heap.size := fun h => (Array.getElem?_eq_some_iff.1 h).1
  have hmo : MOk m2 6 v := by
    refine ⟨fun b b' i i' h1 h2 e => ?_, fun b i hb => ?_, fun g hg => absurd hg (Nat.not_lt_zero g)⟩
    · rcases hm2 _ _ h1 with ⟨rfl, rfl⟩ | ⟨rfl, rfl⟩ <;> rcases hm2 _ _ h2 with ⟨rfl, rfl⟩ | ⟨rfl, rfl⟩
      · rfl
      · exact absurd e hne
      · exact absurd e.symm hne
      · rfl
    · rcases hm2 _ _ hb with ⟨rfl, rfl⟩ | ⟨rfl, rfl⟩
      · exact ⟨by omega, Nat.lt_of_lt_of_le (lt hbo2) hi2.size⟩
      · exact ⟨by omega, Nat.lt_of_lt_of_le (lt g2) hi2.size⟩
  have hf : FrR ⟨24, none, none⟩ m2 (tl [(5, .ptr 4 0)]) [] a := frR_of hsz hdf fun q hq => by
    simp only [List.mem_cons, List.not_mem_nil, or_false] at hq
    subst hq
    rw [e5]
    exact .ptr 4 0 ⟨bo, 0, 1, 1⟩ rfl
  obtain ⟨H, hH⟩ : ∃ H, H = layH 6 [⟨4, .cells #[.slice (some ⟨out, 0, none⟩) N N] 84 (0, 0), oneF (.sl 3 0 N (some N))⟩] := ⟨_, rfl⟩
  have hH4 : H.get 4 = some (.ro (.cells #[.slice (some ⟨out, 0, none⟩) N N] 84 (0, 0)) (oneF (.sl 3 0 N (some N)))) := by rw [hH]; simp [layH, ahOf_get]
  have hlay : LayOk m2 v [⟨4, .cells #[.slice (some ⟨out, 0, none⟩) N N] 84 (0, 0), oneF (.sl 3 0 N (some N))⟩] :=⟨⟨_, rfl, hi2.some hbo2, or_one rfl (.sl 3 0 N N ⟨out, 0, N * 7, 7⟩ rfl)⟩, trivial⟩
  have hr := rel_lay hmo hlay
  rw [← hH] at hr
  refine via Xq.stepR_seq (gx_region (gx_looks tyOk extOk 2 (ls := [⟨⟨ldA ⟨ld1⟩ (.tmp 5)⟩, some 23, none⟩, ⟨lkMove (.tmp 23), some 4, none⟩]) (by kernel_rfl) (by kernel_rfl) (H := H) (by simp (disch := omega) [hH4]; exact rfl) (by rw [hH]; exact layH_ro _) hcs hr hf fun a3 w3 l3 f3 => gx_regEnd sz10.symm ?_))
  -- the return
  refine via (Xq.stepR_ret rfl) (Gx.stop fun w4 h4 => ⟨rfl, rfl, rfl, fun w5 h5 => ?_⟩)
  have hl5 : Lies w2 w5 := (Lies.of_idle hi2).trans (l3.trans ((Lies.of_idle h4).trans (Lies.of_idle h5)))
  have hmo5 := hmo.size (w2 := w5) (Nat.le_trans l3.size (Nat.le_trans h4.size h5.size))
  obtain ⟨v', q1, q2⟩ := results_ok (E := E) (fn := Tryz.f47) (k := reTmp 4 reNil) (r := .cons (.sl 3 0 N (some N)) .nil) tyOk (rel_lay (l := []) hmo5 trivial) f3.t (by kernel_rfl) (by simp)
  have e := vr_val (x := .slice (some ⟨out, 0, none⟩) N N) q2 (by show vOf m2 (.sl 3 0 N (some N)) = _; simp [vOf, hN, m2])
  subst e
  refine ⟨_, ⟨lies.trans hl5, out, w0.heap.size, cc, us, rfl, hout, hout2, g1, hl5.some g2, fun n hn => ?_⟩, rfl, frR_dfr f3, Tryz.f47, Tryz.func47, q1⟩
  obtain ⟨k1, k2, k3⟩ := g3 n hn
  refine ⟨k1, Nat.le_trans k2 hl5.size, fun k o hk hd => ?_⟩
  rcases k3 k o hk hd with ⟨z1, z2, _, z4⟩ | ⟨z1, _⟩
  · exact .inl ⟨hl5.some z1, z2, z4⟩
  · exact .inr z1
end
end Go.Proofs.YtnodjhgmghkikaaGreat
namespace Go.Proofs.YtnodjhgmghkikaaGreat
open Go.Xq Go.Conc Go.Conc.Lib
theorem quo_nat {x y : Nat} (hx : x < 9223372036854775808) (hy : 0 < y) : quoA .i64 (x : Int) (y : Int) = some (.int .i64 ((x / y : Nat) : Int)) := by
  rw [quoA_i64 (by omega) (by omega) (by omega)]
  congr 2
theorem args2 (x y : Value) (n : Nat) : (⟨#[x, y] ++ Array.replicate n undef, []⟩ : Act).eval (.tmp 0) = x ∧ (⟨#[x, y] ++ Array.replicate n undef, []⟩ : Act).eval (.tmp 1) = y := by
  constructor
  · show (#[x, y] ++ Array.replicate n undef).getD 0 undef = x
    rw [Array.getD_eq_getD_getElem?, Array.getElem?_append_left (by simp)]; rfl
  · show (#[x, y] ++ Array.replicate n undef).getD 1 undef = y
    rw [Array.getD_eq_getD_getElem?, Array.getElem?_append_left (by simp)]; rfl
theorem rd_one (x : Obj) (v : AV) : rdCell (.ro x (oneF v)) 0 = some v := rfl
theorem mmK_x (gt : Bool) (x : Operand) (r : List Operand) (T : Tr AV) (H : AH) : mmK gt x r T H = ob (opnd x T) fun v => ob ((opnds r).f T) fun l => mmA gt l v := rfl
theorem mm8 (n : Nat) : mmA false (.cons (.int .i64 (n : Int)) .nil) (.int .i64 8) = some (.int .i64 ((min 8 n : Nat) : Int)) := by
  show some (AV.int .i64 (bt (bt false (ltI 8 (n : Int)) (ltI (n : Int) 8)) (n : Int) 8)) = _
  rw [bt_false, ltI_dec]
  by_cases h : (n : Int) < 8
  · rw [decide_eq_true h, bt_true, show min 8 n = n from by omega]
  · rw [decide_eq_false h, bt_false, show min 8 n = 8 from by omega]; rfl
theorem lies_setB {w u : World} (h : Lies w u) {k : Nat} (hk : w.heap.size ≤ k) (o : Obj) : Lies w (setB u k o) :=
  ⟨h.os, h.output, by rw [setB_size]; exact h.size, fun i hi => by rw [setB_ne (by omega)]; exact h.all i hi⟩
def sheetV : Value := .agg #[.int .i64 0, .int .i64 0, .int .i64 0, .slice none 0 0, .int .i64 0, .slice none 0 0, .slice none 0 0]
theorem info112 : ∃ i : TypeInfo, (∀ w, (typeInfo 112).run Tryz.prog w = .ok i w) ∧ i.bytes = 104 := by
  have h : (Tryz.prog.info? 112).map (·.bytes) = some 104 := by kernel_rfl
  cases e : Tryz.prog.info? 112 with
  | none => rw [e] at h; cases h
  | some i =>
    rw [e] at h
    exact ⟨i, fun w => by simp [typeInfo, e], Option.some.inj h⟩
theorem zero112 (w : World) : (zeroValue 112).run Tryz.prog w = .ok sheetV w := Tryz.zeroValue112 w
theorem size112 (w : World) : (sizeOf 112).run Tryz.prog w = .ok sheetV.cells.size w := Tryz.sizeOf112 w
theorem zero84 (w : World) : (zeroValue 84).run Tryz.prog w = .ok (.slice none 0 0) w := Tryz.zeroValue84 w
theorem zero161 (w : World) : (zeroValue 161).run Tryz.prog w = .ok (.agg #[.int .u64 0, .int .u32 0]) w := Tryz.zeroValue161 w
theorem under84 (w : World) : (underlying 84).run Tryz.prog w = .ok (.slice 112) w := Tryz.runUnderlying84 w
section
variable {img off len cap p N : Nat} {ci : Array Value} {ei : TypeId} {fri : Nat × Nat} {S : Nat → World → List Value → Prop} {w : World}
set_option maxHeartbeats 1000000 in
theorem sheets_gx (hc0 : cap ≠ 0) (hg : w.heap[img]? = some (.cells ci ei fri)) (hfr : FZ fri ci.size ∨ fri = (0, ci.size + 2)) (hp : 0 < p) (hlen : len < 9223372036854775808) (hN : N = len / p) (hN0 : N ≠ 0) (hN1 : 104 * N ≤ 281474976710656) (hch : Child img off len cap p N ci ei (FZ fri ci.size) S) :
    @XC (outerD Tryz.prog) Tryz.prog .normal 47 #[.slice (some ⟨img, off, none⟩) len cap, .int .i64 (p : Int)] w fun v' w' => Sheets S w N v' w' := by
  letI : Dealing := outerD Tryz.prog
  intro cs hcs
  have henter : Frame.enter Tryz.prog 47 #[.slice (some ⟨img, off, none⟩) len cap, .int .i64 (p : Int)] .normal = b47.atR ⟨#[.slice (some ⟨img, off, none⟩) len cap, .int .i64 (p : Int)] ++ Array.replicate 22 undef, []⟩ [.code c47] := by
    rw [enter_at (fn := Tryz.f47) (c := c47) _ Tryz.func47 (by kernel_rfl), Frame.atR_of_none rfl]
    rfl
  rw [henter, c47_eq]
  have lt : ∀ {k : Nat} {o : Obj} {u : World}, u.heap[k]? = some o → k < u.heap.size := fun h => (Array.getElem?_eq_some_iff.1 h).1
  let m0 : Ren := fun b => if b = 0 then some ⟨img, off, ci.size, 1⟩ else none
  have hm0 : MOk m0 1 w := by
    have key : ∀ b i, m0 b = some i → b = 0 ∧ i = ⟨img, off, ci.size, 1⟩ := fun b i hb => by
      have hb : (if b = 0 then some (⟨img, off, ci.size, 1⟩ : BI) else none) = some i := hb
      split at hb
      · rename_i e; cases hb; exact ⟨e, rfl⟩
      · cases hb
    refine ⟨fun b b' i i' h1 h2 _ => by rw [(key _ _ h1).1, (key _ _ h2).1], fun b i hb => ?_, fun g hg => absurd hg (Nat.not_lt_zero g)⟩
    obtain ⟨rfl, rfl⟩ := key _ _ hb
    exact ⟨by omega, lt hg⟩
  obtain ⟨e0, e1⟩ := args2 (.slice (some ⟨img, off, none⟩) len cap) (.int .i64 (p : Int)) 22
  have hsz0 : (⟨#[.slice (some ⟨img, off, none⟩) len cap, .int .i64 (p : Int)] ++ Array.replicate 22 undef, []⟩ : Act).tmps.size = 24 := by simp
  have hdf0 : (⟨#[.slice (some ⟨img, off, none⟩) len cap, .int .i64 (p : Int)] ++ Array.replicate 22 undef, []⟩ : Act).defers = [] := rfl
  generalize (⟨#[.slice (some ⟨img, off, none⟩) len cap, .int .i64 (p : Int)] ++ Array.replicate 22 undef, []⟩ : Act) = a0 at *
  have hf0 : FrR ⟨24, none, none⟩ m0 (tl [(0, .sl 0 0 len (some cap)), (1, .int .i64 (p : Int))]) [] a0 := by
    refine frR_of hsz0 hdf0 fun q hq => ?_
    simp only [List.mem_cons, List.not_mem_nil, or_false] at hq
    rcases hq with rfl | rfl
    · rw [e0]; exact .sl 0 0 len cap ⟨img, off, ci.size, 1⟩ rfl
    · rw [e1]; exact .int _ _
  -- the image's box
  refine via Xq.stepR_seq (gx_region (gx_box (t := 24) (by kernel_rfl) at00 gd00 op00 fun w1 i1 => ?_))
  rw [dst00, e0]
  have L1 := (Lies.of_idle i1).trans (Lies.push w1 (.cells (Value.slice (some ⟨img, off, none⟩) len cap).cells 24 (0, 0)))
  have hm1 := hm0.ext i1.size (.cells (Value.slice (some ⟨img, off, none⟩) len cap).cells 24 (0, 0)) 1 1
  have hb1 : ({ w1 with heap := w1.heap.push (.cells (Value.slice (some ⟨img, off, none⟩) len cap).cells 24 (0, 0)) } : World).heap[w1.heap.size]? = some (.cells #[.slice (some ⟨img, off, none⟩) len cap] 24 (0, 0)) := Array.getElem?_push_size
  have hs1 := i1.size
  generalize w1.heap.size = bi at *
  generalize ({ w1 with heap := w1.heap.push (.cells (Value.slice (some ⟨img, off, none⟩) len cap).cells 24 (0, 0)) } : World) = u1 at *
  have f1 := (hf0.mono (hm0.le_ext ⟨bi, 0, 1, 1⟩)).putL (d := 2) rfl (VR.ptr 1 0 ⟨bi, 0, 1, 1⟩ (Ren.ext_same m0 1 _))
  generalize hM1 : m0.ext 1 ⟨bi, 0, 1, 1⟩ = m1 at *
  have q10 : m1 0 = some ⟨img, off, ci.size, 1⟩ := by rw [← hM1, Ren.ext_ne _ _ (by omega)]; rfl
  have q11 : m1 1 = some ⟨bi, 0, 1, 1⟩ := by rw [← hM1, Ren.ext_same]
  generalize (a0.put (some 2) _) = a1 at *
  -- the page's box
  have e1 : a1.eval (.tmp 1) = .int .i64 (p : Int) := frR_val f1 (by simp; exact rfl) rfl
  refine gx_box (t := 3) (by kernel_rfl) at01 gd01 op01 fun w2 i2 => ?_
  rw [dst01, e1]
  have L2 := (L1.trans (Lies.of_idle i2)).trans (Lies.push w2 (.cells (Value.int .i64 (p : Int)).cells 3 (0, 0)))
  have hm2 := hm1.ext i2.size (.cells (Value.int .i64 (p : Int)).cells 3 (0, 0)) 1 1
  have hb2 : ({ w2 with heap := w2.heap.push (.cells (Value.int .i64 (p : Int)).cells 3 (0, 0)) } : World).heap[w2.heap.size]? = some (.cells #[.int .i64 (p : Int)] 3 (0, 0)) := Array.getElem?_push_size
  have hb1 := (Lies.push w2 (.cells (Value.int .i64 (p : Int)).cells 3 (0, 0))).some (i2.some hb1)
  have hs2 := Nat.le_trans L1.size i2.size
  have d12 : bi < w2.heap.size := Nat.lt_of_lt_of_le (hm1.bnd 1 _ q11).2 i2.size
  generalize w2.heap.size = bp at *
  generalize ({ w2 with heap := w2.heap.push (.cells (Value.int .i64 (p : Int)).cells 3 (0, 0)) } : World) = u2 at *
  have f2 := (f1.mono (hm1.le_ext ⟨bp, 0, 1, 1⟩)).putL (d := 3) rfl (VR.ptr 2 0 ⟨bp, 0, 1, 1⟩ (Ren.ext_same m1 2 _))
  generalize hM2 : m1.ext 2 ⟨bp, 0, 1, 1⟩ = m2 at *
  have q20 : m2 0 = some ⟨img, off, ci.size, 1⟩ := by rw [← hM2, Ren.ext_ne _ _ (by omega)]; exact q10
  have q21 : m2 1 = some ⟨bi, 0, 1, 1⟩ := by rw [← hM2, Ren.ext_ne _ _ (by omega)]; exact q11
  have q22 : m2 2 = some ⟨bp, 0, 1, 1⟩ := by rw [← hM2, Ren.ext_same]
  generalize (a1.put (some 3) _) = a2 at *
  refine gx_looks tyOk extOk 1 (ls := [⟨lkMove (.const (.slice none 0 0)), some 4, none⟩]) (by kernel_rfl) (by kernel_rfl) (H := layH 3 []) (by simp (disch := omega) []; exact rfl) (layH_ro []) hcs (rel_lay hm2 trivial) f2 fun a3 u3 l3 f3 => gx_regEnd sz0.symm ?_
  have L3 := L2.trans l3
  have hm3 := hm2.size l3.size
  have hb1 := l3.some hb1
  have hb2 := l3.some hb2
  -- how many pages there are
  obtain ⟨H, hH⟩ : ∃ H, H = layH 3 [⟨1, .cells #[.slice (some ⟨img, off, none⟩) len cap] 24 (0, 0), oneF (.sl 0 0 len (some cap))⟩, ⟨2, .cells #[.int .i64 (p : Int)] 3 (0, 0), oneF (.int .i64 (p : Int))⟩] := ⟨_, rfl⟩
  have hH1 : H.get 1 = some (.ro (.cells #[.slice (some ⟨img, off, none⟩) len cap] 24 (0, 0)) (oneF (.sl 0 0 len (some cap)))) := by rw [hH]; simp [layH, ahOf_get]
  have hH2 : H.get 2 = some (.ro (.cells #[.int .i64 (p : Int)] 3 (0, 0)) (oneF (.int .i64 (p : Int)))) := by rw [hH]; simp [layH, ahOf_get]
  have hr := rel_lay hm3 (l := [⟨1, .cells #[.slice (some ⟨img, off, none⟩) len cap] 24 (0, 0), oneF (.sl 0 0 len (some cap))⟩, ⟨2, .cells #[.int .i64 (p : Int)] 3 (0, 0), oneF (.int .i64 (p : Int))⟩]) ⟨⟨_, q21, hb1, or_one rfl (.sl 0 0 len cap _ q20)⟩, ⟨_, q22, hb2, or_one rfl (.int _ _)⟩, trivial⟩
  rw [← hH] at hr
  refine via Xq.stepR_seq (gx_region (gx_looks tyOk extOk 4 (ls := [⟨⟨ldA ⟨ld1⟩ (.tmp 2)⟩, some 8, none⟩, ⟨⟨lenSl (.tmp 8)⟩, some 9, none⟩, ⟨⟨ldA ⟨ld1⟩ (.tmp 3)⟩, some 10, none⟩, ⟨⟨binInt ⟨quoA⟩ (.tmp 9) (.tmp 10)⟩, some 11, none⟩]) (by kernel_rfl) (by kernel_rfl) (H := H) (by simp (disch := omega) [hH1, hH2, rd_one, quo_nat hlen hp]; exact rfl) (by rw [hH]; exact layH_ro _) hcs hr f3 fun a4 u4 l4 f4 => ?_))
  have L4 := L3.trans l4
  have hm4 := hm3.size l4.size
  have hb1 := l4.some hb1
  have hb2 := l4.some hb2
  rw [show ((len : Int) / (p : Int)) = (N : Int) from by rw [hN]; rfl] at f4
  -- the sheets
  obtain ⟨ti, hti, htb⟩ := info112
  have e11 : a4.eval (.tmp 11) = .int .i64 (N : Int) := frR_val f4 (by simp; exact rfl) rfl
  refine gx_make (t := 84) (e := 112) (n := N) (zv := sheetV) (by kernel_rfl) at14 gd14 op14 under84 hti htb zero112 size112 e11 e11 hN1 (by omega) fun w5 i5 => ?_
  rw [dst14]
  have hcc : (List.replicate N sheetV.cells.toList).flatten.toArray.size = N * 7 := by
    rw [List.size_toArray, List.length_flatten, List.map_replicate, List.sum_replicate_nat]; rfl
  generalize (List.replicate N sheetV.cells.toList).flatten.toArray = cc at *
  have L5 := (L4.trans (Lies.of_idle i5)).trans (Lies.push w5 (.cells cc 112 (0, 0)))
  have hm5 := hm4.ext i5.size (.cells cc 112 (0, 0)) (N * 7) 7
  have hb3 : ({ w5 with heap := w5.heap.push (.cells cc 112 (0, 0)) } : World).heap[w5.heap.size]? = some (.cells cc 112 (0, 0)) := Array.getElem?_push_size
  have hb1 := (Lies.push w5 (.cells cc 112 (0, 0))).some (i5.some hb1)
  have hb2 := (Lies.push w5 (.cells cc 112 (0, 0))).some (i5.some hb2)
  have hs5 := Nat.le_trans L4.size i5.size
  have d23 : bp < w5.heap.size := Nat.lt_of_lt_of_le (hm4.bnd 2 _ q22).2 i5.size
  generalize w5.heap.size = out at *
  generalize ({ w5 with heap := w5.heap.push (.cells cc 112 (0, 0)) } : World) = u5 at *
  have f5 := (f4.mono (hm4.le_ext ⟨out, 0, N * 7, 7⟩)).putL (d := 12) rfl (VR.sl 3 0 N N ⟨out, 0, N * 7, 7⟩ (Ren.ext_same m2 3 _))
  generalize hM5 : m2.ext 3 ⟨out, 0, N * 7, 7⟩ = m5 at *
  have q50 : m5 0 = some ⟨img, off, ci.size, 1⟩ := by rw [← hM5, Ren.ext_ne _ _ (by omega)]; exact q20
  have q51 : m5 1 = some ⟨bi, 0, 1, 1⟩ := by rw [← hM5, Ren.ext_ne _ _ (by omega)]; exact q21
  have q52 : m5 2 = some ⟨bp, 0, 1, 1⟩ := by rw [← hM5, Ren.ext_ne _ _ (by omega)]; exact q22
  have q53 : m5 3 = some ⟨out, 0, N * 7, 7⟩ := by rw [← hM5, Ren.ext_same]
  generalize (a4.put (some 12) _) = a5 at *
  -- their box
  refine gx_alloc (t := 84) (zv := .slice none 0 0) (by kernel_rfl) at15 gd15 op15 zero84 fun w6 i6 => ?_
  rw [dst15]
  have L6 := (L5.trans (Lies.of_idle i6)).trans (Lies.push w6 (.cells (Value.slice none 0 0).cells 84 (0, 0)))
  have hm6 := hm5.ext i6.size (.cells (Value.slice none 0 0).cells 84 (0, 0)) 1 1
  have hb4 : ({ w6 with heap := w6.heap.push (.cells (Value.slice none 0 0).cells 84 (0, 0)) } : World).heap[w6.heap.size]? = some (.cells #[.slice none 0 0] 84 (0, 0)) := Array.getElem?_push_size
  have hb1 := (Lies.push w6 (.cells (Value.slice none 0 0).cells 84 (0, 0))).some (i6.some hb1)
  have hb2 := (Lies.push w6 (.cells (Value.slice none 0 0).cells 84 (0, 0))).some (i6.some hb2)
  have hb3 := (Lies.push w6 (.cells (Value.slice none 0 0).cells 84 (0, 0))).some (i6.some hb3)
  have hs6 := Nat.le_trans L5.size i6.size
  have ho6 : out < w6.heap.size := Nat.lt_of_lt_of_le (hm5.bnd 3 _ q53).2 i6.size
  generalize w6.heap.size = bo at *
  generalize ({ w6 with heap := w6.heap.push (.cells (Value.slice none 0 0).cells 84 (0, 0)) } : World) = u6 at *
  have f6 := (f5.mono (hm5.le_ext ⟨bo, 0, 1, 1⟩)).putL (d := 5) rfl (VR.ptr 4 0 ⟨bo, 0, 1, 1⟩ (Ren.ext_same m5 4 _))
  generalize hM6 : m5.ext 4 ⟨bo, 0, 1, 1⟩ = m6 at *
  have q60 : m6 0 = some ⟨img, off, ci.size, 1⟩ := by rw [← hM6, Ren.ext_ne _ _ (by omega)]; exact q50
  have q61 : m6 1 = some ⟨bi, 0, 1, 1⟩ := by rw [← hM6, Ren.ext_ne _ _ (by omega)]; exact q51
  have q62 : m6 2 = some ⟨bp, 0, 1, 1⟩ := by rw [← hM6, Ren.ext_ne _ _ (by omega)]; exact q52
  have q63 : m6 3 = some ⟨out, 0, N * 7, 7⟩ := by rw [← hM6, Ren.ext_ne _ _ (by omega)]; exact q53
  have q64 : m6 4 = some ⟨bo, 0, 1, 1⟩ := by rw [← hM6, Ren.ext_same]
  generalize (a5.put (some 5) _) = a6 at *
  have e5 : a6.eval (.tmp 5) = .pointer (some ⟨bo, 0, none⟩) := frR_val f6 (v := .ptr 4 0) (by simp) (by simp [vOf, q64])
  have e12 : a6.eval (.tmp 12) = .slice (some ⟨out, 0, none⟩) N N := frR_val f6 (v := .sl 3 0 N (some N)) (by simp) (by simp [vOf, q63, hN0])
  refine gx_store (t := 84) (k := bo) (v := .slice (some ⟨out, 0, none⟩) N N) (by kernel_rfl) at16 gd16 op16 e5 (by rw [e12]; rfl) rfl (fun w => Tryz.sizeOf84 w) hb4 fun w7 i7 => gx_regEnd sz1.symm ?_
  rw [dst16]
  have hput : ∀ (a : Act) (v : Value), a.put none v = a := fun _ _ => rfl
  rw [hput]
  have L7 := lies_setB (L6.trans (Lies.of_idle i7)) hs6 (.cells #[.slice (some ⟨out, 0, none⟩) N N] 84 (0, 0))
  have hm7 : MOk m6 5 (setB w7 bo (.cells #[.slice (some ⟨out, 0, none⟩) N N] 84 (0, 0))) := hm6.size (by rw [setB_size]; exact i7.size)
  have hb1 : (setB w7 bo (.cells #[.slice (some ⟨out, 0, none⟩) N N] 84 (0, 0))).heap[bi]? = some (.cells #[.slice (some ⟨img, off, none⟩) len cap] 24 (0, 0)) := by rw [setB_ne (by omega)]; exact i7.some hb1
  have hb2 : (setB w7 bo (.cells #[.slice (some ⟨out, 0, none⟩) N N] 84 (0, 0))).heap[bp]? = some (.cells #[.int .i64 (p : Int)] 3 (0, 0)) := by rw [setB_ne (by omega)]; exact i7.some hb2
  have hb3 : (setB w7 bo (.cells #[.slice (some ⟨out, 0, none⟩) N N] 84 (0, 0))).heap[out]? = some (.cells cc 112 (0, 0)) := by rw [setB_ne (by omega)]; exact i7.some hb3
  have hb4 : (setB w7 bo (.cells #[.slice (some ⟨out, 0, none⟩) N N] 84 (0, 0))).heap[bo]? = some (.cells #[.slice (some ⟨out, 0, none⟩) N N] 84 (0, 0)) := setB_same (i7.some hb4)
  generalize setB w7 bo (.cells #[.slice (some ⟨out, 0, none⟩) N N] 84 (0, 0)) = u7 at *
  -- the group
  refine via Xq.stepR_seq (gx_region (gx_alloc (t := 161) (zv := .agg #[.int .u64 0, .int .u32 0]) (by kernel_rfl) at20 gd20 op20 zero161 fun w8 i8 => gx_regEnd sz2.symm ?_))
  rw [dst20]
  have L8 := (L7.trans (Lies.of_idle i8)).trans (Lies.push w8 (.cells (Value.agg #[.int .u64 0, .int .u32 0]).cells 161 (0, 0)))
  have hm8 := hm7.ext i8.size (.cells (Value.agg #[.int .u64 0, .int .u32 0]).cells 161 (0, 0)) 2 2
  have hb5 : ({ w8 with heap := w8.heap.push (.cells (Value.agg #[.int .u64 0, .int .u32 0]).cells 161 (0, 0)) } : World).heap[w8.heap.size]? = some (.cells (Value.agg #[.int .u64 0, .int .u32 0]).cells 161 (0, 0)) := Array.getElem?_push_size
  have hb1 := (Lies.push w8 (.cells (Value.agg #[.int .u64 0, .int .u32 0]).cells 161 (0, 0))).some (i8.some hb1)
  have hb2 := (Lies.push w8 (.cells (Value.agg #[.int .u64 0, .int .u32 0]).cells 161 (0, 0))).some (i8.some hb2)
  have hb3 := (Lies.push w8 (.cells (Value.agg #[.int .u64 0, .int .u32 0]).cells 161 (0, 0))).some (i8.some hb3)
  have hb4 := (Lies.push w8 (.cells (Value.agg #[.int .u64 0, .int .u32 0]).cells 161 (0, 0))).some (i8.some hb4)
  have hs8 := Nat.le_trans L7.size i8.size
  have ho8 : bo < w8.heap.size := Nat.lt_of_lt_of_le (hm7.bnd 4 _ q64).2 i8.size
  generalize w8.heap.size = Wg at *
  generalize ({ w8 with heap := w8.heap.push (.cells (Value.agg #[.int .u64 0, .int .u32 0]).cells 161 (0, 0)) } : World) = u8 at *
  have f8 := (f6.mono (hm7.le_ext ⟨Wg, 0, 2, 2⟩)).putL (d := 6) rfl (VR.ptr 5 0 ⟨Wg, 0, 2, 2⟩ (Ren.ext_same m6 5 _))
  generalize hM8 : m6.ext 5 ⟨Wg, 0, 2, 2⟩ = m8 at *
  have q80 : m8 0 = some ⟨img, off, ci.size, 1⟩ := by rw [← hM8, Ren.ext_ne _ _ (by omega)]; exact q60
  have q81 : m8 1 = some ⟨bi, 0, 1, 1⟩ := by rw [← hM8, Ren.ext_ne _ _ (by omega)]; exact q61
  have q82 : m8 2 = some ⟨bp, 0, 1, 1⟩ := by rw [← hM8, Ren.ext_ne _ _ (by omega)]; exact q62
  have q83 : m8 3 = some ⟨out, 0, N * 7, 7⟩ := by rw [← hM8, Ren.ext_ne _ _ (by omega)]; exact q63
  have q84 : m8 4 = some ⟨bo, 0, 1, 1⟩ := by rw [← hM8, Ren.ext_ne _ _ (by omega)]; exact q64
  have q85 : m8 5 = some ⟨Wg, 0, 2, 2⟩ := by rw [← hM8, Ren.ext_same]
  generalize (a6.put (some 6) _) = a8 at *
  -- how many workers there will be
  obtain ⟨G, hG⟩ : ∃ H, H = layH 6 [⟨4, .cells #[.slice (some ⟨out, 0, none⟩) N N] 84 (0, 0), oneF (.sl 3 0 N (some N))⟩] := ⟨_, rfl⟩
  have hG4 : G.get 4 = some (.ro (.cells #[.slice (some ⟨out, 0, none⟩) N N] 84 (0, 0)) (oneF (.sl 3 0 N (some N)))) := by rw [hG]; simp [layH, ahOf_get]
  have hr := rel_lay hm8 (l := [⟨4, .cells #[.slice (some ⟨out, 0, none⟩) N N] 84 (0, 0), oneF (.sl 3 0 N (some N))⟩]) ⟨⟨_, q84, hb4, or_one rfl (.sl 3 0 N N _ q83)⟩, trivial⟩
  rw [← hG] at hr
  refine via Xq.stepR_seq (via Xq.stepR_seq (gx_region (gx_looks tyOk extOk 4 (ls := [⟨⟨ldA ⟨ld1⟩ (.tmp 5)⟩, some 13, none⟩, ⟨⟨lenSl (.tmp 13)⟩, some 14, none⟩, ⟨⟨mmK false (.const (.int .i64 8)) [.tmp 14]⟩, some 15, none⟩, ⟨lkMove (.const (.int .i64 0)), some 16, none⟩]) (by kernel_rfl) (by kernel_rfl) (H := G) (by simp (disch := omega) [hG4, rd_one, mmK_x, mm8]; exact rfl) (by rw [hG]; exact layH_ro _) hcs hr f8 fun a9 u9 l9 f9 => gx_regEnd sz3.symm ?_)))
  have L9 := L8.trans l9
  have hm9 := hm8.size l9.size
  have hb1 := l9.some hb1
  have hb2 := l9.some hb2
  have hb3 := l9.some hb3
  have hb4 := l9.some hb4
  have hb5 := l9.some hb5
  have hg9 := L9.some hg
  have hig : img < w.heap.size := lt hg
  have hN0' : 0 < N := by omega
  let sp := spG Wg out N u9.heap (XB bo bi bp img (FZ fri ci.size)) (YB bo bi bp img) S
  have hcl : ∀ k, k = bo ∨ k = bi ∨ k = bp ∨ k = img → k ≠ Wg ∧ k ≠ out := by
    rintro k (e | e | e | e) <;> omega
  have hXf : ∀ k, sp.X k → k ≠ Wg ∧ k ≠ out ∧ sp.Y k ∧ ∃ c e fr, u9.heap[k]? = some (.cells c e fr) ∧ FZ fr c.size := by
    rintro k (rfl | rfl | rfl | ⟨rfl, e⟩)
    · exact ⟨(hcl _ (by simp)).1, (hcl _ (by simp)).2, by show YB _ _ _ _ _; simp [YB], _, _, _, hb4, .inl rfl⟩
    · exact ⟨(hcl _ (by simp)).1, (hcl _ (by simp)).2, by show YB _ _ _ _ _; simp [YB], _, _, _, hb1, .inl rfl⟩
    · exact ⟨(hcl _ (by simp)).1, (hcl _ (by simp)).2, by show YB _ _ _ _ _; simp [YB], _, _, _, hb2, .inl rfl⟩
    · exact ⟨(hcl _ (by simp)).1, (hcl _ (by simp)).2, by show YB _ _ _ _ _; simp [YB], _, _, _, hg9, e⟩
  have hopen : Opn sp img off len cap p N ci ei bo bi bp (openW sp u9) := by
    refine ⟨by rw [openW_size]; exact lt hb5, by rw [openW_size]; exact lt hb3, by show Wg ≠ out; omega, ?_, ?_, ?_, ?_, hcl, by show YB _ _ _ _ _ ∧ YB _ _ _ _ _ ∧ YB _ _ _ _ _ ∧ YB _ _ _ _ _; simp [YB]⟩
    · exact openW_X (hcl bi (by simp)).1 (hcl bi (by simp)).2 (by show XB _ _ _ _ _ _; simp [XB]) hb1
    · exact openW_X (hcl bp (by simp)).1 (hcl bp (by simp)).2 (by show XB _ _ _ _ _ _; simp [XB]) hb2
    · exact openW_X (hcl bo (by simp)).1 (hcl bo (by simp)).2 (by show XB _ _ _ _ _ _; simp [XB]) hb4
    · rcases hfr with hfr | rfl
      · exact openW_X (hcl img (by simp)).1 (hcl img (by simp)).2 (by show XB _ _ _ _ _ _; simp [XB, hfr]) hg9
      · rw [openW_same (hcl img (by simp)).1 (hcl img (by simp)).2 (by
          rintro (e | e | e | ⟨_, e⟩)
          · omega
          · omega
          · omega
          · exact absurd e (by rintro (e | e) <;> simp at e))]
        exact hg9
  have hmv : MOk m8 6 (openW sp u9) := hm9.size (by rw [openW_size]; exact Nat.le_refl _)
  have hms : MS sp (openW sp u9) 1 0 (openW sp u9) := ⟨rfl, rfl, Nat.le_refl _, openW_wg hb5, fun _ _ _ => rfl⟩
  have hf9 : FrR ⟨24, none, none⟩ m8 (tl (la0 0 (min 8 N))) [] a9 := frR_re f9 fun q hq => by
    simp only [List.mem_cons, List.not_mem_nil, or_false] at hq
    rcases hq with rfl | rfl | rfl | rfl | rfl | rfl
    · exact ⟨_, _, by simp; exact rfl, rfl, rfl⟩
    · exact ⟨_, _, by simp; exact rfl, rfl, rfl⟩
    · exact ⟨.ptr 1 0, .pointer (some ⟨bi, 0, none⟩), by simp, by simp [vOf, q81], by simp [vOf, q81]⟩
    · exact ⟨.ptr 2 0, .pointer (some ⟨bp, 0, none⟩), by simp, by simp [vOf, q82], by simp [vOf, q82]⟩
    · exact ⟨.ptr 4 0, .pointer (some ⟨bo, 0, none⟩), by simp, by simp [vOf, q84], by simp [vOf, q84]⟩
    · exact ⟨.ptr 5 0, .pointer (some ⟨Wg, 0, none⟩), by simp, by simp [vOf, q85], by simp [vOf, q85]⟩
  refine Gx.deal (burstD Tryz.prog sp (Fin sp (openW sp u9) bo cs)) (burst_big _ _ _) (fun u10 i10 => ⟨u9, i10, gpOk_G (by omega) hN0', rfl, hb5, ⟨cc, hb3, hcc⟩, hXf, fun k hk => ?_, ?_, fun fr cs' v hq => ?_⟩) (fun u10 fr' cs' w' i10 hq => fin_gx rfl L9 hb4 (by omega) (by omega) (by omega) (lt hb3) (by rintro k (rfl | rfl | rfl) <;> omega) hN0 hq)
  · rcases hk with e | e | e | e
    · exact .inl (.inl e)
    · exact .inl (.inr (.inl e))
    · exact .inl (.inr (.inr (.inl e)))
    · rcases hfr with hfr | hfr
      · exact .inl (.inr (.inr (.inr ⟨e, hfr⟩)))
      · subst e; subst hfr
        exact .inr ⟨_, hg9, _, _, rfl⟩
  · letI : Dealing := mainD Tryz.prog sp
    exact via Xq.stepR_block (via Xq.stepR_loop (loop_gx q81 q82 q84 q85 hmv (hch Wg out bo bi bp u9.heap (openW sp u9) hopen) (min 8 N) 0 _ a9 (by omega) hms hf9))
  · obtain ⟨_, _, w1, w2, _, hJ, hi⟩ := hq
    exact hi.some hJ.wg
end
end Go.Proofs.YtnodjhgmghkikaaGreat
namespace Go.Proofs.YtnodjhgmghkikaaGreat
open Go.Xq
theorem recOk [Dealing] (d : Nat) : RecOk Tryz.prog (recA E d) := recA_ok tyOk extOk.run extOk.quiet follows (fnsOk_of _ _ _ _ _) sumOk d
noncomputable def fz : Nat → Option AV := fun k => bt (Nat.blt k 4096) (some (.int .u8 (.ofNat 0))) none
noncomputable def HR (x : Obj) : AH := (⟨1, .e⟩ : AH).set 0 (.ro x fz)
noncomputable def sheet0 : AV := .agg (.cons (.int .i64 0) (.cons (.int .i64 0) (.cons (.int .i64 0) (.cons .snil (.cons (.int .i64 0) (.cons .snil (.cons .snil .nil)))))))
def roX : Option AObj → Option Obj
  | some (.ro x _) => some x
  | _ => none
noncomputable def okR : Option (AV × AH) → Bool × Option Obj
  | some (v, H) => (AV.beq v sheet0, roX (H.get 0))
  | none => (false, none)
def pg (n : Nat) : AV := .cons (.sl 0 (512 * n) 512 (some (4096 - 512 * n))) .nil
set_option maxRecDepth 100000
structure Calm (w w' : World) : Prop where
  os : w'.os = w.os
  out : w'.output = w.output
  size : w.heap.size ≤ w'.heap.size
  all : ∀ k, k < w.heap.size → w'.heap[k]? = w.heap[k]?
end Go.Proofs.YtnodjhgmghkikaaGreat
namespace Go.Proofs.YtnodjhgmghkikaaGreat
open Go.Xq
noncomputable def runC (fid n : Nat) (c : Code) (R : Rec) (T : Tr AV) (D : List ADf) (H : AH) : Out :=
  match compK E fid n none c with
  | some k => k.f R T D H
  | none => .bad
noncomputable def runD (n : Nat) (ops : List Oper) (R : Rec) (T : Tr AV) (D : List ADf) (H : AH) : Out :=
  match drawK E n ops with
  | some k => k.f R T D H
  | none => .bad
noncomputable def outT : Out → Tr AV
  | .nor T _ _ => T
  | _ => .e
noncomputable def outD : Out → List ADf
  | .nor _ D _ => D
  | _ => []
noncomputable def outH : Out → AH
  | .nor _ _ H => H
  | _ => ⟨0, .e⟩
noncomputable def isNor : Out → Bool
  | .nor _ _ _ => true
  | _ => false
theorem nor_of {o : Out} (h : isNor o = true) : o = .nor (outT o) (outD o) (outH o) := by
  cases o <;> first | rfl | cases h
noncomputable def c69 : Code := Tryz.f69.body.getD .skip
noncomputable def k0 : Code := q1 c69
noncomputable def k1 : Code := q1 (q2 c69)
noncomputable def kL : Code := ql (qb (q2 (q2 c69)))
noncomputable def k2 : Code := q1 (q1 kL)
noncomputable def k3 : Code := q2 (q2 kL)
noncomputable def kD : Code := qb (q1 (q2 kL))
noncomputable def opsD : Array Oper := qops kD
theorem c69_eq : c69 = .seq k0 (.seq k1 (.block 0 (.loop (.seq (.seq k2 (.cond (.tmp 10) .skip (.exit 0))) (.seq (.block 1 (.region 4 opsD true)) k3))))) := by kernel_rfl
theorem opsD_ok : stopOk opsD = true := by kernel_rfl
noncomputable def fo : Nat → Option AV := fun k => bt (Nat.beq k 0) (some (.sl 5 0 8 (some 8))) none
noncomputable def fi : Nat → Option AV := fun k => bt (Nat.beq k 0) (some (.sl 4 0 4096 (some 4096))) none
noncomputable def fp : Nat → Option AV := fun k => bt (Nat.beq k 0) (some (.int .i64 (.ofNat 512))) none
noncomputable def fc (j : Nat) : Nat → Option AV := fun k => bt (Nat.beq k 0) (some (.int .i64 (.ofNat j))) none
noncomputable def TW : Tr AV := argsT (.cons (.ptr 6 0) (.cons (.ptr 3 0) (.cons (.ptr 0 0) (.cons (.ptr 1 0) (.cons (.ptr 2 0) .nil))))) 0 .e
noncomputable def R60 : Rec := recA E 60
noncomputable def HN (nx j : Nat) (xo xi xp xc xg : Obj) : AH := ahOf nx [(0, .ro xo fo), (1, .ro xi fi), (2, .ro xp fp), (3, .ro xc (fc j)), (4, .ro xg fz)]
section
variable (j : Nat) (xo xi xp xc xg : Obj)
noncomputable def W0 : Out := runC 69 26 k0 R60 TW [] (HN 7 j xo xi xp xc xg)
noncomputable def W1 : Out := runC 69 26 k1 R60 (outT (W0 j xo xi xp xc xg)) (outD (W0 j xo xi xp xc xg)) (outH (W0 j xo xi xp xc xg))
noncomputable def W2 : Out := runC 69 26 k2 R60 (outT (W1 j xo xi xp xc xg)) (outD (W1 j xo xi xp xc xg)) (outH (W1 j xo xi xp xc xg))
noncomputable def W3 : Out := runD 26 opsD.pop.toList R60 (outT (W2 j xo xi xp xc xg)) (outD (W2 j xo xi xp xc xg)) (outH (W2 j xo xi xp xc xg))
noncomputable def H4 : AH := HN (outH (W3 j xo xi xp xc xg)).next j xo xi xp xc xg
noncomputable def W4 : Out := runC 69 26 k3 R60 (outT (W3 j xo xi xp xc xg)) (outD (W3 j xo xi xp xc xg)) (H4 j xo xi xp xc xg)
noncomputable def W5 : Out := runC 69 26 k2 R60 (outT (W4 j xo xi xp xc xg)) (outD (W4 j xo xi xp xc xg)) (outH (W4 j xo xi xp xc xg))
end
noncomputable def okT (o : Out) (t : Nat) (v : AV) : Bool :=
  match (outT o).get (Xq.bits t) with
  | some u => AV.beq u v
  | none => false
noncomputable def okD : List ADf → Bool
  | [⟨none, f, a⟩] => AV.beq f (.fn (.func 70) .nil .nil) && AV.beq a (.cons (.ptr 6 0) .nil)
  | _ => false
noncomputable def chk (j : Nat) (xo xi xp xc xg : Obj) : Bool × List (Option Obj) :=
  (isNor (W0 j xo xi xp xc xg) && (isNor (W1 j xo xi xp xc xg) && (isNor (W2 j xo xi xp xc xg) && (isNor (W3 j xo xi xp xc xg) && (isNor (W4 j xo xi xp xc xg) && (isNor (W5 j xo xi xp xc xg) &&
    (okT (W2 j xo xi xp xc xg) 10 (.bool true) && (okT (W3 j xo xi xp xc xg) 24 sheet0 && (okT (W3 j xo xi xp xc xg) 25 (.ptr 5 (7 * j)) && (okT (W5 j xo xi xp xc xg) 10 (.bool false) && (okD (outD (W5 j xo xi xp xc xg)) && Nat.ble 7 (outH (W3 j xo xi xp xc xg)).next)))))))))),
    [roX ((outH (W3 j xo xi xp xc xg)).get 0), roX ((outH (W3 j xo xi xp xc xg)).get 1), roX ((outH (W3 j xo xi xp xc xg)).get 2), roX ((outH (W3 j xo xi xp xc xg)).get 3), roX ((outH (W3 j xo xi xp xc xg)).get 4)])
set_option maxRecDepth 100000
theorem chk0 (xo xi xp xc xg : Obj) : chk 0 xo xi xp xc xg = (true, [some xo, some xi, some xp, some xc, some xg]) := by kernel_rfl
theorem chk1 (xo xi xp xc xg : Obj) : chk 1 xo xi xp xc xg = (true, [some xo, some xi, some xp, some xc, some xg]) := by kernel_rfl
theorem chk2 (xo xi xp xc xg : Obj) : chk 2 xo xi xp xc xg = (true, [some xo, some xi, some xp, some xc, some xg]) := by kernel_rfl
theorem chk3 (xo xi xp xc xg : Obj) : chk 3 xo xi xp xc xg = (true, [some xo, some xi, some xp, some xc, some xg]) := by kernel_rfl
theorem chk4 (xo xi xp xc xg : Obj) : chk 4 xo xi xp xc xg = (true, [some xo, some xi, some xp, some xc, some xg]) := by kernel_rfl
theorem chk5 (xo xi xp xc xg : Obj) : chk 5 xo xi xp xc xg = (true, [some xo, some xi, some xp, some xc, some xg]) := by kernel_rfl
theorem chk6 (xo xi xp xc xg : Obj) : chk 6 xo xi xp xc xg = (true, [some xo, some xi, some xp, some xc, some xg]) := by kernel_rfl
theorem chk7 (xo xi xp xc xg : Obj) : chk 7 xo xi xp xc xg = (true, [some xo, some xi, some xp, some xc, some xg]) := by kernel_rfl
theorem chk_all {j : Nat} (hj : j < 8) (xo xi xp xc xg : Obj) : chk j xo xi xp xc xg = (true, [some xo, some xi, some xp, some xc, some xg]) := by
  match j, hj with
  | 0, _ => exact chk0 xo xi xp xc xg
  | 1, _ => exact chk1 xo xi xp xc xg
  | 2, _ => exact chk2 xo xi xp xc xg
  | 3, _ => exact chk3 xo xi xp xc xg
  | 4, _ => exact chk4 xo xi xp xc xg
  | 5, _ => exact chk5 xo xi xp xc xg
  | 6, _ => exact chk6 xo xi xp xc xg
  | 7, _ => exact chk7 xo xi xp xc xg
end Go.Proofs.YtnodjhgmghkikaaGreat
namespace Go.Proofs.YtnodjhgmghkikaaGreat
open Go.Xq Go.Conc
theorem run_piece [Dealing] {b : Frame} {c : Code} (hb : b.fn = 69) (hr0 : b.roundOf = none) {m : Ren} {H : AH} {w : World} {T : Tr AV} {D : List ADf} {a : Act} {K : List Item} {cs : List Frame} {Φ : Frame → List Frame → World → Prop} (hcs : CsOk b.kind cs) (hr : Rel m H w) (hf : FrR ⟨26, none, none⟩ m T D a)
    (h : isNor (runC 69 26 c R60 T D H) = true) (hΦ : ∀ m2 a2 w2, St m H w m2 (outH (runC 69 26 c R60 T D H)) w2 → FrR ⟨26, none, none⟩ m2 (outT (runC 69 26 c R60 T D H)) (outD (runC 69 26 c R60 T D H)) a2 → Gx Tryz.prog Φ (b.atR a2 K) cs w2) : Gx Tryz.prog Φ (b.atR a (.code c :: K)) cs w := by
  have e := nor_of h
  cases hk : compK E 69 26 none c with
  | none => simp only [runC, hk, isNor] at h; cases h
  | some k =>
    have ek : runC 69 26 c R60 T D H = k.f R60 T D H := by simp only [runC, hk]
    have hok := compK_ok tyOk extOk.run extOk.quiet follows c 69 26 none k hk b ⟨26, none, none⟩ rfl rfl hr0 rfl hb R60 (recOk 60) m H w T D a K cs hcs hr hf
    rw [← ek, e] at hok
    refine OutOk.gx hok (by simp) fun fr cs' w' ⟨h1, m2, a2, g1, g2, h2⟩ => ?_
    subst h1; subst h2
    exact hΦ m2 a2 w' g1 g2
theorem putAt_uniq {P : Program} {sp : Gp} {n n' : Nat} {xs xs' : List Value} {fr f1 f2 : Frame} {cs c1 c2 : List Frame} {w : World} (hw : sp.out < w.heap.size) (h : PutAt P sp n xs fr cs f1 c1) (h' : PutAt P sp n' xs' fr cs f2 c2) : f1 = f2 ∧ c1 = c2 := by
  have hW : (setB w sp.out (.cells (Array.replicate (sp.N * sp.ks) undef) sp.oe (0, 0))).heap[sp.out]? = some (.cells (Array.replicate (sp.N * sp.ks) undef) sp.oe (0, 0)) := setB_same (Array.getElem?_eq_getElem hw)
  obtain ⟨_, _, e1, _⟩ := h true _ _ hW (by simp)
  obtain ⟨_, _, e2, _⟩ := h' true _ _ hW (by simp)
  rw [e1] at e2
  injection e2 with e3
  simp only [Conc.G, Goroutine.mk.injEq] at e3
  exact ⟨e3.1, e3.2.1⟩
theorem strip_keep2 (sp : Gp) (c : Nat) {w : World} {k : Nat} {o : Obj} (h : w.heap[k]? = some o) (hd : k = c ∨ (sp.Y k ∧ Shr o)) : (stripW sp c w).heap[k]? = some o := by
  classical
  show (w.heap.mapIdx _)[k]? = _
  rw [Array.getElem?_mapIdx, h]
  rcases hd with hd | hd
  · simp [hd]
  · simp [hd.1, hd.2]
noncomputable def zop : Oper := (opsD[13]?).getD default
theorem zop_at : opsD[opsD.size - 1]? = some zop := by kernel_rfl
theorem zop_op : zop.op = .store 112 (.tmp 25) (.tmp 24) := by kernel_rfl
theorem zop_dst : zop.dst = none := by kernel_rfl
theorem zop_guard : zop.guard = none := by kernel_rfl
def zeros7 : List Value := [.int .i64 0, .int .i64 0, .int .i64 0, .slice none 0 0, .int .i64 0, .slice none 0 0, .slice none 0 0]
theorem sheet_inv {m : Ren} {v : Value} (hvr : VR m sheet0 v) : v = sheetV := by
  have hvr : VR m (.agg _) v := hvr
  cases hvr with
  | agg _ vs h =>
    cases h with | cons _ _ _ _ a1 h =>
    cases h with | cons _ _ _ _ a2 h =>
    cases h with | cons _ _ _ _ a3 h =>
    cases h with | cons _ _ _ _ a4 h =>
    cases h with | cons _ _ _ _ a5 h =>
    cases h with | cons _ _ _ _ a6 h =>
    cases h with | cons _ _ _ _ a7 h =>
    cases h
    cases a1; cases a2; cases a3; cases a4; cases a5; cases a6; cases a7
    rfl
theorem okT_some {o : Out} {t : Nat} {v : AV} (h : okT o t v = true) : (outT o).get (Xq.bits t) = some v := by
  unfold okT at h
  split at h
  · rename_i u e
    rw [e, AV.beq_eq h]
  · cases h
end Go.Proofs.YtnodjhgmghkikaaGreat
