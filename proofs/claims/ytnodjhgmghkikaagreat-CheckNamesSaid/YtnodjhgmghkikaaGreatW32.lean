/- A part of the proof of this seat's statement. Conditions: in each theorem. -/
import Derived.Test.YtnodjhgmghkikaaGreatW31
import Derived.Test.YtnodjhgmghkikaaGreatRows
import Derived.WalkKit
import Derived.ProofKit
import Derived.OpenShut
namespace Go.Proofs.YtnodjhgmghkikaaGreat
open Go.Xq Go.Conc
abbrev xoZ (out : Nat) : Obj := xoO out 8
abbrev xiZ (img off : Nat) : Obj := xiO img off 4096 4096
abbrev xpZ : Obj := xpO 512
def xgO (ci : Array Value) : Obj := .cells ci 5 (0, ci.size + 2)
structure WF (sp : Gp) (j n c bo bi bp img off : Nat) (ci : Array Value) (v : World) : Prop where
  wg : v.heap[sp.Wg]? = some (mkD 4 c)
  out : v.heap[sp.out]? = some (mkD 3 n)
  hc : v.heap[c]? = some (xcO j)
  ho : v.heap[bo]? = some (xoZ sp.out)
  hi : v.heap[bi]? = some (xiZ img off)
  hp : v.heap[bp]? = some xpZ
  hg : v.heap[img]? = some (xgO ci)
  hz : ∀ k, k < 4096 → ci[off + k]? = some (.int .u8 0)
def mW (sp : Gp) (c bo bi bp img off : Nat) (ci : Array Value) : Ren
  | 0 => some ⟨bo, 0, 1, 1⟩
  | 1 => some ⟨bi, 0, 1, 1⟩
  | 2 => some ⟨bp, 0, 1, 1⟩
  | 3 => some ⟨c, 0, 1, 1⟩
  | 4 => some ⟨img, off, ci.size, 1⟩
  | 5 => some ⟨sp.out, 0, 56, 7⟩
  | 6 => some ⟨sp.Wg, 0, 2, 2⟩
  | _ => none
section
variable {sp : Gp} {j n c bo bi bp img off : Nat} {ci : Array Value} {v : World}
theorem or_HN {m : Ren} (hle : Le (mW sp c bo bi bp img off ci) m) (hz : ∀ k, k < 4096 → ci[off + k]? = some (.int .u8 0)) {nx b : Nat} {o : AObj} (hb : (HN nx j (xoZ sp.out) (xiZ img off) xpZ (xcO j) (xgO ci)).get b = some o) :
    (b = 0 ∧ o = .ro (xoZ sp.out) fo ∧ OR m (xoZ sp.out) o ⟨bo, 0, 1, 1⟩) ∨ (b = 1 ∧ o = .ro (xiZ img off) fi ∧ OR m (xiZ img off) o ⟨bi, 0, 1, 1⟩) ∨ (b = 2 ∧ o = .ro xpZ fp ∧ OR m xpZ o ⟨bp, 0, 1, 1⟩) ∨ (b = 3 ∧ o = .ro (xcO j) (fc j) ∧ OR m (xcO j) o ⟨c, 0, 1, 1⟩) ∨ (b = 4 ∧ o = .ro (xgO ci) fz ∧ OR m (xgO ci) o ⟨img, off, ci.size, 1⟩) := by
  have hmem := ahOf_mem _ _ _ _ hb
  simp only [List.mem_cons, Prod.mk.injEq, List.not_mem_nil, or_false] at hmem
  have one : ∀ {f : Nat → Option AV} {x : AV} {k : Nat} {u : AV}, (f = fun k => bt (Nat.beq k 0) (some x) none) → f k = some u → k = 0 ∧ u = x := by
    rintro f x k u rfl h
    simp only [bt_some, Option.some.injEq] at h
    exact ⟨Nat.eq_of_beq_eq_true h.1, h.2.symm⟩
  rcases hmem with ⟨rfl, rfl⟩ | ⟨rfl, rfl⟩ | ⟨rfl, rfl⟩ | ⟨rfl, rfl⟩ | ⟨rfl, rfl⟩
  · refine .inl ⟨rfl, rfl, .ro _ _ _ _ _ fun k u hk => ?_⟩
    obtain ⟨rfl, rfl⟩ := one (f := fo) rfl hk
    exact ⟨_, rfl, .sl 5 0 8 8 ⟨sp.out, 0, 56, 7⟩ (hle 5 _ rfl)⟩
  · refine .inr (.inl ⟨rfl, rfl, .ro _ _ _ _ _ fun k u hk => ?_⟩)
    obtain ⟨rfl, rfl⟩ := one (f := fi) rfl hk
    exact ⟨_, rfl, .sl 4 0 4096 4096 ⟨img, off, ci.size, 1⟩ (hle 4 _ rfl)⟩
  · refine .inr (.inr (.inl ⟨rfl, rfl, .ro _ _ _ _ _ fun k u hk => ?_⟩))
    obtain ⟨rfl, rfl⟩ := one (f := fp) rfl hk
    exact ⟨_, rfl, .int _ _⟩
  · refine .inr (.inr (.inr (.inl ⟨rfl, rfl, .ro _ _ _ _ _ fun k u hk => ?_⟩)))
    obtain ⟨rfl, rfl⟩ := one (f := fc j) rfl hk
    exact ⟨_, rfl, .int _ _⟩
  · refine .inr (.inr (.inr (.inr ⟨rfl, rfl, .ro _ _ _ _ _ fun k u hk => ?_⟩)))
    simp only [fz, bt_some, Option.some.injEq] at hk
    obtain ⟨h1, rfl⟩ := hk
    exact ⟨_, hz k (by simpa [Nat.blt_eq] using h1), .int _ _⟩
theorem rel_W (h : WF sp j n c bo bi bp img off ci v) : Rel (mW sp c bo bi bp img off ci) (HN 7 j (xoZ sp.out) (xiZ img off) xpZ (xcO j) (xgO ci)) v := by
  have d01 : bo ≠ bi := fun e => by have h1 := h.ho; rw [e, h.hi] at h1; simp [xoZ, xiZ, xoO, xiO, xpO] at h1
  have d02 : bo ≠ bp := fun e => by have h1 := h.ho; rw [e, h.hp] at h1; simp [xoZ, xpZ, xoO, xiO, xpO] at h1
  have d03 : bo ≠ c := fun e => by have h1 := h.ho; rw [e, h.hc] at h1; simp [xoZ, xcO, xoO, xiO, xpO] at h1
  have d04 : bo ≠ img := fun e => by have h1 := h.ho; rw [e, h.hg] at h1; simp [xoZ, xgO, xoO, xiO, xpO] at h1
  have d12 : bi ≠ bp := fun e => by have h1 := h.hi; rw [e, h.hp] at h1; simp [xiZ, xpZ, xoO, xiO, xpO] at h1
  have d13 : bi ≠ c := fun e => by have h1 := h.hi; rw [e, h.hc] at h1; simp [xiZ, xcO, xoO, xiO, xpO] at h1
  have d14 : bi ≠ img := fun e => by have h1 := h.hi; rw [e, h.hg] at h1; simp [xiZ, xgO, xoO, xiO, xpO] at h1
  have d23 : bp ≠ c := fun e => by have h1 := h.hp; rw [e, h.hc] at h1; simp [xpZ, xcO, xoO, xiO, xpO] at h1
  have d24 : bp ≠ img := fun e => by have h1 := h.hp; rw [e, h.hg] at h1; simp [xpZ, xgO, xoO, xiO, xpO] at h1
  have d34 : c ≠ img := fun e => by have h1 := h.hc; rw [e, h.hg] at h1; simp [xcO, xgO, xoO, xiO, xpO] at h1
  have lt : ∀ {k : Nat} {o : Obj}, v.heap[k]? = some o → k < v.heap.size := fun h => (Array.getElem?_eq_some_iff.1 h).1
  refine ⟨fun b o hb i hi => ?_, fun b b' o o' i i' h1 h2 hm1 hm2 e => ?_, fun b i hi => ?_, fun g hg => absurd hg (Nat.not_lt_zero g)⟩
  · rcases or_HN (j := j) (bo := bo) (bi := bi) (bp := bp) (c := c) (Le.refl _) h.hz hb with ⟨rfl, _, h2⟩ | ⟨rfl, _, h2⟩ | ⟨rfl, _, h2⟩ | ⟨rfl, _, h2⟩ | ⟨rfl, _, h2⟩ <;> cases hi
    · exact ⟨_, h.ho, h2⟩
    · exact ⟨_, h.hi, h2⟩
    · exact ⟨_, h.hp, h2⟩
    · exact ⟨_, h.hc, h2⟩
    · exact ⟨_, h.hg, h2⟩
  · rcases or_HN (j := j) (bo := bo) (bi := bi) (bp := bp) (c := c) (Le.refl _) h.hz h1 with ⟨rfl, _⟩ | ⟨rfl, _⟩ | ⟨rfl, _⟩ | ⟨rfl, _⟩ | ⟨rfl, _⟩ <;> rcases or_HN (j := j) (bo := bo) (bi := bi) (bp := bp) (c := c) (Le.refl _) h.hz h2 with ⟨rfl, _⟩ | ⟨rfl, _⟩ | ⟨rfl, _⟩ | ⟨rfl, _⟩ | ⟨rfl, _⟩ <;> cases hm1 <;> cases hm2 <;> simp only at e <;> first | rfl | (exfalso; first | exact d01 e | exact d02 e | exact d03 e | exact d04 e | exact d12 e | exact d13 e | exact d14 e | exact d23 e | exact d24 e | exact d34 e | exact d01 e.symm | exact d02 e.symm | exact d03 e.symm | exact d04 e.symm | exact d12 e.symm | exact d13 e.symm | exact d14 e.symm | exact d23 e.symm | exact d24 e.symm | exact d34 e.symm)
  · rw [show (HN 7 j (xoZ sp.out) (xiZ img off) xpZ (xcO j) (xgO ci)).next = 7 from ahOf_next _ _]
    match b, hi with
    | 0, hi => cases hi; exact ⟨by omega, lt h.ho⟩
    | 1, hi => cases hi; exact ⟨by omega, lt h.hi⟩
    | 2, hi => cases hi; exact ⟨by omega, lt h.hp⟩
    | 3, hi => cases hi; exact ⟨by omega, lt h.hc⟩
    | 4, hi => cases hi; exact ⟨by omega, lt h.hg⟩
    | 5, hi => cases hi; exact ⟨by omega, lt h.out⟩
    | 6, hi => cases hi; exact ⟨by omega, lt h.wg⟩
    | b + 7, hi => cases hi
end
end Go.Proofs.YtnodjhgmghkikaaGreat
namespace Go.Proofs.YtnodjhgmghkikaaGreat
open Go.Xq Go.Conc Go.Conc.Lib
theorem and_split {a b : Bool} (h : (a && b) = true) : a = true ∧ b = true := by simpa using h
theorem piece [Dealing] {b : Frame} {c : Code} {o : Out} (hb : b.fn = 69) (hr0 : b.roundOf = none) {m : Ren} {H : AH} {w : World} {T : Tr AV} {D : List ADf} {a : Act} {K : List Item} {cs : List Frame} {Φ : Frame → List Frame → World → Prop} (hcs : CsOk b.kind cs) (hr : Rel m H w) (hf : FrR ⟨26, none, none⟩ m T D a)
    (ho : runC 69 26 c R60 T D H = o) (h : isNor o = true) (hΦ : ∀ m2 a2 w2, St m H w m2 (outH o) w2 → FrR ⟨26, none, none⟩ m2 (outT o) (outD o) a2 → Gx Tryz.prog Φ (b.atR a2 K) cs w2) : Gx Tryz.prog Φ (b.atR a (.code c :: K)) cs w := by
  subst ho
  exact run_piece hb hr0 hcs hr hf h hΦ
theorem drawn [Dealing] {b : Frame} {o : Out} {m : Ren} {H : AH} {w : World} {T : Tr AV} {D : List ADf} {a : Act} {K : List Item} {cs : List Frame} {Φ : Frame → List Frame → World → Prop} (hr : Rel m H w) (hf : FrR ⟨26, none, none⟩ m T D a)
    (ho : runD 26 opsD.pop.toList R60 T D H = o) (h : isNor o = true) (hΦ : ∀ m2 a2 w2, St m H w m2 (outH o) w2 → FrR ⟨26, none, none⟩ m2 (outT o) (outD o) a2 → Gx Tryz.prog Φ (b.atR a2 (.inRegion opsD [opsD.size - 1] :: K)) cs w2) : Gx Tryz.prog Φ (b.atR a (.code (.region 4 opsD true) :: K)) cs w := by
  subst ho
  cases hdk : drawK E 26 opsD.pop.toList with
  | none => simp only [runD, hdk, isNor] at h; cases h
  | some k =>
    have e3 : runD 26 opsD.pop.toList R60 T D H = k.f R60 T D H := by simp only [runD, hdk]
    exact draw_last (cx := ⟨26, none, none⟩) tyOk extOk follows opsD_ok hdk (recOk 60) hr hf (e3.symm.trans (nor_of h)) hΦ
set_option maxHeartbeats 1000000 in
theorem worker_gx {sp : Gp} (hL : sp.L = link) (hks : sp.ks = 7) (hN : sp.N = 8) (hst : sp.step = 8) (hS : ∀ n u, sp.S n u sheetV.cells.toList) (hne : sp.Wg ≠ sp.out) {j : Nat} (hj : j < 8) {c bo bi bp img off : Nat} {ci : Array Value} {v : World} (h : WF sp j j c bo bi bp img off ci v)
    (hY : sp.Y bo ∧ sp.Y bi ∧ sp.Y bp ∧ sp.Y img) : @Gx Tryz.prog (workerD Tryz.prog sp) (WEnd Tryz.prog sp) (Frame.enter Tryz.prog 69 #[.pointer (some ⟨sp.Wg, 0, none⟩), .pointer (some ⟨c, 0, none⟩), .pointer (some ⟨bo, 0, none⟩), .pointer (some ⟨bi, 0, none⟩), .pointer (some ⟨bp, 0, none⟩)] .deferred) [bornF Tryz.prog] v := by
  letI : Dealing := workerD Tryz.prog sp
  have hchk := chk_all hj (xoZ sp.out) (xiZ img off) xpZ (xcO j) (xgO ci)
  simp only [chk, Prod.mk.injEq] at hchk
  obtain ⟨hb, hx⟩ := hchk
  obtain ⟨n0, hb⟩ := and_split hb
  obtain ⟨n1, hb⟩ := and_split hb
  obtain ⟨n2, hb⟩ := and_split hb
  obtain ⟨n3, hb⟩ := and_split hb
  obtain ⟨n4, hb⟩ := and_split hb
  obtain ⟨n5, hb⟩ := and_split hb
  obtain ⟨t10, hb⟩ := and_split hb
  obtain ⟨t24, hb⟩ := and_split hb
  obtain ⟨t25, hb⟩ := and_split hb
  obtain ⟨t10', hb⟩ := and_split hb
  obtain ⟨hd5, _⟩ := and_split hb
  simp only [List.cons.injEq, and_true] at hx
  have t10 := okT_some t10
  have t24 := okT_some t24
  have t25 := okT_some t25
  have t10' := okT_some t10'
  let b : Frame := baseD 69
  have hcs : CsOk b.kind [bornF Tryz.prog] := .inr ⟨rfl, _, _, rfl, .inr rfl⟩
  have hat : ∀ (a : Act) (its : List Item), b.atR a its = b.at a its := fun a its => Frame.atR_of_none rfl a its
  have hr := rel_W h
  -- the entry
  rw [enter_atD (fn := Tryz.f69) (c := c69) _ Tryz.func69 (by kernel_rfl), ← hat]
  have hf : FrR ⟨26, none, none⟩ (mW sp c bo bi bp img off ci) TW [] { tmps := #[.pointer (some ⟨sp.Wg, 0, none⟩), .pointer (some ⟨c, 0, none⟩), .pointer (some ⟨bo, 0, none⟩), .pointer (some ⟨bi, 0, none⟩), .pointer (some ⟨bp, 0, none⟩)] ++ Array.replicate (Tryz.f69.ntmps - 5) undef, defers := [] } :=
    ⟨argsT_ok (n := 26) (vs := [.pointer (some ⟨sp.Wg, 0, none⟩), .pointer (some ⟨c, 0, none⟩), .pointer (some ⟨bo, 0, none⟩), .pointer (some ⟨bi, 0, none⟩), .pointer (some ⟨bp, 0, none⟩)]) (.cons _ _ _ _ (.ptr 6 0 ⟨sp.Wg, 0, 2, 2⟩ rfl) (.cons _ _ _ _ (.ptr 3 0 ⟨c, 0, 1, 1⟩ rfl) (.cons _ _ _ _ (.ptr 0 0 ⟨bo, 0, 1, 1⟩ rfl) (.cons _ _ _ _ (.ptr 1 0 ⟨bi, 0, 1, 1⟩ rfl) (.cons _ _ _ _ (.ptr 2 0 ⟨bp, 0, 1, 1⟩ rfl) .nil))))) (by simp), .nil, .inl ⟨rfl, rfl⟩⟩
  rw [c69_eq]
  have r0 : runC 69 26 k0 R60 TW [] (HN 7 j (xoZ sp.out) (xiZ img off) xpZ (xcO j) (xgO ci)) = W0 j (xoZ sp.out) (xiZ img off) xpZ (xcO j) (xgO ci) := rfl
  have r1 : runC 69 26 k1 R60 (outT (W0 j (xoZ sp.out) (xiZ img off) xpZ (xcO j) (xgO ci))) (outD (W0 j (xoZ sp.out) (xiZ img off) xpZ (xcO j) (xgO ci))) (outH (W0 j (xoZ sp.out) (xiZ img off) xpZ (xcO j) (xgO ci))) = W1 j (xoZ sp.out) (xiZ img off) xpZ (xcO j) (xgO ci) := rfl
  have r2 : runC 69 26 k2 R60 (outT (W1 j (xoZ sp.out) (xiZ img off) xpZ (xcO j) (xgO ci))) (outD (W1 j (xoZ sp.out) (xiZ img off) xpZ (xcO j) (xgO ci))) (outH (W1 j (xoZ sp.out) (xiZ img off) xpZ (xcO j) (xgO ci))) = W2 j (xoZ sp.out) (xiZ img off) xpZ (xcO j) (xgO ci) := rfl
  have r3 : runD 26 opsD.pop.toList R60 (outT (W2 j (xoZ sp.out) (xiZ img off) xpZ (xcO j) (xgO ci))) (outD (W2 j (xoZ sp.out) (xiZ img off) xpZ (xcO j) (xgO ci))) (outH (W2 j (xoZ sp.out) (xiZ img off) xpZ (xcO j) (xgO ci))) = W3 j (xoZ sp.out) (xiZ img off) xpZ (xcO j) (xgO ci) := rfl
  have r4 : runC 69 26 k3 R60 (outT (W3 j (xoZ sp.out) (xiZ img off) xpZ (xcO j) (xgO ci))) (outD (W3 j (xoZ sp.out) (xiZ img off) xpZ (xcO j) (xgO ci))) (HN (outH (W3 j (xoZ sp.out) (xiZ img off) xpZ (xcO j) (xgO ci))).next j (xoZ sp.out) (xiZ img off) xpZ (xcO j) (xgO ci)) = W4 j (xoZ sp.out) (xiZ img off) xpZ (xcO j) (xgO ci) := rfl
  have r5 : runC 69 26 k2 R60 (outT (W4 j (xoZ sp.out) (xiZ img off) xpZ (xcO j) (xgO ci))) (outD (W4 j (xoZ sp.out) (xiZ img off) xpZ (xcO j) (xgO ci))) (outH (W4 j (xoZ sp.out) (xiZ img off) xpZ (xcO j) (xgO ci))) = W5 j (xoZ sp.out) (xiZ img off) xpZ (xcO j) (xgO ci) := rfl
  generalize W0 j (xoZ sp.out) (xiZ img off) xpZ (xcO j) (xgO ci) = o0 at *
  generalize W1 j (xoZ sp.out) (xiZ img off) xpZ (xcO j) (xgO ci) = o1 at *
  generalize W2 j (xoZ sp.out) (xiZ img off) xpZ (xcO j) (xgO ci) = o2 at *
  generalize W3 j (xoZ sp.out) (xiZ img off) xpZ (xcO j) (xgO ci) = o3 at *
  generalize W4 j (xoZ sp.out) (xiZ img off) xpZ (xcO j) (xgO ci) = o4 at *
  generalize W5 j (xoZ sp.out) (xiZ img off) xpZ (xcO j) (xgO ci) = o5 at *
  refine via Xq.stepR_seq (piece rfl rfl hcs hr hf r0 n0 fun m1 a1 w1 g1 f1 => ?_)
  refine via Xq.stepR_seq (piece rfl rfl hcs g1.rel f1 r1 n1 fun m2 a2 w2 g2 f2 => ?_)
  refine via Xq.stepR_block (via Xq.stepR_loop (via Xq.stepR_seq (via Xq.stepR_seq (piece rfl rfl hcs g2.rel f2 r2 n2 fun m3 a3 w3 g3 f3 => ?_))))
  have ht : a3.eval (.tmp 10) = .bool true := (f3.er g3.rel (.tmp 10) _ t10).bool_inv
  refine via (Xq.stepR_cond ht) (via Xq.stepR_skip (via Xq.stepR_seq (via Xq.stepR_block ?_)))
  refine drawn g3.rel f3 r3 n3 fun m4 a4 w4 g4 f4 => ?_
  -- from the beginning till here
  have g := ((g1.trans g2).trans g3).trans g4
  have hle : Le (mW sp c bo bi bp img off ci) m4 := St.le hr g
  have m5 : m4 5 = some ⟨sp.out, 0, 56, 7⟩ := hle 5 _ rfl
  have live : ∀ {b : Nat} {i : BI} {x : Obj}, m4 b = some i → roX ((outH o3).get b) = some x → w4.heap[i.blk]? = some x := fun {b i x} hi hx => by
    unfold roX at hx
    split at hx
    · rename_i y f e
      cases hx
      obtain ⟨y', h1, h2⟩ := g.rel.live b _ e i hi
      cases h2
      exact h1
    · cases hx
  have keepD : ∀ {k : Nat} {o : Obj}, v.heap[k]? = some o → Dead o → w4.heap[k]? = some o := fun {k o} hk hd => by
    rw [g.keep k (Array.getElem?_eq_some_iff.1 hk).1 fun b i hi hne e => ?_]
    · exact hk
    · cases hg : (HN 7 j (xoZ sp.out) (xiZ img off) xpZ (xcO j) (xgO ci)).get b with
      | none => exact hne hg
      | some ob =>
        obtain ⟨x, h1, _⟩ := hr.live b ob hg i hi
        have hx : x = o := by rw [e, hk] at h1; cases h1; rfl
        have nd : ∀ {c' : Array Value} {e' : Nat} {fr : Nat × Nat}, c'.size ≠ 0 ∨ fr.2 ≠ 3 → ¬ Dead (.cells c' e' fr) := by
          rintro c' e' fr hc ⟨e2, n2, h3⟩
          injection h3 with h4 h5 h6
          subst h4; subst h6
          rcases hc with hc | hc <;> simp at hc
        rcases or_HN (j := j) (bo := bo) (bi := bi) (bp := bp) (c := c) (Le.refl _) h.hz hg with ⟨rfl, _⟩ | ⟨rfl, _⟩ | ⟨rfl, _⟩ | ⟨rfl, _⟩ | ⟨rfl, _⟩ <;> cases hi <;> subst e
        · rw [h.ho] at hk; cases hk; exact nd (.inl (by simp)) hd
        · rw [h.hi] at hk; cases hk; exact nd (.inl (by simp)) hd
        · rw [h.hp] at hk; cases hk; exact nd (.inl (by simp)) hd
        · rw [h.hc] at hk; cases hk; exact nd (.inl (by simp)) hd
        · rw [h.hg] at hk; cases hk
          refine nd (.inl fun e => ?_) hd
          have := h.hz 0 (by omega)
          have := (Array.getElem?_eq_some_iff.1 this).1
          omega
  have wf4 : WF sp j j c bo bi bp img off ci w4 := ⟨keepD h.wg ⟨_, _, rfl⟩, keepD h.out ⟨_, _, rfl⟩, live (i := ⟨c, 0, 1, 1⟩) (hle 3 _ rfl) hx.2.2.2.1, live (i := ⟨bo, 0, 1, 1⟩) (hle 0 _ rfl) hx.1, live (i := ⟨bi, 0, 1, 1⟩) (hle 1 _ rfl) hx.2.1, live (i := ⟨bp, 0, 1, 1⟩) (hle 2 _ rfl) hx.2.2.1, live (i := ⟨img, off, ci.size, 1⟩) (hle 4 _ rfl) hx.2.2.2.2, h.hz⟩
  have hput : PutAt Tryz.prog sp j sheetV.cells.toList (b.at a4 (.inRegion opsD [opsD.size - 1] :: [.inBlock 1, .code k3, .inLoop (.seq (.seq k2 (.cond (.tmp 10) .skip (.exit 0))) (.seq (.block 1 (.region 4 opsD true)) k3)), .inBlock 0])) [bornF Tryz.prog] (b.at (a4.put zop.dst undef) (.inRegion opsD [] :: [.inBlock 1, .code k3, .inLoop (.seq (.seq k2 (.cond (.tmp 10) .skip (.exit 0))) (.seq (.block 1 (.region 4 opsD true)) k3)), .inBlock 0])) [bornF Tryz.prog] := by
    refine putAt_of (t := 112) (x := .tmp 25) (y := .tmp 24) (vs := sheetV.cells) zop_at (by simp [Region.wanted, zop_guard]) (by show CallKind.deferred ≠ .early; simp) zop_op ?_ ?_ (fun w => Tryz.sizeOf112 w) (by rw [hks]; rfl) (by simp [sheetV, Value.cells, Value.oneCell']) (by rw [hN]; exact hj)
    · have := f4.er g4.rel (.tmp 25) _ t25
      obtain ⟨i, hi, e⟩ := this.ptr_inv
      rw [m5] at hi; cases hi
      rw [e, hks]
      simp [Nat.mul_comm]
    · rw [sheet_inv (f4.er g4.rel (.tmp 24) _ t24)]
  have hwl : WgLib Tryz.prog sp.L := by rw [hL]; exact wgLib
  rw [hat]
  refine Gx.deal (putDeal Tryz.prog sp) rfl (fun w5 hi => ⟨j, c, _, _, _, hi.some wf4.out, hi.some wf4.wg, by rw [hN]; exact hj, by rw [hks]; rfl, hS _ _, hput⟩) (fun w5 fr' cs' w' hi hp => ?_)
  obtain ⟨n', c', xs', ⟨p1, p2, _, _, _, p6⟩, rfl⟩ := hp
  have e1 := (mark_eq p1 (hi.some wf4.out)).2
  have e2 := (mark_eq p2 (hi.some wf4.wg)).2
  subst e1; subst e2
  obtain ⟨rfl, rfl⟩ := putAt_uniq (Array.getElem?_eq_some_iff.1 p1).1 p6 hput
  have bare : ∀ {c' : Array Value} {e' : Nat} {fr : Nat × Nat}, c'.size ≠ 0 → ¬ Dead (.cells c' e' fr) := by
    rintro c' e' fr hc ⟨e2, n2, h3⟩
    injection h3 with h4 h5 h6
    subst h4; simp at hc
  have ne : ∀ {k : Nat} {x : Obj}, w5.heap[k]? = some x → ¬ Dead x → k ≠ sp.out := fun {k x} hk hd e => by
    subst e; rw [p1] at hk; cases hk; exact hd (dead_mkD _ _)
  have hci : ci.size ≠ 0 := fun e => by
    have := (Array.getElem?_eq_some_iff.1 (h.hz 0 (by omega))).1
    omega
  have k5c := hi.some wf4.hc
  have k5o := hi.some wf4.ho
  have k5i := hi.some wf4.hi
  have k5p := hi.some wf4.hp
  have k5g := hi.some wf4.hg
  have q3 : (setB (stripW sp c' w5) sp.out (mkD 3 (n' + sp.step))).heap[c']? = some (xcO n') := by rw [setB_ne (ne k5c (bare (by simp)))]; exact strip_keep2 sp c' k5c (.inl rfl)
  have q0 : (setB (stripW sp c' w5) sp.out (mkD 3 (n' + sp.step))).heap[bo]? = some (xoZ sp.out) := by rw [setB_ne (ne k5o (bare (by simp)))]; exact strip_keep2 sp c' k5o (.inr ⟨hY.1, _, _, rfl⟩)
  have q1 : (setB (stripW sp c' w5) sp.out (mkD 3 (n' + sp.step))).heap[bi]? = some (xiZ img off) := by rw [setB_ne (ne k5i (bare (by simp)))]; exact strip_keep2 sp c' k5i (.inr ⟨hY.2.1, _, _, rfl⟩)
  have q2 : (setB (stripW sp c' w5) sp.out (mkD 3 (n' + sp.step))).heap[bp]? = some xpZ := by rw [setB_ne (ne k5p (bare (by simp)))]; exact strip_keep2 sp c' k5p (.inr ⟨hY.2.2.1, _, _, rfl⟩)
  have q4 : (setB (stripW sp c' w5) sp.out (mkD 3 (n' + sp.step))).heap[img]? = some (xgO ci) := by rw [setB_ne (ne k5g (bare hci))]; exact strip_keep2 sp c' k5g (.inr ⟨hY.2.2.2, _, _, rfl⟩)
  have qo : (setB (stripW sp c' w5) sp.out (mkD 3 (n' + sp.step))).heap[sp.out]? = some (mkD 3 (n' + sp.step)) := setB_same (strip_keep sp c' p1 (dead_mkD _ _))
  have some_of : ∀ {b : Nat} {x : Obj}, roX ((outH o3).get b) = some x → ∃ o, (outH o3).get b = some o := fun {b x} hx => by
    cases hg : (outH o3).get b with
    | none => rw [hg] at hx; cases hx
    | some o => exact ⟨o, rfl⟩
  have hr6 : Rel m4 (HN (outH o3).next n' (xoZ sp.out) (xiZ img off) xpZ (xcO n') (xgO ci)) (setB (stripW sp c' w5) sp.out (mkD 3 (n' + sp.step))) := by
    refine Rel.of (g4.rel.idle hi) (ahOf_next _ _) (by rw [setB_size, strip_size]; exact Nat.le_refl _) fun b o hb => ?_
    rcases or_HN (j := n') (bo := bo) (bi := bi) (bp := bp) (c := c') hle h.hz hb with ⟨rfl, _, h2⟩ | ⟨rfl, _, h2⟩ | ⟨rfl, _, h2⟩ | ⟨rfl, _, h2⟩ | ⟨rfl, _, h2⟩
    · exact ⟨some_of hx.1, fun i hi => by rw [hle 0 _ rfl] at hi; cases hi; exact ⟨_, q0, h2⟩⟩
    · exact ⟨some_of hx.2.1, fun i hi => by rw [hle 1 _ rfl] at hi; cases hi; exact ⟨_, q1, h2⟩⟩
    · exact ⟨some_of hx.2.2.1, fun i hi => by rw [hle 2 _ rfl] at hi; cases hi; exact ⟨_, q2, h2⟩⟩
    · exact ⟨some_of hx.2.2.2.1, fun i hi => by rw [hle 3 _ rfl] at hi; cases hi; exact ⟨_, q3, h2⟩⟩
    · exact ⟨some_of hx.2.2.2.2, fun i hi => by rw [hle 4 _ rfl] at hi; cases hi; exact ⟨_, q4, h2⟩⟩
  rw [zop_dst, ← hat]
  refine via Xq.stepR_region_end (via Xq.stepR_inBlock (piece rfl rfl hcs hr6 f4 r4 n4 fun m5 a5 w6 g6 f6 => ?_))
  refine via Xq.stepR_inLoop (via Xq.stepR_seq (via Xq.stepR_seq (piece rfl rfl hcs g6.rel f6 r5 n5 fun m6 a6 w7 g7 f7 => ?_)))
  have ht' : a6.eval (.tmp 10) = .bool false := (f7.er g7.rel (.tmp 10) _ t10').bool_inv
  refine via (Xq.stepR_cond ht') (via (Xq.stepR_exit (k' := []) rfl) ?_)
  have g8 := g6.trans g7
  have out7 : w7.heap[sp.out]? = some (mkD 3 (n' + sp.step)) := by
    rw [g8.keep sp.out (Array.getElem?_eq_some_iff.1 qo).1 fun b i hi hne e => ?_]
    · exact qo
    · cases hg : (HN (outH o3).next n' (xoZ sp.out) (xiZ img off) xpZ (xcO n') (xgO ci)).get b with
      | none => exact hne hg
      | some ob =>
        rcases or_HN (j := n') (bo := bo) (bi := bi) (bp := bp) (c := c') hle h.hz hg with ⟨rfl, _⟩ | ⟨rfl, _⟩ | ⟨rfl, _⟩ | ⟨rfl, _⟩ | ⟨rfl, _⟩
        · rw [hle 0 _ rfl] at hi; cases hi; exact ne k5o (bare (by simp)) e
        · rw [hle 1 _ rfl] at hi; cases hi; exact ne k5i (bare (by simp)) e
        · rw [hle 2 _ rfl] at hi; cases hi; exact ne k5p (bare (by simp)) e
        · rw [hle 3 _ rfl] at hi; cases hi; exact ne k5c (bare (by simp)) e
        · rw [hle 4 _ rfl] at hi; cases hi; exact ne k5g (bare hci) e
  have m6w : m6 6 = some ⟨sp.Wg, 0, 2, 2⟩ := St.le hr6 g8 6 _ (hle 6 _ rfl)
  have hdf : a6.defers = [dcall sp.L.done #[.pointer (some ⟨sp.Wg, 0, none⟩)]] := by
    have hd := f7.d
    unfold okD at hd5
    split at hd5
    · rename_i ff aa eD
      obtain ⟨h1, h2⟩ := and_split hd5
      have h1 := AV.beq_eq h1
      have h2 := AV.beq_eq h2
      subst h1; subst h2
      rw [eD] at hd
      generalize a6.defers = df at hd
      cases hd with | cons _ d _ l h1 hl =>
      cases hl
      cases h1 with | call q g' first cap args vc vs hf1 hc1 ha1 =>
      cases hf1
      cases hc1
      cases ha1 with | cons _ va _ vl hv1 hl1 =>
      cases hl1
      obtain ⟨i, hi, rfl⟩ := hv1.ptr_inv
      rw [m6w] at hi; cases hi
      rw [hL]
      rfl
    · cases hd5
  have ea : a6 = ⟨a6.tmps, [dcall sp.L.done #[.pointer (some ⟨sp.Wg, 0, none⟩)]]⟩ := by
    rw [← hdf]
  rw [ea, hat]
  have hres : Tryz.f69.results = #[] := by kernel_rfl
  have hfin := worker_done (P := Tryz.prog) (sp := sp) hwl (b := baseD 69) (T := a6.tmps) (fn := Tryz.f69) rfl rfl Tryz.func69 hres out7 (by rw [hN, hst]; omega)
  exact hfin
end Go.Proofs.YtnodjhgmghkikaaGreat
namespace Go.Proofs.YtnodjhgmghkikaaGreat
open Go.Xq Go.Conc Go.Conc.Lib
theorem child_keep (sp : Gp) (j c : Nat) {w : World} {k : Nat} {o : Obj} (h : w.heap[k]? = some o) (h1 : k ≠ sp.Wg) (h2 : k ≠ sp.out) (hd : k = c ∨ (sp.Y k ∧ Shr o)) : (childW sp j c w).heap[k]? = some o := by
  classical
  show (w.heap.mapIdx _)[k]? = _
  rw [Array.getElem?_mapIdx, h]
  rcases hd with rfl | hd
  · simp [h1, h2]
  · simp [h1, h2, hd.1, hd.2]
theorem child_gx {sp : Gp} (hL : sp.L = link) (hks : sp.ks = 7) (hN : sp.N = 8) (hst : sp.step = 8) (hS : ∀ n u, sp.S n u sheetV.cells.toList) (hne : sp.Wg ≠ sp.out) {j : Nat} (hj : j < 8) {c bo bi bp img off : Nat} {ci : Array Value} {w : World}
    (hWg : sp.Wg < w.heap.size) (hOut : sp.out < w.heap.size) (hc : w.heap[c]? = some (xcO j)) (ho : w.heap[bo]? = some (xoZ sp.out)) (hi : w.heap[bi]? = some (xiZ img off)) (hp : w.heap[bp]? = some xpZ) (hg : w.heap[img]? = some (xgO ci)) (hz : ∀ k, k < 4096 → ci[off + k]? = some (.int .u8 0))
    (hd : ∀ k, k = c ∨ k = bo ∨ k = bi ∨ k = bp ∨ k = img → k ≠ sp.Wg ∧ k ≠ sp.out) (hY : sp.Y bo ∧ sp.Y bi ∧ sp.Y bp ∧ sp.Y img) :
    @Gx Tryz.prog (workerD Tryz.prog sp) (WEnd Tryz.prog sp) (born Tryz.prog { target := .fn (.func 69) (capV sp c bo bi bp), args := #[] }).frame [] (childW sp j c w) := by
  letI : Dealing := workerD Tryz.prog sp
  have hwf : WF sp j j c bo bi bp img off ci (childW sp j c w) :=
    ⟨child_wg sp j c hWg, child_out sp j c hne hOut, child_keep sp j c hc (hd c (.inl rfl)).1 (hd c (.inl rfl)).2 (.inl rfl), child_keep sp j c ho (hd bo (.inr (.inl rfl))).1 (hd bo (.inr (.inl rfl))).2 (.inr ⟨hY.1, _, _, rfl⟩), child_keep sp j c hi (hd bi (.inr (.inr (.inl rfl)))).1 (hd bi (.inr (.inr (.inl rfl)))).2 (.inr ⟨hY.2.1, _, _, rfl⟩), child_keep sp j c hp (hd bp (.inr (.inr (.inr (.inl rfl))))).1 (hd bp (.inr (.inr (.inr (.inl rfl))))).2 (.inr ⟨hY.2.2.1, _, _, rfl⟩), child_keep sp j c hg (hd img (.inr (.inr (.inr (.inr rfl))))).1 (hd img (.inr (.inr (.inr (.inr rfl))))).2 (.inr ⟨hY.2.2.2, _, _, rfl⟩), hz⟩
  have hx := worker_gx hL hks hN hst hS hne hj hwf hY
  refine Gx.ctl (fun main W => ?_) hx
  have := stepG_born (P := Tryz.prog) (main := main) (w := W) (f := 69) (fn := Tryz.f69) (c := c69) (cap := capV sp c bo bi bp) (args := #[]) Tryz.func69 (by kernel_rfl) (by kernel_rfl)
  rw [show (#[] : Array Value) ++ capV sp c bo bi bp = capV sp c bo bi bp from Array.empty_append] at this
  exact this
end Go.Proofs.YtnodjhgmghkikaaGreat
namespace Go.Proofs.YtnodjhgmghkikaaGreat
open Go.Xq Go.Conc Go.Conc.Lib
abbrev SZ : Nat → World → List Value → Prop := fun _ _ xs => xs = sheetV.cells.toList
theorem child_zero {img off : Nat} {ci : Array Value} {fri : Prop} (hz : ∀ k, k < 4096 → ci[off + k]? = some (.int .u8 0)) : Child img off 4096 4096 512 8 ci 5 fri SZ := by
  intro Wg out bo bi bp h0 v0 hO j hj w1 c hms hc hcc
  have hj' : j < 8 := by omega
  have key : ∀ k, k = bo ∨ k = bi ∨ k = bp ∨ k = img → k < v0.heap.size → w1.heap[k]? = v0.heap[k]? := fun k hk hl => hms.keep k hl (hO.dis k hk).1
  have lt : ∀ {k : Nat} {o : Obj} {u : World}, u.heap[k]? = some o → k < u.heap.size := fun h => (Array.getElem?_eq_some_iff.1 h).1
  have hWg : Wg < v0.heap.size := hO.wg
  have hOut : out < v0.heap.size := hO.out
  refine child_gx (sp := spG Wg out 8 h0 (XB bo bi bp img fri) (YB bo bi bp img) SZ) (j := j) (c := c) (bo := bo) (bi := bi) (bp := bp) (img := img) (off := off) (ci := ci) (w := w1) rfl rfl rfl rfl (fun _ _ => rfl) hO.ne hj' (Nat.lt_of_lt_of_le hWg hms.size) (Nat.lt_of_lt_of_le hOut hms.size) hcc ?_ ?_ ?_ ?_ hz ?_ hO.Y
  · rw [key bo (by simp) (lt hO.ho)]; exact hO.ho
  · rw [key bi (by simp) (lt hO.hi)]; exact hO.hi
  · rw [key bp (by simp) (lt hO.hp)]; exact hO.hp
  · rw [key img (by simp) (lt hO.hg)]; exact hO.hg
  · rintro k (rfl | rfl | rfl | rfl | rfl)
    · exact ⟨by show k ≠ Wg; omega, by show k ≠ out; omega⟩
    · exact hO.dis _ (by simp)
    · exact hO.dis _ (by simp)
    · exact hO.dis _ (by simp)
    · exact hO.dis _ (by simp)
noncomputable def sheetsA : CallFn := fun _ args H =>
  match args with
  | .cons (.sl b 0 4096 (some 4096)) (.cons (.int .i64 512) .nil) =>
    match H.get b with
    | some (.bys 5 4096 _ 0) => some (.sl H.next 0 8 (some 8), H.new (.cs 112 7 56 false (cellsA sheet0) .e))
    | _ => none
  | _ => none
end Go.Proofs.YtnodjhgmghkikaaGreat
namespace Go.Proofs.YtnodjhgmghkikaaGreat
open Go.Xq Go.Conc Go.Conc.Lib
theorem vl_sheet0 (m : Ren) : VL m (cellsA sheet0) sheetV.cells.toList :=
  .cons _ _ _ _ (.int _ _) (.cons _ _ _ _ (.int _ _) (.cons _ _ _ _ (.int _ _) (.cons _ _ _ _ .snil (.cons _ _ _ _ (.int _ _) (.cons _ _ _ _ .snil (.cons _ _ _ _ .snil .nil))))))
theorem cells_zero {m : Ren} {cc : Array Value} {out : Nat} (h1 : cc.size = 8 * 7) (h2 : ∀ n, n < 8 → (List.range 7).map (fun i => cc.getD (n * 7 + i) undef) = sheetV.cells.toList) : OR m (.cells cc 112 (0, 0)) (.cs 112 7 56 false (cellsA sheet0) .e) ⟨out, 0, 56, 7⟩ := by
  refine .cs _ _ _ _ _ _ _ _ _ (by omega) rfl (by simp) rfl fun k v hk => ?_
  simp only [rdCs, bt_some, Tr.get_e, oc_none] at hk
  obtain ⟨h3, h4⟩ := hk
  have hk : k < 56 := by simpa [Nat.blt_eq] using h3
  obtain ⟨u, hu, hv⟩ := (vl_sheet0 m).nth h4
  have hu : sheetV.cells.toList[k % 7]? = some u := hu
  refine ⟨u, ?_, hv⟩
  have h5 := congrArg (fun l : List Value => l[k % 7]?) (h2 (k / 7) (by omega))
  simp only [List.getElem?_map] at h5
  rw [List.getElem?_range (Nat.mod_lt _ (by omega)), Option.map_some, hu, show k / 7 * 7 + k % 7 = k from by omega] at h5
  simp only [Nat.zero_add]
  have hlt : k < cc.size := by omega
  rw [Array.getElem?_eq_getElem hlt]
  simpa [Array.getD_eq_getD_getElem?, hlt] using h5
theorem sheetsA_ok {args v : AV} {H H2 : AH} (h : sheetsA 47 args H = some (v, H2)) : Enters Tryz.prog 47 ∧ ∀ m w vs, Rel m H w → VL m args vs → @XC (outerD Tryz.prog) Tryz.prog .normal 47 vs.toArray w (Post m H w v H2) := by
  refine ⟨⟨Tryz.f47, Tryz.func47, by kernel_rfl, by kernel_rfl⟩, fun m w vs hr hl => ?_⟩
  unfold sheetsA at h
  split at h
  rotate_left
  · cases h
  rename_i b
  split at h
  rotate_left
  · cases h
  rename_i opn hb
  cases h
  cases hl with | cons _ va _ vl ha hl =>
  cases hl with | cons _ vb _ vl hvb hl =>
  cases hl
  have hvb := hvb.int_inv
  subst hvb
  obtain ⟨ad, c', rfl, hc', hh⟩ := ha.sl_inv
  have := hc' _ rfl
  subst this
  rcases hh with ⟨i, hi, rfl, _⟩ | ⟨e, _⟩
  rotate_left
  · exact absurd e (by simp)
  obtain ⟨x, hx, hor⟩ := hr.live b _ hb i hi
  cases hor with | bys c fr _ _ _ _ _ hc he hs hf hz =>
  have hz' : ∀ k, k < 4096 → c[i.base + 0 + k]? = some (.int .u8 0) := fun k hk => by rw [Nat.add_zero, hz k hk, byteAt_zero]; rfl
  letI : Dealing := outerD Tryz.prog
  refine XC.mono (sheets_gx (N := 8) (p := 512) (S := SZ) (by omega) hx (.inl (by rw [hc]; exact hf)) (by omega) (by omega) (by omega) (by omega) (by omega) (child_zero hz')) fun v' w' hsh => ?_
  obtain ⟨hlies, out, n0, cc, us, rfl, ho1, ho2, hcc, hcell, hn⟩ := hsh
  refine ⟨m.ext H.next ⟨out, 0, 56, 7⟩, St.lies_new hr hlies ho1 hcell (cells_zero hcc fun n hn' => (hn n hn').1), .sl H.next 0 8 8 ⟨out, 0, 56, 7⟩ (Ren.ext_same _ _ _)⟩
noncomputable def sheetsK (args : AV) (H : AH) : Option (AV × AH) :=
  match args with
  | .cons (.sl b off len (some cap)) (.cons (.int k p) .nil) =>
    bt (Nat.beq off 0 && (Nat.beq len 4096 && (Nat.beq cap 4096 && (kEq k .i64 && eqI p 512)))) (match H.get b with
      | some (.bys e n o z) => bt (Nat.beq e 5 && (Nat.beq n 4096 && Nat.beq z 0)) (some (.sl H.next 0 8 (some 8), H.new (.cs 112 7 56 false (cellsA sheet0) .e))) none
      | _ => none) none
  | _ => none
theorem sheetsK_A {args : AV} {H : AH} {r : AV × AH} (h : sheetsK args H = some r) : sheetsA 47 args H = some r := by
  unfold sheetsK at h
  split at h
  rotate_left
  · cases h
  rename_i b off len cap k p
  simp only [bt_some, Bool.and_eq_true] at h
  obtain ⟨⟨h1, h2, h3, h4, h5⟩, h⟩ := h
  have h1 := Nat.eq_of_beq_eq_true h1
  have h2 := Nat.eq_of_beq_eq_true h2
  have h3 := Nat.eq_of_beq_eq_true h3
  have h4 := kEq_iff.1 h4
  have h5 := eqI_iff.1 h5
  subst h1; subst h2; subst h3; subst h4; subst h5
  split at h
  rotate_left
  · cases h
  rename_i e n o z hb
  simp only [bt_some, Bool.and_eq_true] at h
  obtain ⟨⟨g1, g2, g3⟩, h⟩ := h
  have g1 := Nat.eq_of_beq_eq_true g1
  have g2 := Nat.eq_of_beq_eq_true g2
  have g3 := Nat.eq_of_beq_eq_true g3
  subst g1; subst g2; subst g3
  unfold sheetsA
  simp only [hb]
  exact h
noncomputable def sumFn2 : CallFn := fun f args H => bt (Nat.beq f 47) (sheetsK args H) none
noncomputable def E2 : Env := Env.of Tryz.prog 10 10 sumFn2 extFn mulFn
theorem tyOk2 : TyOk Tryz.prog E2 := tyOk_of _ _ _ _ _
theorem sumOk2 : @SumOk (outerD Tryz.prog) Tryz.prog E2 := by
  intro f args H v H2 h
  replace h : sumFn2 f args H = some (v, H2) := h
  simp only [sumFn2, bt_some] at h
  obtain ⟨hf, h⟩ := h
  have hf := Nat.eq_of_beq_eq_true hf
  subst hf
  exact sheetsA_ok (sheetsK_A h)
theorem extOk2 [Dealing] : ExtOk Tryz.prog E2 := by
  constructor
  · intro g args H v h m w vs hr hl
    replace h : extFn g args H = some v := h
    cases h
  · intro g args H v h
    replace h : extFn g args H = some v := h
    cases h
theorem recOk2 (d : Nat) : @RecOk (outerD Tryz.prog) Tryz.prog (recA E2 d) := @recA_ok (outerD Tryz.prog) _ _ tyOk2 (@extOk2 (outerD Tryz.prog)).run (@extOk2 (outerD Tryz.prog)).quiet follows (fnsOk_of _ _ _ _ _) sumOk2 d
noncomputable def okB : Option (AV × AH) → Bool
  | some (.bool b, _) => b
  | _ => false
end Go.Proofs.YtnodjhgmghkikaaGreat
namespace Go.Proofs.YtnodjhgmghkikaaGreat
open Go.Xq
set_option maxRecDepth 100000
theorem ran3x : okB ((recA E2 60).call 3 .nil ⟨0, .e⟩) = true := by kernel_rfl
end Go.Proofs.YtnodjhgmghkikaaGreat
namespace Go.Proofs.YtnodjhgmghkikaaGreat
open Go.ChangeShapes Go.WideShapes Go.ChangeAt Go.RowKit Go.Conc
theorem own : ownKnob Tryz.prog.godebug = none := by kernel_rfl
theorem okB_some {r : Option (Xq.AV × Xq.AH)} (h : okB r = true) : ∃ H, r = some (.bool true, H) := by
  unfold okB at h
  split at h
  · subst h; exact ⟨_, rfl⟩
  · cases h
theorem walk3 (W : World) : @Xq.XC (Xq.outerD Tryz.prog) Tryz.prog .normal 3 #[] (Xq.ownW W) fun v w' => v = .bool true ∧ Xq.Lies (Xq.ownW W) w' := by
  letI : Xq.Dealing := Xq.outerD Tryz.prog
  obtain ⟨H2, h⟩ := okB_some ran3x
  obtain ⟨_, hc⟩ := (recOk2 60).call _ _ _ _ _ h
  have hget : ∀ b, (⟨0, .e⟩ : Xq.AH).get b = none := fun b => Xq.ahOf_nil 0 b
  have hr : Xq.Rel (fun _ => none) ⟨0, .e⟩ (Xq.ownW W) := ⟨fun b o hb => (by rw [hget] at hb; cases hb), fun b _ o _ _ _ hb => (by rw [hget] at hb; cases hb), fun b i hb => (by cases hb), fun g hg => absurd hg (Nat.not_lt_zero g)⟩
  refine (hc (fun _ => none) (Xq.ownW W) [] hr .nil).mono fun v' w' ⟨m2, hst, hv⟩ => ⟨hv.bool_inv, hst.os, hst.out, hst.size, fun k hk => hst.keep k hk fun b i hb => by cases hb⟩
theorem kept3 {W v' W' : World} (hl : Xq.Lies (Xq.ownW W) v') (hr : Xq.Restr v' W') (hb : Xq.Beside (Xq.ownW W) W W') : Xq.KeptAll W W' := by
  refine ⟨hb.os, hb.output, hb.size, fun k hk => ?_⟩
  have hs := Xq.ownW_size W
  cases ho : (Xq.ownW W).heap[k]? with
  | none => exact absurd ho (by rw [Array.getElem?_eq_getElem (by omega)]; simp)
  | some o =>
    by_cases hd : Xq.Dead o ∨ Xq.Shr o
    · exact hb.block k o ho hd
    · have h1 : ¬ Xq.Dead o := fun e => hd (.inl e)
      have h2 : ¬ Xq.Shr o := fun e => hd (.inr e)
      rw [hr.own k o (hl.some ho) h1 h2]
      rcases Xq.ownW_get ho with ⟨h, _⟩ | rfl
      · exact h.symm
      · exact absurd Xq.dead_deadO h1
set_option maxRecDepth 100000 in
theorem lifted (os : Os) (started : os.Started) (H : Type) (enc : TypeId × Value → H) :
    ReturnsInLeavingWide {} Tryz.checked os 3 .any (Rows.checkNamesSpec.pre6 enc Tryz.prog Tryz.f3 Rows.checkNamesRow.domain false) (Rows.checkNamesSpec.post enc Tryz.prog Tryz.f3 false true false false) := by
  refine returnsInLeavingWide_of_change_sized (C := Tryz.checked) own started Tryz.func3
    (ChangeSpec.witness6 (enc := enc) (C := Tryz.checked) false ⟨#[], #[], []⟩ 8 (by kernel_rfl) (by kernel_rfl) (by kernel_rfl) (by kernel_rfl)) ?_
  intro W base args ds gs before hval0 hW hcnd _ _
  have hval : ∀ (j : Nat) t v, Tryz.f3.params[j]? = some t → args[j]? = some v → Value.okWide Tryz.prog W .any base t v := hval0
  have hW' := hW
  obtain ⟨p, q, hA0, hV, rfl, hfz, hnd⟩ := hW
  have hA : DataW.TrodAll enc Tryz.prog W 0 (fun _ => true) true Tryz.f3.params.toList args.toList ds p := hA0
  rw [Tryz.params3] at hA hval
  obtain ⟨hargs, rfl, rfl⟩ := trodAll_none hA
  obtain ⟨rfl, rfl⟩ := trodVars_none hV
  subst hargs
  clear hA0 hval0
  simp only [List.append_nil] at hW'
  refine Xq.end_gx (P := Tryz.prog) (by kernel_rfl) (walk3 W) fun v v' W' ⟨he, hl⟩ hr hb => ?_
  subst he
  exact Xq.post_of_blank hW' (fun _ _ _ => (trodAll_cons_mk (shut_bool Tryz.underlying4 _) trodAll_mk0)) (fun sp => rfl) (fun _ => rfl) (kept3 hl hr hb) (ok_one (by kernel_rfl) rfl (okWide_bool_mk Tryz.underlying4 _))
end Go.Proofs.YtnodjhgmghkikaaGreat
