/- A part of the proof of this seat's statement: what is particular to its program. Its conditions stand in each theorem. -/
import Derived.Test.YtnffppehomofmaaGreatDoorD4
import Derived.Test.YtnffppehomofmaaGreatDoorD1
import Derived.Test.YtnffppehomofmaaGreatDoorS4
import Derived.Test.YtnffppehomofmaaGreatDoorA2
import Derived.Test.YtnffppehomofmaaGreatDoorZ4
namespace Go.Proofs.YtnffppehomofmaaGreatDoor
open Go.Xq
noncomputable section
/-! ### All that came out, taken together -/
def bytesOf (g : Ch) : List (List UInt8) := [g.k, g.o, g.w]
def OwnAll (H : AH) (lo hi : Nat) : List AV → List (List UInt8) → Prop
  | [], [] => True
  | u :: S, l :: Bs => Own H lo hi u l ∧ OwnAll H lo hi S Bs
  | _, _ => False
theorem OwnAll.len {H : AH} {lo hi : Nat} : ∀ {S : List AV} {Bs : List (List UInt8)}, OwnAll H lo hi S Bs → S.length = Bs.length
  | [], [], _ => rfl
  | _ :: _, _ :: _, h => by simp [OwnAll.len h.2]
  | [], _ :: _, h => h.elim
  | _ :: _, [], h => h.elim
theorem OwnAll.at {H : AH} {lo hi : Nat} : ∀ {S : List AV} {Bs : List (List UInt8)}, OwnAll H lo hi S Bs → ∀ (i : Nat) (v : AV) (l : List UInt8), S[i]? = some v → Bs[i]? = some l → Own H lo hi v l
  | [], [], _, i, v, l, h1, _ => by simp at h1
  | u :: S, k :: Bs, h, 0, v, l, h1, h2 => by simp at h1 h2; subst h1; subst h2; exact h.1
  | u :: S, k :: Bs, h, i + 1, v, l, h1, h2 => OwnAll.at h.2 i v l (by simpa using h1) (by simpa using h2)
  | [], _ :: _, h, _, _, _, _, _ => h.elim
  | _ :: _, [], h, _, _, _, _, _ => h.elim
theorem OwnAll.app {H : AH} {lo hi : Nat} {S2 : List AV} {Bs2 : List (List UInt8)} (h2 : OwnAll H lo hi S2 Bs2) : ∀ {S : List AV} {Bs : List (List UInt8)}, OwnAll H lo hi S Bs → OwnAll H lo hi (S ++ S2) (Bs ++ Bs2)
  | [], [], _ => h2
  | _ :: _, _ :: _, h => ⟨h.1, OwnAll.app h2 h.2⟩
  | [], _ :: _, h => h.elim
  | _ :: _, [], h => h.elim
theorem Own.wide {H : AH} {lo hi lo2 hi2 : Nat} {v : AV} {l : List UInt8} (h : Own H lo hi v l) (h1 : lo2 ≤ lo) (h2 : hi ≤ hi2) : Own H lo2 hi2 v l := by
  rcases h with h | h | ⟨b, rfl, a1, a2, a3, a4⟩
  · exact .inl h
  · exact .inr (.inl h)
  · exact .inr (.inr ⟨b, rfl, a1, by omega, by omega, a4⟩)
theorem OwnAll.wide {H : AH} {lo hi lo2 hi2 : Nat} (h1 : lo2 ≤ lo) (h2 : hi ≤ hi2) : ∀ {S : List AV} {Bs : List (List UInt8)}, OwnAll H lo hi S Bs → OwnAll H lo2 hi2 S Bs
  | [], [], _ => trivial
  | _ :: _, _ :: _, h => ⟨h.1.wide h1 h2, OwnAll.wide h1 h2 h.2⟩
  | [], _ :: _, h => h.elim
  | _ :: _, [], h => h.elim
theorem OwnAll.blk {H : AH} {lo hi : Nat} {S : List AV} {Bs : List (List UInt8)} (h : OwnAll H lo hi S Bs) {u : AV} (hu : u ∈ S) {b : Nat} (hb : sblk u = some b) : lo ≤ b ∧ b < hi := by
  obtain ⟨i, hi'⟩ := List.mem_iff_getElem?.1 hu
  have hl := get_lt hi'
  have := h.len
  exact (h.at i u (Bs[i]'(by omega)) hi' (List.getElem?_eq_getElem _)).blk hb
theorem ownAll_of {H : AH} {lo hi : Nat} : ∀ {els : List Cv} {gl : List Ch}, els.length = gl.length → (∀ (i : Nat) (c : Cv) (g : Ch), els[i]? = some c → gl[i]? = some g → OwnC H lo hi c g) → OwnAll H lo hi (els.flatMap fields) (gl.flatMap bytesOf)
  | [], [], _, _ => trivial
  | c :: els, g :: gl, h, ho => by
    have h0 := ho 0 c g rfl rfl
    rw [List.flatMap_cons, List.flatMap_cons]
    exact OwnAll.app (ownAll_of (by simpa using h) fun i c' g' h1 h2 => ho (i + 1) c' g' (by simpa using h1) (by simpa using h2)) ⟨h0.key, h0.old, h0.new, trivial⟩
  | [], _ :: _, h, _ => by simp at h
  | _ :: _, [], h, _ => by simp at h
structure Joined (H : AH) (base lo : Nat) (S : List AV) (Bs : List (List UInt8)) (Ls : List (Nat × Nat)) : Prop where
  le : base ≤ lo
  own : OwnAll H base lo S Bs
  apart : Apart S
  small : ∀ l ∈ Bs, l.length ≤ 1048576
  lists : ∀ p ∈ Ls, (base ≤ p.1 ∧ p.1 < lo) ∧ p.2 ≤ 1048576 ∧ (∀ u ∈ S, sblk u ≠ some p.1) ∧ ∃ o els, H.get p.1 = some o ∧ ElB encC 55 6 false zC els o ∧ els.length = p.2
  ne : (Ls.map (·.1)).Nodup
theorem Joined.nil (H : AH) (lo : Nat) : Joined H lo lo [] [] [] := ⟨Nat.le_refl _, trivial, .nil, fun _ h => by simp at h, fun _ h => by simp at h, .nil⟩
theorem Joined.add {H : AH} {base lo lo2 hi : Nat} {S : List AV} {Bs : List (List UInt8)} {Ls : List (Nat × Nat)} {v : AV} {els : List Cv} {gl : List Ch} (h : Joined H base lo S Bs Ls) (ho : OwnL H lo2 hi v els gl) (hlo : lo ≤ lo2) (hs : Small gl) :
    ∃ b, v = .sl b 0 els.length (some els.length) ∧ Joined H base hi (S ++ els.flatMap fields) (Bs ++ gl.flatMap bytesOf) (Ls ++ [(b, els.length)]) := by
  obtain ⟨b, o, h1, h2, h3, h4, h5, h6⟩ := ho.ex
  have hlen := ho.len
  have hn := hs.n
  have hall := ownAll_of ho.len ho.own
  have hle := h.le
  refine ⟨b, h1, ⟨by omega, OwnAll.app (hall.wide (by omega) (Nat.le_refl _)) (h.own.wide (Nat.le_refl _) (by omega)), ?_, ?_, ?_, ?_⟩⟩
  · refine List.pairwise_append.2 ⟨h.apart, ho.apart, fun u hu w hw b' e e2 => ?_⟩
    have q1 := h.own.blk hu e
    have q2 := hall.blk hw e2
    omega
  · intro l hl
    rcases List.mem_append.1 hl with hl | hl
    · exact h.small l hl
    · obtain ⟨g, hg, hl⟩ := List.mem_flatMap.1 hl
      have := hs.k g hg
      simp only [bytesOf, List.mem_cons, List.not_mem_nil, or_false] at hl
      rcases hl with rfl | rfl | rfl <;> omega
  · intro p hp
    rcases List.mem_append.1 hp with hp | hp
    · obtain ⟨q1, q2, q3, q4⟩ := h.lists p hp
      refine ⟨⟨q1.1, by omega⟩, q2, fun u hu e => ?_, q4⟩
      rcases List.mem_append.1 hu with hu | hu
      · exact q3 u hu e
      · have := hall.blk hu e
        omega
    · simp at hp
      subst hp
      refine ⟨⟨by simp only; omega, h3⟩, by simp only; omega, fun u hu e => ?_, o, els, h4, h5, rfl⟩
      rcases List.mem_append.1 hu with hu | hu
      · have := h.own.blk hu e
        simp only at this
        omega
      · exact h6 u hu e
  · rw [List.map_append, List.nodup_append]
    refine ⟨h.ne, by simp, fun x hx y hy e => ?_⟩
    obtain ⟨p, hp, rfl⟩ := List.mem_map.1 hx
    have := (h.lists p hp).1.2
    simp at hy
    omega
theorem LentAt.keep {H H2 : AH} {S : Nat → Prop} {N n : Nat} {gl : List Ch} {els : List Cv} (h : LentAt H N gl els n) (hk : Keep S H H2) (hs : ∀ b, lentW N gl.length b → ¬ S b) (hN : N + 1 + 3 * gl.length ≤ H.next) : LentAt H2 N gl els n := by
  obtain ⟨o, h1, h2⟩ := h.el
  refine ⟨⟨o, hk.get (by omega) (hs _ ⟨by omega, by omega⟩) h1, h2⟩, fun i g hi hg => ?_⟩
  have hl := get_lt hg
  obtain ⟨k1, k2, k3⟩ := h.k i g hi hg
  exact ⟨hk.get (by omega) (hs _ ⟨by omega, by omega⟩) k1, hk.get (by omega) (hs _ ⟨by omega, by omega⟩) k2, hk.get (by omega) (hs _ ⟨by omega, by omega⟩) k3⟩
theorem LentAt.says {H : AH} {N : Nat} {gl : List Ch} (h : LentAt H N gl (allL N gl) gl.length) (hN : N + 1 + 3 * gl.length ≤ H.next) : Says H (.sl N 0 gl.length (some (gl.length + 3))) (lentL N gl) gl := by
  obtain ⟨o, h1, h2⟩ := h.el
  have hll : (lentL N gl).length = gl.length := by simp [lentL]
  have hrd := h2.rd
  refine ⟨.inr ⟨N, 0, _, by rw [hll], fun _ => ⟨by omega, o, h1, fun k a ha j v hv => hrd k a ?_ j v hv⟩⟩, hll, fun i c g hc hg => ?_⟩
  · rw [allL, List.getElem?_append_left (get_lt ha)]; exact ha
  · have hl := get_lt hg
    obtain ⟨k1, k2, k3⟩ := h.k i g hl hg
    have : c = lentC N i g := by
      simp [lentL, List.getElem?_mapIdx, hg] at hc
      exact hc.symm
    subst this
    exact ⟨rfl, rfl, rfl, .bb rfl (by omega) k1, .bb rfl (by omega) k2, .bb rfl (by omega) k3⟩
theorem turnG_turnG (g : Ch) : turnG (turnG g) = g := rfl
theorem turn_turn (gl : List Ch) : ((((gl.map turnG).reverse).map turnG).reverse) = gl := by
  rw [List.map_reverse, List.reverse_reverse, List.map_map]
  have : turnG ∘ turnG = id := by funext g; rfl
  rw [this, List.map_id]
theorem small_turn {gl : List Ch} (h : Small gl) : Small (gl.map turnG).reverse := by
  refine ⟨by simpa using h.n, fun g hg => ?_⟩
  rw [List.mem_reverse] at hg
  obtain ⟨g0, hg0, rfl⟩ := List.mem_map.1 hg
  have := h.k g0 hg0
  exact ⟨this.1, this.2.2, this.2.1⟩
end
end Go.Proofs.YtnffppehomofmaaGreatDoor
namespace Go.Proofs.YtnffppehomofmaaGreatDoor
open Go.Xq
noncomputable section
/-! ### The call of awake, from a heap that holds the variables as they are -/
structure HoldsG (W : World) (a0 a1 : Nat × Nat) (H : AH) : Prop where
  globs : GlobsAt (m0of [a0, a1]) gl W
  at_ : ∀ g, g < 3 → ∃ x f, W.heap[g]? = some x ∧ H.get g = some (.ro x f)
  r1 : ∃ x f, H.get 1 = some (.ro x f) ∧ f 0 = some (.ifc 466 (.ptr a0.1 a0.2))
  r0 : ∃ x f, H.get 0 = some (.ro x f) ∧ f 0 = some (.ifc 466 (.ptr a1.1 a1.2))
theorem HoldsG.keep {W : World} {a0 a1 : Nat × Nat} {H H2 : AH} {S : Nat → Prop} (h : HoldsG W a0 a1 H) (hk : Keep S H H2) (hn : 3 ≤ H.next) (hs : ∀ b, b < 3 → ¬ S b) : HoldsG W a0 a1 H2 := by
  refine ⟨h.globs, fun g hg => ?_, ?_, ?_⟩
  · obtain ⟨x, f, h1, h2⟩ := h.at_ g hg
    exact ⟨x, f, h1, hk.get (by omega) (hs g hg) h2⟩
  · obtain ⟨x, f, h1, h2⟩ := h.r1
    exact ⟨x, f, hk.get (by omega) (hs 1 (by omega)) h1, h2⟩
  · obtain ⟨x, f, h1, h2⟩ := h.r0
    exact ⟨x, f, hk.get (by omega) (hs 0 (by omega)) h1, h2⟩
theorem st_kept {m : Ren} {H : AH} {w w' : World} (hr : Rel m H w) (h : KeptAll w w') : St m H w m H w' := by
  refine ⟨⟨fun b o hb i hi => ?_, hr.inj, fun b i hi => ⟨(hr.bnd b i hi).1, Nat.lt_of_lt_of_le (hr.bnd b i hi).2 h.size⟩, hr.glob⟩, Ext.refl _ _, Nat.le_refl _, h.os, h.output, h.size, fun k hk _ => h.block k hk, fun b i hi hl => .inr ⟨b, i, hi, hl, rfl⟩⟩
  obtain ⟨x, h1, h2⟩ := hr.live b o hb i hi
  exact ⟨x, by rw [h.block _ (hr.bnd b i hi).2]; exact h1, h2⟩
/-- where a variable's pointer leads is there -/
theorem ad_lt {m : Ren} {H : AH} {W w : World} {g j : Nat} {ads : List (Nat × Nat)} {a : Nat × Nat} (hr : Rel m H w) (hg : g < ngl) (haj : ads[j]? = some a) {t : Nat}
    (hG : ∃ u, W.heap[g]? = some (.cells #[u] t (0, 0)) ∧ VR (m0of ads) (.ifc 466 (.ptr (ngl + j) 0)) u) (hx : ∃ x f, W.heap[g]? = some x ∧ H.get g = some (.ro x f)) (hf : ∃ x f, H.get g = some (.ro x f) ∧ f 0 = some (.ifc 466 (.ptr a.1 a.2))) :
    a.1 < w.heap.size := by
  obtain ⟨u, hu, hv⟩ := hG
  obtain ⟨x, f, h1, h2⟩ := hx
  obtain ⟨x', f', h3, h4⟩ := hf
  rw [h2] at h3
  cases h3
  rw [hu] at h1
  cases h1
  obtain ⟨i, hi, ib, i0⟩ := hr.glob g hg
  obtain ⟨y, h5, h6⟩ := hr.live g _ h2 i hi
  cases h6 with | ro c fr e f i h =>
  obtain ⟨u', h7, h8⟩ := h 0 _ h4
  rw [i0] at h7
  have h7 : u = u' := by simpa using h7
  subst h7
  obtain ⟨p, hp, e1⟩ := hv.ifc_inv
  obtain ⟨p', hp', e2⟩ := h8.ifc_inv
  rw [e1] at e2
  cases e2
  obtain ⟨i1, hi1, e3⟩ := hp.ptr_inv
  obtain ⟨i2, hi2, e4⟩ := hp'.ptr_inv
  rw [m0of_ad haj] at hi1
  cases hi1
  rw [e3] at e4
  simp only [Value.pointer.injEq, Option.some.injEq, Addr.mk.injEq] at e4
  have := (hr.bnd _ _ hi2).2
  rw [← e4.1] at this
  exact this
theorem awake_ok {W : World} {a0 a1 : Nat × Nat} {H : AH} (h : HoldsG W a0 a1 H) : DC Tryz.prog .normal 4 .nil H fun v H2 => v = .bool true ∧ H2 = H := by
  refine ⟨.bool true, H, ⟨rfl, rfl⟩, ⟨_, Tryz.func4, by kernel_rfl, by kernel_rfl⟩, fun m w vs hr hl => ?_⟩
  cases hl
  have hG : GlobsAt (m0of [a0, a1]) gl w := by
    intro p hp
    obtain ⟨h1, t, v, u, h2, h3, h4, h5⟩ := h.globs p hp
    refine ⟨h1, t, v, u, h2, h3, ?_, h5⟩
    have h6 : p.1 < 3 := by
      simp only [gl, List.mem_cons, List.not_mem_nil, or_false] at hp
      rcases hp with rfl | rfl | rfl <;> decide
    obtain ⟨x, f, h7, h8⟩ := h.at_ _ h6
    rw [h4] at h7
    cases h7
    obtain ⟨i, hi, ib, i0⟩ := hr.glob p.1 h1
    obtain ⟨y, h9, h10⟩ := hr.live _ _ h8 i hi
    cases h10
    rw [ib] at h9
    exact h9
  have hsz : ngl ≤ w.heap.size := by
    have h4 : 4 < ngl := by decide
    obtain ⟨i, hi, ib, _⟩ := hr.glob 4 h4
    have := (hr.bnd _ _ hi).2
    rw [ib] at this
    exact this
  have hrel : Rel (m0of [a0, a1]) (H0of nx gl) w := by
    refine rel_glob rfl hsz ?_ hG
    intro a ha
    simp only [List.mem_cons, List.not_mem_nil, or_false] at ha
    rcases ha with rfl | rfl
    · obtain ⟨_, t, v, u, h2, _, h4, h5⟩ := h.globs (1, one1 71 (.ifc 466 (.ptr 5 0))) (by simp [gl])
      have h2' : one1 71 (.ifc 466 (.ptr 5 0)) = one1 t v := h2
      clear h2
      simp only [one1, AObj.cs.injEq, true_and, and_true] at h2'
      obtain ⟨rfl, h3'⟩ := h2'
      simp at h3'
      subst h3'
      exact ad_lt (j := 0) hr (by decide) rfl ⟨u, h4, h5⟩ (h.at_ 1 (by omega)) h.r1
    · obtain ⟨_, t, v, u, h2, _, h4, h5⟩ := h.globs (0, one1 71 (.ifc 466 (.ptr 6 0))) (by simp [gl])
      have h2' : one1 71 (.ifc 466 (.ptr 6 0)) = one1 t v := h2
      clear h2
      simp only [one1, AObj.cs.injEq, true_and, and_true] at h2'
      obtain ⟨rfl, h3'⟩ := h2'
      simp at h3'
      subst h3'
      exact ad_lt (j := 1) hr (by decide) rfl ⟨u, h4, h5⟩ (h.at_ 0 (by omega)) h.r0
  refine XC.of_calls ((walk hrel hG).mono fun e w' ⟨he, hk⟩ => ⟨.bool true, he, .bool true, H, ⟨rfl, rfl⟩, m, st_kept hr hk, .bool true⟩)
end
end Go.Proofs.YtnffppehomofmaaGreatDoor
namespace Go.Proofs.YtnffppehomofmaaGreatDoor
open Go.Xq
noncomputable section
theorem flat_len (es : List Cv) : (es.flatMap fields).length = es.length * 3 := length_flatMap (es := 3) (fun _ => rfl) es
theorem OwnL.low {H : AH} {lo hi : Nat} {v : AV} {els : List Cv} {gl : List Ch} (h : OwnL H lo hi v els gl) {b : Nat} (e : Xq.blk v = some b) : b < hi := by
  obtain ⟨b', o, rfl, _, h3, _⟩ := h.ex
  cases e
  exact h3
set_option maxRecDepth 10000 in
theorem main_ok {W : World} {a0 a1 : Nat × Nat} {H : AH} {u0 u1 : AV} {cs0 cs1 : List Cv} {gl0 gl1 : List Ch} (hG : HoldsG W a0 a1 H) (h0 : Says H u0 cs0 gl0) (s0 : Small gl0) (p0 : ∀ b, blk u0 = some b → b < H.next) (q0 : ∀ c ∈ cs0, OutC (fun b => H.next ≤ b) c)
    (h1 : Says H u1 cs1 gl1) (s1 : Small gl1) (p1 : ∀ b, blk u1 = some b → b < H.next) (q1 : ∀ c ∈ cs1, OutC (fun b => H.next ≤ b) c) :
    AC Tryz.prog .normal 3 (.cons u0 (.cons u1 .nil)) H fun v' H2 => v' = .bool true ∧ Keep noB H H2 := by
  refine AC.of_wp (re := reTmp 4 reNil) tyOk Tryz.func3 (by kernel_rfl) rfl (by kernel_rfl) (by kernel_rfl) ?_
  rw [tl_nil, argsT_cons, argsT_cons, argsT_nil]
  have m0 := s0.n
  have m1 := s1.n
  refine WP.seqR ?_
  refine WPO.looks1 tyOk extOk 1 (ls := [⟨lkMove (.const (.bool false)), (some 4), none⟩]) (by kernel_rfl) (by simp (disch := omega) []; exact rfl) ?_
  refine WPO.nilS (WP.seqR ?_)
  refine WPO.callF (g := 4) rfl rfl rfl (by kernel_rfl) (l := .nil) (by simp) (awake_ok hG).ac fun u H' ⟨hu, hH⟩ => ?_
  subst hu
  subst hH
  refine WPO.looks1 tyOk extOk 1 (ls := [⟨lkMove (.tmp 20), (some 5), none⟩]) (by kernel_rfl) (by simp (disch := omega) []; exact rfl) ?_
  refine WPO.nilS (WP.seq (WP.seqR ?_))
  refine WPO.looks1 tyOk extOk 2 (ls := [⟨lkMove (.tmp 5), (some 21), none⟩, ⟨lkUn ukNot (.tmp 21), (some 22), none⟩]) (by kernel_rfl) (by simp (disch := omega) []; exact rfl) ?_
  refine WPO.nilS (WP.cond (t := false) (by simp) (by simp) fun _ => WP.skip (.inl rfl) (WP.seqR ?_))
  refine WPO.looks1 tyOk extOk 1 (ls := [⟨lkMove (.tmp 0), (some 23), none⟩]) (by kernel_rfl) (by simp (disch := omega) []; exact rfl) ?_
  refine WPO.callF (g := 5) rfl rfl rfl (by kernel_rfl) (l := .cons u0 .nil) (by simp) (lent22_ok h0 s0).ac fun x H1 ⟨hx, n1, l1, k1⟩ => ?_
  subst hx
  refine WPO.looks1 tyOk extOk 1 (ls := [⟨lkMove (.tmp 24), (some 6), none⟩]) (by kernel_rfl) (by simp (disch := omega) []; exact rfl) ?_
  refine WPO.nilS (WP.seqR ?_)
  refine WPO.looks1 tyOk extOk 1 (ls := [⟨lkMove (.tmp 1), (some 25), none⟩]) (by kernel_rfl) (by simp (disch := omega) []; exact rfl) ?_
  refine WPO.callF (g := 5) rfl rfl rfl (by kernel_rfl) (l := .cons u1 .nil) (by simp) (lent22_ok (h1.keep0 k1) s1).ac fun y H2 ⟨hy, n2, l2, k2⟩ => ?_
  subst hy
  have lx2 := l1.keep k2 (fun _ _ => id) (by omega)
  have sx2 := lx2.says (by omega)
  have sy2 := l2.says (by omega)
  refine WPO.looks1 tyOk extOk 1 (ls := [⟨lkMove (.tmp 26), (some 7), none⟩]) (by kernel_rfl) (by simp (disch := omega) []; exact rfl) ?_
  refine WPO.nilS (WP.seqR ?_)
  refine WPO.looks1 tyOk extOk 1 (ls := [⟨lkMove (.tmp 6), (some 27), none⟩]) (by kernel_rfl) (by simp (disch := omega) []; exact rfl) ?_
  refine WPO.callF (g := 6) rfl rfl rfl (by kernel_rfl) (l := .cons (.sl H'.next 0 gl0.length (some (gl0.length + 3))) .nil) (by simp) (turn_ok sx2 s0) fun a H3 ⟨⟨ea, oa⟩, k3⟩ => ?_
  refine WPO.looks1 tyOk extOk 1 (ls := [⟨lkMove (.tmp 28), (some 8), none⟩]) (by kernel_rfl) (by simp (disch := omega) []; exact rfl) ?_
  refine WPO.nilS (WP.seqR ?_)
  refine WPO.looks1 tyOk extOk 1 (ls := [⟨lkMove (.tmp 6), (some 29), none⟩]) (by kernel_rfl) (by simp (disch := omega) []; exact rfl) ?_
  refine WPO.callF (g := 6) rfl rfl rfl (by kernel_rfl) (l := .cons (.sl H'.next 0 gl0.length (some (gl0.length + 3))) .nil) (by simp) (turn_ok (sx2.keep0 k3) s0) fun b H4 ⟨⟨eb, ob⟩, k4⟩ => ?_
  refine WPO.looks1 tyOk extOk 1 (ls := [⟨lkMove (.tmp 30), (some 9), none⟩]) (by kernel_rfl) (by simp (disch := omega) []; exact rfl) ?_
  refine WPO.nilS (WP.seqR ?_)
  refine WPO.looks1 tyOk extOk 1 (ls := [⟨lkMove (.tmp 7), (some 31), none⟩]) (by kernel_rfl) (by simp (disch := omega) []; exact rfl) ?_
  refine WPO.callF (g := 6) rfl rfl rfl (by kernel_rfl) (l := .cons (.sl H1.next 0 gl1.length (some (gl1.length + 3))) .nil) (by simp) (turn_ok ((sy2.keep0 k3).keep0 k4) s1) fun c H5 ⟨⟨ec, oc⟩, k5⟩ => ?_
  refine WPO.looks1 tyOk extOk 1 (ls := [⟨lkMove (.tmp 32), (some 10), none⟩]) (by kernel_rfl) (by simp (disch := omega) []; exact rfl) ?_
  refine WPO.nilS (WP.seqR ?_)
  refine WPO.looks1 tyOk extOk 1 (ls := [⟨lkMove (.tmp 8), (some 33), none⟩]) (by kernel_rfl) (by simp (disch := omega) []; exact rfl) ?_
  have oa5 := oa.keep (k4.trans k5) (fun _ _ _ => id) (Nat.le_refl _)
  have j3 := k3.1
  have j4 := k4.1
  have j5 := k5.1
  refine WPO.callF (g := 6) rfl rfl rfl (by kernel_rfl) (l := .cons a .nil) (by simp) (turn_ok (oa5.says (by omega)) (small_turn s0)) fun d H6 ⟨⟨ed, od⟩, k6⟩ => ?_
  rw [turn_turn] at od
  have j6 := k6.1
  have oa6 := oa5.keep k6 (fun _ _ _ => id) (by omega)
  have ob6 := ob.keep (k5.trans k6) (fun _ _ _ => id) (Nat.le_refl _)
  have oc6 := oc.keep k6 (fun _ _ _ => id) (Nat.le_refl _)
  have k26 := k3.trans (k4.trans (k5.trans k6))
  have lx6 := lx2.keep k26 (fun _ _ => id) (by omega)
  have ly6 := l2.keep k26 (fun _ _ => id) (by omega)
  have kk6 : Keep noB H' H6 := (k1.trans k2).trans k26
  clear oa ob oc oa5 lx2 l1 l2 sx2 sy2 k3 k4 k5 k6
  refine WPO.looks1 tyOk extOk 1 (ls := [⟨lkMove (.tmp 34), (some 11), none⟩]) (by kernel_rfl) (by simp (disch := omega) []; exact rfl) ?_
  refine WPO.nilS (WP.seqR ?_)
  refine WPO.looks1 tyOk extOk 2 (ls := [⟨lkMove (.tmp 6), (some 35), none⟩, ⟨lkMove (.tmp 0), (some 36), none⟩]) (by kernel_rfl) (by simp (disch := omega) []; exact rfl) ?_
  refine WPO.callF (g := 7) rfl rfl rfl (by kernel_rfl) (l := .cons (.sl H'.next 0 gl0.length (some (gl0.length + 3))) (.cons u0 .nil)) (by simp) (asLent22_ok lx6 (by omega) (h0.keep0 kk6) (fun b e h => by have := p0 b e; have := h.1; omega) (fun c hc => ⟨fun b e h => (q0 c hc).key b e h.1, fun b e h => (q0 c hc).old b e h.1, fun b e h => (q0 c hc).new b e h.1⟩) s0).ac fun u H7 ⟨hu, k7⟩ => ?_
  subst hu
  have kz7 : Keep (fun b => H'.next ≤ b ∧ b < H2.next) H6 H7 := k7.mono fun b _ h => ⟨h.1, by have := h.2; omega⟩
  have kk7 : Keep noB H' H7 := kk6.trans' kz7 fun b hb h => absurd h.1 (by omega)
  have ly7 := ly6.keep k7 (fun b h h2 => by have := h.1; have := h2.2; omega) (by omega)
  have j7 := k7.1
  refine WPO.looks1 tyOk extOk 1 (ls := [⟨lkMove (.tmp 37), (some 12), none⟩]) (by kernel_rfl) (by simp (disch := omega) []; exact rfl) ?_
  refine WPO.nilS (WP.seqR ?_)
  refine WPO.looks1 tyOk extOk 2 (ls := [⟨lkMove (.tmp 7), (some 38), none⟩, ⟨lkMove (.tmp 1), (some 39), none⟩]) (by kernel_rfl) (by simp (disch := omega) []; exact rfl) ?_
  refine WPO.callF (g := 7) rfl rfl rfl (by kernel_rfl) (l := .cons (.sl H1.next 0 gl1.length (some (gl1.length + 3))) (.cons u1 .nil)) (by simp) (asLent22_ok ly7 (by omega) (h1.keep0 kk7) (fun b e h => by have := p1 b e; have := h.1; omega) (fun c hc => ⟨fun b e h => (q1 c hc).key b e (Nat.le_trans (by omega) h.1), fun b e h => (q1 c hc).old b e (Nat.le_trans (by omega) h.1), fun b e h => (q1 c hc).new b e (Nat.le_trans (by omega) h.1)⟩) s1).ac fun u H8 ⟨hu, k8⟩ => ?_
  subst hu
  have kz8 : Keep (fun b => H'.next ≤ b ∧ b < H2.next) H6 H8 := kz7.trans (k8.mono fun b _ h => ⟨Nat.le_trans (by omega) h.1, by have := h.2; omega⟩)
  have kk8 : Keep noB H' H8 := kk6.trans' kz8 fun b hb h => absurd h.1 (by omega)
  have oa8 := oa6.keep kz8 (fun b h1 _ h => absurd h.2 (by omega)) (by omega)
  have ob8 := ob6.keep kz8 (fun b h1 _ h => absurd h.2 (by omega)) (by omega)
  have oc8 := oc6.keep kz8 (fun b h1 _ h => absurd h.2 (by omega)) (by omega)
  have od8 := od.keep kz8 (fun b h1 _ h => absurd h.2 (by omega)) (by omega)
  have j8 := kz8.1
  clear oa6 ob6 oc6 od lx6 ly6 ly7 kz7 kk7 k7 k8 kz8 kk6 k26
  refine WPO.looks1 tyOk extOk 1 (ls := [⟨lkMove (.tmp 40), (some 13), none⟩]) (by kernel_rfl) (by simp (disch := omega) []; exact rfl) ?_
  refine WPO.nilS (WP.seqR ?_)
  refine WPO.looks1 tyOk extOk 2 (ls := [⟨lkMove (.tmp 8), (some 41), none⟩, ⟨lkMove (.tmp 0), (some 42), none⟩]) (by kernel_rfl) (by simp (disch := omega) []; exact rfl) ?_
  refine WPO.callF (g := 9) rfl rfl rfl (by kernel_rfl) (l := .cons u0 .nil) (by simp) (refTurn_ok (h0.keep0 kk8) m0).ac fun ta H9 ⟨ra, k9⟩ => ?_
  refine WPO.callF (g := 8) rfl rfl rfl (by kernel_rfl) (l := .cons a (.cons ta .nil)) (by simp) (sameAll_ok ((oa8.says (by omega)).keep0 k9) ra (by simpa using m0)).ac fun u H10 ⟨hu, k10⟩ => ?_
  subst hu
  have z10 := k9.trans k10
  clear k9 k10 ra
  refine WPO.looks1 tyOk extOk 1 (ls := [⟨lkMove (.tmp 44), (some 14), none⟩]) (by kernel_rfl) (by simp (disch := omega) []; exact rfl) ?_
  refine WPO.nilS (WP.seqR ?_)
  refine WPO.looks1 tyOk extOk 2 (ls := [⟨lkMove (.tmp 9), (some 45), none⟩, ⟨lkMove (.tmp 0), (some 46), none⟩]) (by kernel_rfl) (by simp (disch := omega) []; exact rfl) ?_
  refine WPO.callF (g := 9) rfl rfl rfl (by kernel_rfl) (l := .cons u0 .nil) (by simp) (refTurn_ok (h0.keep0 (kk8.trans z10)) m0).ac fun tb H11 ⟨rb, k11⟩ => ?_
  refine WPO.callF (g := 8) rfl rfl rfl (by kernel_rfl) (l := .cons b (.cons tb .nil)) (by simp) (sameAll_ok ((ob8.says (by omega)).keep0 (z10.trans k11)) rb (by simpa using m0)).ac fun u H12 ⟨hu, k12⟩ => ?_
  subst hu
  have z12 := z10.trans (k11.trans k12)
  clear k11 k12 rb z10
  refine WPO.looks1 tyOk extOk 1 (ls := [⟨lkMove (.tmp 48), (some 15), none⟩]) (by kernel_rfl) (by simp (disch := omega) []; exact rfl) ?_
  refine WPO.nilS (WP.seqR ?_)
  refine WPO.looks1 tyOk extOk 2 (ls := [⟨lkMove (.tmp 10), (some 49), none⟩, ⟨lkMove (.tmp 1), (some 50), none⟩]) (by kernel_rfl) (by simp (disch := omega) []; exact rfl) ?_
  refine WPO.callF (g := 9) rfl rfl rfl (by kernel_rfl) (l := .cons u1 .nil) (by simp) (refTurn_ok (h1.keep0 (kk8.trans z12)) m1).ac fun tc H13 ⟨rc, k13⟩ => ?_
  refine WPO.callF (g := 8) rfl rfl rfl (by kernel_rfl) (l := .cons c (.cons tc .nil)) (by simp) (sameAll_ok ((oc8.says (by omega)).keep0 (z12.trans k13)) rc (by simpa using m1)).ac fun u H14 ⟨hu, k14⟩ => ?_
  subst hu
  have z14 := z12.trans (k13.trans k14)
  clear k13 k14 rc z12
  refine WPO.looks1 tyOk extOk 1 (ls := [⟨lkMove (.tmp 52), (some 16), none⟩]) (by kernel_rfl) (by simp (disch := omega) []; exact rfl) ?_
  refine WPO.nilS (WP.seqR ?_)
  refine WPO.looks1 tyOk extOk 2 (ls := [⟨lkMove (.tmp 11), (some 53), none⟩, ⟨lkMove (.tmp 0), (some 54), none⟩]) (by kernel_rfl) (by simp (disch := omega) []; exact rfl) ?_
  refine WPO.callF (g := 8) rfl rfl rfl (by kernel_rfl) (l := .cons d (.cons u0 .nil)) (by simp) (sameAll_ok ((od8.says (by omega)).keep0 z14) (h0.keep0 (kk8.trans z14)) m0).ac fun u H15 ⟨hu, k15⟩ => ?_
  subst hu
  have z15 := z14.trans k15
  have kk15 := kk8.trans z15
  have oa15 := oa8.keep z15 (fun _ _ _ => id) (by omega)
  have ob15 := ob8.keep z15 (fun _ _ _ => id) (by omega)
  have oc15 := oc8.keep z15 (fun _ _ _ => id) (by omega)
  have od15 := od8.keep z15 (fun _ _ _ => id) (by omega)
  have j15 := z15.1
  clear oa8 ob8 oc8 od8 z14 k15 z15 kk8
  refine WPO.looks1 tyOk extOk 1 (ls := [⟨lkMove (.tmp 55), (some 17), none⟩]) (by kernel_rfl) (by simp (disch := omega) []; exact rfl) ?_
  refine WPO.nilS (WP.seqR ?_)
  refine WPO.looks1 tyOk extOk 1 (ls := [⟨⟨buildA (.cons .snil (.cons .snil .nil)) flEnd⟩, (some 56), none⟩]) (by kernel_rfl) (by simp (disch := omega) []; exact rfl) ?_
  refine WPO.box1 (enc := enc2) (a := (AV.snil, AV.snil)) tyOk enc2_len (by kernel_rfl : freshK E _ = some ⟨frBox ⟨mkCs 32 2 (.cons .snil (.cons .snil .nil))⟩ (.tmp 56)⟩) rfl (by kernel_rfl) (by simp [chA]; try rfl) fun o1 b1 => ?_
  have bk0 : BookAt (H15.new o1) H15.next H15.next [] [] := ⟨.snil, .snil, o1, Nat.le_refl _, by simp, get_new_same _ _, b1, .inl ⟨rfl, rfl⟩, .inl ⟨rfl, rfl⟩, fun b e => (by cases e), fun b e => (by cases e)⟩
  have kb0 : Keep (fun b => H15.next ≤ b) H15 (H15.new o1) := Keep.new _ _ _
  have lft := flat_len
  have e1 := oa15.len
  have e2 := ob15.len
  have e3 := oc15.len
  have e4 := od15.len
  simp only [List.length_reverse, List.length_map] at e1 e2 e3
  refine WPO.looks1 tyOk extOk 1 (ls := [⟨lkMove (.tmp 57), (some 18), none⟩]) (by kernel_rfl) (by simp (disch := omega) []; exact rfl) ?_
  refine WPO.nilS (WP.seqR ?_)
  refine WPO.looks1 tyOk extOk 2 (ls := [⟨lkMove (.tmp 18), (some 58), none⟩, ⟨lkMove (.tmp 8), (some 59), none⟩]) (by kernel_rfl) (by simp (disch := omega) []; exact rfl) ?_
  have sa := (oa15.keep kb0 (fun b _ _ h => absurd h (by omega)) (by omega)).says (by simp; omega)
  refine WPO.callF (g := 10) rfl rfl rfl (by kernel_rfl) (l := .cons (.ptr H15.next 0) (.cons a .nil)) (by simp) (takeAll_ok bk0 sa.rd (fun b e => Nat.lt_of_lt_of_le (oa15.low e) (by omega)) sa.cells (by simp; omega) (by simp)).ac fun _ H16 ⟨bk1, k16⟩ => ?_
  have kb1 := kb0.trans k16
  refine WPO.nilS (WP.seqR ?_)
  refine WPO.looks1 tyOk extOk 2 (ls := [⟨lkMove (.tmp 18), (some 61), none⟩, ⟨lkMove (.tmp 9), (some 62), none⟩]) (by kernel_rfl) (by simp (disch := omega) []; exact rfl) ?_
  have sb' := (ob15.keep kb1 (fun b _ _ h => absurd h (by omega)) (by omega)).says (by have := kb1.1; omega)
  refine WPO.callF (g := 10) rfl rfl rfl (by kernel_rfl) (l := .cons (.ptr H15.next 0) (.cons b .nil)) (by simp) (takeAll_ok bk1 sb'.rd (fun b e => Nat.lt_of_lt_of_le (ob15.low e) (by omega)) sb'.cells (by simp only [List.length_append, lft, List.length_nil]; omega) (by simp)).ac fun _ H17 ⟨bk2, k17⟩ => ?_
  have kb2 := kb1.trans k17
  refine WPO.nilS (WP.seqR ?_)
  refine WPO.looks1 tyOk extOk 2 (ls := [⟨lkMove (.tmp 18), (some 64), none⟩, ⟨lkMove (.tmp 10), (some 65), none⟩]) (by kernel_rfl) (by simp (disch := omega) []; exact rfl) ?_
  have sc := (oc15.keep kb2 (fun b _ _ h => absurd h (by omega)) (by omega)).says (by have := kb2.1; omega)
  refine WPO.callF (g := 10) rfl rfl rfl (by kernel_rfl) (l := .cons (.ptr H15.next 0) (.cons c .nil)) (by simp) (takeAll_ok bk2 sc.rd (fun b e => Nat.lt_of_lt_of_le (oc15.low e) (by omega)) sc.cells (by simp only [List.length_append, lft, List.length_nil]; omega) (by simp)).ac fun _ H18 ⟨bk3, k18⟩ => ?_
  have kb3 := kb2.trans k18
  refine WPO.nilS (WP.seqR ?_)
  refine WPO.looks1 tyOk extOk 2 (ls := [⟨lkMove (.tmp 18), (some 67), none⟩, ⟨lkMove (.tmp 11), (some 68), none⟩]) (by kernel_rfl) (by simp (disch := omega) []; exact rfl) ?_
  have sd := (od15.keep kb3 (fun b _ _ h => absurd h (by omega)) (by omega)).says (by have := kb3.1; omega)
  refine WPO.callF (g := 10) rfl rfl rfl (by kernel_rfl) (l := .cons (.ptr H15.next 0) (.cons d .nil)) (by simp) (takeAll_ok bk3 sd.rd (fun b e => Nat.lt_of_lt_of_le (od15.low e) (by omega)) sd.cells (by simp only [List.length_append, lft, List.length_nil]; omega) (by simp)).ac fun _ H19 ⟨bk4, k19⟩ => ?_
  have kb4 := kb3.trans k19
  have oa19 := oa15.keep kb4 (fun b _ _ h => absurd h (by omega)) (by omega)
  have ob19 := ob15.keep kb4 (fun b _ _ h => absurd h (by omega)) (by omega)
  have oc19 := oc15.keep kb4 (fun b _ _ h => absurd h (by omega)) (by omega)
  have od19 := od15.keep kb4 (fun b _ _ h => absurd h (by omega)) (by omega)
  obtain ⟨x1, v1, J1⟩ := (Joined.nil H19 H2.next).add oa19 (Nat.le_refl _) (small_turn s0)
  obtain ⟨x2, v2, J2⟩ := J1.add ob19 (Nat.le_refl _) (small_turn s0)
  obtain ⟨x3, v3, J3⟩ := J2.add oc19 (Nat.le_refl _) (small_turn s1)
  obtain ⟨x4, v4, J4⟩ := J3.add od19 (Nat.le_refl _) s0
  have hLs : ListsAt H19 H15.next ([] ++ ea.flatMap fields ++ eb.flatMap fields ++ ec.flatMap fields ++ ed.flatMap fields) ([] ++ [a] ++ [b] ++ [c] ++ [d]) ([] ++ [(x1, ea.length)] ++ [(x2, eb.length)] ++ [(x3, ec.length)] ++ [(x4, ed.length)]) :=
    ⟨by rw [v1, v2, v3, v4]; rfl, J4.ne, fun i p hp => by
      obtain ⟨y1, y2, y3, y4⟩ := J4.lists p (List.mem_of_getElem? hp)
      exact ⟨by omega, y2, y3, y4⟩⟩
  refine WPO.nilS (WP.seqR ?_)
  refine WPO.looks1 tyOk extOk 1 (ls := [⟨lkMove (.tmp 18), (some 70), none⟩]) (by kernel_rfl) (by simp (disch := omega) []; exact rfl) ?_
  refine WPO.callF (g := 11) rfl rfl rfl (by kernel_rfl) (l := .cons (.ptr H15.next 0) .nil) (by simp) (owned22_ok bk4 bk4.next J4.own.len (by simp only [List.length_append, lft, List.length_nil]; omega) J4.small (fun i v l g1 g2 => (J4.own.at i v l g1 g2).wide (Nat.zero_le _) (by omega)) J4.apart hLs (by simp)) fun u H20 ⟨hu, k20⟩ => ?_
  subst hu
  refine WPO.looks1 tyOk extOk 1 (ls := [⟨lkMove (.tmp 71), (some 19), none⟩]) (by kernel_rfl) (by simp (disch := omega) []; exact rfl) ?_
  refine WPO.nilS (WP.seqR ?_)
  refine WPO.looks1 tyOk extOk 20 (ls := [⟨lkMove (.tmp 12), (some 72), none⟩, ⟨lkMove (.tmp 72), (some 73), none⟩, ⟨lkMove (.tmp 13), (some 74), (some (73, true))⟩, ⟨⟨pickA (.tmp 73) (.tmp 74) (.const (.bool false))⟩, (some 75), none⟩, ⟨lkMove (.tmp 75), (some 76), none⟩, ⟨lkMove (.tmp 14), (some 77), (some (76, true))⟩, ⟨⟨pickA (.tmp 76) (.tmp 77) (.const (.bool false))⟩, (some 78), none⟩, ⟨lkMove (.tmp 78), (some 79), none⟩, ⟨lkMove (.tmp 15), (some 80), (some (79, true))⟩, ⟨⟨pickA (.tmp 79) (.tmp 80) (.const (.bool false))⟩, (some 81), none⟩, ⟨lkMove (.tmp 81), (some 82), none⟩, ⟨lkMove (.tmp 16), (some 83), (some (82, true))⟩, ⟨⟨pickA (.tmp 82) (.tmp 83) (.const (.bool false))⟩, (some 84), none⟩, ⟨lkMove (.tmp 84), (some 85), none⟩, ⟨lkMove (.tmp 17), (some 86), (some (85, true))⟩, ⟨⟨pickA (.tmp 85) (.tmp 86) (.const (.bool false))⟩, (some 87), none⟩, ⟨lkMove (.tmp 87), (some 88), none⟩, ⟨lkMove (.tmp 19), (some 89), (some (88, true))⟩, ⟨⟨pickA (.tmp 88) (.tmp 89) (.const (.bool false))⟩, (some 90), none⟩, ⟨lkMove (.tmp 90), (some 4), none⟩]) (by kernel_rfl) (by simp (disch := omega) []; exact rfl) ?_
  refine WPO.nilS (WP.ret (endR _ (by simp; rfl) ⟨rfl, (kk15.trans' kb4 fun b hb h => absurd h (by omega)).trans' k20 fun b hb h => ?_⟩))
  rcases h with ⟨u, hu, e⟩ | ⟨p, hp, e⟩
  · have := (J4.own.blk hu e).1
    omega
  · have := (J4.lists p hp).1.1
    omega
end
end Go.Proofs.YtnffppehomofmaaGreatDoor
